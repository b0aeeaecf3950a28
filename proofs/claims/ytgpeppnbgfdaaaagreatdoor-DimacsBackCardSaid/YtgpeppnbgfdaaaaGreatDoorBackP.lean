/-
  What is printed is parsed as it was: plain laws. How a right network is made of raw numbers. By an AI agent.
-/
import Derived.Test.YtgpeppnbgfdaaaaGreatDoorDimT
import Derived.Test.YtgpeppnbgfdaaaaGreatDoorRxM
import Derived.Test.YtgpeppnbgfdaaaaGreatDoorRx2
import Derived.Test.YtgpeppnbgfdaaaaGreatDoorArgs
namespace Go.Proofs.YtgpeppnbgfdaaaaGreatDoor.R
set_option linter.unusedVariables false
open Go.RowKit Go.Lib Go.Proofs.TX Go.Proofs.YtgpeppnbgfdaaaaGreatDoor.H Go.Proofs.YtgpeppnbgfdaaaaGreatDoor.PL Go.Proofs.YtgpeppnbgfdaaaaGreatDoorW.PrintWords Go.Proofs.YtgpeppnbgfdaaaaGreatDoorW.PrintLast

theorem nl_lit {l : List UInt8} (h : l.all (· != 10) = true) : NoNl l := fun c hc => by
  have := List.all_eq_true.1 h c hc
  simpa using this
theorem nl_app {a b : List UInt8} (h : NoNl a) (h' : NoNl b) : NoNl (a ++ b) := fun c hc => by
  rcases List.mem_append.1 hc with h1 | h1
  · exact h c h1
  · exact h' c h1
theorem word_lit {l : List UInt8} (h : (!l.isEmpty && l.all (fun c => !blankC c)) = true) : Word l := by
  rw [Bool.and_eq_true] at h
  refine ⟨fun e => by rw [e] at h; exact absurd h.1 (by decide), fun c hc => ?_⟩
  have := List.all_eq_true.1 h.2 c hc
  simpa using this
theorem arcB_eq' (f t c : Int) : arcB ⟨f, t, c⟩ = [97, 32] ++ itoa f ++ [32] ++ itoa t ++ [32] ++ itoa c ++ [10] := by
  simp [arcB, writeL]
theorem headB_eq' (no so si : Int) (n : Nat) : headB no so si n = [112, 32, 109, 97, 120, 32] ++ itoa no ++ [32] ++ itoa (n : Int) ++ [10, 110, 32] ++ itoa so ++ [32, 115, 10, 110, 32] ++ itoa si ++ [32, 116, 10] := by
  simp [headB, writeL]
theorem C_cells {w : World} {A : Option Addr} {l : List (Int × Int × Int)} (hm : l.length ≤ Go.maxLen) (h : 0 < l.length → ∃ a, A = some a ∧ ∀ (j : Nat) p, l[j]? = some p → w.cell? (a.add (j * 3 + 0)) = some (.int .i64 p.1) ∧ w.cell? (a.add (j * 3 + 1)) = some (.int .i64 p.2.1) ∧ w.cell? (a.add (j * 3 + 2)) = some (.int .i64 p.2.2)) :
    Kd.C k57 w A l.length (l.map fun p => (⟨p.1, p.2.1, p.2.2⟩ : S57)) := by
  refine ⟨by simp, by unfold Go.maxLen at hm; omega, fun hp => ?_⟩
  obtain ⟨a, rfl, hc⟩ := h hp
  refine ⟨a, rfl, fun j x hj => ?_⟩
  rw [List.getElem?_map] at hj
  obtain ⟨p, hp1, rfl⟩ := Option.map_eq_some_iff.1 hj
  obtain ⟨c0, c1, c2⟩ := hc j p hp1
  refine ⟨[.int .i64 p.1, .int .i64 p.2.1, .int .i64 p.2.2], rfl, k57_mk w _, fun i u hu => ?_⟩
  match i, hu with
  | 0, hu => simp only [List.getElem?_cons_zero, Option.some.injEq] at hu; subst hu; exact c0
  | 1, hu => simp only [List.getElem?_cons_succ, List.getElem?_cons_zero, Option.some.injEq] at hu; subst hu; exact c1
  | 2, hu => simp only [List.getElem?_cons_succ, List.getElem?_cons_zero, Option.some.injEq] at hu; subst hu; exact c2
  | i + 3, hu => simp at hu
/-! ### the lines of a network -/
def pL (no n : Int) : List UInt8 := [112, 32, 109, 97, 120, 32] ++ itoa no ++ [32] ++ itoa n
def sL (so : Int) : List UInt8 := [110, 32] ++ itoa so ++ [32, 115]
def tL (si : Int) : List UInt8 := [110, 32] ++ itoa si ++ [32, 116]
def aL (a : S44) : List UInt8 := [97, 32] ++ itoa a.f0 ++ [32] ++ itoa a.f1 ++ [32] ++ itoa a.f2
def netL (no so si : Int) (l : List S44) : List (List UInt8) := pL no l.length :: sL so :: tL si :: l.map aL
theorem unlines_cons (x : List UInt8) (l : List (List UInt8)) : unlines (x :: l) = x ++ 10 :: unlines l := by simp [unlines]
theorem unlines_append (a b : List (List UInt8)) : unlines (a ++ b) = unlines a ++ unlines b := by simp [unlines]
theorem arcs_unlines : ∀ l : List S44, l.flatMap arcB = unlines (l.map aL)
  | [] => rfl
  | a :: l => by
    rw [List.flatMap_cons, arcs_unlines l, List.map_cons, unlines_cons, show arcB a = aL a ++ [10] from by obtain ⟨f, t, c⟩ := a; rw [arcB_eq']; simp [aL]]
    simp
theorem print_unlines (no so si : Int) (l : List S44) : printF no so si l = unlines (netL no so si l) := by
  unfold printF netL
  rw [headB_eq', arcs_unlines, unlines_cons, unlines_cons, unlines_cons]
  simp [pL, sL, tL]
theorem pL_nl (no n : Int) : NoNl (pL no n) := nl_app (nl_app (nl_app (nl_lit (by decide)) (itoa_nl no)) (nl_lit (by decide))) (itoa_nl n)
theorem sL_nl (so : Int) : NoNl (sL so) := nl_app (nl_app (nl_lit (by decide)) (itoa_nl so)) (nl_lit (by decide))
theorem tL_nl (so : Int) : NoNl (tL so) := nl_app (nl_app (nl_lit (by decide)) (itoa_nl so)) (nl_lit (by decide))
theorem aL_nl (a : S44) : NoNl (aL a) := nl_app (nl_app (nl_app (nl_app (nl_app (nl_lit (by decide)) (itoa_nl _)) (nl_lit (by decide))) (itoa_nl _)) (nl_lit (by decide))) (itoa_nl _)
theorem netL_nl (no so si : Int) (l : List S44) : ∀ x ∈ netL no so si l, NoNl x := by
  intro x hx
  simp only [netL, List.mem_cons, List.mem_map] at hx
  rcases hx with rfl | rfl | rfl | ⟨a, _, rfl⟩
  · exact pL_nl _ _
  · exact sL_nl _
  · exact tL_nl _
  · exact aL_nl _
theorem lines_all (L : List (List UInt8)) (h : ∀ x ∈ L, NoNl x) : linesL (unlines L) = L := by
  have := linesL_unlines L [] h
  rw [List.append_nil, show linesL [] = [] by simp [linesL], List.append_nil] at this
  exact this
theorem words_p (no n : Int) : wordsL (pL no n) = [[112], [109, 97, 120], itoa no, itoa n] := by
  have e : pL no n = [112] ++ 32 :: ([109, 97, 120] ++ 32 :: (itoa no ++ 32 :: itoa n)) := by simp [pL]
  rw [e, wordsL_cons (word_lit (by decide)) 32 (by decide), wordsL_cons (word_lit (by decide)) 32 (by decide), wordsL_cons (itoa_word no) 32 (by decide), wordsL_word (itoa_word n)]
theorem words_s (so : Int) : wordsL (sL so) = [[110], itoa so, [115]] := by
  have e : sL so = [110] ++ 32 :: (itoa so ++ 32 :: [115]) := by simp [sL]
  rw [e, wordsL_cons (word_lit (by decide)) 32 (by decide), wordsL_cons (itoa_word so) 32 (by decide), wordsL_word (word_lit (by decide))]
theorem words_t (so : Int) : wordsL (tL so) = [[110], itoa so, [116]] := by
  have e : tL so = [110] ++ 32 :: (itoa so ++ 32 :: [116]) := by simp [tL]
  rw [e, wordsL_cons (word_lit (by decide)) 32 (by decide), wordsL_cons (itoa_word so) 32 (by decide), wordsL_word (word_lit (by decide))]
theorem words_a (a : S44) : wordsL (aL a) = [[97], itoa a.f0, itoa a.f1, itoa a.f2] := by
  have e : aL a = [97] ++ 32 :: (itoa a.f0 ++ 32 :: (itoa a.f1 ++ 32 :: itoa a.f2)) := by simp [aL]
  rw [e, wordsL_cons (word_lit (by decide)) 32 (by decide), wordsL_cons (itoa_word _) 32 (by decide), wordsL_cons (itoa_word _) 32 (by decide), wordsL_word (itoa_word _)]

/-! ### right networks -/
def sumC : List S44 → Int
  | [] => 0
  | a :: l => a.f2 + sumC l
structure Right (no so si : Int) (l : List S44) : Prop where
  n0 : 2 ≤ no
  n1 : no ≤ 500
  s0 : 1 ≤ so
  s1 : so ≤ no
  t0 : 1 ≤ si
  t1 : si ≤ no
  ne : so ≠ si
  len : l.length ≤ 2000
  arcs : ∀ a ∈ l, 1 ≤ a.f0 ∧ a.f0 ≤ no ∧ 1 ≤ a.f1 ∧ a.f1 ≤ no ∧ 0 ≤ a.f2
  sum : sumC l ≤ 4611686018427387903
theorem sumC_nonneg : ∀ l : List S44, (∀ a ∈ l, 0 ≤ a.f2) → 0 ≤ sumC l
  | [], _ => by simp [sumC]
  | a :: l, h => by
    have := sumC_nonneg l (fun x hx => h x (List.mem_cons_of_mem _ hx))
    have := h a (List.mem_cons_self ..)
    simp only [sumC]; omega
theorem cap_le_sum : ∀ l : List S44, (∀ a ∈ l, 0 ≤ a.f2) → ∀ a ∈ l, a.f2 ≤ sumC l
  | [], _, a, h => by cases h
  | b :: l, h, a, ha => by
    have h1 := sumC_nonneg l (fun x hx => h x (List.mem_cons_of_mem _ hx))
    have h2 := h b (List.mem_cons_self ..)
    rcases List.mem_cons.1 ha with rfl | ha
    · simp only [sumC]; omega
    · have := cap_le_sum l (fun x hx => h x (List.mem_cons_of_mem _ hx)) a ha
      simp only [sumC]; omega
theorem Right.cap {no so si : Int} {l : List S44} (h : Right no so si l) : ∀ a ∈ l, a.f2 ≤ 4611686018427387903 := fun a ha => by
  have := cap_le_sum l (fun x hx => (h.arcs x hx).2.2.2.2) a ha
  have := h.sum
  omega
theorem checkArcs_right (no : Int) : ∀ (l : List S44) (sum : Int), (∀ a ∈ l, 1 ≤ a.f0 ∧ a.f0 ≤ no ∧ 1 ≤ a.f1 ∧ a.f1 ≤ no ∧ 0 ≤ a.f2) → 0 ≤ sum → sum + sumC l ≤ 4611686018427387903 → checkArcs no sum l = some 0
  | [], _, _, _, _ => rfl
  | a :: l, sum, h, h0, h1 => by
    have ha := h a (List.mem_cons_self ..)
    have hl := sumC_nonneg l (fun x hx => (h x (List.mem_cons_of_mem _ hx)).2.2.2.2)
    simp only [sumC] at h1
    have e := (addP_lt (a := sum) (b := a.f2) h0 (by omega) ha.2.2.2.2 (by omega)).1 (by omega)
    unfold checkArcs
    rw [addF_eq, e, Option.bind_some, if_pos ((there_iff _ _).2 ⟨ha.1, ha.2.1⟩), if_pos ((there_iff _ _).2 ⟨ha.2.2.1, ha.2.2.2.1⟩), if_neg (by omega), if_pos rfl, if_neg (by show ¬ sum + a.f2 > _; omega)]
    exact checkArcs_right no l _ (fun x hx => h x (List.mem_cons_of_mem _ hx)) (by show 0 ≤ sum + a.f2; omega) (by show sum + a.f2 + _ ≤ _; omega)
theorem Right.check {no so si : Int} {l : List S44} (h : Right no so si l) : net_Check.f no so si l = some 0 := by
  have := h.n0; have := h.n1; have := h.len
  unfold net_Check.f
  rw [if_neg (by omega), if_neg (by omega), if_pos ((there_iff _ _).2 ⟨h.s0, h.s1⟩), if_pos ((there_iff _ _).2 ⟨h.t0, h.t1⟩), if_neg h.ne, if_neg (by omega)]
  exact checkArcs_right no l 0 h.arcs (by omega) (by have := h.sum; omega)
theorem Right.print {no so si : Int} {l : List S44} (h : Right no so si l) : dimacs_Print.f no so si l = some (mkB (unlines (netL no so si l)), 0) := by
  unfold dimacs_Print.f
  rw [if_pos (List.all_eq_true.2 (fun a ha => decide_eq_true (by have := h.cap a ha; omega))), h.check, Option.bind_some, if_pos rfl, print_unlines]
theorem Right.size {no so si : Int} {l : List S44} (h : Right no so si l) : (unlines (netL no so si l)).length ≤ 300 + 100 * l.length := by
  have := h.n0; have := h.n1; have := h.len; have := h.s0; have := h.s1; have := h.t0; have := h.t1
  rw [← print_unlines]
  unfold printF
  have h1 := headB_le (no := no) (so := so) (si := si) (n := l.length) (by unfold In64; omega) (by unfold In64; omega) (by unfold In64; omega) (by unfold In64; omega)
  have h2 := arcs_le l (fun a ha => by
    have := h.arcs a ha
    have := h.cap a ha
    unfold In64
    omega)
  rw [List.length_append]
  omega

/-! ### the lines go through -/
theorem arcs_ok : ∀ (l : List S44) (no so si n sum : Int) (done : List S44), no ≤ 500 → (∀ a ∈ l, 1 ≤ a.f0 ∧ a.f0 ≤ no ∧ 1 ≤ a.f1 ∧ a.f1 ≤ no ∧ 0 ≤ a.f2) → so ≠ 0 → si ≠ 0 → (done.length : Int) + l.length ≤ n → 0 ≤ sum → sum + sumC l ≤ 4611686018427387903 →
    okP ⟨no, so, si, done, n, sum⟩ (l.map aL) = some ⟨no, so, si, done ++ l, n, sum + sumC l⟩
  | [], no, so, si, n, sum, done, _, _, _, _, _, _, _ => by simp [okP, sumC]
  | a :: l, no, so, si, n, sum, done, hno, h, hso, hsi, hn, h0, h1 => by
    have ha := h a (List.mem_cons_self ..)
    have hl := sumC_nonneg l (fun x hx => (h x (List.mem_cons_of_mem _ hx)).2.2.2.2)
    simp only [sumC] at h1
    rw [List.length_cons] at hn
    have e : stepP ⟨no, so, si, done, n, sum⟩ (wordsL (aL a)) = (0, ⟨no, so, si, done ++ [a], n, sum + a.f2⟩) := by
      rw [words_a]
      exact step_arc ⟨no, so, si, done, n, sum⟩ (numL_itoa a.f0 (by omega) (by omega)) (numL_itoa a.f1 (by omega) (by omega)) (numL_itoa a.f2 (by omega) (by omega)) hso hsi ha.1 ha.2.1 ha.2.2.1 ha.2.2.2.1 ha.2.2.2.2 (by show (done.length : Int) ≠ n; omega) h0 (by show sum + a.f2 ≤ _; omega)
    rw [List.map_cons]
    unfold okP
    rw [e, if_pos rfl, arcs_ok l no so si n (sum + a.f2) (done ++ [a]) hno (fun x hx => h x (List.mem_cons_of_mem _ hx)) hso hsi (by simp only [List.length_append, List.length_cons, List.length_nil]; omega) (by omega) (by omega)]
    simp only [List.append_assoc, List.cons_append, List.nil_append, sumC]
    rw [Int.add_assoc]
section steps
variable {no so si : Int} {l : List S44} (h : Right no so si l)
include h
theorem Right.e1 : stepP RS.init (wordsL (pL no l.length)) = (0, ⟨no, 0, 0, [], l.length, 0⟩) := by
  have := h.n0; have := h.n1; have := h.len
  rw [words_p, step_problem RS.init (numL_itoa no (by omega) (by omega)) (numL_itoa (l.length : Int) (by omega) (by omega)) rfl (by omega) (by omega) (by omega) (by omega)]
  rfl
theorem Right.e2 : stepP ⟨no, 0, 0, [], l.length, 0⟩ (wordsL (sL so)) = (0, ⟨no, so, 0, [], l.length, 0⟩) := by
  have := h.n0; have := h.n1; have := h.len; have := h.s0; have := h.s1
  rw [words_s]
  exact step_source ⟨no, 0, 0, [], l.length, 0⟩ (numL_itoa so (by omega) (by omega)) (by show (l.length : Int) ≠ -1; omega) rfl rfl (by omega) h.s1 (by show so ≠ 0; omega)
theorem Right.e3 : stepP ⟨no, so, 0, [], l.length, 0⟩ (wordsL (tL si)) = (0, ⟨no, so, si, [], l.length, 0⟩) := by
  have := h.n0; have := h.n1; have := h.len; have := h.t0; have := h.t1; have := h.ne
  rw [words_t]
  exact step_sink ⟨no, so, 0, [], l.length, 0⟩ (numL_itoa si (by omega) (by omega)) (by show (l.length : Int) ≠ -1; omega) rfl rfl (by omega) h.t1 (by show si ≠ so; omega)
theorem Right.ok1 : okP RS.init [pL no l.length] = some ⟨no, 0, 0, [], l.length, 0⟩ := by
  unfold okP; rw [h.e1, if_pos rfl]; rfl
theorem Right.ok2 : okP RS.init [pL no l.length, sL so] = some ⟨no, so, 0, [], l.length, 0⟩ := by
  unfold okP; rw [h.e1, if_pos rfl]
  unfold okP; rw [h.e2, if_pos rfl]; rfl
theorem Right.ok3 : okP RS.init [pL no l.length, sL so, tL si] = some ⟨no, so, si, [], l.length, 0⟩ := by
  unfold okP; rw [h.e1, if_pos rfl]
  unfold okP; rw [h.e2, if_pos rfl]
  unfold okP; rw [h.e3, if_pos rfl]; rfl
theorem Right.ok (j : Nat) : okP RS.init ([pL no l.length, sL so, tL si] ++ (l.take j).map aL) = some ⟨no, so, si, l.take j, l.length, sumC (l.take j)⟩ := by
  have := h.s0; have := h.t0
  have hs : sumC (l.take j) ≤ sumC l := by
    have e : ∀ (a b : List S44), sumC (a ++ b) = sumC a + sumC b := by
      intro a b
      induction a with
      | nil => simp [sumC]
      | cons x a ih => simp only [List.cons_append, sumC, ih]; omega
    have h1 := e (l.take j) (l.drop j)
    rw [List.take_append_drop] at h1
    have h2 := sumC_nonneg (l.drop j) (fun a ha => (h.arcs a (List.mem_of_mem_drop ha)).2.2.2.2)
    omega
  have hsum := h.sum
  rw [okP_append, h.ok3, Option.bind_some, arcs_ok (l.take j) no so si l.length 0 [] h.n1 (fun a ha => h.arcs a (List.mem_of_mem_take ha)) (by omega) (by omega) (by simp only [List.length_nil, List.length_take]; omega) (by omega) (by omega)]
  simp
theorem Right.all : okP RS.init (netL no so si l) = some ⟨no, so, si, l, l.length, sumC l⟩ := by
  have := h.ok l.length
  rw [List.take_length] at this
  exact this
end steps
theorem parse_ok {L : List (List UInt8)} {no so si sum : Int} {l : List S44} (t : List UInt8) (ht : linesL t = L) (h : okP RS.init L = some ⟨no, so, si, l, l.length, sum⟩) (hs : so ≠ 0) (hi : si ≠ 0) : parseP t = (no, so, si, l, 0, 0) := by
  have hr : runP RS.init 0 (linesL t) = (0, 0, ⟨no, so, si, l, l.length, sum⟩) := by
    have := runP_ok L [] RS.init _ 0 h
    rw [List.append_nil] at this
    rw [ht, this]
    rfl
  unfold parseP
  rw [hr]
  show (if (0 : Int) = 0 then if (l.length : Int) = -1 then _ else if so = 0 then _ else if si = 0 then _ else if (l.length : Int) < l.length then _ else _ else _) = _
  rw [if_pos rfl, if_neg (by omega), if_neg hs, if_neg hi, if_neg (by omega)]
theorem parse_bad {P : List (List UInt8)} {x : List UInt8} {Q : List (List UInt8)} {s : RS} {e : Int} (t : List UInt8) (ht : linesL t = P ++ x :: Q) (h : okP RS.init P = some s) (he : (stepP s (wordsL x)).1 = e) (h0 : e ≠ 0) : parseP t = (0, 0, 0, [], (P.length : Int) + 1, e) := by
  have hr : runP RS.init 0 (linesL t) = ((P.length : Int) + 1, e, (stepP s (wordsL x)).2) := by
    rw [ht, runP_ok _ _ RS.init _ 0 h, runP_bad _ _ _ _ (by rw [he]; exact h0), he]
    congr 1
    omega
  unfold parseP
  rw [hr, if_neg h0]
theorem Right.back {no so si : Int} {l : List S44} (h : Right no so si l) : parseP (unlines (netL no so si l)) = (no, so, si, l, 0, 0) :=
  parse_ok _ (lines_all _ (netL_nl no so si l)) h.all (by have := h.s0; omega) (by have := h.t0; omega)

/-! ### raw numbers -/
theorem pick_some (a n : Int) (ha : In64 a) (hn : 0 < n) : ∃ p, racewaylaw4_pick.f a n = some p ∧ 0 ≤ p ∧ p < n := by
  have ha' := ha
  unfold In64 at ha'
  unfold racewaylaw4_pick.f
  by_cases h : a < 0
  · rw [if_pos h, if_neg (by omega)]
    refine ⟨_, rfl, ?_⟩
    rw [wrapS (i := a + 1) (by omega) (by omega), wrapS (by omega) (by omega), Int.tmod_eq_emod_of_nonneg (by omega)]
    exact ⟨Int.emod_nonneg _ (by omega), Int.emod_lt_of_pos _ hn⟩
  · rw [if_neg h, if_neg (by omega)]
    refine ⟨_, rfl, ?_⟩
    rw [Int.tmod_eq_emod_of_nonneg (by omega)]
    exact ⟨Int.emod_nonneg _ (by omega), Int.emod_lt_of_pos _ hn⟩
theorem in64_wrap (i : Int) : In64 (wrap64 i) := by unfold In64 wrap64; omega
def In57 (c : S57) : Prop := In64 c.f0 ∧ In64 c.f1 ∧ In64 c.f2
theorem rd57_in (l : List S57) (h : ∀ c ∈ l, In57 c) (i : Int) : In57 (rd_T57 l i) := by
  unfold rd_T57
  rw [List.getD_eq_getElem?_getD]
  cases hq : l[i.toNat]? with
  | none => exact ⟨by unfold In64; decide, by unfold In64; decide, by unfold In64; decide⟩
  | some y => exact h y (List.mem_of_getElem? hq)
theorem made_loop (cs : List S57) (hcs : ∀ c ∈ cs, In57 c) (no so si : Int) (hno : 2 ≤ no) (hno2 : no ≤ 9) (d : Nat) : ∀ (i : Nat) (l : List S44), i + d = min cs.length 24 → l.length = i → (∀ a ∈ l, 1 ≤ a.f0 ∧ a.f0 ≤ no ∧ 1 ≤ a.f1 ∧ a.f1 ≤ no ∧ 0 ≤ a.f2 ∧ a.f2 ≤ 1000000) →
    ∃ l' K, (∀ k, K ≤ k → racewaylaw4_made.l0 k cs (i : Int) no so si l = some (no, so, si, l')) ∧ l'.length ≤ 24 ∧ (∀ a ∈ l', 1 ≤ a.f0 ∧ a.f0 ≤ no ∧ 1 ≤ a.f1 ∧ a.f1 ≤ no ∧ 0 ≤ a.f2 ∧ a.f2 ≤ 1000000) := by
  induction d with
  | zero =>
    intro i l hi hll hl0
    refine ⟨l, 2, fun k hk => ?_, by omega, hl0⟩
    obtain ⟨k, rfl⟩ : ∃ m, k = m + 1 + 1 := ⟨k - 2, by omega⟩
    rw [racewaylaw4_made.l0]
    split
    · rw [decide_eq_false (by omega), racewaylaw4_made.j1, if_neg (by decide)]
    · rw [racewaylaw4_made.j1, if_neg (by decide)]
  | succ d ih =>
    intro i l hi hll hl0
    obtain ⟨i0, i1, i2⟩ := rd57_in cs hcs (i : Int)
    generalize hc : rd_T57 cs (i : Int) = c at i0 i1 i2
    obtain ⟨p1, e1, u1, v1⟩ := pick_some c.f2 21 i2 (by omega)
    obtain ⟨p2, e2, u2, v2⟩ := pick_some (wrap64 (Int.tdiv c.f2 21)) 9 (in64_wrap _) (by omega)
    obtain ⟨p3, e3, u3, v3⟩ := pick_some c.f2 1000000 i2 (by omega)
    obtain ⟨p4, e4, u4, v4⟩ := pick_some c.f0 no i0 (by omega)
    obtain ⟨p5, e5, u5, v5⟩ := pick_some c.f1 no i1 (by omega)
    have hcap : ∃ cap, cap = (if p2 = 0 then p3 else p1) ∧ 0 ≤ cap ∧ cap ≤ 1000000 := ⟨_, rfl, by split <;> omega, by split <;> omega⟩
    obtain ⟨cap, hcap, c0, c1⟩ := hcap
    obtain ⟨l', K, hK, r1, r2⟩ := ih (i + 1) (l ++ [⟨1 + p4, 1 + p5, cap⟩]) (by omega) (by simp [hll]) (by
      intro a ha
      rcases List.mem_append.1 ha with ha | ha
      · exact hl0 a ha
      · rw [List.mem_singleton.1 ha]
        simp only []
        omega)
    refine ⟨l', K + 2, fun k hk => ?_, r1, r2⟩
    obtain ⟨k, rfl⟩ : ∃ m, k = m + 1 + 1 := ⟨k - 2, by omega⟩
    rw [racewaylaw4_made.l0, if_pos (by omega), decide_eq_true (show (i : Int) < 24 by omega), racewaylaw4_made.j1, if_pos rfl, if_pos (by omega), if_pos (by omega)]
    rw [hc, e1, Option.bind_some, e2, Option.bind_some, e3, e4, e5]
    simp only [Option.bind_some]
    rw [if_pos (show l.length < 5864062014805 by omega), if_pos (show l.length < 5864062014805 by omega), wrapS (i := (i : Int) + 1) (by omega) (by omega), wrapS (i := 1 + p4) (by omega) (by omega), wrapS (i := 1 + p5) (by omega) (by omega)]
    have := hK k (by omega)
    rw [hcap] at this
    split
    · rename_i h0
      rw [if_pos h0] at this
      exact this
    · rename_i h0
      rw [if_neg h0] at this
      exact this
theorem sumC_le : ∀ l : List S44, (∀ a ∈ l, a.f2 ≤ 1000000) → sumC l ≤ 1000000 * l.length
  | [], _ => by simp [sumC]
  | a :: l, h => by
    have := sumC_le l (fun x hx => h x (List.mem_cons_of_mem _ hx))
    have := h a (List.mem_cons_self ..)
    simp only [sumC, List.length_cons]; omega
theorem made_ok (a0 a1 : Int) (cs : List S57) (h0 : In64 a0) (h1 : In64 a1) (hcs : ∀ c ∈ cs, In57 c) :
    ∃ no so si l K, (∀ k, K ≤ k → racewaylaw4_made.f k a0 a1 cs = some (no, so, si, l)) ∧ Right no so si l ∧ l.length ≤ 24 := by
  obtain ⟨p, e1, u1, v1⟩ := pick_some a0 8 h0 (by omega)
  obtain ⟨q, e2, u2, v2⟩ := pick_some a1 (2 + p) h1 (by omega)
  obtain ⟨r, e3, u3, v3⟩ := pick_some (wrap64 (Int.tdiv a1 16)) (2 + p - 1) (in64_wrap _) (by omega)
  have hm : ∃ m, (1 + q + r) % (2 + p) = m ∧ 0 ≤ m ∧ m < 2 + p ∧ m ≠ q := by
    refine ⟨_, rfl, Int.emod_nonneg _ (by omega), Int.emod_lt_of_pos _ (by omega), ?_⟩
    by_cases hlt : 1 + q + r < 2 + p
    · rw [Int.emod_eq_of_lt (by omega) hlt]; omega
    · rw [← Int.sub_emod_right, Int.emod_eq_of_lt (by omega) (by omega)]; omega
  obtain ⟨m, em, m0, m1, m2⟩ := hm
  obtain ⟨l, K, hK, r1, r2⟩ := made_loop cs hcs (2 + p) (1 + q) (1 + m) (by omega) (by omega) (min cs.length 24) 0 [] (by omega) rfl (by intro a ha; cases ha)
  refine ⟨2 + p, 1 + q, 1 + m, l, K, fun k hk => ?_, ⟨by omega, by omega, by omega, by omega, by omega, by omega, by omega, by omega, fun a ha => by have := r2 a ha; omega, ?_⟩, r1⟩
  · unfold racewaylaw4_made.f
    rw [e1, Option.bind_some, wrapS (i := 2 + p) (by omega) (by omega), e2, Option.bind_some, wrapS (i := 2 + p - 1) (by omega) (by omega), e3, Option.bind_some, if_neg (by omega), wrapS (i := 1 + q) (by omega) (by omega), wrapS (i := 1 + q + r) (by omega) (by omega), Int.tmod_eq_emod_of_nonneg (by omega), em, wrapS (i := 1 + m) (by omega) (by omega)]
    exact hK k hk
  · have := sumC_le l (fun a ha => (r2 a ha).2.2.2.2.2)
    omega
theorem shown_ok : racewaylaw4_shown.f = some true := by
  unfold racewaylaw4_shown.f
  rw [parse_some _ (by decide), show parseP _ = ((2, 1, 2, [⟨1, 2, 5⟩], 0, 0) : Int × Int × Int × List S44 × Int × Int) from by kernel_rfl]
  rfl
theorem rdOf_map (L : List (List UInt8)) (j : Nat) (h : j < L.length) : rdOf ByteArray.empty (L.map mkB) (j : Int) = mkB (L.getD j []) := by
  unfold rdOf
  rw [Int.toNat_natCast, List.getD_eq_getElem?_getD, List.getD_eq_getElem?_getD, List.getElem?_map, List.getElem?_eq_getElem h]
  rfl
end Go.Proofs.YtgpeppnbgfdaaaaGreatDoor.R
