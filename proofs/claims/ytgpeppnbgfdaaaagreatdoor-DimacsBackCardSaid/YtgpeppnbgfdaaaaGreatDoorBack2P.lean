/-
  What is parsed is right; a text with notes and blanks about its lines: plain laws. By an AI agent.
-/
import Derived.Test.YtgpeppnbgfdaaaaGreatDoorBackP
namespace Go.Proofs.YtgpeppnbgfdaaaaGreatDoor.R
set_option linter.unusedVariables false
set_option linter.unusedSimpArgs false
open Go.RowKit Go.Lib Go.Proofs.TX Go.Proofs.YtgpeppnbgfdaaaaGreatDoor.H Go.Proofs.YtgpeppnbgfdaaaaGreatDoor.PL Go.Proofs.YtgpeppnbgfdaaaaGreatDoorW.PrintWords Go.Proofs.YtgpeppnbgfdaaaaGreatDoorW.PrintLast
theorem checkArcs_total' (no : Int) : ∀ (l : List S44) (sum : Int), ∃ e, checkArcs no sum l = some e
  | [], _ => ⟨0, rfl⟩
  | a :: l, sum => by
    simp only [checkArcs, addF_eq, Option.bind_some]
    repeat' split
    all_goals first
      | exact ⟨_, rfl⟩
      | exact checkArcs_total' no l _
theorem net_Check_total' (no so si : Int) (l : List S44) : ∃ e, net_Check.f no so si l = some e := by
  unfold net_Check.f
  repeat' split
  all_goals first
    | exact ⟨_, rfl⟩
    | exact checkArcs_total' no l _
theorem checkArcs_sum (no : Int) : ∀ (l : List S44) (sum : Int), (∀ a ∈ l, a.f2 ≤ 9223372036854775807) → 0 ≤ sum → sum ≤ 4611686018427387903 → checkArcs no sum l = some 0 → sum + sumC l ≤ 4611686018427387903
  | [], sum, _, _, h1, _ => by simp only [sumC]; omega
  | a :: l, sum, hl, h0, h1, h => by
    have ha := hl a (List.mem_cons_self ..)
    simp only [checkArcs, addF_eq, Option.bind_some] at h
    split at h
    case isFalse => exact absurd h (by simp)
    case isTrue =>
    split at h
    case isFalse => exact absurd h (by simp)
    case isTrue =>
    split at h
    case isTrue => exact absurd h (by simp)
    case isFalse h3 =>
    split at h
    case isFalse => exact absurd h (by simp)
    case isTrue h4 =>
    split at h
    case isTrue => exact absurd h (by simp)
    case isFalse h5 =>
    obtain ⟨k1, k2⟩ := addP_lt (a := sum) (b := a.f2) h0 h1 (by omega) ha
    by_cases hs : sum + a.f2 ≤ 4611686018427387903
    · have e := k1 hs
      rw [e] at h
      have := checkArcs_sum no l (sum + a.f2) (fun x hx => hl x (List.mem_cons_of_mem _ hx)) (by omega) hs h
      simp only [sumC]; omega
    · have := k2 (by omega) h4
      omega
theorem right_of_check {no so si : Int} {l : List S44} (hl : ∀ a ∈ l, a.f2 ≤ 9223372036854775807) (h : net_Check.f no so si l = some 0) : Right no so si l := by
  obtain ⟨q1, q2, q3, q4, q5, q6, q7, q8, q9⟩ := check_in h
  exact ⟨q1, q2, q3, q4, q5, q6, q7, q8, checkArcs_in no q2 l 0 q9, by have := checkArcs_sum no l 0 hl (by omega) (by omega) q9; omega⟩

/-! ### what stays true of the reader -/
def Inv (s : RS) : Prop :=
  (s.most = -1 ∧ s.so = 0 ∧ s.si = 0 ∧ s.arcs = [] ∧ s.sum = 0) ∨
  (s.most ≠ -1 ∧ 2 ≤ s.no ∧ s.no ≤ 500 ∧ s.most ≤ 2000 ∧ 0 ≤ s.so ∧ s.so ≤ s.no ∧ 0 ≤ s.si ∧ s.si ≤ s.no ∧ (s.so ≠ 0 → s.so ≠ s.si) ∧ (s.arcs.length : Int) ≤ s.most ∧
    (∀ a ∈ s.arcs, 1 ≤ a.f0 ∧ a.f0 ≤ s.no ∧ 1 ≤ a.f1 ∧ a.f1 ≤ s.no ∧ 0 ≤ a.f2) ∧ s.sum = sumC s.arcs ∧ s.sum ≤ 4611686018427387903)
theorem numL_le (l : List UInt8) : (numL l).1 ≤ 9223372036854775807 := by
  unfold numL
  split
  · simp
  · split
    · rename_i h; exact h.2
    · simp
theorem numsL_le : ∀ (l : List (List UInt8)) (i : Nat), (numsL l).1.getD i 0 ≤ 9223372036854775807
  | [], i => by simp [numsL]
  | x :: l, i => by
    unfold numsL
    split
    · split
      · cases i with
        | zero => simpa using numL_le x
        | succ i => simpa using numsL_le l i
      · simp
    · simp
theorem problemP_ok {no most : Int} {ws : List (List UInt8)} (h : (problemP no most ws).1 = 0) :
    most = -1 ∧ 2 ≤ (problemP no most ws).2.1 ∧ (problemP no most ws).2.1 ≤ 500 ∧ 0 ≤ (problemP no most ws).2.2 ∧ (problemP no most ws).2.2 ≤ 2000 := by
  unfold problemP at h ⊢
  split at h
  case isFalse => exact absurd h (by simp)
  case isTrue q1 =>
  split at h
  case isFalse => exact absurd h (by simp)
  case isTrue q2 =>
  split at h
  case isFalse => exact absurd h (by simp)
  case isTrue q3 =>
  split at h
  case isFalse q4 => exact absurd h q4
  case isTrue q4 =>
  split at h
  case isTrue => exact absurd h (by simp)
  case isFalse q5 =>
  split at h
  case isTrue => exact absurd h (by simp)
  case isFalse q6 =>
  split at h
  case isTrue => exact absurd h (by simp)
  case isFalse q7 =>
  split at h
  case isTrue => exact absurd h (by simp)
  case isFalse q8 =>
  rw [if_pos q1, if_pos q2, if_pos q3, if_pos q4, if_neg q5, if_neg q6, if_neg q7, if_neg q8]
  exact ⟨q3, Int.not_lt.1 q5, Int.not_lt.1 q6, Int.not_lt.1 q7, Int.not_lt.1 q8⟩
theorem endNP_ok {no so si : Int} {x : List UInt8} {f bad : Int → Int × Int × Int} (hbad : ∀ e, (bad e).1 = e) (h : (endNP no so si x f bad).1 = 0) :
    ∃ a, 1 ≤ a ∧ a ≤ no ∧ a ≠ so ∧ a ≠ si ∧ endNP no so si x f bad = f a := by
  unfold endNP at h ⊢
  split at h
  case isFalse q1 => rw [hbad] at h; exact absurd h q1
  case isTrue q1 =>
  split at h
  case isFalse => rw [hbad] at h; exact absurd h (by simp)
  case isTrue q2 =>
  split at h
  case isTrue => rw [hbad] at h; exact absurd h (by simp)
  case isFalse q3 =>
  split at h
  case isTrue => rw [hbad] at h; exact absurd h (by simp)
  case isFalse q4 =>
  rw [if_pos q1, if_pos q2, if_neg q3, if_neg q4]
  have := (there_iff _ _).1 q2
  exact ⟨_, this.1, this.2, q3, q4, rfl⟩
theorem endP_ok {no so si most : Int} {na : Nat} {ws : List (List UInt8)} (h : (endP no so si most na ws).1 = 0) :
    most ≠ -1 ∧ ∃ a, 1 ≤ a ∧ a ≤ no ∧ a ≠ so ∧ a ≠ si ∧ ((so = 0 ∧ (endP no so si most na ws).2 = (a, si)) ∨ (si = 0 ∧ (endP no so si most na ws).2 = (so, a))) := by
  unfold endP at h ⊢
  split at h
  case isFalse => exact absurd h (by simp)
  case isTrue q1 =>
  split at h
  case isTrue => exact absurd h (by simp)
  case isFalse q2 =>
  split at h
  case isFalse => exact absurd h (by simp)
  case isTrue q3 =>
  rw [if_pos q1, if_neg q2, if_pos q3]
  split at h
  case isTrue q4 =>
    split at h
    case isFalse => exact absurd h (by simp)
    case isTrue q5 =>
    rw [if_pos q4, if_pos q5]
    obtain ⟨a, a1, a2, a3, a4, e⟩ := endNP_ok (fun _ => rfl) h
    exact ⟨q2, a, a1, a2, a3, a4, Or.inl ⟨q5, by rw [e]⟩⟩
  case isFalse q4 =>
    split at h
    case isFalse => exact absurd h (by simp)
    case isTrue q5 =>
    split at h
    case isFalse => exact absurd h (by simp)
    case isTrue q6 =>
    rw [if_neg q4, if_pos q5, if_pos q6]
    obtain ⟨a, a1, a2, a3, a4, e⟩ := endNP_ok (fun _ => rfl) h
    exact ⟨q2, a, a1, a2, a3, a4, Or.inr ⟨q6, by rw [e]⟩⟩
theorem arcP_none {no so si most sum : Int} {na : Nat} {ws : List (List UInt8)} {e : Int} (h : arcP no so si most sum na ws = (e, none)) : e ≠ 0 := by
  unfold arcP at h
  repeat' split at h
  all_goals first
    | (have := congrArg Prod.fst h; simp only [] at this; omega)
    | (have := congrArg Prod.snd h; cases this; done)
    | (rename_i q; have := congrArg Prod.fst h; simp only [] at this; rw [← this]; exact q)
theorem arcP_some {no so si most sum : Int} {na : Nat} {ws : List (List UInt8)} {e : Int} {p : Int × S44} (h0 : 0 ≤ sum) (h1 : sum ≤ 4611686018427387903) (h : arcP no so si most sum na ws = (e, some p)) :
    so ≠ 0 ∧ si ≠ 0 ∧ (na : Int) ≠ most ∧ 1 ≤ p.2.f0 ∧ p.2.f0 ≤ no ∧ 1 ≤ p.2.f1 ∧ p.2.f1 ≤ no ∧ 0 ≤ p.2.f2 ∧ p.1 = sum + p.2.f2 ∧ p.1 ≤ 4611686018427387903 := by
  unfold arcP at h
  split at h
  case isFalse => cases congrArg Prod.snd h
  case isTrue q1 =>
  split at h
  case isTrue => cases congrArg Prod.snd h
  case isFalse q2 =>
  split at h
  case isTrue => cases congrArg Prod.snd h
  case isFalse q3 =>
  split at h
  case isFalse => cases congrArg Prod.snd h
  case isTrue q4 =>
  split at h
  case isFalse => cases congrArg Prod.snd h
  case isTrue q5 =>
  split at h
  case isFalse => cases congrArg Prod.snd h
  case isTrue q6 =>
  split at h
  case isTrue => cases congrArg Prod.snd h
  case isFalse q7 =>
  split at h
  case isTrue => cases congrArg Prod.snd h
  case isFalse q8 =>
  split at h
  case isFalse => cases congrArg Prod.snd h
  case isTrue q9 =>
  split at h
  case isTrue => cases congrArg Prod.snd h
  case isFalse q10 =>
  have e := Option.some.inj (congrArg Prod.snd h)
  subst e
  have t1 := (there_iff _ _).1 q5
  have t2 := (there_iff _ _).1 q6
  obtain ⟨k1, k2⟩ := addP_lt (a := sum) (b := (numsL (ws.drop 1)).1.getD 2 0) h0 h1 (by omega) (numsL_le _ _)
  refine ⟨q2, q3, q8, t1.1, t1.2, t2.1, t2.2, by show 0 ≤ (numsL (ws.drop 1)).1.getD 2 0; omega, ?_, by show _ ≤ _; omega⟩
  show (addP sum _).1 = sum + _
  by_cases hs : sum + (numsL (ws.drop 1)).1.getD 2 0 ≤ 4611686018427387903
  · rw [k1 hs]
  · have := k2 (by omega) q9
    omega
theorem sumC_app (a b : List S44) : sumC (a ++ b) = sumC a + sumC b := by
  induction a with
  | nil => simp [sumC]
  | cons x a ih => simp only [List.cons_append, sumC, ih]; omega
theorem inv_step {s : RS} {ws : List (List UInt8)} (hi : Inv s) (h : (stepP s ws).1 = 0) : Inv (stepP s ws).2 := by
  cases ws with
  | nil => exact hi
  | cons x xs =>
    unfold stepP at h ⊢
    simp only [] at h ⊢
    split at h
    case isTrue q => rw [if_pos q]; exact hi
    case isFalse q1 =>
    rw [if_neg q1]
    split at h
    case isTrue q =>
      rw [if_pos q]
      obtain ⟨r1, r2, r3, r4, r5⟩ := problemP_ok h
      rcases hi with ⟨i1, i2, i3, i4, i5⟩ | ⟨i1, _⟩
      · refine Or.inr ⟨by show (problemP s.no s.most (x :: xs)).2.2 ≠ -1; omega, r2, r3, r5, by show 0 ≤ s.so; omega, by show s.so ≤ (problemP s.no s.most (x :: xs)).2.1; omega, by show 0 ≤ s.si; omega, by show s.si ≤ (problemP s.no s.most (x :: xs)).2.1; omega, fun h => absurd i2 h, by show (s.arcs.length : Int) ≤ _; rw [i4]; simpa using r4, ?_, ?_, ?_⟩
        · show ∀ a ∈ s.arcs, _
          rw [i4]; intro a ha; cases ha
        · show s.sum = sumC s.arcs
          rw [i4, i5]; rfl
        · show s.sum ≤ _
          rw [i5]; decide
      · exact absurd r1 i1
    case isFalse q2 =>
    rw [if_neg q2]
    split at h
    case isTrue q =>
      rw [if_pos q]
      obtain ⟨r1, a, r2, r3, r4, r5, r6⟩ := endP_ok h
      rcases hi with ⟨i1, _⟩ | ⟨i1, i2, i3, i4, i5, i6, i7, i8, i9, i10, i11, i12, i13⟩
      · exact absurd i1 r1
      · rcases r6 with ⟨z, e⟩ | ⟨z, e⟩
        · rw [show (endP s.no s.so s.si s.most s.arcs.length (x :: xs)).2.1 = a from congrArg Prod.fst e, show (endP s.no s.so s.si s.most s.arcs.length (x :: xs)).2.2 = s.si from congrArg Prod.snd e]
          exact Or.inr ⟨i1, i2, i3, i4, by show 0 ≤ a; omega, r3, i7, i8, fun _ => r5, i10, i11, i12, i13⟩
        · rw [show (endP s.no s.so s.si s.most s.arcs.length (x :: xs)).2.1 = s.so from congrArg Prod.fst e, show (endP s.no s.so s.si s.most s.arcs.length (x :: xs)).2.2 = a from congrArg Prod.snd e]
          exact Or.inr ⟨i1, i2, i3, i4, i5, i6, by show 0 ≤ a; omega, r3, fun _ => fun e => r4 e.symm, i10, i11, i12, i13⟩
    case isFalse q3 =>
    rw [if_neg q3]
    split at h
    case isTrue q =>
      rw [if_pos q]
      rcases he : arcP s.no s.so s.si s.most s.sum s.arcs.length (x :: xs) with ⟨e, _ | p⟩
      · rw [he] at h
        exact absurd h (arcP_none he)
      · show Inv { s with sum := p.1, arcs := s.arcs ++ [p.2] }
        rcases hi with ⟨i1, i2, i3, i4, i5⟩ | ⟨i1, i2, i3, i4, i5, i6, i7, i8, i9, i10, i11, i12, i13⟩
        · exact absurd i2 (arcP_some (by omega) (by omega) he).1
        · have hnn : 0 ≤ s.sum := by rw [i12]; exact sumC_nonneg _ (fun a ha => (i11 a ha).2.2.2.2)
          obtain ⟨r1, r2, r3, r4, r5, r6, r7, r8, r9, r10⟩ := arcP_some hnn i13 he
          refine Or.inr ⟨i1, i2, i3, i4, i5, i6, i7, i8, i9, by show ((s.arcs ++ [p.2]).length : Int) ≤ s.most; rw [List.length_append]; simp only [List.length_cons, List.length_nil]; omega, ?_, ?_, r10⟩
          · intro a ha
            rcases List.mem_append.1 ha with ha | ha
            · exact i11 a ha
            · rw [List.mem_singleton.1 ha]; exact ⟨r4, r5, r6, r7, r8⟩
          · show p.1 = sumC (s.arcs ++ [p.2])
            rw [sumC_app, r9, i12]
            simp [sumC]
    case isFalse => exact absurd h (by simp)
theorem run_inv : ∀ (ls : List (List UInt8)) (s : RS) (i : Nat), Inv s → ((runP s i ls).2.1 = 0 ∧ Inv (runP s i ls).2.2) ∨ ((runP s i ls).2.1 ≠ 0 ∧ (i : Int) + 1 ≤ (runP s i ls).1 ∧ (runP s i ls).1 ≤ (i : Int) + ls.length)
  | [], s, i, h => Or.inl ⟨rfl, h⟩
  | x :: xs, s, i, h => by
    unfold runP
    split
    · rename_i h0
      rcases run_inv xs (stepP s (wordsL x)).2 (i + 1) (inv_step h h0) with r | ⟨r1, r2, r3⟩
      · exact Or.inl r
      · exact Or.inr ⟨r1, by omega, by rw [List.length_cons]; omega⟩
    · rename_i h0
      exact Or.inr ⟨h0, by show (i : Int) + 1 ≤ ((i + 1 : Nat) : Int); omega, by rw [List.length_cons]; show ((i + 1 : Nat) : Int) ≤ _; omega⟩
theorem parse_cases (t : List UInt8) : (∃ ln e, parseP t = (0, 0, 0, [], ln, e) ∧ e ≠ 0 ∧ 1 ≤ ln ∧ ln ≤ (linesL t).length + 1) ∨ ∃ no so si l, Right no so si l ∧ parseP t = (no, so, si, l, 0, 0) := by
  have h := run_inv (linesL t) RS.init 0 (Or.inl ⟨rfl, rfl, rfl, rfl, rfl⟩)
  unfold parseP
  rcases h with ⟨h0, hi⟩ | ⟨h0, h1, h2⟩
  · rw [if_pos h0]
    split
    · exact Or.inl ⟨_, _, rfl, by omega, by omega, by omega⟩
    · rename_i q1
      split
      · exact Or.inl ⟨_, _, rfl, by omega, by omega, by omega⟩
      · rename_i q2
        split
        · exact Or.inl ⟨_, _, rfl, by omega, by omega, by omega⟩
        · rename_i q3
          split
          · exact Or.inl ⟨_, _, rfl, by omega, by omega, by omega⟩
          · rename_i q4
            rcases hi with ⟨i1, _⟩ | ⟨i1, i2, i3, i4, i5, i6, i7, i8, i9, i10, i11, i12, i13⟩
            · exact absurd i1 q1
            · exact Or.inr ⟨_, _, _, _, ⟨i2, i3, by omega, i6, by omega, i8, i9 q2, by omega, i11, by omega⟩, rfl⟩
  · rw [if_neg h0]
    exact Or.inl ⟨_, _, rfl, h0, by omega, by omega⟩

/-! ### notes and blanks about the lines -/
def wrapL (note : List UInt8) (L : List (List UInt8)) : List (List UInt8) := L.flatMap (fun x => [32 :: x ++ [9], [], [99, 32] ++ note])
theorem words_note (note : List UInt8) : ∃ ws, wordsL ([99, 32] ++ note) = [99] :: ws := by
  refine ⟨wordsL note, ?_⟩
  have e : ([99, 32] ++ note : List UInt8) = [99] ++ 32 :: note := by simp
  rw [e, wordsL_cons (word_lit (by decide)) 32 (by decide)]
theorem words_in (x : List UInt8) : wordsL (32 :: x ++ [9]) = wordsL x := by
  rw [List.cons_append, wordsL_skip 32 (by decide)]
  have := wordsL_append (9 : UInt8) (by decide) x []
  rw [this, wordsL_nil, List.append_nil]
theorem okP_note (note : List UInt8) (s : RS) (X : List (List UInt8)) : okP s (([99, 32] ++ note) :: X) = okP s X := by
  obtain ⟨ws, e⟩ := words_note note
  conv => lhs; unfold okP
  rw [e, step_note, if_pos rfl]
theorem okP_wrap (note : List UInt8) : ∀ (L : List (List UInt8)) (s : RS), okP s (wrapL note L) = okP s L
  | [], s => rfl
  | x :: L, s => by
    have e : wrapL note (x :: L) = (32 :: x ++ [9]) :: [] :: ([99, 32] ++ note) :: wrapL note L := rfl
    rw [e]
    conv => lhs; unfold okP
    conv => rhs; unfold okP
    rw [words_in]
    split
    · conv => lhs; unfold okP
      rw [wordsL_nil, step_empty, if_pos rfl, okP_note, okP_wrap note L]
    · rfl
theorem wrap_nl {note : List UInt8} {L : List (List UInt8)} (hn : NoNl note) (hL : ∀ x ∈ L, NoNl x) : ∀ x ∈ ([99, 32] ++ note) :: wrapL note L, NoNl x := by
  have h0 : NoNl ([99, 32] ++ note) := nl_app (nl_lit (by decide)) hn
  intro x hx
  rcases List.mem_cons.1 hx with rfl | hx
  · exact h0
  · obtain ⟨y, hy, hx⟩ := List.mem_flatMap.1 hx
    simp only [List.mem_cons, List.not_mem_nil, or_false] at hx
    rcases hx with rfl | rfl | rfl
    · exact nl_app (a := [32] ++ y) (nl_app (nl_lit (by decide)) (hL y hy)) (nl_lit (by decide))
    · intro c hc; cases hc
    · exact h0
theorem Right.wrapped {no so si : Int} {l : List S44} (h : Right no so si l) {note : List UInt8} (hn : NoNl note) : parseP (unlines (([99, 32] ++ note) :: wrapL note (netL no so si l))) = (no, so, si, l, 0, 0) :=
  parse_ok _ (lines_all _ (wrap_nl hn (netL_nl no so si l))) (by rw [okP_note, okP_wrap]; exact h.all) (by have := h.s0; omega) (by have := h.t0; omega)
end Go.Proofs.YtgpeppnbgfdaaaaGreatDoor.R
