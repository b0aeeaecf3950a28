/-
  What is printed is parsed as it was, with notes and empty lines between; what is parsed is right, and printed and parsed again is the same: the plain statement. Conditions: none but that the numbers are of 64 bits.
-/
import Derived.Test.YtgpeppnbgfdaaaaGreatDoorBack2P
import Derived.Test.YtgpeppnbgfdaaaaGreatDoorRxB
namespace Go.Proofs.YtgpeppnbgfdaaaaGreatDoor.Pure
set_option linter.unusedVariables false
set_option linter.unusedSimpArgs false
open Go.RowKit Go.Lib Go.Proofs.TX Go.Proofs.YtgpeppnbgfdaaaaGreatDoor.R Go.Proofs.YtgpeppnbgfdaaaaGreatDoor.H Go.Proofs.YtgpeppnbgfdaaaaGreatDoor.PL Go.Proofs.YtgpeppnbgfdaaaaGreatDoorW.PrintWords Go.Proofs.YtgpeppnbgfdaaaaGreatDoorW.PrintLast
theorem app_mk (a b : List UInt8) : mkB a ++ mkB b = mkB (a ++ b) := by
  have := mkB_app a (mkB b)
  rwa [mkB_data] at this
theorem same_refl (n0 n1 n2 : Int) (l : List S44) (h : l.length ≤ 3000) : net_Same.f n0 n1 n2 l n0 n1 n2 l = some true := by
  have e : ∀ m : List S44, sameArcs m m = true := by
    intro m
    induction m with
    | nil => rfl
    | cons a m ih => simp [sameArcs, arcEq, ih]
  unfold net_Same.f
  rw [if_pos (by omega), e l]
  simp
theorem lines_le : ∀ l : List UInt8, (linesL l).length ≤ l.length
  | [] => by simp [linesL]
  | c :: r => by
    have ih := lines_le r
    unfold linesL
    split
    · simp only [List.length_cons]; omega
    · split
      · simp
      · rename_i y ys hy
        rw [hy] at ih
        simp only [List.length_cons] at ih ⊢; omega
theorem j3_ok (s : ByteArray) (hs : s.size ≤ 3000) (k : Nat) : racewaylaw4_DimacsBack.j3 (k + 1) s = some true := by
  have hlen := lines_le s.data.toList
  rw [size_eq] at hs
  have hp := parse_some s (by rw [size_eq]; omega)
  rw [racewaylaw4_DimacsBack.j3]
  rcases parse_cases s.data.toList with ⟨ln, e, h, he, h1, h2⟩ | ⟨no, so, si, l, hR, h⟩
  · rw [h] at hp
    have hl : text_Lines.f s = some (linesB s) := lines_some _ (by rw [size_eq]; omega)
    have hll : ((linesB s).length : Int) = (linesL s.data.toList).length := by unfold linesB; rw [List.length_map]
    rw [hp, Option.bind_some, if_neg he, if_pos h1, hl, Option.bind_some, hll, wrapS (by omega) (by omega), if_pos h2]
    rfl
  · rw [h] at hp
    have hsz := hR.size
    have hlen2 := hR.len
    have hq := parse_some (mkB (unlines (netL no so si l))) (by rw [mkB_size]; omega)
    rw [mkB_data, hR.back] at hq
    rw [hp, Option.bind_some, if_pos rfl, hR.print, Option.bind_some, hq, Option.bind_some, hR.check, Option.bind_some, if_pos rfl, if_pos rfl, if_pos rfl, same_refl no so si l (by omega), Option.bind_some, if_pos rfl]
    rfl
theorem wrap_le (note : List UInt8) : ∀ L : List (List UInt8), (unlines (wrapL note L)).length ≤ (unlines L).length + L.length * (note.length + 10)
  | [] => by simp [wrapL, unlines]
  | x :: L => by
    have ih := wrap_le note L
    have e : wrapL note (x :: L) = (32 :: x ++ [9]) :: [] :: ([99, 32] ++ note) :: wrapL note L := rfl
    rw [e, unlines_cons, unlines_cons, unlines_cons, unlines_cons, List.length_cons, Nat.add_mul]
    simp only [List.length_append, List.length_cons, List.length_nil]
    omega
theorem mem_le {L : List (List UInt8)} : ∀ x ∈ L, x.length ≤ (unlines L).length := by
  induction L with
  | nil => intro x hx; cases hx
  | cons y L ih =>
    intro x hx
    rw [unlines_cons, List.length_append, List.length_cons]
    rcases List.mem_cons.1 hx with rfl | hx
    · omega
    · have := ih x hx; omega
theorem l1_ok {no so si : Int} {l : List S44} (h : Right no so si l) (hl : l.length ≤ 300) (s : ByteArray) (hs : s.size ≤ 3000) (note : List UInt8) (hn : NoNl note) (hnl : note.length ≤ 3000) (d : Nat) :
    ∀ (j : Nat) (acc : List UInt8), j + d = (netL no so si l).length → acc ++ unlines (wrapL note ((netL no so si l).drop j)) = unlines (([99, 32] ++ note) :: wrapL note (netL no so si l)) →
      ∃ K, ∀ k, K ≤ k → racewaylaw4_DimacsBack.l1 k s (mkB note) (mkB (unlines (netL no so si l))) ((netL no so si l).map mkB) (mkB acc) (j : Int) no so si l = some true := by
  have hsz := h.size
  have hback := h.back
  have hwrap := h.wrapped hn
  have hlen : (netL no so si l).length = 3 + l.length := by simp [netL]; omega
  have hW := mem_le (L := netL no so si l)
  have hF : (unlines (([99, 32] ++ note) :: wrapL note (netL no so si l))).length ≤ 2000000 := by
    have := wrap_le note (netL no so si l)
    have h2 : (netL no so si l).length * (note.length + 10) ≤ 303 * 3010 := Nat.mul_le_mul (by omega) (by omega)
    rw [unlines_cons, List.length_append, List.length_cons, List.length_append]
    simp only [List.length_cons, List.length_nil]
    omega
  generalize hL : netL no so si l = L at *
  have lit1 : (⟨#[10]⟩ : ByteArray) = mkB [10] := rfl
  have lit2 : (⟨#[32]⟩ : ByteArray) = mkB [32] := rfl
  have lit5 : (⟨#[9, 10, 10, 99, 32]⟩ : ByteArray) = mkB [9, 10, 10, 99, 32] := rfl
  induction d with
  | zero =>
    intro j acc hj ha
    refine ⟨2, fun k hk => ?_⟩
    obtain ⟨k, rfl⟩ : ∃ m, k = m + 1 + 1 := ⟨k - 2, by omega⟩
    have ha' : acc = unlines (([99, 32] ++ note) :: wrapL note L) := by
      rw [← ha, List.drop_eq_nil_of_le (by omega)]
      simp [wrapL, unlines]
    have q1 := parse_some (mkB (unlines L)) (by rw [mkB_size]; omega)
    have q2 := parse_some (mkB acc) (by rw [mkB_size, ha']; omega)
    rw [mkB_data, hback] at q1
    rw [mkB_data, ha', hwrap, ← ha'] at q2
    rw [racewaylaw4_DimacsBack.l1, if_neg (by rw [List.length_map]; omega), q1, Option.bind_some, q2, Option.bind_some, if_pos rfl, if_pos rfl, same_refl no so si l (by omega), Option.bind_some, if_pos rfl, if_pos rfl, if_pos rfl, Option.bind_some, if_pos rfl]
    exact j3_ok s hs k
  | succ d ih =>
    intro j acc hj ha
    have hjl : j < L.length := by omega
    have hdrop : L.drop j = L.getD j [] :: L.drop (j + 1) := by
      rw [List.drop_eq_getElem_cons hjl, List.getD_eq_getElem?_getD, List.getElem?_eq_getElem hjl]
      rfl
    have hw1 : (L.getD j []).length ≤ (unlines L).length := hW _ (by
      rw [List.getD_eq_getElem?_getD, List.getElem?_eq_getElem hjl]
      exact List.getElem_mem hjl)
    have hal : acc.length ≤ 2000000 := by
      have := congrArg List.length ha
      rw [List.length_append] at this
      omega
    obtain ⟨K, hK⟩ := ih (j + 1) (acc ++ [32] ++ L.getD j [] ++ [9, 10, 10, 99, 32] ++ note ++ [10]) (by omega) (by
      rw [← ha, hdrop]
      have e : wrapL note (L.getD j [] :: L.drop (j + 1)) = (32 :: L.getD j [] ++ [9]) :: [] :: ([99, 32] ++ note) :: wrapL note (L.drop (j + 1)) := rfl
      rw [e, unlines_cons, unlines_cons, unlines_cons]
      simp)
    refine ⟨K + 1, fun k hk => ?_⟩
    obtain ⟨k, rfl⟩ : ∃ m, k = m + 1 := ⟨k - 1, by omega⟩
    rw [racewaylaw4_DimacsBack.l1, if_pos (by rw [List.length_map]; omega), rdOf_map L j hjl, lit1, lit2, lit5, app_mk, app_mk, app_mk, app_mk, app_mk]
    rw [if_pos (by rw [mkB_size]; omega), if_pos (by omega), if_pos (by simp only [mkB_size, List.length_append, List.length_cons, List.length_nil]; omega), if_pos (by simp only [mkB_size, List.length_append, List.length_cons, List.length_nil]; omega), if_pos (by simp only [mkB_size, List.length_append, List.length_cons, List.length_nil]; omega), if_pos (by simp only [mkB_size, List.length_append, List.length_cons, List.length_nil]; omega), wrapS (i := (j : Int) + 1) (by omega) (by omega)]
    exact hK k (by omega)
theorem l0_ok {no so si : Int} {l : List S44} (h : Right no so si l) (hl : l.length ≤ 300) (s : ByteArray) (hs : s.size ≤ 3000) (note : List UInt8) (hnl : note.length ≤ 3000) (d : Nat) :
    ∀ (j : Nat), j + d = note.length → NoNl (note.take j) →
      ∃ K, ∀ k, K ≤ k → racewaylaw4_DimacsBack.l0 k s (mkB note) (mkB (unlines (netL no so si l))) (j : Int) no so si l = some true := by
  have hsz := h.size
  have lit1 : (⟨#[10]⟩ : ByteArray) = mkB [10] := rfl
  have lit2 : (⟨#[99, 32]⟩ : ByteArray) = mkB [99, 32] := rfl
  induction d with
  | zero =>
    intro j hj hN
    have hn : NoNl note := by rw [List.take_of_length_le (by omega)] at hN; exact hN
    obtain ⟨K, hK⟩ := l1_ok h hl s hs note hn hnl (netL no so si l).length 0 ([99, 32] ++ note ++ [10]) (by omega) (by rw [List.drop_zero, unlines_cons]; simp)
    refine ⟨K + 1, fun k hk => ?_⟩
    obtain ⟨k, rfl⟩ : ∃ m, k = m + 1 := ⟨k - 1, by omega⟩
    have el : text_Lines.f (mkB (unlines (netL no so si l))) = some ((netL no so si l).map mkB) := by
      rw [lines_some _ (by rw [mkB_size]; omega)]
      unfold linesB
      rw [mkB_data, lines_all _ (netL_nl no so si l)]
    rw [racewaylaw4_DimacsBack.l0, if_neg (by rw [mkB_size]; omega), el, Option.bind_some, lit1, lit2, app_mk, app_mk, if_pos (by rw [mkB_size]; omega), if_pos (by simp only [mkB_size, List.length_append, List.length_cons, List.length_nil]; omega)]
    exact hK k (by omega)
  | succ d ih =>
    intro j hj hN
    have hjl : j < note.length := by omega
    have hc : bt (mkB note) (j : Int) = (note[j].toNat : Int) := bt_some _ _ _ (by rw [mkB_data]; exact List.getElem?_eq_getElem hjl)
    by_cases h10 : note[j] = 10
    · refine ⟨1, fun k hk => ?_⟩
      obtain ⟨k, rfl⟩ : ∃ m, k = m + 1 := ⟨k - 1, by omega⟩
      rw [racewaylaw4_DimacsBack.l0, if_pos (by rw [mkB_size]; omega), if_pos (by omega), hc, if_pos (by rw [h10]; rfl)]
    · obtain ⟨K, hK⟩ := ih (j + 1) (by omega) (by
        rw [← List.take_append_getElem hjl]
        exact nl_app hN (fun c hc => by rw [List.mem_singleton.1 hc]; exact h10))
      refine ⟨K + 1, fun k hk => ?_⟩
      obtain ⟨k, rfl⟩ : ∃ m, k = m + 1 := ⟨k - 1, by omega⟩
      rw [racewaylaw4_DimacsBack.l0, if_pos (by rw [mkB_size]; omega), if_pos (by omega), hc, if_neg (by intro e; apply h10; apply UInt8.toNat_inj.1; show note[j].toNat = 10; omega), wrapS (i := (j : Int) + 1) (by omega) (by omega)]
      exact hK k (by omega)
theorem DimacsBack (n0 n1 n2 : Int) (l : List S44) (s note : ByteArray) (h0 : (Lit.int .i64 n0).wf = true) (h1 : (Lit.int .i64 n1).wf = true) (h2 : (Lit.int .i64 n2).wf = true) (h : ∀ a ∈ l, In64' a.f0 ∧ In64' a.f1 ∧ In64' a.f2) (hs : s.size ≤ 140737488351232) (hn : note.size ≤ 140737488351232) :
    ∃ k, racewaylaw4_DimacsBack.f k n0 n1 n2 l s note = some true := by
  have hl : ∀ a ∈ l, a.f2 ≤ 9223372036854775807 := fun a ha => (wf64 (h a ha).2.2).2
  unfold racewaylaw4_DimacsBack.f
  simp only [shown_ok, Option.bind_some]
  by_cases h300 : (l.length : Int) > 300
  · refine ⟨0 + 1, ?_⟩
    rw [if_pos trivial, if_pos h300, racewaylaw4_DimacsBack.j0, if_pos rfl]
  · by_cases h3000 : (wrap64 ((s.size : Int) + (note.size : Int))) > 3000
    · refine ⟨0 + 1, ?_⟩
      rw [if_pos trivial, if_neg h300, decide_eq_true h3000, racewaylaw4_DimacsBack.j0, if_pos rfl]
    · have hsum : (s.size : Int) + note.size ≤ 3000 := by
        rw [wrapS (by omega) (by omega)] at h3000
        omega
      obtain ⟨e, he⟩ := net_Check_total' n0 n1 n2 l
      have hall : (l.all fun a => decide (a.f2 ≤ 9223372036854775807)) = true := List.all_eq_true.2 (fun a ha => decide_eq_true (hl a ha))
      by_cases he0 : e = 0
      · subst he0
        have hR := right_of_check hl he
        have hnote : note = mkB note.data.toList := rfl
        have hns := size_eq note
        obtain ⟨K, hK⟩ := l0_ok hR (by omega) s (by omega) note.data.toList (by omega) note.data.toList.length 0 (by omega) (by intro c hc; simp at hc)
        refine ⟨K + 1, ?_⟩
        rw [if_pos trivial, if_neg h300, decide_eq_false h3000, racewaylaw4_DimacsBack.j0, if_neg (by decide), hR.print, Option.bind_some, he, Option.bind_some, if_neg (by simp), if_pos rfl, hnote]
        exact hK K (Nat.le_refl _)
      · have hp : dimacs_Print.f n0 n1 n2 l = some (ByteArray.empty, 1) := by
          unfold dimacs_Print.f
          rw [if_pos hall, he, Option.bind_some, if_neg he0]
        refine ⟨0 + 1 + 1, ?_⟩
        rw [if_pos trivial, if_neg h300, decide_eq_false h3000, racewaylaw4_DimacsBack.j0, if_neg (by decide), hp, Option.bind_some, he, Option.bind_some, if_neg (by simp [he0]), if_neg (by decide)]
        exact j3_ok s (by omega) 0
end Go.Proofs.YtgpeppnbgfdaaaaGreatDoor.Pure
