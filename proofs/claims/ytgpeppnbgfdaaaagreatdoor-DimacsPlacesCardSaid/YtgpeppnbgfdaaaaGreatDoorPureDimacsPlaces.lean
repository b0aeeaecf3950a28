/-
  A line that may stand but once, or at its place alone, is wrong elsewhere, in its line: the plain statement. Conditions: none but that the numbers are of 64 bits.
-/
import Derived.Test.YtgpeppnbgfdaaaaGreatDoorBackP
import Derived.Test.YtgpeppnbgfdaaaaGreatDoorRx6
namespace Go.Proofs.YtgpeppnbgfdaaaaGreatDoor.Pure
set_option linter.unusedVariables false
set_option linter.unusedSimpArgs false
open Go.RowKit Go.Lib Go.Proofs.TX Go.Proofs.YtgpeppnbgfdaaaaGreatDoor.R Go.Proofs.YtgpeppnbgfdaaaaGreatDoor.H Go.Proofs.YtgpeppnbgfdaaaaGreatDoor.PL Go.Proofs.YtgpeppnbgfdaaaaGreatDoorW.PrintWords Go.Proofs.YtgpeppnbgfdaaaaGreatDoorW.PrintLast
def twice (L : List (List UInt8)) (i a : Nat) : List (List UInt8) := L.take (a + 1) ++ L.getD i [] :: L.drop (a + 1)
theorem getD_mem {L : List (List UInt8)} {i : Nat} (h : i < L.length) : L.getD i [] ∈ L := by
  rw [List.getD_eq_getElem?_getD, List.getElem?_eq_getElem h]
  exact List.getElem_mem h
theorem twice_nl {L : List (List UInt8)} {i a : Nat} (h : ∀ x ∈ L, NoNl x) (hi : i < L.length) : ∀ x ∈ twice L i a, NoNl x := by
  intro x hx
  unfold twice at hx
  rcases List.mem_append.1 hx with hx | hx
  · exact h x (List.mem_of_mem_take hx)
  · rcases List.mem_cons.1 hx with rfl | hx
    · exact h _ (getD_mem hi)
    · exact h x (List.mem_of_mem_drop hx)
theorem unlines_mem_le {L : List (List UInt8)} : ∀ x ∈ L, x.length ≤ (unlines L).length := by
  induction L with
  | nil => intro x hx; cases hx
  | cons y L ih =>
    intro x hx
    rw [unlines_cons, List.length_append, List.length_cons]
    rcases List.mem_cons.1 hx with rfl | hx
    · omega
    · have := ih x hx; omega
theorem twice_le {L : List (List UInt8)} {i a : Nat} (hi : i < L.length) : (unlines (twice L i a)).length ≤ 2 * (unlines L).length + 1 := by
  have h1 := unlines_mem_le _ (getD_mem hi)
  have h2 : (unlines L).length = (unlines (L.take (a + 1))).length + (unlines (L.drop (a + 1))).length := by
    rw [← List.length_append, ← unlines_append, List.take_append_drop]
  unfold twice
  rw [unlines_append, unlines_cons, List.length_append, List.length_append, List.length_cons]
  omega
theorem twice_bad {no so si : Int} {l : List S44} (h : Right no so si l) {i a : Nat} (hi : i ≤ 2) (hia : i ≤ a) (ha : a < (netL no so si l).length) :
    ∃ s, okP RS.init ((netL no so si l).take (a + 1)) = some s ∧ (stepP s (wordsL ((netL no so si l).getD i []))).1 = 2 := by
  have hs := h.s0; have ht := h.t0
  have g0 : (netL no so si l).getD 0 [] = pL no l.length := rfl
  have g1 : (netL no so si l).getD 1 [] = sL so := rfl
  have g2 : (netL no so si l).getD 2 [] = tL si := rfl
  have m : (l.length : Int) ≠ -1 := by omega
  match a, i, hi, hia with
  | 0, 0, _, _ => exact ⟨_, h.ok1, by rw [g0, words_p]; exact step_problem_again _ _ _ m⟩
  | 1, 0, _, _ => exact ⟨_, h.ok2, by rw [g0, words_p]; exact step_problem_again _ _ _ m⟩
  | 1, 1, _, _ => exact ⟨_, h.ok2, by rw [g1, words_s]; exact step_end_bad _ _ _ (Or.inr (Or.inr (Or.inl ⟨rfl, by show so ≠ 0; omega⟩)))⟩
  | j + 2, i, hi, _ =>
    have e : (netL no so si l).take (j + 2 + 1) = [pL no l.length, sL so, tL si] ++ (l.take j).map aL := by simp [netL, List.map_take]
    refine ⟨_, by rw [e]; exact h.ok j, ?_⟩
    match i, hi with
    | 0, _ => rw [g0, words_p]; exact step_problem_again _ _ _ m
    | 1, _ => rw [g1, words_s]; exact step_end_bad _ _ _ (Or.inr (Or.inr (Or.inl ⟨rfl, by show so ≠ 0; omega⟩)))
    | 2, _ => rw [g2, words_t]; exact step_end_bad _ _ _ (Or.inr (Or.inr (Or.inr ⟨rfl, by show si ≠ 0; omega⟩)))
theorem parse_twice {no so si : Int} {l : List S44} (h : Right no so si l) {i a : Nat} (hi : i ≤ 2) (hia : i ≤ a) (ha : a < (netL no so si l).length) :
    parseP (unlines (twice (netL no so si l) i a)) = (0, 0, 0, [], (a : Int) + 2, 2) := by
  obtain ⟨s, e1, e2⟩ := twice_bad h hi hia ha
  have := parse_bad (unlines (twice (netL no so si l) i a)) (lines_all _ (twice_nl (netL_nl no so si l) (by omega))) e1 e2 (by omega)
  have e : (((netL no so si l).take (a + 1)).length : Int) + 1 = (a : Int) + 2 := by rw [List.length_take]; omega
  rw [this, e]
theorem parse_front {no so si : Int} {l : List S44} (x : List UInt8) (hx : NoNl x) (he : (stepP RS.init (wordsL x)).1 = 2) : parseP (x ++ 10 :: unlines (netL no so si l)) = (0, 0, 0, [], 1, 2) := by
  have hl : linesL (x ++ 10 :: unlines (netL no so si l)) = [] ++ x :: netL no so si l := by
    rw [← unlines_cons]
    exact lines_all _ (fun y hy => by
      rcases List.mem_cons.1 hy with rfl | hy
      · exact hx
      · exact netL_nl no so si l y hy)
  exact parse_bad _ hl (show okP RS.init [] = some RS.init from rfl) he (by omega)
theorem app_mk (a b : List UInt8) : mkB a ++ mkB b = mkB (a ++ b) := by
  have := mkB_app a (mkB b)
  rwa [mkB_data] at this
theorem lit_mk (l : List UInt8) : (⟨l.toArray⟩ : ByteArray) = mkB l := rfl
def rest (L : List (List UInt8)) (i a j : Nat) : List (List UInt8) := if j ≤ a then (L.drop j).take (a + 1 - j) ++ L.getD i [] :: L.drop (a + 1) else L.drop j
theorem drop_get {L : List (List UInt8)} {j : Nat} (h : j < L.length) : L.drop j = L.getD j [] :: L.drop (j + 1) := by
  rw [List.drop_eq_getElem_cons h, List.getD_eq_getElem?_getD, List.getElem?_eq_getElem h]
  rfl
theorem rest_ne {L : List (List UInt8)} {i a j : Nat} (h : j < L.length) (ha : j ≠ a) : rest L i a j = L.getD j [] :: rest L i a (j + 1) := by
  unfold rest
  by_cases h1 : j ≤ a
  · rw [if_pos h1, if_pos (by omega), drop_get h, show a + 1 - j = (a + 1 - (j + 1)) + 1 by omega, List.take_succ_cons]
    rfl
  · rw [if_neg h1, if_neg (by omega), drop_get h]
theorem rest_at {L : List (List UInt8)} {i a : Nat} (h : a < L.length) : rest L i a a = L.getD a [] :: L.getD i [] :: rest L i a (a + 1) := by
  unfold rest
  rw [if_pos (Nat.le_refl _), if_neg (by omega), drop_get h, show a + 1 - a = 0 + 1 by omega, List.take_succ_cons]
  rfl
theorem loop_ok {no so si : Int} {l : List S44} (h : Right no so si l) (hl : l.length ≤ 24) (i a : Nat) (hi : i ≤ 2) (hia : i ≤ a) (ha : a < (netL no so si l).length) (d : Nat) :
    ∀ (j : Nat) (t : List UInt8), j + d = (netL no so si l).length → t ++ unlines (rest (netL no so si l) i a j) = unlines (twice (netL no so si l) i a) →
      ∃ K, ∀ k, K ≤ k → racewaylaw4_DimacsPlaces.l0 k (mkB (unlines (netL no so si l))) ((netL no so si l).map mkB) (i : Int) (a : Int) (mkB t) (j : Int) = some true := by
  have hsz := h.size
  have hlen : (netL no so si l).length = 3 + l.length := by simp [netL]; omega
  have htw := twice_le (L := netL no so si l) (i := i) (a := a) (by omega)
  have hF := parse_twice h hi hia ha
  have hW := unlines_mem_le (L := netL no so si l)
  have hU := parse_front (no := no) (so := so) (si := si) (l := l) [97, 32, 49, 32, 50, 32, 51] (nl_lit (by decide)) (by kernel_rfl)
  have hV := parse_front (no := no) (so := so) (si := si) (l := l) (sL so) (sL_nl so) (by rw [words_s]; exact step_end_bad _ _ _ (Or.inl rfl))
  have g1 : (netL no so si l).getD 1 [] = sL so := rfl
  have hs1 := hW _ (getD_mem (L := netL no so si l) (i := 1) (by omega))
  rw [g1] at hs1
  generalize hL : netL no so si l = L at *
  have lit8 : (⟨#[97, 32, 49, 32, 50, 32, 51, 10]⟩ : ByteArray) = mkB [97, 32, 49, 32, 50, 32, 51, 10] := rfl
  have lit1 : (⟨#[10]⟩ : ByteArray) = mkB [10] := rfl
  have r1 : rdOf ByteArray.empty (L.map mkB) 1 = mkB (sL so) := by
    have := rdOf_map L 1 (by omega)
    rw [g1] at this
    exact this
  induction d with
  | zero =>
    intro j t hj ht
    refine ⟨1, fun k hk => ?_⟩
    obtain ⟨k, rfl⟩ : ∃ m, k = m + 1 := ⟨k - 1, by omega⟩
    have ht' : t = unlines (twice L i a) := by
      rw [← ht]
      unfold rest
      rw [if_neg (by omega), List.drop_eq_nil_of_le (by omega)]
      simp [unlines]
    rw [racewaylaw4_DimacsPlaces.l0, if_neg (by rw [List.length_map]; omega), r1, lit8, lit1, app_mk, app_mk, app_mk]
    rw [parse_some _ (by rw [mkB_size, ht']; omega), Option.bind_some, mkB_data, ht', hF, if_pos (by rw [mkB_size]; omega)]
    rw [parse_some _ (by rw [mkB_size, List.length_append]; simp only [List.length_cons, List.length_nil]; omega), Option.bind_some, mkB_data, if_pos (by rw [List.length_map]; omega), if_pos (by rw [mkB_size]; omega), if_pos (by rw [mkB_size, mkB_size, List.length_append]; simp only [List.length_cons, List.length_nil]; omega)]
    rw [parse_some _ (by rw [mkB_size, List.length_append, List.length_append]; simp only [List.length_cons, List.length_nil]; omega), Option.bind_some, mkB_data]
    rw [show ([97, 32, 49, 32, 50, 32, 51, 10] : List UInt8) ++ unlines L = [97, 32, 49, 32, 50, 32, 51] ++ 10 :: unlines L from rfl, hU, show sL so ++ [10] ++ unlines L = sL so ++ 10 :: unlines L by simp, hV]
    simp only [List.length_nil]
    rw [if_pos trivial, if_pos (wrapS (i := (a : Int) + 2) (by omega) (by omega)).symm]
    rfl
  | succ d ih =>
    intro j t hj ht
    have hjl : j < L.length := by omega
    have hw1 := hW _ (getD_mem hjl)
    have hw2 := hW _ (getD_mem (L := L) (i := i) (by omega))
    have htl : t.length + (unlines (rest L i a j)).length ≤ 10000 := by
      rw [← List.length_append, ht]
      omega
    by_cases hja : j = a
    · subst hja
      rw [rest_at hjl, unlines_cons, unlines_cons] at ht
      rw [rest_at hjl, unlines_cons, unlines_cons] at htl
      simp only [List.length_append, List.length_cons] at htl
      obtain ⟨K, hK⟩ := ih (j + 1) (t ++ L.getD j [] ++ [10] ++ L.getD i [] ++ [10]) (by omega) (by rw [← ht]; simp)
      refine ⟨K + 1, fun k hk => ?_⟩
      obtain ⟨k, rfl⟩ : ∃ m, k = m + 1 := ⟨k - 1, by omega⟩
      rw [racewaylaw4_DimacsPlaces.l0, if_pos (by rw [List.length_map]; omega), if_pos (by omega), rdOf_map L j hjl, rdOf_map L i (by omega), lit1, app_mk, app_mk, app_mk, app_mk]
      rw [if_pos (by rw [mkB_size, mkB_size]; omega), if_pos (by simp only [mkB_size, List.length_append, List.length_cons, List.length_nil]; omega), if_pos rfl, if_pos (by omega), if_pos (by rw [List.length_map]; omega), if_pos (by simp only [mkB_size, List.length_append, List.length_cons, List.length_nil]; omega), if_pos (by simp only [mkB_size, List.length_append, List.length_cons, List.length_nil]; omega), wrapS (i := (j : Int) + 1) (by omega) (by omega)]
      exact hK k (by omega)
    · rw [rest_ne hjl hja, unlines_cons] at ht
      rw [rest_ne hjl hja, unlines_cons] at htl
      simp only [List.length_append, List.length_cons] at htl
      obtain ⟨K, hK⟩ := ih (j + 1) (t ++ L.getD j [] ++ [10]) (by omega) (by rw [← ht]; simp)
      refine ⟨K + 1, fun k hk => ?_⟩
      obtain ⟨k, rfl⟩ : ∃ m, k = m + 1 := ⟨k - 1, by omega⟩
      rw [racewaylaw4_DimacsPlaces.l0, if_pos (by rw [List.length_map]; omega), if_pos (by omega), rdOf_map L j hjl, lit1, app_mk, app_mk]
      rw [if_pos (by rw [mkB_size, mkB_size]; omega), if_pos (by simp only [mkB_size, List.length_append, List.length_cons, List.length_nil]; omega), if_neg (by omega), wrapS (i := (j : Int) + 1) (by omega) (by omega)]
      exact hK k (by omega)
theorem DimacsPlaces (a0 a1 : Int) (cs : List S57) (a3 a4 : Int) (h0 : (Lit.int .i64 a0).wf = true) (h1 : (Lit.int .i64 a1).wf = true) (hcs : ∀ c ∈ cs, In64' c.f0 ∧ In64' c.f1 ∧ In64' c.f2) (h3 : (Lit.int .i64 a3).wf = true) (h4 : (Lit.int .i64 a4).wf = true) :
    ∃ k, racewaylaw4_DimacsPlaces.f k a0 a1 cs a3 a4 = some true := by
  obtain ⟨no, so, si, l, K, hK, hR, hl⟩ := made_ok a0 a1 cs (wf64 h0) (wf64 h1) (fun c hc => ⟨wf64 (hcs c hc).1, wf64 (hcs c hc).2.1, wf64 (hcs c hc).2.2⟩)
  have hlen : (netL no so si l).length = 3 + l.length := by simp [netL]; omega
  obtain ⟨i, e1, u1, v1⟩ := pick_some a3 3 (wf64 h3) (by omega)
  obtain ⟨b, e2, u2, v2⟩ := pick_some a4 ((netL no so si l).length - i) (wf64 h4) (by omega)
  obtain ⟨i, rfl⟩ := Int.eq_ofNat_of_zero_le u1
  obtain ⟨b, rfl⟩ := Int.eq_ofNat_of_zero_le u2
  obtain ⟨K2, hK2⟩ := loop_ok hR hl i (i + b) (by omega) (by omega) (by omega) (netL no so si l).length 0 [] (by omega) (by
    unfold rest twice
    rw [if_pos (Nat.zero_le _), List.drop_zero, Nat.sub_zero, List.nil_append])
  have hsz := hR.size
  have el : text_Lines.f (mkB (unlines (netL no so si l))) = some ((netL no so si l).map mkB) := by
    rw [lines_some _ (by rw [mkB_size]; omega)]
    unfold linesB
    rw [mkB_data, lines_all _ (netL_nl no so si l)]
  refine ⟨K + K2, ?_⟩
  unfold racewaylaw4_DimacsPlaces.f
  rw [shown_ok, Option.bind_some, if_pos rfl, hK _ (by omega), Option.bind_some, hR.print, Option.bind_some, if_pos rfl, el, Option.bind_some, e1, Option.bind_some, List.length_map, wrapS (by omega) (by omega), e2, Option.bind_some, wrapS (by omega) (by omega)]
  exact hK2 _ (by omega)
end Go.Proofs.YtgpeppnbgfdaaaaGreatDoor.Pure
