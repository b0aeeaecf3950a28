/-
  Blanks of any kind between words, noughts ahead of numbers, and notes between lines change no network: the plain statement. Conditions: none but that the numbers are of 64 bits.
-/
import Derived.Test.YtgpeppnbgfdaaaaGreatDoorSpaceP
import Derived.Test.YtgpeppnbgfdaaaaGreatDoorRx7
import Derived.ChangeSlices
namespace Go.Proofs.YtgpeppnbgfdaaaaGreatDoor.R
open Go.ChangeShapes Go.WideShapes Go.Deep Go.RowKit Go.Proofs.YtgpeppnbgfdaaaaGreatDoorW.PrintWords
theorem open_int_row {H : Type} {enc : TypeId × Value → H} {P : Program} {w : World} {t e : TypeId} {fuel : Nat} {cs : List Value} {x : DataW H × List MemPlace} (ht : P.underlying t = some (.slice e)) (he : P.underlying e = some (.int .i64)) (hC : P.cellsOf e = 1)
    (h : DataW.trod enc P w 0 (fun _ => true) true fuel t cs = some x) :
    ∃ (A : Option Addr) (cap : Nat) (l : List Int), cs = [.slice A l.length cap] ∧ l.length ≤ cap ∧ Kd.C (Kd.int .i64) w A l.length l ∧ ∀ n ∈ l, In64' n := by
  rcases Go.ChangeShapes.open_ints ht he hC h with ⟨hc0, _⟩ | ⟨a, len, cap, zs, hcs, _, hl, hm, hz, _, hcell, hw⟩
  · exact ⟨none, 0, [], hc0, Nat.le_refl _, ⟨rfl, by simp, fun hp => absurd hp (by simp)⟩, fun p hp => by cases hp⟩
  · rw [if_pos rfl] at hz
    have hlen : (zs.take len).length = len := by rw [List.length_take]; omega
    refine ⟨some a, cap, zs.take len, by rw [hlen]; exact hcs, by omega, ⟨rfl, by unfold maxLen at hm; omega, fun hp => ⟨a, rfl, fun j p hj => ?_⟩⟩, fun n hn => hw n (List.mem_of_mem_take hn)⟩
    obtain ⟨hjl, rfl⟩ := List.getElem?_eq_some_iff.1 hj
    refine ⟨[.int .i64 (zs.take len)[j]], rfl, rfl, fun i u hu => ?_⟩
    have h1 : i = 0 := by
      have := (List.getElem?_eq_some_iff.1 hu).1
      simp at this
      exact this
    subst h1
    simp only [List.getElem?_cons_zero, Option.some.injEq] at hu
    subst hu
    have hjz : j < zs.length := by omega
    have := hcell j hjz
    rw [show zs.getD j 0 = (zs.take len)[j] from by simp [List.getD_eq_getElem?_getD, hjz]] at this
    show w.cell? (a.add (j * 1 + 0)) = _
    rw [Nat.mul_one, Nat.add_zero]
    exact this
end Go.Proofs.YtgpeppnbgfdaaaaGreatDoor.R
namespace Go.Proofs.YtgpeppnbgfdaaaaGreatDoor.Pure
set_option linter.unusedVariables false
set_option linter.unusedSimpArgs false
open Go.RowKit Go.Lib Go.Proofs.TX Go.Proofs.YtgpeppnbgfdaaaaGreatDoor.R Go.Proofs.YtgpeppnbgfdaaaaGreatDoor.H Go.Proofs.YtgpeppnbgfdaaaaGreatDoor.PL Go.Proofs.YtgpeppnbgfdaaaaGreatDoorW.PrintWords Go.Proofs.YtgpeppnbgfdaaaaGreatDoorW.PrintLast
theorem app_mk (a b : List UInt8) : mkB a ++ mkB b = mkB (a ++ b) := by
  have := mkB_app a (mkB b)
  rwa [mkB_data] at this
def kindsB : List ByteArray := [(⟨#[32]⟩ : ByteArray), (⟨#[9]⟩ : ByteArray), (⟨#[32, 32]⟩ : ByteArray), (⟨#[32, 13, 32]⟩ : ByteArray), (⟨#[9, 9, 32, 48]⟩ : ByteArray), (⟨#[32, 48, 48]⟩ : ByteArray)]
theorem kind_at (p : Nat) (h : p < 6) : ∃ b : List UInt8, rdOf ByteArray.empty kindsB (p : Int) = mkB b ∧ b.length ≤ 4 ∧ (p < 4 → b ∈ blanks4) ∧ (b ∈ blanks4 ∨ b ∈ zeros2) := by
  match p, h with
  | 0, _ => exact ⟨[32], rfl, by decide, fun _ => by decide, by decide⟩
  | 1, _ => exact ⟨[9], rfl, by decide, fun _ => by decide, by decide⟩
  | 2, _ => exact ⟨[32, 32], rfl, by decide, fun _ => by decide, by decide⟩
  | 3, _ => exact ⟨[32, 13, 32], rfl, by decide, fun _ => by decide, by decide⟩
  | 4, _ => exact ⟨[9, 9, 32, 48], rfl, by decide, fun h => by omega, by decide⟩
  | 5, _ => exact ⟨[32, 48, 48], rfl, by decide, fun h => by omega, by decide⟩
theorem rd_in (l : List Int) (h : ∀ n ∈ l, In64 n) (i : Int) : In64 (rd l i) := by
  unfold rd
  rw [List.getD_eq_getElem?_getD]
  cases hq : l[i.toNat]? with
  | none => unfold In64; decide
  | some y => exact h y (List.mem_of_getElem? hq)
theorem ext_mk (s : List UInt8) (j : Nat) (h : j < s.length) : (mkB s).extract j (j + 1) = mkB [s[j]] := by
  have e : ((mkB s).extract j (j + 1)).data.toList = [s[j]] := by
    rw [← toList_data, Go.Lib.extract_toList, mkB_data, show j + 1 - j = 1 by omega, List.drop_eq_getElem_cons h]
    rfl
  have : (mkB s).extract j (j + 1) = mkB ((mkB s).extract j (j + 1)).data.toList := rfl
  rw [this, e]
theorem same_refl (n0 n1 n2 : Int) (l : List S44) (h : l.length ≤ 1000) : net_Same.f n0 n1 n2 l n0 n1 n2 l = some true := by
  have e : ∀ m : List S44, sameArcs m m = true := by
    intro m
    induction m with
    | nil => rfl
    | cons a m ih => simp [sameArcs, arcEq, ih]
  unfold net_Same.f
  rw [if_pos (by omega), e l]
  simp
set_option maxHeartbeats 2000000 in
theorem loop_ok {no so si : Int} {l : List S44} (hl : l.length ≤ 24) (bs : List Int) (hbs : ∀ n ∈ bs, In64 n) (hbl : bs.length ≤ 200) (s : List UInt8) (hs : s.length ≤ 10000) (hlast : ∀ j, (h : j < s.length) → s[j] = 32 → j + 1 < s.length) (d : Nat) :
    ∀ (j q : Nat) (t : List UInt8), j + d = s.length → q ≤ bs.length → t.length ≤ 20 * j → (∀ t', Sp (s.drop j) t' → parseP (t ++ t') = (no, so, si, l, 0, 0)) →
      ∃ K, ∀ k, K ≤ k → racewaylaw4_DimacsSpaces.l0 k bs (mkB s) kindsB (mkB t) (q : Int) (j : Int) no so si l = some true := by
  induction d with
  | zero =>
    intro j q t hj hq ht hg
    refine ⟨1, fun k hk => ?_⟩
    obtain ⟨k, rfl⟩ : ∃ m, k = m + 1 := ⟨k - 1, by omega⟩
    have := hg [] (by rw [List.drop_eq_nil_of_le (by omega)]; exact Sp.nil)
    rw [List.append_nil] at this
    rw [racewaylaw4_DimacsSpaces.l0, if_neg (by rw [mkB_size]; omega), parse_some _ (by rw [mkB_size]; omega), Option.bind_some, mkB_data, this, if_pos rfl, if_pos rfl, same_refl no so si l (by omega)]
    rfl
  | succ d ih =>
    intro j q t hj hq ht hg
    have hjl : j < s.length := by omega
    have hc : Aside0 (bt (mkB s) (j : Int) = (s[j].toNat : Int)) := ⟨bt_some _ _ _ (by rw [mkB_data]; exact List.getElem?_eq_getElem hjl)⟩
    have w1 : Aside0 (wrap64 ((j : Int) + 1) = ((j + 1 : Nat) : Int)) := ⟨wrapS (i := (j : Int) + 1) (by omega) (by omega)⟩
    have w2 : Aside0 (wrap64 ((q : Int) + 1) = ((q + 1 : Nat) : Int)) := ⟨wrapS (i := (q : Int) + 1) (by omega) (by omega)⟩
    have hd : s.drop j = s[j] :: s.drop (j + 1) := List.drop_eq_getElem_cons hjl
    by_cases hsp : s[j] = 32 ∧ q < bs.length
    · obtain ⟨h32, hqb⟩ := hsp
      have hj1 := hlast j hjl h32
      have hd1 : s.drop (j + 1) = s[j + 1] :: s.drop (j + 2) := List.drop_eq_getElem_cons hj1
      have hc1 : Aside0 (bt (mkB s) ((j + 1 : Nat) : Int) = (s[j + 1].toNat : Int)) := ⟨bt_some _ _ _ (by rw [mkB_data]; exact List.getElem?_eq_getElem hj1)⟩
      obtain ⟨p, e1, u1, v1⟩ := pick_some (rd bs (q : Int)) 6 (rd_in bs hbs _) (by omega)
      obtain ⟨p', e2, u2, v2⟩ := pick_some (rd bs (q : Int)) 4 (rd_in bs hbs _) (by omega)
      obtain ⟨p, rfl⟩ := Int.eq_ofNat_of_zero_le u1
      obtain ⟨p', rfl⟩ := Int.eq_ofNat_of_zero_le u2
      obtain ⟨b, eb, bl, b4, bo⟩ := kind_at p (by omega)
      obtain ⟨b', eb', bl', b4', _⟩ := kind_at p' (by omega)
      by_cases hdg : digC s[j + 1] = true
      · have hd10 := (digC_iff _).1 hdg
        obtain ⟨K, hK⟩ := ih (j + 1) (q + 1) (t ++ b) (by omega) (by omega) (by rw [List.length_append]; omega) (fun t' ht' => by
          have := hg (b ++ t') (by
            rw [hd, h32]
            rcases bo with bo | bo
            · exact Sp.blank bo ht'
            · rw [hd1] at ht' ⊢
              exact Sp.zero bo hdg ht')
          rwa [← List.append_assoc] at this)
        refine ⟨K + 3, fun k hk => ?_⟩
        obtain ⟨k, rfl⟩ : ∃ m, k = m + 1 + 1 + 1 := ⟨k - 3, by omega⟩
        rw [racewaylaw4_DimacsSpaces.l0, if_pos (by rw [mkB_size]; omega), if_pos (by omega), hc.out, if_pos (by rw [h32]; rfl), decide_eq_true (show (q : Int) < bs.length by omega), racewaylaw4_DimacsSpaces.j2, if_pos rfl, if_pos (by omega), if_pos (by omega), e1, Option.bind_some, if_pos (by omega), if_pos (by show (p : Int) < 6; omega), w1.out, if_pos (by rw [mkB_size]; omega), if_pos (by omega), hc1.out, if_neg (by omega), decide_eq_false (by omega), racewaylaw4_DimacsSpaces.j3, if_neg (by decide), eb, if_pos (by rw [mkB_size, mkB_size]; omega), app_mk, w2.out, w1.out]
        exact hK k (by omega)
      · have hd10 : s[j + 1].toNat < 48 ∨ 57 < s[j + 1].toNat := by
          rw [digC_iff] at hdg
          omega
        obtain ⟨K, hK⟩ := ih (j + 1) (q + 1) (t ++ b') (by omega) (by omega) (by rw [List.length_append]; omega) (fun t' ht' => by
          have := hg (b' ++ t') (by
            rw [hd, h32]
            exact Sp.blank (b4' (by omega)) ht')
          rwa [← List.append_assoc] at this)
        have e3' : ∀ m, racewaylaw4_DimacsSpaces.j3 (m + 1) bs (mkB s) kindsB (mkB t) (q : Int) (j : Int) (rdOf ByteArray.empty kindsB (p : Int)) true no so si l = racewaylaw4_DimacsSpaces.l0 m bs (mkB s) kindsB (mkB (t ++ b')) ((q + 1 : Nat) : Int) ((j + 1 : Nat) : Int) no so si l := by
          intro m
          rw [racewaylaw4_DimacsSpaces.j3, if_pos rfl, if_pos (by omega), if_pos (by omega), e2, Option.bind_some, if_pos (by omega), if_pos (by show (p' : Int) < 6; omega), eb', if_pos (by rw [mkB_size, mkB_size]; omega), app_mk, w2.out, w1.out]
        refine ⟨K + 3, fun k hk => ?_⟩
        obtain ⟨k, rfl⟩ : ∃ m, k = m + 1 + 1 + 1 := ⟨k - 3, by omega⟩
        rw [racewaylaw4_DimacsSpaces.l0, if_pos (by rw [mkB_size]; omega), if_pos (by omega), hc.out, if_pos (by rw [h32]; rfl), decide_eq_true (show (q : Int) < bs.length by omega), racewaylaw4_DimacsSpaces.j2, if_pos rfl, if_pos (by omega), if_pos (by omega), e1, Option.bind_some, if_pos (by omega), if_pos (by show (p : Int) < 6; omega), w1.out, if_pos (by rw [mkB_size]; omega), if_pos (by omega), hc1.out]
        by_cases h48 : (s[j + 1].toNat : Int) < 48
        · rw [if_pos h48, e3']
          exact hK k (by omega)
        · rw [if_neg h48, decide_eq_true (by omega), e3']
          exact hK k (by omega)
    · have hext : (mkB s).extract ((j : Int)).toNat (((j + 1 : Nat) : Int)).toNat = mkB [s[j]] := ext_mk s j hjl
      have key : ∀ m, racewaylaw4_DimacsSpaces.l0 (m + 1 + 1) bs (mkB s) kindsB (mkB t) (q : Int) (j : Int) no so si l = racewaylaw4_DimacsSpaces.j2 (m + 1) bs (mkB s) kindsB (mkB t) (q : Int) (j : Int) false no so si l := by
        intro m
        rw [racewaylaw4_DimacsSpaces.l0, if_pos (by rw [mkB_size]; omega), if_pos (by omega), hc.out]
        by_cases h32 : s[j] = 32
        · rw [if_pos (by rw [h32]; rfl), decide_eq_false (by have : ¬ q < bs.length := fun h => hsp ⟨h32, h⟩; omega)]
        · rw [if_neg (by intro e; apply h32; apply UInt8.toNat_inj.1; show s[j].toNat = 32; omega)]
      by_cases h10 : s[j] = 10
      · obtain ⟨K, hK⟩ := ih (j + 1) q (t ++ [10]) (by omega) (by omega) (by rw [List.length_append]; simp only [List.length_cons, List.length_nil]; omega) (fun t' ht' => by
          have := hg (10 :: t') (by rw [hd, h10]; exact Sp.nl ht')
          rw [List.append_assoc]; exact this)
        obtain ⟨K2, hK2⟩ := ih (j + 1) q (t ++ [10] ++ noteB) (by omega) (by omega) (by rw [List.length_append, List.length_append]; simp only [noteB, List.length_cons, List.length_nil]; omega) (fun t' ht' => by
          have := hg (10 :: (noteB ++ t')) (by rw [hd, h10]; exact Sp.note ht')
          rw [List.append_assoc, List.append_assoc]; exact this)
        refine ⟨K + K2 + 2, fun k hk => ?_⟩
        obtain ⟨k, rfl⟩ : ∃ m, k = m + 1 + 1 := ⟨k - 2, by omega⟩
        rw [key, racewaylaw4_DimacsSpaces.j2, if_neg (by decide), if_pos (by omega), w1.out, if_pos (by omega), if_pos (by rw [mkB_size]; omega), hext, if_pos (by simp only [mkB_size, List.length_cons, List.length_nil]; omega), if_pos (by rw [mkB_size]; omega), hc.out, if_pos (by rw [h10]; rfl), app_mk, h10]
        by_cases hqb : (q : Int) < bs.length
        · obtain ⟨p, e1, u1, v1⟩ := pick_some (rd bs (q : Int)) 3 (rd_in bs hbs _) (by omega)
          rw [if_pos hqb, if_pos (by omega), e1, Option.bind_some]
          by_cases hp : p = 0
          · rw [if_pos hp, if_pos (by rw [mkB_size, List.length_append]; simp only [List.length_cons, List.length_nil]; omega), show (⟨#[99, 32, 112, 32, 109, 97, 120, 32, 57, 32, 57, 10, 9, 10]⟩ : ByteArray) = mkB noteB from rfl, app_mk]
            exact hK2 k (by omega)
          · rw [if_neg hp]
            exact hK k (by omega)
        · rw [if_neg hqb]
          exact hK k (by omega)
      · obtain ⟨K, hK⟩ := ih (j + 1) q (t ++ [s[j]]) (by omega) (by omega) (by rw [List.length_append]; simp only [List.length_cons, List.length_nil]; omega) (fun t' ht' => by
          have := hg (s[j] :: t') (by rw [hd]; exact Sp.keep h10 ht')
          rw [List.append_assoc]; exact this)
        refine ⟨K + 2, fun k hk => ?_⟩
        obtain ⟨k, rfl⟩ : ∃ m, k = m + 1 + 1 := ⟨k - 2, by omega⟩
        rw [key, racewaylaw4_DimacsSpaces.j2, if_neg (by decide), if_pos (by omega), w1.out, if_pos (by omega), if_pos (by rw [mkB_size]; omega), hext, if_pos (by simp only [mkB_size, List.length_cons, List.length_nil]; omega), if_pos (by rw [mkB_size]; omega), hc.out, if_neg (by intro e; apply h10; apply UInt8.toNat_inj.1; show s[j].toNat = 10; omega), app_mk]
        exact hK k (by omega)
theorem unlines_end : ∀ L : List (List UInt8), L ≠ [] → ∃ A, unlines L = A ++ [10]
  | [], h => absurd rfl h
  | [x], _ => ⟨x, by simp [unlines]⟩
  | x :: y :: L, _ => by
    obtain ⟨A, e⟩ := unlines_end (y :: L) (by simp)
    exact ⟨x ++ 10 :: A, by rw [unlines_cons, e]; simp⟩
theorem DimacsSpaces (a0 a1 : Int) (cs : List S57) (bs : List Int) (h0 : (Lit.int .i64 a0).wf = true) (h1 : (Lit.int .i64 a1).wf = true) (hcs : ∀ c ∈ cs, In64' c.f0 ∧ In64' c.f1 ∧ In64' c.f2) (hbs : ∀ n ∈ bs, In64' n) :
    ∃ k, racewaylaw4_DimacsSpaces.f k a0 a1 cs bs = some true := by
  obtain ⟨no, so, si, l, K, hK, hR, hl⟩ := made_ok a0 a1 cs (wf64 h0) (wf64 h1) (fun c hc => ⟨wf64 (hcs c hc).1, wf64 (hcs c hc).2.1, wf64 (hcs c hc).2.2⟩)
  unfold racewaylaw4_DimacsSpaces.f
  simp only [shown_ok, Option.bind_some]
  by_cases hb : (bs.length : Int) > 200
  · refine ⟨0 + 1, ?_⟩
    rw [if_pos trivial, decide_eq_true hb, racewaylaw4_DimacsSpaces.j0, if_pos rfl]
  · have hsz := hR.size
    have hlast : ∀ j, (h : j < (unlines (netL no so si l)).length) → (unlines (netL no so si l))[j] = 32 → j + 1 < (unlines (netL no so si l)).length := by
      obtain ⟨A, e⟩ := unlines_end (netL no so si l) (by simp [netL])
      rw [e]
      intro j h h32
      rw [List.length_append] at h ⊢
      simp only [List.length_cons, List.length_nil] at h ⊢
      by_cases hj : j < A.length
      · omega
      · have : j = A.length := by omega
        subst this
        rw [List.getElem_append_right (by omega)] at h32
        simp at h32
    obtain ⟨K2, hK2⟩ := loop_ok (no := no) (so := so) (si := si) (l := l) hl bs (fun n hn => wf64 (hbs n hn)) (by omega) (unlines (netL no so si l)) (by omega) hlast (unlines (netL no so si l)).length 0 0 [] (by omega) (by omega) (by simp) (fun t' ht' => by
      rw [List.nil_append]
      rw [List.drop_zero] at ht'
      exact hR.spaced ht')
    refine ⟨K + K2 + 1, ?_⟩
    rw [if_pos trivial, decide_eq_false hb, racewaylaw4_DimacsSpaces.j0, if_neg (by decide), hK _ (by omega), Option.bind_some, hR.print, Option.bind_some, if_pos rfl]
    exact hK2 _ (by omega)
end Go.Proofs.YtgpeppnbgfdaaaaGreatDoor.Pure
