/-
  The reference's Write, Check and Print as plain functions. By an AI agent.
-/
import Derived.Test.YtgpeppnbgfdaaaaGreatDoorRx4
import Derived.Test.YtgpeppnbgfdaaaaGreatDoorPrn
namespace Go.Proofs.YtgpeppnbgfdaaaaGreatDoor.R
open Go.RowKit Go.Lib Go.Proofs.TX Go.Proofs.YtgpeppnbgfdaaaaGreatDoor.H Go.Proofs.YtgpeppnbgfdaaaaGreatDoor.PL Go.Proofs.YtgpeppnbgfdaaaaGreatDoorW.PrintWords Go.Proofs.YtgpeppnbgfdaaaaGreatDoorW.PrintLast

theorem digit_at : ∀ d : Fin 10, (⟨#[48, 49, 50, 51, 52, 53, 54, 55, 56, 57]⟩ : ByteArray).extract d.val (d.val + 1) = mkB [UInt8.ofNat (48 + d.val)] := by decide +kernel
theorem dec_small {u : Nat} (h : u < 10) : decDigits u = [UInt8.ofNat (48 + u)] := by
  rw [decDigits, dif_pos h]
def finB (b : Bool) (l : List UInt8) : ByteArray := if b = true then mkB (45 :: l) else mkB l
theorem empty_iff (x : ByteArray) : (x.toList == ([] : List UInt8)) = decide (x.data.toList = []) := by
  rw [toList_data]
  cases x.data.toList <;> rfl
/-- one digit more -/
theorem write2_step (n : Int) (x3 : ByteArray) (b : Bool) (d : Nat) (hd : d < 10) (n' : Int) (hn : Int.tmod n 10 = d ∨ Int.tmod n 10 = -(d : Int)) (hq : Int.tdiv n 10 = n') (hn1 : -9223372036854775808 ≤ n') (hn2 : n' ≤ 9223372036854775807) (hx : x3.size ≤ 1000) (hne : n ≠ 0 ∨ x3.data.toList = []) (k : Nat) :
    racewayref2_Write.l0 (k + 1 + 1) n x3 b = racewayref2_Write.l0 k n' (mkB ([UInt8.ofNat (48 + d)] ++ x3.data.toList)) b := by
  have hj : racewayref2_Write.l0 (k + 1 + 1) n x3 b = racewayref2_Write.j1 (k + 1) n x3 b true := by
    rw [racewayref2_Write.l0]
    by_cases h0 : n = 0
    · rw [if_pos h0, empty_iff, decide_eq_true (hne.resolve_left (fun h => h h0))]
    · rw [if_neg h0]
  have hneg : (if Int.tmod n 10 < 0 then (wrap64 (-(Int.tmod n 10))) else Int.tmod n 10) = (d : Int) := by
    rcases hn with h | h
    · rw [if_neg (by omega), h]
    · by_cases hz : d = 0
      · subst hz
        rw [h, if_neg (by omega)]
        rfl
      · rw [if_pos (by omega), h, wrapS (i := -(-(d : Int))) (by omega) (by omega)]
        omega
  have hw1 : wrap64 ((d : Int) + 1) = (d : Int) + 1 := wrapS (i := (d : Int) + 1) (by omega) (by omega)
  have hwn : wrap64 n' = n' := wrapS hn1 hn2
  have hex : (⟨#[48, 49, 50, 51, 52, 53, 54, 55, 56, 57]⟩ : ByteArray).extract ((d : Int)).toNat (((d : Int) + 1)).toNat = mkB [UInt8.ofNat (48 + d)] := by
    have := digit_at ⟨d, hd⟩
    rw [Int.toNat_natCast, show ((d : Int) + 1).toNat = d + 1 by omega]
    exact this
  have hc : mkB [UInt8.ofNat (48 + d)] ++ x3 = mkB ([UInt8.ofNat (48 + d)] ++ x3.data.toList) := mkB_app _ _
  have hs : (mkB [UInt8.ofNat (48 + d)]).size + x3.size ≤ 9223372036854775807 := by rw [mkB_size]; simp only [List.length_cons, List.length_nil]; omega
  rw [hj, racewayref2_Write.j1, if_pos rfl]
  by_cases hlt : Int.tmod n 10 < 0
  · rw [if_pos hlt] at hneg
    rw [if_pos hlt, hneg, hw1, if_pos (by omega), if_pos (by omega), if_pos (by omega), hex, if_pos hs, hq, hwn, hc]
  · rw [if_neg hlt] at hneg
    rw [if_neg hlt, hneg, hw1, if_pos (by omega), if_pos (by omega), if_pos (by omega), hex, if_pos hs, hq, hwn, hc]
theorem write2_end (x3 : ByteArray) (b : Bool) (h : x3.data.toList ≠ []) (hx : x3.size ≤ 1000) (k : Nat) : racewayref2_Write.l0 (k + 1 + 1) 0 x3 b = some (finB b x3.data.toList) := by
  rw [racewayref2_Write.l0, if_pos rfl, empty_iff, decide_eq_false h, racewayref2_Write.j1, if_neg (by decide)]
  unfold finB
  cases b with
  | true => rw [if_pos rfl, if_pos (by omega), if_pos rfl, show (⟨#[45]⟩ : ByteArray) = mkB [45] from rfl, mkB_app]; rfl
  | false => rw [if_neg (by decide), if_neg (by decide), mkB_of]
theorem write2_loop (sg : Bool) (b : Bool) : ∀ (u : Nat) (x3 : ByteArray), u ≤ 9223372036854775808 → (sg = false → u ≤ 9223372036854775807) → x3.size + 30 ≤ 1000 + 30 → x3.size + nDigits u ≤ 900 → (u ≠ 0 ∨ x3.data.toList = []) →
    ∃ k, racewayref2_Write.l0 k (if sg = true then -(u : Int) else (u : Int)) x3 b = some (finB b (decDigits u ++ x3.data.toList)) := by
  intro u
  induction u using Nat.strongRecOn with
  | _ u ih =>
    intro x3 hu hu2 hx hx2 hne
    have hd : u % 10 < 10 := Nat.mod_lt _ (by omega)
    have hn : Int.tmod (if sg = true then -(u : Int) else (u : Int)) 10 = ((u % 10 : Nat) : Int) ∨ Int.tmod (if sg = true then -(u : Int) else (u : Int)) 10 = -((u % 10 : Nat) : Int) := by
      cases sg with
      | true =>
        right
        rw [if_pos rfl, Int.neg_tmod, Int.tmod_eq_emod_of_nonneg (by omega)]
        omega
      | false =>
        left
        rw [if_neg (by decide), Int.tmod_eq_emod_of_nonneg (by omega)]
        omega
    have hq : Int.tdiv (if sg = true then -(u : Int) else (u : Int)) 10 = (if sg = true then -((u / 10 : Nat) : Int) else ((u / 10 : Nat) : Int)) := by
      cases sg with
      | true =>
        rw [if_pos rfl, if_pos rfl, Int.neg_tdiv, Int.tdiv_eq_ediv_of_nonneg (by omega)]
        omega
      | false =>
        rw [if_neg (by decide), if_neg (by decide), Int.tdiv_eq_ediv_of_nonneg (by omega)]
        omega
    have hne' : (if sg = true then -(u : Int) else (u : Int)) ≠ 0 ∨ x3.data.toList = [] := by
      rcases hne with h | h
      · left
        cases sg
        · rw [if_neg (by decide)]; omega
        · rw [if_pos rfl]; omega
      · exact .inr h
    have hb1 : -9223372036854775808 ≤ (if sg = true then -((u / 10 : Nat) : Int) else ((u / 10 : Nat) : Int)) := by
      cases sg
      · rw [if_neg (by decide)]; omega
      · rw [if_pos rfl]; omega
    have hb2 : (if sg = true then -((u / 10 : Nat) : Int) else ((u / 10 : Nat) : Int)) ≤ 9223372036854775807 := by
      cases sg
      · rw [if_neg (by decide)]; omega
      · rw [if_pos rfl]; omega
    have step := write2_step _ x3 b (u % 10) hd _ hn hq hb1 hb2 (by omega) hne'
    by_cases hs : u < 10
    · have hu0 : u / 10 = 0 := by omega
      have hz : (if sg = true then -((u / 10 : Nat) : Int) else ((u / 10 : Nat) : Int)) = 0 := by
        rw [hu0]
        cases sg <;> rfl
      refine ⟨0 + 1 + 1 + 1 + 1, ?_⟩
      rw [step (0 + 1 + 1), hz, write2_end _ b (by rw [mkB_data]; simp) (by rw [mkB_size, List.length_append, List.length_singleton, ← size_eq]; omega) 0, mkB_data, dec_small hs, Nat.mod_eq_of_lt hs]
    · have hdig : nDigits u = nDigits (u / 10) + 1 := by
        conv => lhs; rw [nDigits]
        rw [dif_neg hs]
      obtain ⟨k, hk⟩ := ih (u / 10) (by omega) (mkB ([UInt8.ofNat (48 + u % 10)] ++ x3.data.toList)) (by omega) (fun h => by have := hu2 h; omega)
        (by rw [mkB_size, List.length_append, List.length_singleton, ← size_eq]; omega) (by rw [mkB_size, List.length_append, List.length_singleton, ← size_eq]; omega) (.inl (by omega))
      refine ⟨k + 1 + 1, ?_⟩
      rw [step k, hk, mkB_data, decDigits_big hs, List.append_assoc]
theorem nDigits_le (u : Nat) (h : u ≤ 9223372036854775808) : nDigits u ≤ 25 := by
  have h1 := itoa_length_le (-(u : Int)) (by omega) (by omega)
  have h2 : (decDigits u).length ≤ 21 := by
    by_cases h0 : u = 0
    · subst h0; rw [dec_small (by omega)]; decide
    · rw [itoa_neg u (by omega)] at h1
      simp only [List.length_cons] at h1
      omega
  rw [decDigits_length] at h2
  omega
theorem write2_ok (n : Int) (h : In64 n) : Ev (fun k => racewayref2_Write.f k n) (mkB (itoa n)) := by
  have go : ∃ k, racewayref2_Write.l0 k n (⟨#[]⟩ : ByteArray) (decide (n < 0)) = some (mkB (itoa n)) := by
    by_cases hn : n < 0
    · obtain ⟨u, hu⟩ : ∃ u : Nat, n = -(u : Int) := ⟨n.natAbs, by omega⟩
      have hd := nDigits_le u (by unfold In64 at h; omega)
      obtain ⟨k, hk⟩ := write2_loop true true u (⟨#[]⟩ : ByteArray) (by unfold In64 at h; omega) (fun h => by cases h) (by decide) (by show 0 + _ ≤ _; omega) (.inl (by omega))
      refine ⟨k, ?_⟩
      rw [if_pos rfl, ← hu] at hk
      rw [decide_eq_true hn, hk, hu, itoa_neg u (by omega)]
      simp [finB]
    · obtain ⟨u, rfl⟩ := Int.eq_ofNat_of_zero_le (show 0 ≤ n by omega)
      have hd := nDigits_le u (by unfold In64 at h; omega)
      obtain ⟨k, hk⟩ := write2_loop false false u (⟨#[]⟩ : ByteArray) (by unfold In64 at h; omega) (fun _ => by unfold In64 at h; omega) (by decide) (by show 0 + _ ≤ _; omega) (.inr rfl)
      refine ⟨k, ?_⟩
      rw [if_neg (by decide)] at hk
      rw [decide_eq_false hn, hk, itoa_nonneg]
      simp [finB]
  obtain ⟨k, hk⟩ := go
  exact Ev.of (racewayref2_Write.mono n) (k := k) hk

theorem arcs_get {l : List S44} {i : Nat} (h : i < l.length) : rd_T44 l (i : Int) = l[i] := rd_get h
/-- the reference's check, arc by arc -/
theorem check3_loop (no so si : Int) (l : List S44) (hl : l.length ≤ 2000) (hf : ∀ a ∈ l, a.f2 ≤ 9223372036854775807) (d : Nat) : ∀ (i : Nat) (sum e : Int), i + d = l.length → 0 ≤ sum → sum ≤ 4611686018427387903 → checkArcs no sum (l.drop i) = some e →
    ∃ k, racewayref3_Check.l0 k (4611686018427387903 - sum) (i : Int) no so si l = some e := by
  induction d with
  | zero =>
    intro i sum e hi h0 h1 h
    rw [List.drop_eq_nil_of_le (by omega)] at h
    have := Option.some.inj h
    subst this
    refine ⟨1, ?_⟩
    simp only [racewayref3_Check.l0]
    rw [if_neg (by omega)]
  | succ d ih =>
    intro i sum e hi h0 h1 h
    have hil : i < l.length := by omega
    have hfi := hf l[i] (List.getElem_mem hil)
    rw [List.drop_eq_getElem_cons hil] at h
    have hrd := arcs_get hil
    generalize l[i] = x at *
    obtain ⟨f, t, c⟩ := x
    simp only [checkArcs, addF_eq, Option.bind_some] at h
    have step : ∀ k, racewayref3_Check.l0 (k + 1) (4611686018427387903 - sum) (i : Int) no so si l = racewayref3_Check.j3 k (4611686018427387903 - sum) (i : Int) (!(thereB no f && thereB no t)) no so si l f t c := by
      intro k
      rw [racewayref3_Check.l0, if_pos (by omega), if_pos (by omega), hrd]
      simp only
      unfold thereB
      by_cases g1 : f < 1
      · rw [if_pos g1, decide_eq_false (show ¬ 1 ≤ f by omega)]
        rfl
      · rw [if_neg g1, decide_eq_true (show 1 ≤ f by omega)]
        by_cases g2 : f > no
        · rw [if_pos g2, decide_eq_false (show ¬ f ≤ no by omega)]
          rfl
        · rw [if_neg g2, decide_eq_true (show f ≤ no by omega)]
          by_cases g3 : t < 1
          · rw [if_pos g3, decide_eq_false (show ¬ 1 ≤ t by omega)]
            rfl
          · rw [if_neg g3, decide_eq_true (show 1 ≤ t by omega)]
            by_cases g4 : t > no
            · rw [decide_eq_true g4, decide_eq_false (show ¬ t ≤ no by omega)]
              rfl
            · rw [decide_eq_false g4, decide_eq_true (show t ≤ no by omega)]
              rfl
    by_cases p1 : thereB no f = true
    · rw [if_pos p1] at h
      by_cases p2 : thereB no t = true
      · rw [if_pos p2] at h
        rw [p1, p2] at step
        by_cases p3 : c < 0
        · rw [if_pos p3] at h
          have := Option.some.inj h
          subst this
          refine ⟨0 + 1 + 1, ?_⟩
          rw [step, racewayref3_Check.j3, if_neg (by decide), if_pos p3]
        · rw [if_neg p3] at h
          simp only at hfi
          have hadd := addP_lt (a := sum) (b := c) h0 h1 (by omega) hfi
          by_cases p4 : sum + c ≤ 4611686018427387903
          · rw [hadd.1 p4] at h
            simp only at h
            rw [if_pos trivial, if_neg (by omega)] at h
            obtain ⟨k, hk⟩ := ih (i + 1) (sum + c) e (by omega) (by omega) p4 h
            refine ⟨k + 1 + 1, ?_⟩
            rw [step, racewayref3_Check.j3, if_neg (by decide), if_neg p3, if_neg (by omega), wrapS (i := 4611686018427387903 - sum - c) (by omega) (by omega), wrapS (i := (i : Int) + 1) (by omega) (by omega), show (4611686018427387903 : Int) - sum - c = 4611686018427387903 - (sum + c) by omega]
            exact hk
          · have h7 : e = 7 := by
              have hh := hadd.2 (by omega)
              split at h
              · rename_i h2
                rw [if_pos (hh h2)] at h
                exact (Option.some.inj h).symm
              · exact (Option.some.inj h).symm
            subst h7
            refine ⟨0 + 1 + 1, ?_⟩
            rw [step, racewayref3_Check.j3, if_neg (by decide), if_neg p3, if_pos (by omega)]
      · rw [if_neg p2] at h
        have := Option.some.inj h
        subst this
        rw [p1, show thereB no t = false by simpa using p2] at step
        refine ⟨0 + 1 + 1, ?_⟩
        rw [step, racewayref3_Check.j3, if_pos (by decide)]
    · rw [if_neg p1] at h
      have := Option.some.inj h
      subst this
      rw [show thereB no f = false by simpa using p1] at step
      refine ⟨0 + 1 + 1, ?_⟩
      rw [step, racewayref3_Check.j3, if_pos (by rfl)]
theorem check3_ok (no so si e : Int) (l : List S44) (hf : ∀ a ∈ l, a.f2 ≤ 9223372036854775807) (h : net_Check.f no so si l = some e) : Ev (fun k => racewayref3_Check.f k no so si l) e := by
  have go : ∃ k, racewayref3_Check.f k no so si l = some e := by
    unfold net_Check.f at h
    have hf0 : ∀ k, racewayref3_Check.f k no so si l = racewayref3_Check.j0 k (decide (no < 2) || decide (no > 500)) no so si l := by
      intro k
      unfold racewayref3_Check.f
      by_cases g : no < 2
      · rw [if_pos g, decide_eq_true g]; rfl
      · rw [if_neg g, decide_eq_false g]; rfl
    by_cases q1 : no < 2
    · rw [if_pos q1] at h
      have := Option.some.inj h
      subst this
      refine ⟨0 + 1, ?_⟩
      rw [hf0, decide_eq_true q1, racewayref3_Check.j0, if_pos (by rfl)]
    · rw [if_neg q1] at h
      by_cases q2 : no > 500
      · rw [if_pos q2] at h
        have := Option.some.inj h
        subst this
        refine ⟨0 + 1, ?_⟩
        rw [hf0, decide_eq_true q2, Bool.or_true, racewayref3_Check.j0, if_pos rfl]
      · rw [if_neg q2] at h
        have hj0 : ∀ k, racewayref3_Check.j0 (k + 1) (decide (no < 2) || decide (no > 500)) no so si l = racewayref3_Check.j1 k (!(thereB no so && thereB no si)) no so si l := by
          intro k
          rw [decide_eq_false q1, decide_eq_false q2, racewayref3_Check.j0, if_neg (by decide)]
          unfold thereB
          by_cases g1 : so < 1
          · rw [if_pos g1, decide_eq_false (show ¬ 1 ≤ so by omega)]
            rfl
          · rw [if_neg g1, decide_eq_true (show 1 ≤ so by omega)]
            by_cases g2 : so > no
            · rw [if_pos g2, decide_eq_false (show ¬ so ≤ no by omega)]
              rfl
            · rw [if_neg g2, decide_eq_true (show so ≤ no by omega)]
              by_cases g3 : si < 1
              · rw [if_pos g3, decide_eq_false (show ¬ 1 ≤ si by omega)]
                rfl
              · rw [if_neg g3, decide_eq_true (show 1 ≤ si by omega)]
                by_cases g4 : si > no
                · rw [decide_eq_true g4, decide_eq_false (show ¬ si ≤ no by omega)]
                  rfl
                · rw [decide_eq_false g4, decide_eq_true (show si ≤ no by omega)]
                  rfl
        by_cases q3 : thereB no so = true
        · rw [if_pos q3] at h
          by_cases q4 : thereB no si = true
          · rw [if_pos q4] at h
            rw [q3, q4] at hj0
            by_cases q5 : so = si
            · rw [if_pos q5] at h
              have := Option.some.inj h
              subst this
              refine ⟨0 + 1 + 1, ?_⟩
              rw [hf0, hj0, racewayref3_Check.j1, if_neg (by decide), if_pos q5]
            · rw [if_neg q5] at h
              by_cases q6 : (l.length : Int) > 2000
              · rw [if_pos q6] at h
                have := Option.some.inj h
                subst this
                refine ⟨0 + 1 + 1, ?_⟩
                rw [hf0, hj0, racewayref3_Check.j1, if_neg (by decide), if_neg q5, if_pos q6]
              · rw [if_neg q6] at h
                obtain ⟨k, hk⟩ := check3_loop no so si l (by omega) hf l.length 0 0 e (by omega) (by omega) (by omega) (by simpa using h)
                refine ⟨k + 1 + 1, ?_⟩
                rw [hf0, hj0, racewayref3_Check.j1, if_neg (by decide), if_neg q5, if_neg q6]
                exact hk
          · rw [if_neg q4] at h
            have := Option.some.inj h
            subst this
            rw [q3, show thereB no si = false by simpa using q4] at hj0
            refine ⟨0 + 1 + 1, ?_⟩
            rw [hf0, hj0, racewayref3_Check.j1, if_pos (by decide)]
        · rw [if_neg q3] at h
          have := Option.some.inj h
          subst this
          rw [show thereB no so = false by simpa using q3] at hj0
          refine ⟨0 + 1 + 1, ?_⟩
          rw [hf0, hj0, racewayref3_Check.j1, if_pos (by rfl)]
  obtain ⟨k, hk⟩ := go
  exact Ev.of (racewayref3_Check.mono no so si l) hk

theorem arcB_eq (f t c : Int) : arcB ⟨f, t, c⟩ = [97, 32] ++ itoa f ++ [32] ++ itoa t ++ [32] ++ itoa c ++ [10] := by
  simp [arcB, writeL]
theorem itoa_le {n : Int} (h : In64 n) : (itoa n).length ≤ 21 := itoa_length_le n h.1 h.2
theorem print4_loop (no so si : Int) (l : List S44) (hl : l.length ≤ 2000) (hf : ∀ a ∈ l, In64 a.f0 ∧ In64 a.f1 ∧ In64 a.f2) (d : Nat) : ∀ (i : Nat) (x : List UInt8), i + d = l.length → x.length ≤ 1000 + 100 * i →
    ∃ K, ∀ k, K ≤ k → racewayref4_Print.l0 k (mkB x) (i : Int) no so si l = some (mkB (x ++ (l.drop i).flatMap arcB), 0) := by
  induction d with
  | zero =>
    intro i x hi hx
    refine ⟨1, fun k hk => ?_⟩
    obtain ⟨m, rfl⟩ : ∃ m, k = m + 1 := ⟨k - 1, by omega⟩
    rw [racewayref4_Print.l0, if_neg (by omega), List.drop_eq_nil_of_le (by omega), List.flatMap_nil, List.append_nil]
  | succ d ih =>
    intro i x hi hx
    have hil : i < l.length := by omega
    have hfi := hf l[i] (List.getElem_mem hil)
    have hal := arcB_le hfi
    have hrd := arcs_get hil
    rw [List.drop_eq_getElem_cons hil, List.flatMap_cons]
    generalize l[i] = a at *
    obtain ⟨f, t, c⟩ := a
    simp only at hfi
    obtain ⟨K0, h0⟩ := write2_ok f hfi.1
    obtain ⟨K1, h1⟩ := write2_ok t hfi.2.1
    obtain ⟨K2, h2⟩ := write2_ok c hfi.2.2
    have l0 := itoa_le hfi.1
    have l1 := itoa_le hfi.2.1
    have l2 := itoa_le hfi.2.2
    obtain ⟨K3, h3⟩ := ih (i + 1) (x ++ arcB ⟨f, t, c⟩) (by omega) (by rw [List.length_append]; omega)
    refine ⟨K0 + K1 + K2 + K3 + 1, fun k hk => ?_⟩
    obtain ⟨m, rfl⟩ : ∃ m, k = m + 1 := ⟨k - 1, by omega⟩
    rw [racewayref4_Print.l0, if_pos (by omega), if_pos (by omega), hrd]
    simp only [h0 m (by omega), h1 m (by omega), h2 m (by omega), Option.bind_some, mkB_app, mkB_data, mkB_size, List.length_append]
    rw [if_pos (by omega), if_pos (by simp; omega), if_pos (by simp; omega), if_pos (by simp; omega), if_pos (by simp; omega), if_pos (by simp; omega), if_pos (by simp; omega), wrapS (i := (i : Int) + 1) (by omega) (by omega)]
    have e : x ++ [97, 32] ++ itoa f ++ [32] ++ itoa t ++ [32] ++ itoa c ++ [10] = x ++ arcB ⟨f, t, c⟩ := by rw [arcB_eq]; simp
    have h3' := h3 m (by omega)
    rw [List.append_assoc] at h3'
    rw [← h3', ← e]
    rfl
theorem headB_eq (no so si : Int) (n : Nat) : headB no so si n = [112, 32, 109, 97, 120, 32] ++ itoa no ++ [32] ++ itoa (n : Int) ++ [10, 110, 32] ++ itoa so ++ [32, 115, 10, 110, 32] ++ itoa si ++ [32, 116, 10] := by
  simp [headB, writeL]
theorem print4_ok (no so si : Int) (l : List S44) (r : ByteArray × Int) (h : dimacs_Print.f no so si l = some r) : Ev (fun k => racewayref4_Print.f k no so si l) r := by
  unfold dimacs_Print.f at h
  split at h
  case isFalse => cases h
  case isTrue hall =>
  have hf2 : ∀ a ∈ l, a.f2 ≤ 9223372036854775807 := fun a ha => of_decide_eq_true (List.all_eq_true.1 hall a ha)
  obtain ⟨e, hK, h⟩ := Option.bind_eq_some_iff.1 h
  obtain ⟨K, hC⟩ := check3_ok no so si e l hf2 hK
  by_cases he : e = 0
  · subst he
    rw [if_pos rfl] at h
    obtain rfl := Option.some.inj h
    obtain ⟨q1, q2, q3, q4, q5, q6, q7, q8, q9⟩ := check_in hK
    have hin := checkArcs_in no q2 l 0 q9
    have HIN : ∀ a ∈ l, In64 a.f0 ∧ In64 a.f1 ∧ In64 a.f2 := fun a ha => by
      have h1 := hin a ha
      have h2 := hf2 a ha
      unfold In64
      omega
    have i0 : In64 no := by unfold In64; omega
    have i1 : In64 (l.length : Int) := by unfold In64; omega
    have i2 : In64 so := by unfold In64; omega
    have i3 : In64 si := by unfold In64; omega
    obtain ⟨K0, h0⟩ := write2_ok no i0
    obtain ⟨K1, h1⟩ := write2_ok (l.length : Int) i1
    obtain ⟨K2, h2⟩ := write2_ok so i2
    obtain ⟨K3, h3⟩ := write2_ok si i3
    have l0 := itoa_le i0
    have l1 := itoa_le i1
    have l2 := itoa_le i2
    have l3 := itoa_le i3
    have hH := headB_le (n := l.length) i0 i2 i3 i1
    obtain ⟨K4, h4⟩ := print4_loop no so si l q8 HIN l.length 0 (headB no so si l.length) (by omega) (by omega)
    refine ⟨K + K0 + K1 + K2 + K3 + K4, fun k hk => ?_⟩
    have h4' := h4 k (by omega)
    rw [List.drop_zero] at h4'
    simp only [racewayref4_Print.f, hC k (by omega), h0 k (by omega), h1 k (by omega), h2 k (by omega), h3 k (by omega), Option.bind_some]
    rw [if_pos trivial]
    rw [headB_eq] at h4'
    have m0 : (⟨#[112, 32, 109, 97, 120, 32]⟩ : ByteArray) = mkB [112, 32, 109, 97, 120, 32] := rfl
    simp only [m0, mkB_app, mkB_data, mkB_size, List.length_append]
    rw [if_pos (by omega), if_pos (by simp; omega), if_pos (by simp; omega), if_pos (by simp; omega), if_pos (by simp; omega), if_pos (by simp; omega), if_pos (by simp; omega), if_pos (by simp; omega)]
    unfold printF
    rw [headB_eq]
    exact h4'
  · rw [if_neg he] at h
    obtain rfl := Option.some.inj h
    refine ⟨K, fun k hk => ?_⟩
    simp only [racewayref4_Print.f, hC k hk, Option.bind_some]
    rw [if_neg he]
    rfl

theorem checkArcs_total (no : Int) : ∀ (l : List S44) (sum : Int), ∃ e, checkArcs no sum l = some e
  | [], _ => ⟨0, rfl⟩
  | a :: l, sum => by
    simp only [checkArcs, addF_eq, Option.bind_some]
    repeat' split
    all_goals first
      | exact ⟨_, rfl⟩
      | exact checkArcs_total no l _
theorem net_Check_total (no so si : Int) (l : List S44) : ∃ e, net_Check.f no so si l = some e := by
  unfold net_Check.f
  repeat' split
  all_goals first
    | exact ⟨_, rfl⟩
    | exact checkArcs_total no l _
theorem print_total (no so si : Int) (l : List S44) (h : ∀ a ∈ l, a.f2 ≤ 9223372036854775807) : ∃ r, dimacs_Print.f no so si l = some r := by
  obtain ⟨e, he⟩ := net_Check_total no so si l
  unfold dimacs_Print.f
  rw [if_pos (List.all_eq_true.2 (fun a ha => decide_eq_true (h a ha))), he, Option.bind_some]
  split <;> exact ⟨_, rfl⟩
end Go.Proofs.YtgpeppnbgfdaaaaGreatDoor.R
