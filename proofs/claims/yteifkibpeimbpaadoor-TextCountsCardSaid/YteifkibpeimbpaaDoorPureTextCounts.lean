/-
  TextCounts, plain: numbers are written in as many signs as they need, the greater one of two above nothing in no fewer; what they say, digit by digit, is themselves. By an AI agent.
-/
import Derived.Test.YteifkibpeimbpaaDoorQx2
import Derived.Test.YteifkibpeimbpaaDoorPlain
namespace Go.Proofs.YteifkibpeimbpaaDoor.Pure
open Go.RowKit Go.Lib Go.Proofs.TX Go.Proofs.YteifkibpeimbpaaDoor.Q Go.Proofs.YteifkibpeimbpaaDoor.H Go.Proofs.YteifkibpeimbpaaDoor.PL Go.Proofs.YteifkibpeimbpaaDoorW.PrintWords Go.Proofs.YteifkibpeimbpaaDoorW.PrintLast

theorem nDigits_mono : ∀ (v u : Nat), u ≤ v → nDigits u ≤ nDigits v := by
  intro v
  induction v using Nat.strongRecOn with
  | _ v ih =>
    intro u h
    by_cases hu : u < 10
    · rw [nDigits_small hu]; exact nDigits_pos v
    · rw [nDigits_big hu, nDigits_big (by omega : ¬ v < 10)]
      have := ih (v / 10) (by omega) (u / 10) (by omega)
      omega
theorem itoa_length (n : Int) : (itoa n).length = (if n < 0 then 1 else 0) + nDigits n.natAbs := by
  unfold itoa
  split
  · rw [List.length_cons, decDigits_length]; omega
  · rw [decDigits_length, show n.toNat = n.natAbs by omega]; omega
theorem dec_head (u : Nat) (h1 : 1 ≤ u) : ∃ c r, decDigits u = c :: r ∧ c ≠ 48 := by
  induction u using Nat.strongRecOn with
  | _ u ih =>
    by_cases h : u < 10
    · rw [decDigits_one h]
      refine ⟨_, _, rfl, ?_⟩
      intro e
      have := ofNat_dig u h
      rw [e] at this
      simp at this
      omega
    · obtain ⟨c, r, e, hc⟩ := ih (u / 10) (by omega) (by omega)
      rw [decDigits_big h, e]
      exact ⟨c, _, rfl, hc⟩

theorem shown_ok : racewaylaw2_shown.f = some true := by
  unfold racewaylaw2_shown.f
  rw [num_some _ (by decide), Option.bind_some, show numL (⟨#[45, 48, 48, 55]⟩ : ByteArray).data.toList = (-7, 0) by decide +kernel]
  rfl

/-- the value of a prefix, and of one more digit -/
theorem val_take (l : List UInt8) (i : Nat) (h : i < l.length) : val 0 (l.take (i + 1)) = val 0 (l.take i) * 10 + ((l[i]).toNat - 48) := by
  rw [List.take_succ_eq_append_getElem h, val_append]
theorem val_take_le (l : List UInt8) : ∀ (d i : Nat), i + d = l.length → val 0 (l.take i) ≤ val 0 l
  | 0, i, h => by rw [List.take_of_length_le (by omega)]; exact Nat.le_refl _
  | d + 1, i, h => by
    have h1 := val_take l i (by omega)
    have h2 := val_take_le l d (i + 1) (by omega)
    omega

/-- what stands behind the loop -/
theorem tail_ok (a b : Int) (ha : -9223372036854775808 ≤ a ∧ a ≤ 9223372036854775807) (hb : -9223372036854775808 ≤ b ∧ b ≤ 9223372036854775807) :
    text_Join.f ([mkB (itoa a), mkB (itoa b)] : List ByteArray) = some ((mkB (itoa a) ++ (⟨#[32]⟩ : ByteArray)) ++ mkB (itoa b)) ∧ ((mkB (itoa a)).toList == (mkB (itoa b)).toList) = (a == b) ∧ (mkB (itoa a)).size ≤ 21 ∧ (mkB (itoa b)).size ≤ 21 := by
  have la := itoa_length_le a ha.1 ha.2
  have lb := itoa_length_le b hb.1 hb.2
  refine ⟨?_, ?_, by rw [mkB_size]; exact la, by rw [mkB_size]; exact lb⟩
  · have hj : join ([mkB (itoa a), mkB (itoa b)].map (·.data.toList)) [32] = itoa a ++ ([32] ++ itoa b) := by
      simp only [List.map_cons, List.map_nil, mkB_data]
      rw [join_cons]
      simp [joinTail]
    unfold text_Join.f
    rw [hj, if_pos (by simp), if_pos (by simp only [List.length_append, List.length_cons, List.length_nil]; omega)]
    congr 1
    apply ext_data
    rw [app_data, app_data, mkB_data, mkB_data, mkB_data, List.append_assoc]
  · rw [toList_data, toList_data, mkB_data, mkB_data, Bool.eq_iff_iff, beq_iff_eq, beq_iff_eq]
    constructor
    · intro e
      have h1 := numL_itoa a ha.1 ha.2
      have h2 := numL_itoa b hb.1 hb.2
      rw [e, h2] at h1
      exact (Prod.mk.inj h1).1.symm
    · intro e; rw [e]

theorem j3_ok {a b n : Int} {s t : ByteArray} {k9 i : Int} : racewaylaw2_TextCounts.j3 0 a b s t n k9 i false = none := rfl

/-- the loop over the digits of a number above nothing -/
theorem l0_pos (a b : Int) (ha0 : 0 ≤ a) (ha : a ≤ 9223372036854775807) (hb : -9223372036854775808 ≤ b ∧ b ≤ 9223372036854775807) (d : Nat) :
    ∀ i : Nat, i + d = (decDigits a.toNat).length →
      Ev (fun k => racewaylaw2_TextCounts.l0 k a b (mkB (itoa a)) (mkB (itoa b)) (val 0 ((decDigits a.toNat).take i) : Int) 0 (i : Int)) true := by
  have he : itoa a = decDigits a.toNat := by unfold itoa; rw [if_neg (by omega)]
  obtain ⟨hv, hall, hne⟩ := decDigits_val a.toNat
  have hz : (mkB (itoa a)).size = (decDigits a.toNat).length := by rw [mkB_size, he]
  obtain ⟨tj, te, ts, tt⟩ := tail_ok a b ⟨by omega, ha⟩ hb
  have hpos : 0 < (decDigits a.toNat).length := List.length_pos_iff.2 hne
  induction d with
  | zero =>
    intro i hi
    refine Ev.step (f := fun _ => some true) (fun k => ?_) (Ev.now true)
    have hvi : (val 0 ((decDigits a.toNat).take i) : Int) = a := by rw [List.take_of_length_le (by omega), hv]; omega
    have hfin : (if a ≥ 0 then ((text_Join.f (([mkB (itoa a), mkB (itoa b)] : List ByteArray))).bind fun t124 => (if (mkB (itoa a)).size + 1 ≤ 9223372036854775807 then (if (mkB (itoa a) ++ (⟨#[32]⟩ : ByteArray)).size + (mkB (itoa b)).size ≤ 9223372036854775807 then (if t124.toList = ((mkB (itoa a) ++ (⟨#[32]⟩ : ByteArray)) ++ mkB (itoa b)).toList then (some (((mkB (itoa a)).toList == (mkB (itoa b)).toList) == (a == b))) else (some false)) else (none)) else (none))) else some true) = some true := by
      rw [if_pos ha0, tj, Option.bind_some, if_pos (by omega), if_pos (by rw [ByteArray.size_append, show (⟨#[32]⟩ : ByteArray).size = 1 from rfl]; omega), if_pos rfl, te]
      simp
    rw [if_pos ha0] at hfin
    simp only [racewaylaw2_TextCounts.l0]
    rw [if_neg (by omega), if_pos hvi, if_pos (by omega), wrapS (by omega) (by omega)]
    split
    · exact hfin
    · rename_i h1
      have hgt : 10 ≤ a.toNat := by
        rcases Nat.lt_or_ge a.toNat 10 with h | h
        · rw [decDigits_one h] at hz
          exact absurd (by rw [hz]; rfl) h1
        · exact h
      obtain ⟨c, r, ec, hc⟩ := dec_head a.toNat (by omega)
      have hb0 := bt_some (mkB (itoa a)) 0 c (by rw [mkB_data, he, ec]; rfl)
      rw [if_pos (by omega), if_pos (by omega), show (0 : Int) = ((0 : Nat) : Int) from rfl, hb0, if_neg]
      · exact hfin
      · intro e
        exact hc ((byte_eq c 48).1 e)
  | succ d ih =>
    intro i hi
    have hlt : i < (decDigits a.toNat).length := by omega
    have hget := bt_some (mkB (itoa a)) i ((decDigits a.toNat)[i]) (by rw [mkB_data, he]; exact List.getElem?_eq_getElem hlt)
    have hdig := (digC_iff _).1 (List.all_eq_true.1 hall _ (List.getElem_mem hlt))
    have hvt := val_take (decDigits a.toNat) i hlt
    have hle := val_take_le (decDigits a.toNat) d (i + 1) (by omega)
    have hl20 : (decDigits a.toNat).length ≤ 20 := by rw [decDigits_length]; exact nDigits_le20 _ (by omega)
    refine Ev.step (f := fun k => racewaylaw2_TextCounts.j3 k a b (mkB (itoa a)) (mkB (itoa b)) (val 0 ((decDigits a.toNat).take i) : Int) 0 (i : Int) false) (fun k => ?_) ?_
    · simp only [racewaylaw2_TextCounts.l0]
      rw [if_pos (by omega), if_pos (by omega), hget, if_neg (by omega), decide_eq_false (by omega)]
    · refine Ev.step (fun k => ?_) (ih (i + 1) (by omega))
      simp only [racewaylaw2_TextCounts.j3]
      rw [if_neg (by simp), if_neg (by omega), if_pos (by omega), if_pos (by omega), hget, wrapS (i := 10 * _) (by omega) (by omega), show (((decDigits a.toNat)[i]).toNat : Int) - 48 = ((((decDigits a.toNat)[i]).toNat - 48 : Nat) : Int) by omega,
        Int.emod_eq_of_lt (by omega) (by omega), wrapS (by omega) (by omega), wrapS (by omega) (by omega)]
      congr 1
      omega
/-- .. and of one below it -/
theorem l0_neg (a b : Int) (ha0 : a < 0) (ha : -9223372036854775808 ≤ a) (hb : -9223372036854775808 ≤ b ∧ b ≤ 9223372036854775807) (d : Nat) :
    ∀ i : Nat, i + d = (decDigits a.natAbs).length →
      Ev (fun k => racewaylaw2_TextCounts.l0 k a b (mkB (itoa a)) (mkB (itoa b)) (-(val 0 ((decDigits a.natAbs).take i) : Int)) 1 ((i : Int) + 1)) true := by
  have he : itoa a = 45 :: decDigits a.natAbs := by unfold itoa; rw [if_pos ha0]
  obtain ⟨hv, hall, hne⟩ := decDigits_val a.natAbs
  have hz : (mkB (itoa a)).size = (decDigits a.natAbs).length + 1 := by rw [mkB_size, he]; rfl
  obtain ⟨tj, te, ts, tt⟩ := tail_ok a b ⟨ha, by omega⟩ hb
  have hpos : 0 < (decDigits a.natAbs).length := List.length_pos_iff.2 hne
  have hb45 := bt_some (mkB (itoa a)) 0 45 (by rw [mkB_data, he]; rfl)
  have h45 : ((45 : UInt8).toNat : Int) = 45 := rfl
  rw [h45] at hb45
  induction d with
  | zero =>
    intro i hi
    refine Ev.step (f := fun _ => some true) (fun k => ?_) (Ev.now true)
    have hvi : -(val 0 ((decDigits a.natAbs).take i) : Int) = a := by rw [List.take_of_length_le (by omega), hv]; omega
    have hfin : (text_Join.f (([mkB (itoa a), mkB (itoa b)] : List ByteArray))).bind (fun t124 => (if (mkB (itoa a)).size + 1 ≤ 9223372036854775807 then (if (mkB (itoa a) ++ (⟨#[32]⟩ : ByteArray)).size + (mkB (itoa b)).size ≤ 9223372036854775807 then (if t124.toList = ((mkB (itoa a) ++ (⟨#[32]⟩ : ByteArray)) ++ mkB (itoa b)).toList then (some (((mkB (itoa a)).toList == (mkB (itoa b)).toList) == (a == b))) else (some false)) else (none)) else (none))) = some true := by
      rw [tj, Option.bind_some, if_pos (by omega), if_pos (by rw [ByteArray.size_append, show (⟨#[32]⟩ : ByteArray).size = 1 from rfl]; omega), if_pos rfl, te]
      simp
    simp only [racewaylaw2_TextCounts.l0]
    rw [if_neg (by omega), if_pos hvi, if_pos (by omega), wrapS (by omega) (by omega)]
    have hb0' : bt (mkB (itoa a)) 0 = 45 := hb45
    split
    · rw [if_neg (by omega), if_pos (by omega)]; exact hfin
    · rename_i h1
      have hgt : 10 ≤ a.natAbs := by
        rcases Nat.lt_or_ge a.natAbs 10 with h | h
        · rw [decDigits_one h] at hz
          exact absurd (by rw [hz]; rfl) h1
        · exact h
      obtain ⟨c, r, ec, hc⟩ := dec_head a.natAbs (by omega)
      have hb1 := bt_some (mkB (itoa a)) 1 c (by rw [mkB_data, he, ec]; rfl)
      rw [if_pos (by omega), if_pos (by omega), show (1 : Int) = ((1 : Nat) : Int) from rfl, hb1, if_neg, if_neg (by omega), if_pos (by omega)]
      · exact hfin
      · intro e
        exact hc ((byte_eq c 48).1 e)
  | succ d ih =>
    intro i hi
    have hlt : i < (decDigits a.natAbs).length := by omega
    have hget := bt_some (mkB (itoa a)) (i + 1) ((decDigits a.natAbs)[i]) (by rw [mkB_data, he, List.getElem?_cons_succ]; exact List.getElem?_eq_getElem hlt)
    rw [show ((i + 1 : Nat) : Int) = (i : Int) + 1 from rfl] at hget
    have hdig := (digC_iff _).1 (List.all_eq_true.1 hall _ (List.getElem_mem hlt))
    have hvt := val_take (decDigits a.natAbs) i hlt
    have hle := val_take_le (decDigits a.natAbs) d (i + 1) (by omega)
    have hl20 : (decDigits a.natAbs).length ≤ 20 := by rw [decDigits_length]; exact nDigits_le20 _ (by omega)
    refine Ev.step (f := fun k => racewaylaw2_TextCounts.j3 k a b (mkB (itoa a)) (mkB (itoa b)) (-(val 0 ((decDigits a.natAbs).take i) : Int)) 1 ((i : Int) + 1) false) (fun k => ?_) ?_
    · simp only [racewaylaw2_TextCounts.l0]
      rw [if_pos (by omega), if_pos (by omega), hget, if_neg (by omega), decide_eq_false (by omega)]
    · refine Ev.step (fun k => ?_) (ih (i + 1) (by omega))
      simp only [racewaylaw2_TextCounts.j3]
      rw [if_neg (by simp), if_pos (by omega), if_pos (by omega), if_pos (by omega), hget, wrapS (i := 10 * _) (by omega) (by omega), show (((decDigits a.natAbs)[i]).toNat : Int) - 48 = ((((decDigits a.natAbs)[i]).toNat - 48 : Nat) : Int) by omega,
        Int.emod_eq_of_lt (by omega) (by omega), wrapS (by omega) (by omega), wrapS (by omega) (by omega)]
      congr 1
      omega

theorem TextCounts : racewaylaw2_TextCounts.Pure := by
  intro a b wa wb
  have ha := wf64 wa
  have hb := wf64 wb
  refine Ev.rounds ?_
  have la : ((mkB (itoa a)).size : Int) = (if a < 0 then 1 else 0) + (nDigits a.natAbs : Int) := by rw [mkB_size, itoa_length]; split <;> omega
  have lb : ((mkB (itoa b)).size : Int) = (if b < 0 then 1 else 0) + (nDigits b.natAbs : Int) := by rw [mkB_size, itoa_length]; split <;> omega
  have go : Ev (fun k => racewaylaw2_TextCounts.j0 k a b (mkB (itoa a)) (mkB (itoa b)) false) true := by
    by_cases h : a < 0
    · refine Ev.step (f := fun k => racewaylaw2_TextCounts.j1 k a b (mkB (itoa a)) (mkB (itoa b)) 0 1) (fun k => ?_) (Ev.step (fun k => ?_) (l0_neg a b h ha.1 hb (decDigits a.natAbs).length 0 (by omega)))
      · simp only [racewaylaw2_TextCounts.j0]
        rw [if_neg (by simp), if_pos h]
      · simp only [racewaylaw2_TextCounts.j1]
        rfl
    · refine Ev.step (f := fun k => racewaylaw2_TextCounts.j1 k a b (mkB (itoa a)) (mkB (itoa b)) 0 0) (fun k => ?_) (Ev.step (fun k => ?_) (l0_pos a b (by omega) ha.2 hb (decDigits a.toNat).length 0 (by omega)))
      · simp only [racewaylaw2_TextCounts.j0]
        rw [if_neg (by simp), if_neg h]
      · simp only [racewaylaw2_TextCounts.j1]
        rfl
  refine Ev.congr (fun k => ?_) go
  unfold racewaylaw2_TextCounts.f
  rw [shown_ok, Option.bind_some, if_pos rfl, write_some a ha.1 ha.2, Option.bind_some, write_some b hb.1 hb.2, Option.bind_some]
  by_cases h0 : a ≥ 0
  · rw [if_pos h0]
    by_cases h1 : b ≥ a
    · rw [if_pos h1]
      have := nDigits_mono b.natAbs a.natAbs (by omega)
      rw [if_neg (by rw [la, lb, if_neg (by omega), if_neg (by omega)]; omega), if_neg (by omega)]
    · rw [if_neg h1, if_neg (by omega)]
  · rw [if_neg h0, if_pos (by omega)]
    by_cases h1 : b ≤ a
    · rw [if_pos h1]
      have := nDigits_mono b.natAbs a.natAbs (by omega)
      rw [decide_eq_false (by rw [la, lb, if_pos (by omega), if_pos (by omega)]; omega)]
    · rw [if_neg h1]
end Go.Proofs.YteifkibpeimbpaaDoor.Pure
