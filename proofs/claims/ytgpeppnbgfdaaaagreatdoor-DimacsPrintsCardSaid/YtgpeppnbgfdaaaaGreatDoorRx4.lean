/- Functions of the program as plain Lean functions, and that their calls come to these: written by a program of this session. Conditions: what each theorem asks. -/
import Derived.Test.YtgpeppnbgfdaaaaGreatDoorRx0
import Derived.Test.YtgpeppnbgfdaaaaGreatDoorRx2
import Derived.Test.YtgpeppnbgfdaaaaGreatDoorRx3
import Derived.Test.YtgpeppnbgfdaaaaGreatDoorText
import Derived.Test.YtgpeppnbgfdaaaaGreatDoorPrn
namespace Go.Proofs.YtgpeppnbgfdaaaaGreatDoor.R
open Go.RowKit Go.Proofs.YtgpeppnbgfdaaaaGreatDoor.H Go.Proofs.YtgpeppnbgfdaaaaGreatDoorW.PrintWords Go.Proofs.YtgpeppnbgfdaaaaGreatDoorW.PrintLast Go.Proofs.YtgpeppnbgfdaaaaGreatDoorW.PrintMore
attribute [local go_sem] max2_int min2_int max_two min_two max_three min_three max_four min_four   -- for this text's walks alone
set_option linter.unusedVariables false
set_option linter.unusedSimpArgs false

/-! ### racewayref2_Write: function 20 -/
mutual
def racewayref2_Write.l0 : Nat → Int → ByteArray → Bool → Option (ByteArray)
  | 0, _, _, _ => none
  | k + 1, x0, x3, x4 => if x0 = 0 then (racewayref2_Write.j1 k x0 x3 x4 (x3.toList == ([] : List UInt8))) else (racewayref2_Write.j1 k x0 x3 x4 true)
def racewayref2_Write.j1 : Nat → Int → ByteArray → Bool → Bool → Option (ByteArray)
  | 0, _, _, _, _ => none
  | k + 1, x0, x3, x4, x13 => if x13 = true then (if (Int.tmod x0 10) < 0 then (if 0 ≤ (wrap64 (-(Int.tmod x0 10))) then (if (wrap64 (-(Int.tmod x0 10))) ≤ (wrap64 ((wrap64 (-(Int.tmod x0 10))) + 1)) then (if (wrap64 ((wrap64 (-(Int.tmod x0 10))) + 1)) ≤ 10 then (if ((⟨#[48, 49, 50, 51, 52, 53, 54, 55, 56, 57]⟩ : ByteArray).extract ((wrap64 (-(Int.tmod x0 10))) : Int).toNat ((wrap64 ((wrap64 (-(Int.tmod x0 10))) + 1)) : Int).toNat).size + x3.size ≤ 9223372036854775807 then (racewayref2_Write.l0 k (wrap64 (Int.tdiv x0 10)) (((⟨#[48, 49, 50, 51, 52, 53, 54, 55, 56, 57]⟩ : ByteArray).extract ((wrap64 (-(Int.tmod x0 10))) : Int).toNat ((wrap64 ((wrap64 (-(Int.tmod x0 10))) + 1)) : Int).toNat) ++ x3) x4) else (none)) else (none)) else (none)) else (none)) else (if 0 ≤ (Int.tmod x0 10) then (if (Int.tmod x0 10) ≤ (wrap64 ((Int.tmod x0 10) + 1)) then (if (wrap64 ((Int.tmod x0 10) + 1)) ≤ 10 then (if ((⟨#[48, 49, 50, 51, 52, 53, 54, 55, 56, 57]⟩ : ByteArray).extract ((Int.tmod x0 10) : Int).toNat ((wrap64 ((Int.tmod x0 10) + 1)) : Int).toNat).size + x3.size ≤ 9223372036854775807 then (racewayref2_Write.l0 k (wrap64 (Int.tdiv x0 10)) (((⟨#[48, 49, 50, 51, 52, 53, 54, 55, 56, 57]⟩ : ByteArray).extract ((Int.tmod x0 10) : Int).toNat ((wrap64 ((Int.tmod x0 10) + 1)) : Int).toNat) ++ x3) x4) else (none)) else (none)) else (none)) else (none))) else (if x4 = true then (if 1 + x3.size ≤ 9223372036854775807 then (some ((⟨#[45]⟩ : ByteArray) ++ x3)) else (none)) else (some x3))
end
def racewayref2_Write.f (k : Nat) (a0 : Int) : Option (ByteArray) := racewayref2_Write.l0 k a0 (⟨#[]⟩ : ByteArray) (decide (a0 < 0))
theorem racewayref2_Write.mono_l : ∀ k, (∀ y0 y1 y2, LeO (racewayref2_Write.l0 k y0 y1 y2) (racewayref2_Write.l0 (k + 1) y0 y1 y2)) ∧ (∀ y0 y1 y2 y3, LeO (racewayref2_Write.j1 k y0 y1 y2 y3) (racewayref2_Write.j1 (k + 1) y0 y1 y2 y3))
  | 0 => ⟨fun _ _ _ r h => by simp [racewayref2_Write.l0] at h, fun _ _ _ _ r h => by simp [racewayref2_Write.j1] at h⟩
  | k + 1 => by
    obtain ⟨ih0, ih1⟩ := racewayref2_Write.mono_l k
    refine ⟨?_, ?_⟩
    · intro y0 y1 y2
      unfold racewayref2_Write.l0
      repeat' first
      | (with_reducible exact ih0 _ _ _)
      | (with_reducible exact ih1 _ _ _ _)
      | (with_reducible exact LeO.refl _)
      | (with_reducible exact LeO.none _)
      | (with_reducible refine LeO.ite ?_ ?_)
      | (with_reducible refine LeO.bind ?_ (fun _ => ?_))
      | exact ih0 _ _ _
      | exact ih1 _ _ _ _
      | exact LeO.none _
      | refine LeO.ite ?_ ?_
      | refine LeO.bind ?_ (fun _ => ?_)
    · intro y0 y1 y2 y3
      unfold racewayref2_Write.j1
      repeat' first
      | (with_reducible exact ih0 _ _ _)
      | (with_reducible exact ih1 _ _ _ _)
      | (with_reducible exact LeO.refl _)
      | (with_reducible exact LeO.none _)
      | (with_reducible refine LeO.ite ?_ ?_)
      | (with_reducible refine LeO.bind ?_ (fun _ => ?_))
      | exact ih0 _ _ _
      | exact ih1 _ _ _ _
      | exact LeO.none _
      | refine LeO.ite ?_ ?_
      | refine LeO.bind ?_ (fun _ => ?_)
theorem racewayref2_Write.mono : ∀ a0 k, LeO (racewayref2_Write.f k a0) (racewayref2_Write.f (k + 1) a0) := by
  intro a0 k
  obtain ⟨ih0, ih1⟩ := racewayref2_Write.mono_l k
  unfold racewayref2_Write.f
  repeat' first
      | (with_reducible exact ih0 _ _ _)
      | (with_reducible exact ih1 _ _ _ _)
      | (with_reducible exact LeO.refl _)
      | (with_reducible exact LeO.none _)
      | (with_reducible refine LeO.ite ?_ ?_)
      | (with_reducible refine LeO.bind ?_ (fun _ => ?_))
      | exact ih0 _ _ _
      | exact ih1 _ _ _ _
      | exact LeO.none _
      | refine LeO.ite ?_ ?_
      | refine LeO.bind ?_ (fun _ => ?_)
set_option maxHeartbeats 8000000 in
set_option maxRecDepth 100000 in
theorem racewayref2_Write.calls (k : Nat) (a0 : Int) (r : ByteArray) (w : World) (h : racewayref2_Write.f k a0 = some r) :
    Calls Tryz.prog 20 #[.int .i64 a0] w fun e w' => e = .returned (.string r) ∧ Drawn0 w w' := by
  have H : (racewayref2_Write.l0 k a0 (⟨#[]⟩ : ByteArray) (decide (a0 < 0))) = some r := h
  clear h
  have H' := Aside0.mk H
  clear H
  go_enter Tryz.func20, Tryz.ntmps20
  go_wp2
  go_loopg [0, 3] k (fun kq v0 v3 w' => ∃ (x0_1 : Int) (x3_1 : ByteArray), v0 = .int .i64 x0_1 ∧ v3 = .string x3_1 ∧ Aside0 (racewayref2_Write.l0 kq x0_1 x3_1 (decide (a0 < 0)) = some r) ∧ Aside0 (kq ≤ k) ∧ Drawn0 w w')
  case atStart => exact ⟨(a0), ((⟨#[]⟩ : ByteArray)), (by first | rfl | (simp; done) | (simp [*]; done)), (by first | rfl | (simp; done) | (simp [*]; done)), H', ⟨Nat.le_refl _⟩, by repeat (first | exact Drawn0.refl _ | apply Drawn0.step)⟩
  case round =>
    clear H'
    obtain ⟨x0_1, x3_1, rfl, rfl, HA, HK1, ⟨m1, rfl⟩⟩ := hrel
    cases gk with
    | zero => exact absurd HA.out (by simp [racewayref2_Write.l0])
    | succ k1 =>
      as_aux_lemma =>
        have H := HA.out
        clear HA
        simp only [racewayref2_Write.l0] at H
        have HC2 := Aside0.mk H
        clear H
        go_upto_region 3 with (fail)
        go_cut [13] (fun v13 wc => ∃ (kq : Nat) (x13_1 : Bool), v13 = .bool x13_1 ∧ Aside0 (racewayref2_Write.j1 kq x0_1 x3_1 (decide (a0 < 0)) x13_1 = some r) ∧ Aside0 (kq ≤ k1) ∧ Drawn0 w wc)
        case first =>
          have H := HC2.out
          clear HC2
          by_cases c3 : x0_1 = 0
          · rw [if_pos c3] at H
            have c3b0 : (x0_1 == 0) = true := beq_iff_eq.mpr c3
            have c3b1 : (x0_1 != 0) = false := bne_eq_false_iff_eq.mpr c3
            clear c3
            (first | rw [c3b0] | (simp only [i64_w, i32_w]; rw [c3b0]) | skip)
            have H' := Aside0.mk H
            clear H
            go_wp2
            go_meet
            case rel => exact ⟨_, ((x3_1.toList == ([] : List UInt8))), (by first | rfl | (simp; done) | (simp [*]; done)), H', ⟨by have := HK1.out; first | omega | exact Nat.le_refl _⟩, by repeat (first | exact Drawn0.refl _ | apply Drawn0.step)⟩
          · rw [if_neg c3] at H
            have c3b0 : (x0_1 == 0) = false := beq_eq_false_iff_ne.mpr c3
            have c3b1 : (x0_1 != 0) = true := bne_iff_ne.mpr c3
            (first | rw [c3b0] | (simp only [i64_w, i32_w]; rw [c3b0]) | skip)
            have H' := Aside0.mk H
            clear H
            go_wp2
            go_meet
            case rel => exact ⟨_, (true), (by first | rfl | (simp; done) | (simp [*]; done)), H', ⟨by have := HK1.out; first | omega | exact Nat.le_refl _⟩, by repeat (first | exact Drawn0.refl _ | apply Drawn0.step)⟩
        case rest =>
          clear HC2
          try clear c2
          try clear p2
          try clear c3
          try clear c3b0
          try clear c3b1
          obtain ⟨kq, x13_1, rfl, HA, HJ1, ⟨mc1, rfl⟩⟩ := hcut
          cases kq with
          | zero => exact absurd HA.out (by simp [racewayref2_Write.j1])
          | succ kj1 =>
            as_aux_lemma =>
              have H := HA.out
              clear HA
              simp only [racewayref2_Write.j1] at H
              by_cases c4 : x13_1 = true
              · subst c4
                have H1 : (if (Int.tmod x0_1 10) < 0 then (if 0 ≤ (wrap64 (-(Int.tmod x0_1 10))) then (if (wrap64 (-(Int.tmod x0_1 10))) ≤ (wrap64 ((wrap64 (-(Int.tmod x0_1 10))) + 1)) then (if (wrap64 ((wrap64 (-(Int.tmod x0_1 10))) + 1)) ≤ 10 then (if ((⟨#[48, 49, 50, 51, 52, 53, 54, 55, 56, 57]⟩ : ByteArray).extract ((wrap64 (-(Int.tmod x0_1 10))) : Int).toNat ((wrap64 ((wrap64 (-(Int.tmod x0_1 10))) + 1)) : Int).toNat).size + x3_1.size ≤ 9223372036854775807 then (racewayref2_Write.l0 kj1 (wrap64 (Int.tdiv x0_1 10)) (((⟨#[48, 49, 50, 51, 52, 53, 54, 55, 56, 57]⟩ : ByteArray).extract ((wrap64 (-(Int.tmod x0_1 10))) : Int).toNat ((wrap64 ((wrap64 (-(Int.tmod x0_1 10))) + 1)) : Int).toNat) ++ x3_1) (decide (a0 < 0))) else (none)) else (none)) else (none)) else (none)) else (if 0 ≤ (Int.tmod x0_1 10) then (if (Int.tmod x0_1 10) ≤ (wrap64 ((Int.tmod x0_1 10) + 1)) then (if (wrap64 ((Int.tmod x0_1 10) + 1)) ≤ 10 then (if ((⟨#[48, 49, 50, 51, 52, 53, 54, 55, 56, 57]⟩ : ByteArray).extract ((Int.tmod x0_1 10) : Int).toNat ((wrap64 ((Int.tmod x0_1 10) + 1)) : Int).toNat).size + x3_1.size ≤ 9223372036854775807 then (racewayref2_Write.l0 kj1 (wrap64 (Int.tdiv x0_1 10)) (((⟨#[48, 49, 50, 51, 52, 53, 54, 55, 56, 57]⟩ : ByteArray).extract ((Int.tmod x0_1 10) : Int).toNat ((wrap64 ((Int.tmod x0_1 10) + 1)) : Int).toNat) ++ x3_1) (decide (a0 < 0))) else (none)) else (none)) else (none)) else (none))) = some r := by rw [if_pos rfl] at H; exact H
                clear H
                have H := H1
                clear H1
                by_cases c5 : (Int.tmod x0_1 10) < 0
                · rw [if_pos c5] at H
                  have c5b0 : decide ((Int.tmod x0_1 10) < 0) = true := decide_eq_true c5
                  clear c5
                  obtain ⟨ji6, hji6⟩ : ∃ j_ : Int, (wrap64 (-(Int.tmod x0_1 10))) = j_ := ⟨_, rfl⟩
                  replace H : (if 0 ≤ (ji6) then (if (ji6) ≤ (wrap64 ((ji6) + 1)) then (if (wrap64 ((ji6) + 1)) ≤ 10 then (if ((⟨#[48, 49, 50, 51, 52, 53, 54, 55, 56, 57]⟩ : ByteArray).extract ((ji6) : Int).toNat ((wrap64 ((ji6) + 1)) : Int).toNat).size + x3_1.size ≤ 9223372036854775807 then (racewayref2_Write.l0 kj1 (wrap64 (Int.tdiv x0_1 10)) (((⟨#[48, 49, 50, 51, 52, 53, 54, 55, 56, 57]⟩ : ByteArray).extract ((ji6) : Int).toNat ((wrap64 ((ji6) + 1)) : Int).toNat) ++ x3_1) (decide (a0 < 0))) else (none)) else (none)) else (none)) else (none)) = some r := by first | (rw [hji6] at H; exact H) | (simp only [hji6] at H ⊢; exact H)
                  have hji6w : (IntKind.i64.wrap (-(Int.tmod x0_1 10))) = ji6 := (i64_w _).trans hji6
                  by_cases c7 : 0 ≤ (ji6)
                  · rw [if_pos c7] at H
                    have c7b0 := eq_true c7
                    have c7b1 : decide (0 ≤ (ji6)) = true := decide_eq_true c7
                    clear c7
                    by_cases c8 : (ji6) ≤ (wrap64 ((ji6) + 1))
                    · rw [if_pos c8] at H
                      have c8b0 := eq_true c8
                      have c8b1 : decide ((ji6) ≤ (wrap64 ((ji6) + 1))) = true := decide_eq_true c8
                      by_cases c9 : (wrap64 ((ji6) + 1)) ≤ 10
                      · rw [if_pos c9] at H
                        have c9b0 := eq_true c9
                        have c9b1 : decide ((wrap64 ((ji6) + 1)) ≤ 10) = true := decide_eq_true c9
                        by_cases c10 : ((⟨#[48, 49, 50, 51, 52, 53, 54, 55, 56, 57]⟩ : ByteArray).extract ((ji6) : Int).toNat ((wrap64 ((ji6) + 1)) : Int).toNat).size + x3_1.size ≤ 9223372036854775807
                        · rw [if_pos c10] at H
                          have c10b0 := eq_true c10
                          have c10b1 : decide (((⟨#[48, 49, 50, 51, 52, 53, 54, 55, 56, 57]⟩ : ByteArray).extract ((ji6) : Int).toNat ((wrap64 ((ji6) + 1)) : Int).toNat).size + x3_1.size ≤ 9223372036854775807) = true := decide_eq_true c10
                          try have c10b2 : (9223372036854775807 < ((⟨#[48, 49, 50, 51, 52, 53, 54, 55, 56, 57]⟩ : ByteArray).extract ((ji6) : Int).toNat ((wrap64 ((ji6) + 1)) : Int).toNat).size + x3_1.size) = False := eq_false (Nat.not_lt.2 c10)
                          have H' := Aside0.mk H
                          clear H
                          go_wp2
                          go_roundg kj1
                          case measure => have := HK1.out; have := HJ1.out; omega
                          case rel => exact ⟨(wrap64 (Int.tdiv x0_1 10)), (((⟨#[48, 49, 50, 51, 52, 53, 54, 55, 56, 57]⟩ : ByteArray).extract ((ji6) : Int).toNat ((wrap64 ((ji6) + 1)) : Int).toNat) ++ x3_1), (by first | rfl | (simp; done) | (simp [*]; done)), (by first | rfl | (simp; done) | (simp only [← hji6] <;> (first | rfl | simp)) | (simp [*]; done)), H', ⟨by have := HK1.out; have := HJ1.out; omega⟩, by repeat (first | exact Drawn0.refl _ | apply Drawn0.step)⟩
                        · rw [if_neg c10] at H
                          exact absurd H (by simp)
                      · rw [if_neg c9] at H
                        exact absurd H (by simp)
                    · rw [if_neg c8] at H
                      exact absurd H (by simp)
                  · rw [if_neg c7] at H
                    exact absurd H (by simp)
                · rw [if_neg c5] at H
                  have c5b0 : decide ((Int.tmod x0_1 10) < 0) = false := decide_eq_false c5
                  clear c5
                  obtain ⟨ji11, hji11⟩ : ∃ j_ : Int, (Int.tmod x0_1 10) = j_ := ⟨_, rfl⟩
                  replace H : (if 0 ≤ (ji11) then (if (ji11) ≤ (wrap64 ((ji11) + 1)) then (if (wrap64 ((ji11) + 1)) ≤ 10 then (if ((⟨#[48, 49, 50, 51, 52, 53, 54, 55, 56, 57]⟩ : ByteArray).extract ((ji11) : Int).toNat ((wrap64 ((ji11) + 1)) : Int).toNat).size + x3_1.size ≤ 9223372036854775807 then (racewayref2_Write.l0 kj1 (wrap64 (Int.tdiv x0_1 10)) (((⟨#[48, 49, 50, 51, 52, 53, 54, 55, 56, 57]⟩ : ByteArray).extract ((ji11) : Int).toNat ((wrap64 ((ji11) + 1)) : Int).toNat) ++ x3_1) (decide (a0 < 0))) else (none)) else (none)) else (none)) else (none)) = some r := by first | (rw [hji11] at H; exact H) | (simp only [hji11] at H ⊢; exact H)
                  (try rw [hji11] at c5b0)
                  by_cases c12 : 0 ≤ (ji11)
                  · rw [if_pos c12] at H
                    have c12b0 := eq_true c12
                    have c12b1 : decide (0 ≤ (ji11)) = true := decide_eq_true c12
                    clear c12
                    by_cases c13 : (ji11) ≤ (wrap64 ((ji11) + 1))
                    · rw [if_pos c13] at H
                      have c13b0 := eq_true c13
                      have c13b1 : decide ((ji11) ≤ (wrap64 ((ji11) + 1))) = true := decide_eq_true c13
                      by_cases c14 : (wrap64 ((ji11) + 1)) ≤ 10
                      · rw [if_pos c14] at H
                        have c14b0 := eq_true c14
                        have c14b1 : decide ((wrap64 ((ji11) + 1)) ≤ 10) = true := decide_eq_true c14
                        by_cases c15 : ((⟨#[48, 49, 50, 51, 52, 53, 54, 55, 56, 57]⟩ : ByteArray).extract ((ji11) : Int).toNat ((wrap64 ((ji11) + 1)) : Int).toNat).size + x3_1.size ≤ 9223372036854775807
                        · rw [if_pos c15] at H
                          have c15b0 := eq_true c15
                          have c15b1 : decide (((⟨#[48, 49, 50, 51, 52, 53, 54, 55, 56, 57]⟩ : ByteArray).extract ((ji11) : Int).toNat ((wrap64 ((ji11) + 1)) : Int).toNat).size + x3_1.size ≤ 9223372036854775807) = true := decide_eq_true c15
                          try have c15b2 : (9223372036854775807 < ((⟨#[48, 49, 50, 51, 52, 53, 54, 55, 56, 57]⟩ : ByteArray).extract ((ji11) : Int).toNat ((wrap64 ((ji11) + 1)) : Int).toNat).size + x3_1.size) = False := eq_false (Nat.not_lt.2 c15)
                          have H' := Aside0.mk H
                          clear H
                          go_wp2
                          go_roundg kj1
                          case measure => have := HK1.out; have := HJ1.out; omega
                          case rel => exact ⟨(wrap64 (Int.tdiv x0_1 10)), (((⟨#[48, 49, 50, 51, 52, 53, 54, 55, 56, 57]⟩ : ByteArray).extract ((ji11) : Int).toNat ((wrap64 ((ji11) + 1)) : Int).toNat) ++ x3_1), (by first | rfl | (simp; done) | (simp [*]; done)), (by first | rfl | (simp; done) | (simp only [← hji11] <;> (first | rfl | simp)) | (simp [*]; done)), H', ⟨by have := HK1.out; have := HJ1.out; omega⟩, by repeat (first | exact Drawn0.refl _ | apply Drawn0.step)⟩
                        · rw [if_neg c15] at H
                          exact absurd H (by simp)
                      · rw [if_neg c14] at H
                        exact absurd H (by simp)
                    · rw [if_neg c13] at H
                      exact absurd H (by simp)
                  · rw [if_neg c12] at H
                    exact absurd H (by simp)
              · replace c4 := Bool.eq_false_iff.mpr c4
                subst c4
                have H1 : (if (decide (a0 < 0)) = true then (if 1 + x3_1.size ≤ 9223372036854775807 then (some ((⟨#[45]⟩ : ByteArray) ++ x3_1)) else (none)) else (some x3_1)) = some r := by rw [if_neg (show ¬ (false = true) by decide)] at H; exact H
                clear H
                have H := H1
                clear H1
                by_cases c16 : (decide (a0 < 0)) = true
                · rw [if_pos c16] at H
                  have c16b0 : (decide (a0 < 0)) = true := c16
                  clear c16
                  by_cases c17 : 1 + x3_1.size ≤ 9223372036854775807
                  · rw [if_pos c17] at H
                    have c17b0 := eq_true c17
                    have c17b1 : decide (1 + x3_1.size ≤ 9223372036854775807) = true := decide_eq_true c17
                    try have c17b2 : (9223372036854775807 < 1 + x3_1.size) = False := eq_false (Nat.not_lt.2 c17)
                    obtain rfl := Option.some.inj H
                    go_wp2
                    all_goals (first | (have e_ := of_decide_eq_true c16b0; omega) | (go_ret; exact ⟨by first | rfl | (simp; done) | (simp [*]; done), by repeat (first | exact Drawn0.refl _ | apply Drawn0.step)⟩))
                  · rw [if_neg c17] at H
                    exact absurd H (by simp)
                · rw [if_neg c16] at H
                  have c16b0 : (decide (a0 < 0)) = false := by simpa using c16
                  clear c16
                  obtain rfl := Option.some.inj H
                  go_wp2
                  all_goals (first | (have e_ := of_decide_eq_false c16b0; omega) | (go_ret; exact ⟨by first | rfl | (simp; done) | (simp [*]; done), by repeat (first | exact Drawn0.refl _ | apply Drawn0.step)⟩))

/-! ### racewayref4_Print: function 9 -/
def racewayref4_Print.l0 : Nat → ByteArray → Int → Int → Int → Int → List (S44) → Option (ByteArray × Int)
  | 0, _, _, _, _, _, _ => none
  | k + 1, x4, x5, x115000, x115001, x115002, x115003 => if x5 < (x115003.length : Int) then (if 0 ≤ x5 then (if x4.size + 2 ≤ 9223372036854775807 then ((racewayref2_Write.f k ((rd_T44 x115003 x5).f0)).bind fun t122 => (if (x4 ++ (⟨#[97, 32]⟩ : ByteArray)).size + t122.size ≤ 9223372036854775807 then (if ((x4 ++ (⟨#[97, 32]⟩ : ByteArray)) ++ t122).size + 1 ≤ 9223372036854775807 then ((racewayref2_Write.f k ((rd_T44 x115003 x5).f1)).bind fun t123 => (if (((x4 ++ (⟨#[97, 32]⟩ : ByteArray)) ++ t122) ++ (⟨#[32]⟩ : ByteArray)).size + t123.size ≤ 9223372036854775807 then (if ((((x4 ++ (⟨#[97, 32]⟩ : ByteArray)) ++ t122) ++ (⟨#[32]⟩ : ByteArray)) ++ t123).size + 1 ≤ 9223372036854775807 then ((racewayref2_Write.f k ((rd_T44 x115003 x5).f2)).bind fun t124 => (if (((((x4 ++ (⟨#[97, 32]⟩ : ByteArray)) ++ t122) ++ (⟨#[32]⟩ : ByteArray)) ++ t123) ++ (⟨#[32]⟩ : ByteArray)).size + t124.size ≤ 9223372036854775807 then (if ((((((x4 ++ (⟨#[97, 32]⟩ : ByteArray)) ++ t122) ++ (⟨#[32]⟩ : ByteArray)) ++ t123) ++ (⟨#[32]⟩ : ByteArray)) ++ t124).size + 1 ≤ 9223372036854775807 then (racewayref4_Print.l0 k (((((((x4 ++ (⟨#[97, 32]⟩ : ByteArray)) ++ t122) ++ (⟨#[32]⟩ : ByteArray)) ++ t123) ++ (⟨#[32]⟩ : ByteArray)) ++ t124) ++ (⟨#[10]⟩ : ByteArray)) (wrap64 (x5 + 1)) x115000 x115001 x115002 x115003) else (none)) else (none))) else (none)) else (none))) else (none)) else (none))) else (none)) else (none)) else (some (x4, 0))
def racewayref4_Print.f (k : Nat) (a0_0 : Int) (a0_1 : Int) (a0_2 : Int) (l0_3 : List (S44)) : Option (ByteArray × Int) := (racewayref3_Check.f k a0_0 a0_1 a0_2 l0_3).bind fun t115 => (if t115 = 0 then ((racewayref2_Write.f k a0_0).bind fun t116 => (if 6 + t116.size ≤ 9223372036854775807 then (if ((⟨#[112, 32, 109, 97, 120, 32]⟩ : ByteArray) ++ t116).size + 1 ≤ 9223372036854775807 then ((racewayref2_Write.f k (l0_3.length : Int)).bind fun t117 => (if (((⟨#[112, 32, 109, 97, 120, 32]⟩ : ByteArray) ++ t116) ++ (⟨#[32]⟩ : ByteArray)).size + t117.size ≤ 9223372036854775807 then (if ((((⟨#[112, 32, 109, 97, 120, 32]⟩ : ByteArray) ++ t116) ++ (⟨#[32]⟩ : ByteArray)) ++ t117).size + 3 ≤ 9223372036854775807 then ((racewayref2_Write.f k a0_1).bind fun t118 => (if (((((⟨#[112, 32, 109, 97, 120, 32]⟩ : ByteArray) ++ t116) ++ (⟨#[32]⟩ : ByteArray)) ++ t117) ++ (⟨#[10, 110, 32]⟩ : ByteArray)).size + t118.size ≤ 9223372036854775807 then (if ((((((⟨#[112, 32, 109, 97, 120, 32]⟩ : ByteArray) ++ t116) ++ (⟨#[32]⟩ : ByteArray)) ++ t117) ++ (⟨#[10, 110, 32]⟩ : ByteArray)) ++ t118).size + 5 ≤ 9223372036854775807 then ((racewayref2_Write.f k a0_2).bind fun t119 => (if (((((((⟨#[112, 32, 109, 97, 120, 32]⟩ : ByteArray) ++ t116) ++ (⟨#[32]⟩ : ByteArray)) ++ t117) ++ (⟨#[10, 110, 32]⟩ : ByteArray)) ++ t118) ++ (⟨#[32, 115, 10, 110, 32]⟩ : ByteArray)).size + t119.size ≤ 9223372036854775807 then (if ((((((((⟨#[112, 32, 109, 97, 120, 32]⟩ : ByteArray) ++ t116) ++ (⟨#[32]⟩ : ByteArray)) ++ t117) ++ (⟨#[10, 110, 32]⟩ : ByteArray)) ++ t118) ++ (⟨#[32, 115, 10, 110, 32]⟩ : ByteArray)) ++ t119).size + 3 ≤ 9223372036854775807 then (racewayref4_Print.l0 k (((((((((⟨#[112, 32, 109, 97, 120, 32]⟩ : ByteArray) ++ t116) ++ (⟨#[32]⟩ : ByteArray)) ++ t117) ++ (⟨#[10, 110, 32]⟩ : ByteArray)) ++ t118) ++ (⟨#[32, 115, 10, 110, 32]⟩ : ByteArray)) ++ t119) ++ (⟨#[32, 116, 10]⟩ : ByteArray)) 0 a0_0 a0_1 a0_2 l0_3) else (none)) else (none))) else (none)) else (none))) else (none)) else (none))) else (none)) else (none))) else (some ((⟨#[]⟩ : ByteArray), 1)))
theorem racewayref4_Print.mono_l : ∀ k, (∀ y0 y1 y2 y3 y4 y5, LeO (racewayref4_Print.l0 k y0 y1 y2 y3 y4 y5) (racewayref4_Print.l0 (k + 1) y0 y1 y2 y3 y4 y5))
  | 0 => fun _ _ _ _ _ _ r h => by simp [racewayref4_Print.l0] at h
  | k + 1 => by
    have ih0 := racewayref4_Print.mono_l k
    · intro y0 y1 y2 y3 y4 y5
      unfold racewayref4_Print.l0
      repeat' first
      | (with_reducible exact ih0 _ _ _ _ _ _)
      | (with_reducible exact racewayref2_Write.mono _ _)
      | (with_reducible exact racewayref3_Check.mono _ _ _ _ _)
      | (with_reducible exact LeO.refl _)
      | (with_reducible exact LeO.none _)
      | (with_reducible refine LeO.ite ?_ ?_)
      | (with_reducible refine LeO.bind ?_ (fun _ => ?_))
      | exact ih0 _ _ _ _ _ _
      | exact racewayref2_Write.mono _ _
      | exact racewayref3_Check.mono _ _ _ _ _
      | exact LeO.none _
      | refine LeO.ite ?_ ?_
      | refine LeO.bind ?_ (fun _ => ?_)
theorem racewayref4_Print.mono : ∀ a0 a1 a2 a3 k, LeO (racewayref4_Print.f k a0 a1 a2 a3) (racewayref4_Print.f (k + 1) a0 a1 a2 a3) := by
  intro a0 a1 a2 a3 k
  have ih0 := racewayref4_Print.mono_l k
  unfold racewayref4_Print.f
  repeat' first
      | (with_reducible exact ih0 _ _ _ _ _ _)
      | (with_reducible exact racewayref2_Write.mono _ _)
      | (with_reducible exact racewayref3_Check.mono _ _ _ _ _)
      | (with_reducible exact LeO.refl _)
      | (with_reducible exact LeO.none _)
      | (with_reducible refine LeO.ite ?_ ?_)
      | (with_reducible refine LeO.bind ?_ (fun _ => ?_))
      | exact ih0 _ _ _ _ _ _
      | exact racewayref2_Write.mono _ _
      | exact racewayref3_Check.mono _ _ _ _ _
      | exact LeO.none _
      | refine LeO.ite ?_ ?_
      | refine LeO.bind ?_ (fun _ => ?_)
set_option maxHeartbeats 8000000 in
set_option maxRecDepth 100000 in
theorem racewayref4_Print.calls (k : Nat) (a0_0 : Int) (a0_1 : Int) (a0_2 : Int) (A0_3 : Option Addr) (c0_3 : Nat) (l0_3 : List (S44)) (r1 : ByteArray) (r2 : Int) (w : World) (hr0_3 : Kd.C k44 w A0_3 l0_3.length l0_3) (hc0_3 : l0_3.length ≤ c0_3) (h : racewayref4_Print.f k a0_0 a0_1 a0_2 l0_3 = some (r1, r2)) :
    Calls Tryz.prog 9 #[.agg #[.int .i64 a0_0, .int .i64 a0_1, .int .i64 a0_2, .slice A0_3 l0_3.length c0_3]] w fun e w' => e = .returned (.tuple #[.string r1, .int .i64 r2]) ∧ Below w.heap.size w w' := by
  have hu24 := Tryz.underlying24
  have hu44 := Tryz.underlying44
  have HR0_3 := Aside0.mk hr0_3
  have HC0_3 := Aside0.mk hc0_3
  clear hr0_3 hc0_3
  have HB := Aside0.mk (Below.refl w.heap.size w)
  have H : ((racewayref3_Check.f k a0_0 a0_1 a0_2 l0_3).bind fun t115 => (if t115 = 0 then ((racewayref2_Write.f k a0_0).bind fun t116 => (if 6 + t116.size ≤ 9223372036854775807 then (if ((⟨#[112, 32, 109, 97, 120, 32]⟩ : ByteArray) ++ t116).size + 1 ≤ 9223372036854775807 then ((racewayref2_Write.f k (l0_3.length : Int)).bind fun t117 => (if (((⟨#[112, 32, 109, 97, 120, 32]⟩ : ByteArray) ++ t116) ++ (⟨#[32]⟩ : ByteArray)).size + t117.size ≤ 9223372036854775807 then (if ((((⟨#[112, 32, 109, 97, 120, 32]⟩ : ByteArray) ++ t116) ++ (⟨#[32]⟩ : ByteArray)) ++ t117).size + 3 ≤ 9223372036854775807 then ((racewayref2_Write.f k a0_1).bind fun t118 => (if (((((⟨#[112, 32, 109, 97, 120, 32]⟩ : ByteArray) ++ t116) ++ (⟨#[32]⟩ : ByteArray)) ++ t117) ++ (⟨#[10, 110, 32]⟩ : ByteArray)).size + t118.size ≤ 9223372036854775807 then (if ((((((⟨#[112, 32, 109, 97, 120, 32]⟩ : ByteArray) ++ t116) ++ (⟨#[32]⟩ : ByteArray)) ++ t117) ++ (⟨#[10, 110, 32]⟩ : ByteArray)) ++ t118).size + 5 ≤ 9223372036854775807 then ((racewayref2_Write.f k a0_2).bind fun t119 => (if (((((((⟨#[112, 32, 109, 97, 120, 32]⟩ : ByteArray) ++ t116) ++ (⟨#[32]⟩ : ByteArray)) ++ t117) ++ (⟨#[10, 110, 32]⟩ : ByteArray)) ++ t118) ++ (⟨#[32, 115, 10, 110, 32]⟩ : ByteArray)).size + t119.size ≤ 9223372036854775807 then (if ((((((((⟨#[112, 32, 109, 97, 120, 32]⟩ : ByteArray) ++ t116) ++ (⟨#[32]⟩ : ByteArray)) ++ t117) ++ (⟨#[10, 110, 32]⟩ : ByteArray)) ++ t118) ++ (⟨#[32, 115, 10, 110, 32]⟩ : ByteArray)) ++ t119).size + 3 ≤ 9223372036854775807 then (racewayref4_Print.l0 k (((((((((⟨#[112, 32, 109, 97, 120, 32]⟩ : ByteArray) ++ t116) ++ (⟨#[32]⟩ : ByteArray)) ++ t117) ++ (⟨#[10, 110, 32]⟩ : ByteArray)) ++ t118) ++ (⟨#[32, 115, 10, 110, 32]⟩ : ByteArray)) ++ t119) ++ (⟨#[32, 116, 10]⟩ : ByteArray)) 0 a0_0 a0_1 a0_2 l0_3) else (none)) else (none))) else (none)) else (none))) else (none)) else (none))) else (none)) else (none))) else (some ((⟨#[]⟩ : ByteArray), 1)))) = some (r1, r2) := h
  clear h
  replace H := Option.bind_eq_some_iff.mp H
  obtain ⟨t115, A20, H⟩ := H
  replace H : (if t115 = 0 then ((racewayref2_Write.f k a0_0).bind fun t116 => (if 6 + t116.size ≤ 9223372036854775807 then (if ((⟨#[112, 32, 109, 97, 120, 32]⟩ : ByteArray) ++ t116).size + 1 ≤ 9223372036854775807 then ((racewayref2_Write.f k (l0_3.length : Int)).bind fun t117 => (if (((⟨#[112, 32, 109, 97, 120, 32]⟩ : ByteArray) ++ t116) ++ (⟨#[32]⟩ : ByteArray)).size + t117.size ≤ 9223372036854775807 then (if ((((⟨#[112, 32, 109, 97, 120, 32]⟩ : ByteArray) ++ t116) ++ (⟨#[32]⟩ : ByteArray)) ++ t117).size + 3 ≤ 9223372036854775807 then ((racewayref2_Write.f k a0_1).bind fun t118 => (if (((((⟨#[112, 32, 109, 97, 120, 32]⟩ : ByteArray) ++ t116) ++ (⟨#[32]⟩ : ByteArray)) ++ t117) ++ (⟨#[10, 110, 32]⟩ : ByteArray)).size + t118.size ≤ 9223372036854775807 then (if ((((((⟨#[112, 32, 109, 97, 120, 32]⟩ : ByteArray) ++ t116) ++ (⟨#[32]⟩ : ByteArray)) ++ t117) ++ (⟨#[10, 110, 32]⟩ : ByteArray)) ++ t118).size + 5 ≤ 9223372036854775807 then ((racewayref2_Write.f k a0_2).bind fun t119 => (if (((((((⟨#[112, 32, 109, 97, 120, 32]⟩ : ByteArray) ++ t116) ++ (⟨#[32]⟩ : ByteArray)) ++ t117) ++ (⟨#[10, 110, 32]⟩ : ByteArray)) ++ t118) ++ (⟨#[32, 115, 10, 110, 32]⟩ : ByteArray)).size + t119.size ≤ 9223372036854775807 then (if ((((((((⟨#[112, 32, 109, 97, 120, 32]⟩ : ByteArray) ++ t116) ++ (⟨#[32]⟩ : ByteArray)) ++ t117) ++ (⟨#[10, 110, 32]⟩ : ByteArray)) ++ t118) ++ (⟨#[32, 115, 10, 110, 32]⟩ : ByteArray)) ++ t119).size + 3 ≤ 9223372036854775807 then (racewayref4_Print.l0 k (((((((((⟨#[112, 32, 109, 97, 120, 32]⟩ : ByteArray) ++ t116) ++ (⟨#[32]⟩ : ByteArray)) ++ t117) ++ (⟨#[10, 110, 32]⟩ : ByteArray)) ++ t118) ++ (⟨#[32, 115, 10, 110, 32]⟩ : ByteArray)) ++ t119) ++ (⟨#[32, 116, 10]⟩ : ByteArray)) 0 a0_0 a0_1 a0_2 l0_3) else (none)) else (none))) else (none)) else (none))) else (none)) else (none))) else (none)) else (none))) else (some ((⟨#[]⟩ : ByteArray), 1))) = some (r1, r2) := H
  have A2 := Aside0.mk A20
  clear A20
  by_cases c3 : t115 = 0
  · rw [if_pos c3] at H
    have c3b0 : (t115 == 0) = true := beq_iff_eq.mpr c3
    have c3b1 : (t115 != 0) = false := bne_eq_false_iff_eq.mpr c3
    clear c3
    replace H := Option.bind_eq_some_iff.mp H
    obtain ⟨t116, A40, H⟩ := H
    replace H : (if 6 + t116.size ≤ 9223372036854775807 then (if ((⟨#[112, 32, 109, 97, 120, 32]⟩ : ByteArray) ++ t116).size + 1 ≤ 9223372036854775807 then ((racewayref2_Write.f k (l0_3.length : Int)).bind fun t117 => (if (((⟨#[112, 32, 109, 97, 120, 32]⟩ : ByteArray) ++ t116) ++ (⟨#[32]⟩ : ByteArray)).size + t117.size ≤ 9223372036854775807 then (if ((((⟨#[112, 32, 109, 97, 120, 32]⟩ : ByteArray) ++ t116) ++ (⟨#[32]⟩ : ByteArray)) ++ t117).size + 3 ≤ 9223372036854775807 then ((racewayref2_Write.f k a0_1).bind fun t118 => (if (((((⟨#[112, 32, 109, 97, 120, 32]⟩ : ByteArray) ++ t116) ++ (⟨#[32]⟩ : ByteArray)) ++ t117) ++ (⟨#[10, 110, 32]⟩ : ByteArray)).size + t118.size ≤ 9223372036854775807 then (if ((((((⟨#[112, 32, 109, 97, 120, 32]⟩ : ByteArray) ++ t116) ++ (⟨#[32]⟩ : ByteArray)) ++ t117) ++ (⟨#[10, 110, 32]⟩ : ByteArray)) ++ t118).size + 5 ≤ 9223372036854775807 then ((racewayref2_Write.f k a0_2).bind fun t119 => (if (((((((⟨#[112, 32, 109, 97, 120, 32]⟩ : ByteArray) ++ t116) ++ (⟨#[32]⟩ : ByteArray)) ++ t117) ++ (⟨#[10, 110, 32]⟩ : ByteArray)) ++ t118) ++ (⟨#[32, 115, 10, 110, 32]⟩ : ByteArray)).size + t119.size ≤ 9223372036854775807 then (if ((((((((⟨#[112, 32, 109, 97, 120, 32]⟩ : ByteArray) ++ t116) ++ (⟨#[32]⟩ : ByteArray)) ++ t117) ++ (⟨#[10, 110, 32]⟩ : ByteArray)) ++ t118) ++ (⟨#[32, 115, 10, 110, 32]⟩ : ByteArray)) ++ t119).size + 3 ≤ 9223372036854775807 then (racewayref4_Print.l0 k (((((((((⟨#[112, 32, 109, 97, 120, 32]⟩ : ByteArray) ++ t116) ++ (⟨#[32]⟩ : ByteArray)) ++ t117) ++ (⟨#[10, 110, 32]⟩ : ByteArray)) ++ t118) ++ (⟨#[32, 115, 10, 110, 32]⟩ : ByteArray)) ++ t119) ++ (⟨#[32, 116, 10]⟩ : ByteArray)) 0 a0_0 a0_1 a0_2 l0_3) else (none)) else (none))) else (none)) else (none))) else (none)) else (none))) else (none)) else (none)) = some (r1, r2) := H
    have A4 := Aside0.mk A40
    clear A40
    by_cases c5 : 6 + t116.size ≤ 9223372036854775807
    · rw [if_pos c5] at H
      have c5b0 := eq_true c5
      have c5b1 : decide (6 + t116.size ≤ 9223372036854775807) = true := decide_eq_true c5
      try have c5b2 : (9223372036854775807 < 6 + t116.size) = False := eq_false (Nat.not_lt.2 c5)
      by_cases c6 : ((⟨#[112, 32, 109, 97, 120, 32]⟩ : ByteArray) ++ t116).size + 1 ≤ 9223372036854775807
      · rw [if_pos c6] at H
        have c6b0 := eq_true c6
        have c6b1 : decide (((⟨#[112, 32, 109, 97, 120, 32]⟩ : ByteArray) ++ t116).size + 1 ≤ 9223372036854775807) = true := decide_eq_true c6
        try have c6b2 : (9223372036854775807 < ((⟨#[112, 32, 109, 97, 120, 32]⟩ : ByteArray) ++ t116).size + 1) = False := eq_false (Nat.not_lt.2 c6)
        (try (have c6b3 := c6; simp only [ByteArray.size_append] at c6b3; have c6b4 := eq_true c6b3))
        (try (have c6b5 : (9223372036854775807 < 6 + t116.size + 1) = False := eq_false (Nat.not_lt.2 c6b3); have c6b6 : (6 + t116.size + 1 ≤ 9223372036854775807) = True := eq_true c6b3))
        replace H := Option.bind_eq_some_iff.mp H
        obtain ⟨t117, A70, H⟩ := H
        replace H : (if (((⟨#[112, 32, 109, 97, 120, 32]⟩ : ByteArray) ++ t116) ++ (⟨#[32]⟩ : ByteArray)).size + t117.size ≤ 9223372036854775807 then (if ((((⟨#[112, 32, 109, 97, 120, 32]⟩ : ByteArray) ++ t116) ++ (⟨#[32]⟩ : ByteArray)) ++ t117).size + 3 ≤ 9223372036854775807 then ((racewayref2_Write.f k a0_1).bind fun t118 => (if (((((⟨#[112, 32, 109, 97, 120, 32]⟩ : ByteArray) ++ t116) ++ (⟨#[32]⟩ : ByteArray)) ++ t117) ++ (⟨#[10, 110, 32]⟩ : ByteArray)).size + t118.size ≤ 9223372036854775807 then (if ((((((⟨#[112, 32, 109, 97, 120, 32]⟩ : ByteArray) ++ t116) ++ (⟨#[32]⟩ : ByteArray)) ++ t117) ++ (⟨#[10, 110, 32]⟩ : ByteArray)) ++ t118).size + 5 ≤ 9223372036854775807 then ((racewayref2_Write.f k a0_2).bind fun t119 => (if (((((((⟨#[112, 32, 109, 97, 120, 32]⟩ : ByteArray) ++ t116) ++ (⟨#[32]⟩ : ByteArray)) ++ t117) ++ (⟨#[10, 110, 32]⟩ : ByteArray)) ++ t118) ++ (⟨#[32, 115, 10, 110, 32]⟩ : ByteArray)).size + t119.size ≤ 9223372036854775807 then (if ((((((((⟨#[112, 32, 109, 97, 120, 32]⟩ : ByteArray) ++ t116) ++ (⟨#[32]⟩ : ByteArray)) ++ t117) ++ (⟨#[10, 110, 32]⟩ : ByteArray)) ++ t118) ++ (⟨#[32, 115, 10, 110, 32]⟩ : ByteArray)) ++ t119).size + 3 ≤ 9223372036854775807 then (racewayref4_Print.l0 k (((((((((⟨#[112, 32, 109, 97, 120, 32]⟩ : ByteArray) ++ t116) ++ (⟨#[32]⟩ : ByteArray)) ++ t117) ++ (⟨#[10, 110, 32]⟩ : ByteArray)) ++ t118) ++ (⟨#[32, 115, 10, 110, 32]⟩ : ByteArray)) ++ t119) ++ (⟨#[32, 116, 10]⟩ : ByteArray)) 0 a0_0 a0_1 a0_2 l0_3) else (none)) else (none))) else (none)) else (none))) else (none)) else (none)) = some (r1, r2) := H
        have A7 := Aside0.mk A70
        clear A70
        by_cases c8 : (((⟨#[112, 32, 109, 97, 120, 32]⟩ : ByteArray) ++ t116) ++ (⟨#[32]⟩ : ByteArray)).size + t117.size ≤ 9223372036854775807
        · rw [if_pos c8] at H
          have c8b0 := eq_true c8
          have c8b1 : decide ((((⟨#[112, 32, 109, 97, 120, 32]⟩ : ByteArray) ++ t116) ++ (⟨#[32]⟩ : ByteArray)).size + t117.size ≤ 9223372036854775807) = true := decide_eq_true c8
          try have c8b2 : (9223372036854775807 < (((⟨#[112, 32, 109, 97, 120, 32]⟩ : ByteArray) ++ t116) ++ (⟨#[32]⟩ : ByteArray)).size + t117.size) = False := eq_false (Nat.not_lt.2 c8)
          (try (have c8b3 := c8; simp only [ByteArray.size_append] at c8b3; have c8b4 := eq_true c8b3))
          (try (have c8b5 : (9223372036854775807 < 6 + t116.size + 1 + t117.size) = False := eq_false (Nat.not_lt.2 c8b3); have c8b6 : (6 + t116.size + 1 + t117.size ≤ 9223372036854775807) = True := eq_true c8b3))
          by_cases c9 : ((((⟨#[112, 32, 109, 97, 120, 32]⟩ : ByteArray) ++ t116) ++ (⟨#[32]⟩ : ByteArray)) ++ t117).size + 3 ≤ 9223372036854775807
          · rw [if_pos c9] at H
            have c9b0 := eq_true c9
            have c9b1 : decide (((((⟨#[112, 32, 109, 97, 120, 32]⟩ : ByteArray) ++ t116) ++ (⟨#[32]⟩ : ByteArray)) ++ t117).size + 3 ≤ 9223372036854775807) = true := decide_eq_true c9
            try have c9b2 : (9223372036854775807 < ((((⟨#[112, 32, 109, 97, 120, 32]⟩ : ByteArray) ++ t116) ++ (⟨#[32]⟩ : ByteArray)) ++ t117).size + 3) = False := eq_false (Nat.not_lt.2 c9)
            (try (have c9b3 := c9; simp only [ByteArray.size_append] at c9b3; have c9b4 := eq_true c9b3))
            (try (have c9b5 : (9223372036854775807 < 6 + t116.size + 1 + t117.size + 3) = False := eq_false (Nat.not_lt.2 c9b3); have c9b6 : (6 + t116.size + 1 + t117.size + 3 ≤ 9223372036854775807) = True := eq_true c9b3))
            replace H := Option.bind_eq_some_iff.mp H
            obtain ⟨t118, A100, H⟩ := H
            replace H : (if (((((⟨#[112, 32, 109, 97, 120, 32]⟩ : ByteArray) ++ t116) ++ (⟨#[32]⟩ : ByteArray)) ++ t117) ++ (⟨#[10, 110, 32]⟩ : ByteArray)).size + t118.size ≤ 9223372036854775807 then (if ((((((⟨#[112, 32, 109, 97, 120, 32]⟩ : ByteArray) ++ t116) ++ (⟨#[32]⟩ : ByteArray)) ++ t117) ++ (⟨#[10, 110, 32]⟩ : ByteArray)) ++ t118).size + 5 ≤ 9223372036854775807 then ((racewayref2_Write.f k a0_2).bind fun t119 => (if (((((((⟨#[112, 32, 109, 97, 120, 32]⟩ : ByteArray) ++ t116) ++ (⟨#[32]⟩ : ByteArray)) ++ t117) ++ (⟨#[10, 110, 32]⟩ : ByteArray)) ++ t118) ++ (⟨#[32, 115, 10, 110, 32]⟩ : ByteArray)).size + t119.size ≤ 9223372036854775807 then (if ((((((((⟨#[112, 32, 109, 97, 120, 32]⟩ : ByteArray) ++ t116) ++ (⟨#[32]⟩ : ByteArray)) ++ t117) ++ (⟨#[10, 110, 32]⟩ : ByteArray)) ++ t118) ++ (⟨#[32, 115, 10, 110, 32]⟩ : ByteArray)) ++ t119).size + 3 ≤ 9223372036854775807 then (racewayref4_Print.l0 k (((((((((⟨#[112, 32, 109, 97, 120, 32]⟩ : ByteArray) ++ t116) ++ (⟨#[32]⟩ : ByteArray)) ++ t117) ++ (⟨#[10, 110, 32]⟩ : ByteArray)) ++ t118) ++ (⟨#[32, 115, 10, 110, 32]⟩ : ByteArray)) ++ t119) ++ (⟨#[32, 116, 10]⟩ : ByteArray)) 0 a0_0 a0_1 a0_2 l0_3) else (none)) else (none))) else (none)) else (none)) = some (r1, r2) := H
            have A10 := Aside0.mk A100
            clear A100
            by_cases c11 : (((((⟨#[112, 32, 109, 97, 120, 32]⟩ : ByteArray) ++ t116) ++ (⟨#[32]⟩ : ByteArray)) ++ t117) ++ (⟨#[10, 110, 32]⟩ : ByteArray)).size + t118.size ≤ 9223372036854775807
            · rw [if_pos c11] at H
              have c11b0 := eq_true c11
              have c11b1 : decide ((((((⟨#[112, 32, 109, 97, 120, 32]⟩ : ByteArray) ++ t116) ++ (⟨#[32]⟩ : ByteArray)) ++ t117) ++ (⟨#[10, 110, 32]⟩ : ByteArray)).size + t118.size ≤ 9223372036854775807) = true := decide_eq_true c11
              try have c11b2 : (9223372036854775807 < (((((⟨#[112, 32, 109, 97, 120, 32]⟩ : ByteArray) ++ t116) ++ (⟨#[32]⟩ : ByteArray)) ++ t117) ++ (⟨#[10, 110, 32]⟩ : ByteArray)).size + t118.size) = False := eq_false (Nat.not_lt.2 c11)
              (try (have c11b3 := c11; simp only [ByteArray.size_append] at c11b3; have c11b4 := eq_true c11b3))
              (try (have c11b5 : (9223372036854775807 < 6 + t116.size + 1 + t117.size + 3 + t118.size) = False := eq_false (Nat.not_lt.2 c11b3); have c11b6 : (6 + t116.size + 1 + t117.size + 3 + t118.size ≤ 9223372036854775807) = True := eq_true c11b3))
              by_cases c12 : ((((((⟨#[112, 32, 109, 97, 120, 32]⟩ : ByteArray) ++ t116) ++ (⟨#[32]⟩ : ByteArray)) ++ t117) ++ (⟨#[10, 110, 32]⟩ : ByteArray)) ++ t118).size + 5 ≤ 9223372036854775807
              · rw [if_pos c12] at H
                have c12b0 := eq_true c12
                have c12b1 : decide (((((((⟨#[112, 32, 109, 97, 120, 32]⟩ : ByteArray) ++ t116) ++ (⟨#[32]⟩ : ByteArray)) ++ t117) ++ (⟨#[10, 110, 32]⟩ : ByteArray)) ++ t118).size + 5 ≤ 9223372036854775807) = true := decide_eq_true c12
                try have c12b2 : (9223372036854775807 < ((((((⟨#[112, 32, 109, 97, 120, 32]⟩ : ByteArray) ++ t116) ++ (⟨#[32]⟩ : ByteArray)) ++ t117) ++ (⟨#[10, 110, 32]⟩ : ByteArray)) ++ t118).size + 5) = False := eq_false (Nat.not_lt.2 c12)
                (try (have c12b3 := c12; simp only [ByteArray.size_append] at c12b3; have c12b4 := eq_true c12b3))
                (try (have c12b5 : (9223372036854775807 < 6 + t116.size + 1 + t117.size + 3 + t118.size + 5) = False := eq_false (Nat.not_lt.2 c12b3); have c12b6 : (6 + t116.size + 1 + t117.size + 3 + t118.size + 5 ≤ 9223372036854775807) = True := eq_true c12b3))
                replace H := Option.bind_eq_some_iff.mp H
                obtain ⟨t119, A130, H⟩ := H
                replace H : (if (((((((⟨#[112, 32, 109, 97, 120, 32]⟩ : ByteArray) ++ t116) ++ (⟨#[32]⟩ : ByteArray)) ++ t117) ++ (⟨#[10, 110, 32]⟩ : ByteArray)) ++ t118) ++ (⟨#[32, 115, 10, 110, 32]⟩ : ByteArray)).size + t119.size ≤ 9223372036854775807 then (if ((((((((⟨#[112, 32, 109, 97, 120, 32]⟩ : ByteArray) ++ t116) ++ (⟨#[32]⟩ : ByteArray)) ++ t117) ++ (⟨#[10, 110, 32]⟩ : ByteArray)) ++ t118) ++ (⟨#[32, 115, 10, 110, 32]⟩ : ByteArray)) ++ t119).size + 3 ≤ 9223372036854775807 then (racewayref4_Print.l0 k (((((((((⟨#[112, 32, 109, 97, 120, 32]⟩ : ByteArray) ++ t116) ++ (⟨#[32]⟩ : ByteArray)) ++ t117) ++ (⟨#[10, 110, 32]⟩ : ByteArray)) ++ t118) ++ (⟨#[32, 115, 10, 110, 32]⟩ : ByteArray)) ++ t119) ++ (⟨#[32, 116, 10]⟩ : ByteArray)) 0 a0_0 a0_1 a0_2 l0_3) else (none)) else (none)) = some (r1, r2) := H
                have A13 := Aside0.mk A130
                clear A130
                by_cases c14 : (((((((⟨#[112, 32, 109, 97, 120, 32]⟩ : ByteArray) ++ t116) ++ (⟨#[32]⟩ : ByteArray)) ++ t117) ++ (⟨#[10, 110, 32]⟩ : ByteArray)) ++ t118) ++ (⟨#[32, 115, 10, 110, 32]⟩ : ByteArray)).size + t119.size ≤ 9223372036854775807
                · rw [if_pos c14] at H
                  have c14b0 := eq_true c14
                  have c14b1 : decide ((((((((⟨#[112, 32, 109, 97, 120, 32]⟩ : ByteArray) ++ t116) ++ (⟨#[32]⟩ : ByteArray)) ++ t117) ++ (⟨#[10, 110, 32]⟩ : ByteArray)) ++ t118) ++ (⟨#[32, 115, 10, 110, 32]⟩ : ByteArray)).size + t119.size ≤ 9223372036854775807) = true := decide_eq_true c14
                  try have c14b2 : (9223372036854775807 < (((((((⟨#[112, 32, 109, 97, 120, 32]⟩ : ByteArray) ++ t116) ++ (⟨#[32]⟩ : ByteArray)) ++ t117) ++ (⟨#[10, 110, 32]⟩ : ByteArray)) ++ t118) ++ (⟨#[32, 115, 10, 110, 32]⟩ : ByteArray)).size + t119.size) = False := eq_false (Nat.not_lt.2 c14)
                  (try (have c14b3 := c14; simp only [ByteArray.size_append] at c14b3; have c14b4 := eq_true c14b3))
                  (try (have c14b5 : (9223372036854775807 < 6 + t116.size + 1 + t117.size + 3 + t118.size + 5 + t119.size) = False := eq_false (Nat.not_lt.2 c14b3); have c14b6 : (6 + t116.size + 1 + t117.size + 3 + t118.size + 5 + t119.size ≤ 9223372036854775807) = True := eq_true c14b3))
                  by_cases c15 : ((((((((⟨#[112, 32, 109, 97, 120, 32]⟩ : ByteArray) ++ t116) ++ (⟨#[32]⟩ : ByteArray)) ++ t117) ++ (⟨#[10, 110, 32]⟩ : ByteArray)) ++ t118) ++ (⟨#[32, 115, 10, 110, 32]⟩ : ByteArray)) ++ t119).size + 3 ≤ 9223372036854775807
                  · rw [if_pos c15] at H
                    have c15b0 := eq_true c15
                    have c15b1 : decide (((((((((⟨#[112, 32, 109, 97, 120, 32]⟩ : ByteArray) ++ t116) ++ (⟨#[32]⟩ : ByteArray)) ++ t117) ++ (⟨#[10, 110, 32]⟩ : ByteArray)) ++ t118) ++ (⟨#[32, 115, 10, 110, 32]⟩ : ByteArray)) ++ t119).size + 3 ≤ 9223372036854775807) = true := decide_eq_true c15
                    try have c15b2 : (9223372036854775807 < ((((((((⟨#[112, 32, 109, 97, 120, 32]⟩ : ByteArray) ++ t116) ++ (⟨#[32]⟩ : ByteArray)) ++ t117) ++ (⟨#[10, 110, 32]⟩ : ByteArray)) ++ t118) ++ (⟨#[32, 115, 10, 110, 32]⟩ : ByteArray)) ++ t119).size + 3) = False := eq_false (Nat.not_lt.2 c15)
                    (try (have c15b3 := c15; simp only [ByteArray.size_append] at c15b3; have c15b4 := eq_true c15b3))
                    (try (have c15b5 : (9223372036854775807 < 6 + t116.size + 1 + t117.size + 3 + t118.size + 5 + t119.size + 3) = False := eq_false (Nat.not_lt.2 c15b3); have c15b6 : (6 + t116.size + 1 + t117.size + 3 + t118.size + 5 + t119.size + 3 ≤ 9223372036854775807) = True := eq_true c15b3))
                    have H' := Aside0.mk H
                    clear H
                    go_enter Tryz.func9, Tryz.ntmps9
                    go_wp2_with (first | ((with_reducible refine gate_dst (N := 1) rfl ?_); refine box_event ?hg (N := 1) ?hd (cs := #[.int .i64 a0_0, .int .i64 a0_1, .int .i64 a0_2, .slice A0_3 l0_3.length c0_3]) (t := 24) ?hr ?_; (case hd => rfl); (case hg => rfl); (case hr => first | (go_simp; done) | (go_simp; rfl)); intro gb114 hg w16 hbox hb; have n0_ := Aside0.mk (below_step (by repeat (first | (with_reducible first | exact HB.out | apply below_alloc | apply pw_below_drewN | apply below_drew1) | exact HB.out)) hb); have n1_ := Aside0.mk (hbox); have n2_ := Aside0.mk ((by rw [hg]; exact (below_size (by repeat (first | (with_reducible first | exact HB.out | apply below_alloc | apply pw_below_drewN | apply below_drew1) | exact HB.out))) : w.heap.size ≤ gb114)); have n3_ := Aside0.mk ((by rw [hg]; exact (below_size (by repeat (first | (with_reducible first | exact HB.out | apply below_alloc | apply pw_below_drewN | apply below_drew1) | exact HB.out))) : w.heap.size ≤ gb114)); clear HB; have HB := n0_; have BK114 := n1_; have GW114 := n2_; have GE114 := n3_; clear n0_ n1_ n2_ n3_; clear hb hbox hg; have hcz17_0 : w16.cell? ⟨gb114, 0, none⟩ = some (.int .i64 a0_0) := (blk_cell BK114.out 0).trans rfl; have hcz17_1 : w16.cell? ⟨gb114, 1, none⟩ = some (.int .i64 a0_1) := (blk_cell BK114.out 1).trans rfl; have hcz17_2 : w16.cell? ⟨gb114, 2, none⟩ = some (.int .i64 a0_2) := (blk_cell BK114.out 2).trans rfl; have hcz17_3 : w16.cell? ⟨gb114, 3, none⟩ = some (.slice A0_3 l0_3.length c0_3) := (blk_cell BK114.out 3).trans rfl; have hfz17_0 := blk_frozen BK114.out 0; have hfz17_1 := blk_frozen BK114.out 1; have hfz17_2 := blk_frozen BK114.out 2; have hfz17_3 := blk_frozen BK114.out 3) | (go_at_call 19; (with_reducible refine (racewayref3_Check.calls k a0_0 a0_1 a0_2 _ _ l0_3 t115 _ ?side1 ?side2 A2.out).mono ?_); (case side1 => repeat (first | exact (Kd.C_below HR0_3.out HB.out) | (with_reducible refine Kd.C_alloc ?_ _) | (with_reducible refine Kd.C_drewN ?_ _) | (with_reducible refine Kd.C_drew ?_))); (case side2 => exact HC0_3.out); rintro e w18 ⟨rfl, hb⟩; have n0_ := Aside0.mk (blk_below (g := gb114) (o := .cells #[.int .i64 a0_0, .int .i64 a0_1, .int .i64 a0_2, .slice A0_3 l0_3.length c0_3] 24 (0, 0)) (by (with_reducible repeat (first | refine blk_drewN ?_ _ | refine blk_drew ?_ | refine blk_alloc ?_ _)); exact BK114.out) hb); have n1_ := Aside0.mk (below_step (by repeat (first | (with_reducible first | exact HB.out | apply below_alloc | apply pw_below_drewN | apply below_drew1 | refine below_set ?_ GE114.out) | exact HB.out)) hb); clear BK114; clear HB; have BK114 := n0_; have HB := n1_; clear n0_ n1_; (try clear hb); (try clear hb2); (try clear hk); (try clear hi); have hcz19_0 : w18.cell? ⟨gb114, 0, none⟩ = some (.int .i64 a0_0) := (blk_cell BK114.out 0).trans rfl; have hcz19_1 : w18.cell? ⟨gb114, 1, none⟩ = some (.int .i64 a0_1) := (blk_cell BK114.out 1).trans rfl; have hcz19_2 : w18.cell? ⟨gb114, 2, none⟩ = some (.int .i64 a0_2) := (blk_cell BK114.out 2).trans rfl; have hcz19_3 : w18.cell? ⟨gb114, 3, none⟩ = some (.slice A0_3 l0_3.length c0_3) := (blk_cell BK114.out 3).trans rfl; have hfz19_0 := blk_frozen BK114.out 0; have hfz19_1 := blk_frozen BK114.out 1; have hfz19_2 := blk_frozen BK114.out 2; have hfz19_3 := blk_frozen BK114.out 3) | (go_at_call 20; (with_reducible refine (racewayref2_Write.calls k a0_0 t116 _ A4.out).mono ?_); rintro e w' ⟨rfl, ⟨nd, rfl⟩⟩; (try first | exact ⟨rfl, _, World.drewN_drewN _ _ _⟩ | exact ⟨rfl, _, Eq.trans (World.drewN_drewN _ _ _) (congrArg (World.drewN _) (Nat.add_assoc _ _ _))⟩)) | (go_at_call 20; (with_reducible refine (racewayref2_Write.calls k (l0_3.length : Int) t117 _ A7.out).mono ?_); rintro e w' ⟨rfl, ⟨nd, rfl⟩⟩; (try first | exact ⟨rfl, _, World.drewN_drewN _ _ _⟩ | exact ⟨rfl, _, Eq.trans (World.drewN_drewN _ _ _) (congrArg (World.drewN _) (Nat.add_assoc _ _ _))⟩)) | (go_at_call 20; (with_reducible refine (racewayref2_Write.calls k a0_1 t118 _ A10.out).mono ?_); rintro e w' ⟨rfl, ⟨nd, rfl⟩⟩; (try first | exact ⟨rfl, _, World.drewN_drewN _ _ _⟩ | exact ⟨rfl, _, Eq.trans (World.drewN_drewN _ _ _) (congrArg (World.drewN _) (Nat.add_assoc _ _ _))⟩)) | (go_at_call 20; (with_reducible refine (racewayref2_Write.calls k a0_2 t119 _ A13.out).mono ?_); rintro e w' ⟨rfl, ⟨nd, rfl⟩⟩; (try first | exact ⟨rfl, _, World.drewN_drewN _ _ _⟩ | exact ⟨rfl, _, Eq.trans (World.drewN_drewN _ _ _) (congrArg (World.drewN _) (Nat.add_assoc _ _ _))⟩)))
                    repeat (go_quiet (first | ((with_reducible refine gate_dst (N := 1) rfl ?_); refine box_event ?hg (N := 1) ?hd (cs := #[.int .i64 a0_0, .int .i64 a0_1, .int .i64 a0_2, .slice A0_3 l0_3.length c0_3]) (t := 24) ?hr ?_; (case hd => rfl); (case hg => rfl); (case hr => first | (go_simp; done) | (go_simp; rfl)); intro gb114 hg w16 hbox hb; have n0_ := Aside0.mk (below_step (by repeat (first | (with_reducible first | exact HB.out | apply below_alloc | apply pw_below_drewN | apply below_drew1) | exact HB.out)) hb); have n1_ := Aside0.mk (hbox); have n2_ := Aside0.mk ((by rw [hg]; exact (below_size (by repeat (first | (with_reducible first | exact HB.out | apply below_alloc | apply pw_below_drewN | apply below_drew1) | exact HB.out))) : w.heap.size ≤ gb114)); have n3_ := Aside0.mk ((by rw [hg]; exact (below_size (by repeat (first | (with_reducible first | exact HB.out | apply below_alloc | apply pw_below_drewN | apply below_drew1) | exact HB.out))) : w.heap.size ≤ gb114)); clear HB; have HB := n0_; have BK114 := n1_; have GW114 := n2_; have GE114 := n3_; clear n0_ n1_ n2_ n3_; clear hb hbox hg; have hcz17_0 : w16.cell? ⟨gb114, 0, none⟩ = some (.int .i64 a0_0) := (blk_cell BK114.out 0).trans rfl; have hcz17_1 : w16.cell? ⟨gb114, 1, none⟩ = some (.int .i64 a0_1) := (blk_cell BK114.out 1).trans rfl; have hcz17_2 : w16.cell? ⟨gb114, 2, none⟩ = some (.int .i64 a0_2) := (blk_cell BK114.out 2).trans rfl; have hcz17_3 : w16.cell? ⟨gb114, 3, none⟩ = some (.slice A0_3 l0_3.length c0_3) := (blk_cell BK114.out 3).trans rfl; have hfz17_0 := blk_frozen BK114.out 0; have hfz17_1 := blk_frozen BK114.out 1; have hfz17_2 := blk_frozen BK114.out 2; have hfz17_3 := blk_frozen BK114.out 3) | (go_at_call 19; (with_reducible refine (racewayref3_Check.calls k a0_0 a0_1 a0_2 _ _ l0_3 t115 _ ?side1 ?side2 A2.out).mono ?_); (case side1 => repeat (first | exact (Kd.C_below HR0_3.out HB.out) | (with_reducible refine Kd.C_alloc ?_ _) | (with_reducible refine Kd.C_drewN ?_ _) | (with_reducible refine Kd.C_drew ?_))); (case side2 => exact HC0_3.out); rintro e w18 ⟨rfl, hb⟩; have n0_ := Aside0.mk (blk_below (g := gb114) (o := .cells #[.int .i64 a0_0, .int .i64 a0_1, .int .i64 a0_2, .slice A0_3 l0_3.length c0_3] 24 (0, 0)) (by (with_reducible repeat (first | refine blk_drewN ?_ _ | refine blk_drew ?_ | refine blk_alloc ?_ _)); exact BK114.out) hb); have n1_ := Aside0.mk (below_step (by repeat (first | (with_reducible first | exact HB.out | apply below_alloc | apply pw_below_drewN | apply below_drew1 | refine below_set ?_ GE114.out) | exact HB.out)) hb); clear BK114; clear HB; have BK114 := n0_; have HB := n1_; clear n0_ n1_; (try clear hb); (try clear hb2); (try clear hk); (try clear hi); have hcz19_0 : w18.cell? ⟨gb114, 0, none⟩ = some (.int .i64 a0_0) := (blk_cell BK114.out 0).trans rfl; have hcz19_1 : w18.cell? ⟨gb114, 1, none⟩ = some (.int .i64 a0_1) := (blk_cell BK114.out 1).trans rfl; have hcz19_2 : w18.cell? ⟨gb114, 2, none⟩ = some (.int .i64 a0_2) := (blk_cell BK114.out 2).trans rfl; have hcz19_3 : w18.cell? ⟨gb114, 3, none⟩ = some (.slice A0_3 l0_3.length c0_3) := (blk_cell BK114.out 3).trans rfl; have hfz19_0 := blk_frozen BK114.out 0; have hfz19_1 := blk_frozen BK114.out 1; have hfz19_2 := blk_frozen BK114.out 2; have hfz19_3 := blk_frozen BK114.out 3) | (go_at_call 20; (with_reducible refine (racewayref2_Write.calls k a0_0 t116 _ A4.out).mono ?_); rintro e w' ⟨rfl, ⟨nd, rfl⟩⟩; (try first | exact ⟨rfl, _, World.drewN_drewN _ _ _⟩ | exact ⟨rfl, _, Eq.trans (World.drewN_drewN _ _ _) (congrArg (World.drewN _) (Nat.add_assoc _ _ _))⟩)) | (go_at_call 20; (with_reducible refine (racewayref2_Write.calls k (l0_3.length : Int) t117 _ A7.out).mono ?_); rintro e w' ⟨rfl, ⟨nd, rfl⟩⟩; (try first | exact ⟨rfl, _, World.drewN_drewN _ _ _⟩ | exact ⟨rfl, _, Eq.trans (World.drewN_drewN _ _ _) (congrArg (World.drewN _) (Nat.add_assoc _ _ _))⟩)) | (go_at_call 20; (with_reducible refine (racewayref2_Write.calls k a0_1 t118 _ A10.out).mono ?_); rintro e w' ⟨rfl, ⟨nd, rfl⟩⟩; (try first | exact ⟨rfl, _, World.drewN_drewN _ _ _⟩ | exact ⟨rfl, _, Eq.trans (World.drewN_drewN _ _ _) (congrArg (World.drewN _) (Nat.add_assoc _ _ _))⟩)) | (go_at_call 20; (with_reducible refine (racewayref2_Write.calls k a0_2 t119 _ A13.out).mono ?_); rintro e w' ⟨rfl, ⟨nd, rfl⟩⟩; (try first | exact ⟨rfl, _, World.drewN_drewN _ _ _⟩ | exact ⟨rfl, _, Eq.trans (World.drewN_drewN _ _ _) (congrArg (World.drewN _) (Nat.add_assoc _ _ _))⟩))); try go_wp2_with (first | ((with_reducible refine gate_dst (N := 1) rfl ?_); refine box_event ?hg (N := 1) ?hd (cs := #[.int .i64 a0_0, .int .i64 a0_1, .int .i64 a0_2, .slice A0_3 l0_3.length c0_3]) (t := 24) ?hr ?_; (case hd => rfl); (case hg => rfl); (case hr => first | (go_simp; done) | (go_simp; rfl)); intro gb114 hg w16 hbox hb; have n0_ := Aside0.mk (below_step (by repeat (first | (with_reducible first | exact HB.out | apply below_alloc | apply pw_below_drewN | apply below_drew1) | exact HB.out)) hb); have n1_ := Aside0.mk (hbox); have n2_ := Aside0.mk ((by rw [hg]; exact (below_size (by repeat (first | (with_reducible first | exact HB.out | apply below_alloc | apply pw_below_drewN | apply below_drew1) | exact HB.out))) : w.heap.size ≤ gb114)); have n3_ := Aside0.mk ((by rw [hg]; exact (below_size (by repeat (first | (with_reducible first | exact HB.out | apply below_alloc | apply pw_below_drewN | apply below_drew1) | exact HB.out))) : w.heap.size ≤ gb114)); clear HB; have HB := n0_; have BK114 := n1_; have GW114 := n2_; have GE114 := n3_; clear n0_ n1_ n2_ n3_; clear hb hbox hg; have hcz17_0 : w16.cell? ⟨gb114, 0, none⟩ = some (.int .i64 a0_0) := (blk_cell BK114.out 0).trans rfl; have hcz17_1 : w16.cell? ⟨gb114, 1, none⟩ = some (.int .i64 a0_1) := (blk_cell BK114.out 1).trans rfl; have hcz17_2 : w16.cell? ⟨gb114, 2, none⟩ = some (.int .i64 a0_2) := (blk_cell BK114.out 2).trans rfl; have hcz17_3 : w16.cell? ⟨gb114, 3, none⟩ = some (.slice A0_3 l0_3.length c0_3) := (blk_cell BK114.out 3).trans rfl; have hfz17_0 := blk_frozen BK114.out 0; have hfz17_1 := blk_frozen BK114.out 1; have hfz17_2 := blk_frozen BK114.out 2; have hfz17_3 := blk_frozen BK114.out 3) | (go_at_call 19; (with_reducible refine (racewayref3_Check.calls k a0_0 a0_1 a0_2 _ _ l0_3 t115 _ ?side1 ?side2 A2.out).mono ?_); (case side1 => repeat (first | exact (Kd.C_below HR0_3.out HB.out) | (with_reducible refine Kd.C_alloc ?_ _) | (with_reducible refine Kd.C_drewN ?_ _) | (with_reducible refine Kd.C_drew ?_))); (case side2 => exact HC0_3.out); rintro e w18 ⟨rfl, hb⟩; have n0_ := Aside0.mk (blk_below (g := gb114) (o := .cells #[.int .i64 a0_0, .int .i64 a0_1, .int .i64 a0_2, .slice A0_3 l0_3.length c0_3] 24 (0, 0)) (by (with_reducible repeat (first | refine blk_drewN ?_ _ | refine blk_drew ?_ | refine blk_alloc ?_ _)); exact BK114.out) hb); have n1_ := Aside0.mk (below_step (by repeat (first | (with_reducible first | exact HB.out | apply below_alloc | apply pw_below_drewN | apply below_drew1 | refine below_set ?_ GE114.out) | exact HB.out)) hb); clear BK114; clear HB; have BK114 := n0_; have HB := n1_; clear n0_ n1_; (try clear hb); (try clear hb2); (try clear hk); (try clear hi); have hcz19_0 : w18.cell? ⟨gb114, 0, none⟩ = some (.int .i64 a0_0) := (blk_cell BK114.out 0).trans rfl; have hcz19_1 : w18.cell? ⟨gb114, 1, none⟩ = some (.int .i64 a0_1) := (blk_cell BK114.out 1).trans rfl; have hcz19_2 : w18.cell? ⟨gb114, 2, none⟩ = some (.int .i64 a0_2) := (blk_cell BK114.out 2).trans rfl; have hcz19_3 : w18.cell? ⟨gb114, 3, none⟩ = some (.slice A0_3 l0_3.length c0_3) := (blk_cell BK114.out 3).trans rfl; have hfz19_0 := blk_frozen BK114.out 0; have hfz19_1 := blk_frozen BK114.out 1; have hfz19_2 := blk_frozen BK114.out 2; have hfz19_3 := blk_frozen BK114.out 3) | (go_at_call 20; (with_reducible refine (racewayref2_Write.calls k a0_0 t116 _ A4.out).mono ?_); rintro e w' ⟨rfl, ⟨nd, rfl⟩⟩; (try first | exact ⟨rfl, _, World.drewN_drewN _ _ _⟩ | exact ⟨rfl, _, Eq.trans (World.drewN_drewN _ _ _) (congrArg (World.drewN _) (Nat.add_assoc _ _ _))⟩)) | (go_at_call 20; (with_reducible refine (racewayref2_Write.calls k (l0_3.length : Int) t117 _ A7.out).mono ?_); rintro e w' ⟨rfl, ⟨nd, rfl⟩⟩; (try first | exact ⟨rfl, _, World.drewN_drewN _ _ _⟩ | exact ⟨rfl, _, Eq.trans (World.drewN_drewN _ _ _) (congrArg (World.drewN _) (Nat.add_assoc _ _ _))⟩)) | (go_at_call 20; (with_reducible refine (racewayref2_Write.calls k a0_1 t118 _ A10.out).mono ?_); rintro e w' ⟨rfl, ⟨nd, rfl⟩⟩; (try first | exact ⟨rfl, _, World.drewN_drewN _ _ _⟩ | exact ⟨rfl, _, Eq.trans (World.drewN_drewN _ _ _) (congrArg (World.drewN _) (Nat.add_assoc _ _ _))⟩)) | (go_at_call 20; (with_reducible refine (racewayref2_Write.calls k a0_2 t119 _ A13.out).mono ?_); rintro e w' ⟨rfl, ⟨nd, rfl⟩⟩; (try first | exact ⟨rfl, _, World.drewN_drewN _ _ _⟩ | exact ⟨rfl, _, Eq.trans (World.drewN_drewN _ _ _) (congrArg (World.drewN _) (Nat.add_assoc _ _ _))⟩))))
                    go_loopg [4, 5] k (fun kq v4 v5 w' => ∃ (x4_1 : ByteArray) (x5_1 : Int), v4 = .string x4_1 ∧ v5 = .int .i64 x5_1 ∧ Aside0 (racewayref4_Print.l0 kq x4_1 x5_1 a0_0 a0_1 a0_2 l0_3 = some (r1, r2)) ∧ Aside0 (kq ≤ k) ∧ Aside0 (w'.heap[gb114]? = some (.cells #[.int .i64 a0_0, .int .i64 a0_1, .int .i64 a0_2, (.slice A0_3 l0_3.length c0_3)] 24 (0, 0))) ∧ Aside0 (Below w.heap.size w w'))
                    case atStart => exact ⟨(((((((((⟨#[112, 32, 109, 97, 120, 32]⟩ : ByteArray) ++ t116) ++ (⟨#[32]⟩ : ByteArray)) ++ t117) ++ (⟨#[10, 110, 32]⟩ : ByteArray)) ++ t118) ++ (⟨#[32, 115, 10, 110, 32]⟩ : ByteArray)) ++ t119) ++ (⟨#[32, 116, 10]⟩ : ByteArray)), (0), (by first | rfl | (simp; done) | (simp [*]; done)), (by first | rfl | (simp; done) | (simp [*]; done)), H', ⟨Nat.le_refl _⟩, ⟨by (with_reducible repeat (first | refine blk_drewN ?_ _ | refine blk_drew ?_ | refine blk_alloc ?_ _)); exact BK114.out⟩, ⟨by repeat (first | (with_reducible first | exact HB.out | apply below_alloc | apply pw_below_drewN | apply below_drew1 | refine below_set ?_ GE114.out) | exact HB.out)⟩⟩
                    case round =>
                      clear H'
                      try clear c1
                      try clear p2
                      try clear c3
                      try clear c3b0
                      try clear c3b1
                      try clear c5
                      try clear c5b0
                      try clear c5b1
                      try clear c5b2
                      try clear c6
                      try clear c6b0
                      try clear c6b1
                      try clear c6b2
                      try clear c8
                      try clear c8b0
                      try clear c8b1
                      try clear c8b2
                      try clear c9
                      try clear c9b0
                      try clear c9b1
                      try clear c9b2
                      try clear c11
                      try clear c11b0
                      try clear c11b1
                      try clear c11b2
                      try clear c12
                      try clear c12b0
                      try clear c12b1
                      try clear c12b2
                      try clear c14
                      try clear c14b0
                      try clear c14b1
                      try clear c14b2
                      try clear c15
                      try clear c15b0
                      try clear c15b1
                      try clear c15b2
                      try clear hcz17_0
                      try clear hcz17_1
                      try clear hcz17_2
                      try clear hcz17_3
                      try clear hcz19_0
                      try clear hcz19_1
                      try clear hcz19_2
                      try clear hcz19_3
                      try clear hfz17_0
                      try clear hfz17_1
                      try clear hfz17_2
                      try clear hfz17_3
                      try clear hfz19_0
                      try clear hfz19_1
                      try clear hfz19_2
                      try clear hfz19_3
                      obtain ⟨x4_1, x5_1, rfl, rfl, HA, HK1, BK114, HB⟩ := hrel
                      cases gk with
                      | zero => exact absurd HA.out (by simp [racewayref4_Print.l0])
                      | succ k1 =>
                        as_aux_lemma =>
                          have H := HA.out
                          clear HA
                          simp only [racewayref4_Print.l0] at H
                          by_cases c20 : x5_1 < (l0_3.length : Int)
                          · rw [if_pos c20] at H
                            have c20b0 : decide (x5_1 < (l0_3.length : Int)) = true := decide_eq_true c20
                            clear c20
                            by_cases c21 : 0 ≤ x5_1
                            · rw [if_pos c21] at H
                              have c21b0 : decide (0 ≤ x5_1) = true := decide_eq_true c21
                              clear c21
                              by_cases c22 : x4_1.size + 2 ≤ 9223372036854775807
                              · rw [if_pos c22] at H
                                have c22b0 := eq_true c22
                                have c22b1 : decide (x4_1.size + 2 ≤ 9223372036854775807) = true := decide_eq_true c22
                                try have c22b2 : (9223372036854775807 < x4_1.size + 2) = False := eq_false (Nat.not_lt.2 c22)
                                replace H := Option.bind_eq_some_iff.mp H
                                obtain ⟨t122, A230, H⟩ := H
                                replace H : (if (x4_1 ++ (⟨#[97, 32]⟩ : ByteArray)).size + t122.size ≤ 9223372036854775807 then (if ((x4_1 ++ (⟨#[97, 32]⟩ : ByteArray)) ++ t122).size + 1 ≤ 9223372036854775807 then ((racewayref2_Write.f k1 ((rd_T44 l0_3 x5_1).f1)).bind fun t123 => (if (((x4_1 ++ (⟨#[97, 32]⟩ : ByteArray)) ++ t122) ++ (⟨#[32]⟩ : ByteArray)).size + t123.size ≤ 9223372036854775807 then (if ((((x4_1 ++ (⟨#[97, 32]⟩ : ByteArray)) ++ t122) ++ (⟨#[32]⟩ : ByteArray)) ++ t123).size + 1 ≤ 9223372036854775807 then ((racewayref2_Write.f k1 ((rd_T44 l0_3 x5_1).f2)).bind fun t124 => (if (((((x4_1 ++ (⟨#[97, 32]⟩ : ByteArray)) ++ t122) ++ (⟨#[32]⟩ : ByteArray)) ++ t123) ++ (⟨#[32]⟩ : ByteArray)).size + t124.size ≤ 9223372036854775807 then (if ((((((x4_1 ++ (⟨#[97, 32]⟩ : ByteArray)) ++ t122) ++ (⟨#[32]⟩ : ByteArray)) ++ t123) ++ (⟨#[32]⟩ : ByteArray)) ++ t124).size + 1 ≤ 9223372036854775807 then (racewayref4_Print.l0 k1 (((((((x4_1 ++ (⟨#[97, 32]⟩ : ByteArray)) ++ t122) ++ (⟨#[32]⟩ : ByteArray)) ++ t123) ++ (⟨#[32]⟩ : ByteArray)) ++ t124) ++ (⟨#[10]⟩ : ByteArray)) (wrap64 (x5_1 + 1)) a0_0 a0_1 a0_2 l0_3) else (none)) else (none))) else (none)) else (none))) else (none)) else (none)) = some (r1, r2) := H
                                have A23 := Aside0.mk A230
                                clear A230
                                by_cases c24 : (x4_1 ++ (⟨#[97, 32]⟩ : ByteArray)).size + t122.size ≤ 9223372036854775807
                                · rw [if_pos c24] at H
                                  have c24b0 := eq_true c24
                                  have c24b1 : decide ((x4_1 ++ (⟨#[97, 32]⟩ : ByteArray)).size + t122.size ≤ 9223372036854775807) = true := decide_eq_true c24
                                  try have c24b2 : (9223372036854775807 < (x4_1 ++ (⟨#[97, 32]⟩ : ByteArray)).size + t122.size) = False := eq_false (Nat.not_lt.2 c24)
                                  (try (have c24b3 := c24; simp only [ByteArray.size_append] at c24b3; have c24b4 := eq_true c24b3))
                                  (try (have c24b5 : (9223372036854775807 < x4_1.size + 2 + t122.size) = False := eq_false (Nat.not_lt.2 c24b3); have c24b6 : (x4_1.size + 2 + t122.size ≤ 9223372036854775807) = True := eq_true c24b3))
                                  by_cases c25 : ((x4_1 ++ (⟨#[97, 32]⟩ : ByteArray)) ++ t122).size + 1 ≤ 9223372036854775807
                                  · rw [if_pos c25] at H
                                    have c25b0 := eq_true c25
                                    have c25b1 : decide (((x4_1 ++ (⟨#[97, 32]⟩ : ByteArray)) ++ t122).size + 1 ≤ 9223372036854775807) = true := decide_eq_true c25
                                    try have c25b2 : (9223372036854775807 < ((x4_1 ++ (⟨#[97, 32]⟩ : ByteArray)) ++ t122).size + 1) = False := eq_false (Nat.not_lt.2 c25)
                                    (try (have c25b3 := c25; simp only [ByteArray.size_append] at c25b3; have c25b4 := eq_true c25b3))
                                    (try (have c25b5 : (9223372036854775807 < x4_1.size + 2 + t122.size + 1) = False := eq_false (Nat.not_lt.2 c25b3); have c25b6 : (x4_1.size + 2 + t122.size + 1 ≤ 9223372036854775807) = True := eq_true c25b3))
                                    replace H := Option.bind_eq_some_iff.mp H
                                    obtain ⟨t123, A260, H⟩ := H
                                    replace H : (if (((x4_1 ++ (⟨#[97, 32]⟩ : ByteArray)) ++ t122) ++ (⟨#[32]⟩ : ByteArray)).size + t123.size ≤ 9223372036854775807 then (if ((((x4_1 ++ (⟨#[97, 32]⟩ : ByteArray)) ++ t122) ++ (⟨#[32]⟩ : ByteArray)) ++ t123).size + 1 ≤ 9223372036854775807 then ((racewayref2_Write.f k1 ((rd_T44 l0_3 x5_1).f2)).bind fun t124 => (if (((((x4_1 ++ (⟨#[97, 32]⟩ : ByteArray)) ++ t122) ++ (⟨#[32]⟩ : ByteArray)) ++ t123) ++ (⟨#[32]⟩ : ByteArray)).size + t124.size ≤ 9223372036854775807 then (if ((((((x4_1 ++ (⟨#[97, 32]⟩ : ByteArray)) ++ t122) ++ (⟨#[32]⟩ : ByteArray)) ++ t123) ++ (⟨#[32]⟩ : ByteArray)) ++ t124).size + 1 ≤ 9223372036854775807 then (racewayref4_Print.l0 k1 (((((((x4_1 ++ (⟨#[97, 32]⟩ : ByteArray)) ++ t122) ++ (⟨#[32]⟩ : ByteArray)) ++ t123) ++ (⟨#[32]⟩ : ByteArray)) ++ t124) ++ (⟨#[10]⟩ : ByteArray)) (wrap64 (x5_1 + 1)) a0_0 a0_1 a0_2 l0_3) else (none)) else (none))) else (none)) else (none)) = some (r1, r2) := H
                                    have A26 := Aside0.mk A260
                                    clear A260
                                    by_cases c27 : (((x4_1 ++ (⟨#[97, 32]⟩ : ByteArray)) ++ t122) ++ (⟨#[32]⟩ : ByteArray)).size + t123.size ≤ 9223372036854775807
                                    · rw [if_pos c27] at H
                                      have c27b0 := eq_true c27
                                      have c27b1 : decide ((((x4_1 ++ (⟨#[97, 32]⟩ : ByteArray)) ++ t122) ++ (⟨#[32]⟩ : ByteArray)).size + t123.size ≤ 9223372036854775807) = true := decide_eq_true c27
                                      try have c27b2 : (9223372036854775807 < (((x4_1 ++ (⟨#[97, 32]⟩ : ByteArray)) ++ t122) ++ (⟨#[32]⟩ : ByteArray)).size + t123.size) = False := eq_false (Nat.not_lt.2 c27)
                                      (try (have c27b3 := c27; simp only [ByteArray.size_append] at c27b3; have c27b4 := eq_true c27b3))
                                      (try (have c27b5 : (9223372036854775807 < x4_1.size + 2 + t122.size + 1 + t123.size) = False := eq_false (Nat.not_lt.2 c27b3); have c27b6 : (x4_1.size + 2 + t122.size + 1 + t123.size ≤ 9223372036854775807) = True := eq_true c27b3))
                                      by_cases c28 : ((((x4_1 ++ (⟨#[97, 32]⟩ : ByteArray)) ++ t122) ++ (⟨#[32]⟩ : ByteArray)) ++ t123).size + 1 ≤ 9223372036854775807
                                      · rw [if_pos c28] at H
                                        have c28b0 := eq_true c28
                                        have c28b1 : decide (((((x4_1 ++ (⟨#[97, 32]⟩ : ByteArray)) ++ t122) ++ (⟨#[32]⟩ : ByteArray)) ++ t123).size + 1 ≤ 9223372036854775807) = true := decide_eq_true c28
                                        try have c28b2 : (9223372036854775807 < ((((x4_1 ++ (⟨#[97, 32]⟩ : ByteArray)) ++ t122) ++ (⟨#[32]⟩ : ByteArray)) ++ t123).size + 1) = False := eq_false (Nat.not_lt.2 c28)
                                        (try (have c28b3 := c28; simp only [ByteArray.size_append] at c28b3; have c28b4 := eq_true c28b3))
                                        (try (have c28b5 : (9223372036854775807 < x4_1.size + 2 + t122.size + 1 + t123.size + 1) = False := eq_false (Nat.not_lt.2 c28b3); have c28b6 : (x4_1.size + 2 + t122.size + 1 + t123.size + 1 ≤ 9223372036854775807) = True := eq_true c28b3))
                                        replace H := Option.bind_eq_some_iff.mp H
                                        obtain ⟨t124, A290, H⟩ := H
                                        replace H : (if (((((x4_1 ++ (⟨#[97, 32]⟩ : ByteArray)) ++ t122) ++ (⟨#[32]⟩ : ByteArray)) ++ t123) ++ (⟨#[32]⟩ : ByteArray)).size + t124.size ≤ 9223372036854775807 then (if ((((((x4_1 ++ (⟨#[97, 32]⟩ : ByteArray)) ++ t122) ++ (⟨#[32]⟩ : ByteArray)) ++ t123) ++ (⟨#[32]⟩ : ByteArray)) ++ t124).size + 1 ≤ 9223372036854775807 then (racewayref4_Print.l0 k1 (((((((x4_1 ++ (⟨#[97, 32]⟩ : ByteArray)) ++ t122) ++ (⟨#[32]⟩ : ByteArray)) ++ t123) ++ (⟨#[32]⟩ : ByteArray)) ++ t124) ++ (⟨#[10]⟩ : ByteArray)) (wrap64 (x5_1 + 1)) a0_0 a0_1 a0_2 l0_3) else (none)) else (none)) = some (r1, r2) := H
                                        have A29 := Aside0.mk A290
                                        clear A290
                                        by_cases c30 : (((((x4_1 ++ (⟨#[97, 32]⟩ : ByteArray)) ++ t122) ++ (⟨#[32]⟩ : ByteArray)) ++ t123) ++ (⟨#[32]⟩ : ByteArray)).size + t124.size ≤ 9223372036854775807
                                        · rw [if_pos c30] at H
                                          have c30b0 := eq_true c30
                                          have c30b1 : decide ((((((x4_1 ++ (⟨#[97, 32]⟩ : ByteArray)) ++ t122) ++ (⟨#[32]⟩ : ByteArray)) ++ t123) ++ (⟨#[32]⟩ : ByteArray)).size + t124.size ≤ 9223372036854775807) = true := decide_eq_true c30
                                          try have c30b2 : (9223372036854775807 < (((((x4_1 ++ (⟨#[97, 32]⟩ : ByteArray)) ++ t122) ++ (⟨#[32]⟩ : ByteArray)) ++ t123) ++ (⟨#[32]⟩ : ByteArray)).size + t124.size) = False := eq_false (Nat.not_lt.2 c30)
                                          (try (have c30b3 := c30; simp only [ByteArray.size_append] at c30b3; have c30b4 := eq_true c30b3))
                                          (try (have c30b5 : (9223372036854775807 < x4_1.size + 2 + t122.size + 1 + t123.size + 1 + t124.size) = False := eq_false (Nat.not_lt.2 c30b3); have c30b6 : (x4_1.size + 2 + t122.size + 1 + t123.size + 1 + t124.size ≤ 9223372036854775807) = True := eq_true c30b3))
                                          by_cases c31 : ((((((x4_1 ++ (⟨#[97, 32]⟩ : ByteArray)) ++ t122) ++ (⟨#[32]⟩ : ByteArray)) ++ t123) ++ (⟨#[32]⟩ : ByteArray)) ++ t124).size + 1 ≤ 9223372036854775807
                                          · rw [if_pos c31] at H
                                            have c31b0 := eq_true c31
                                            have c31b1 : decide (((((((x4_1 ++ (⟨#[97, 32]⟩ : ByteArray)) ++ t122) ++ (⟨#[32]⟩ : ByteArray)) ++ t123) ++ (⟨#[32]⟩ : ByteArray)) ++ t124).size + 1 ≤ 9223372036854775807) = true := decide_eq_true c31
                                            try have c31b2 : (9223372036854775807 < ((((((x4_1 ++ (⟨#[97, 32]⟩ : ByteArray)) ++ t122) ++ (⟨#[32]⟩ : ByteArray)) ++ t123) ++ (⟨#[32]⟩ : ByteArray)) ++ t124).size + 1) = False := eq_false (Nat.not_lt.2 c31)
                                            (try (have c31b3 := c31; simp only [ByteArray.size_append] at c31b3; have c31b4 := eq_true c31b3))
                                            (try (have c31b5 : (9223372036854775807 < x4_1.size + 2 + t122.size + 1 + t123.size + 1 + t124.size + 1) = False := eq_false (Nat.not_lt.2 c31b3); have c31b6 : (x4_1.size + 2 + t122.size + 1 + t123.size + 1 + t124.size + 1 ≤ 9223372036854775807) = True := eq_true c31b3))
                                            have H' := Aside0.mk H
                                            clear H
                                            have hcz32_0 : wr.cell? ⟨gb114, 0, none⟩ = some (.int .i64 a0_0) := (blk_cell BK114.out 0).trans rfl
                                            have hcz32_1 : wr.cell? ⟨gb114, 1, none⟩ = some (.int .i64 a0_1) := (blk_cell BK114.out 1).trans rfl
                                            have hcz32_2 : wr.cell? ⟨gb114, 2, none⟩ = some (.int .i64 a0_2) := (blk_cell BK114.out 2).trans rfl
                                            have hcz32_3 : wr.cell? ⟨gb114, 3, none⟩ = some (.slice A0_3 l0_3.length c0_3) := (blk_cell BK114.out 3).trans rfl
                                            have hfz32_0 := blk_frozen BK114.out 0
                                            have hfz32_1 := blk_frozen BK114.out 1
                                            have hfz32_2 := blk_frozen BK114.out 2
                                            have hfz32_3 := blk_frozen BK114.out 3
                                            have p120 : 0 ≤ (x5_1 : Int) := of_decide_eq_true (by first | (with_reducible assumption) | assumption)
                                            have q120 : x5_1 < (l0_3.length : Int) := of_decide_eq_true (by first | (with_reducible assumption) | assumption)
                                            obtain ⟨ad120, e120, hx120_0, hx120_1, hx120_2⟩ := at_T44 HR0_3.out x5_1 p120 q120
                                            cases e120
                                            replace hx120_0 := (HB.out.cell (World.block_lt_of_cell? w _ hx120_0)).trans hx120_0
                                            replace hx120_1 := (HB.out.cell (World.block_lt_of_cell? w _ hx120_1)).trans hx120_1
                                            replace hx120_2 := (HB.out.cell (World.block_lt_of_cell? w _ hx120_2)).trans hx120_2
                                            replace p120 := eq_true p120
                                            replace q120 := eq_true q120
                                            go_wp2_with (first | ((with_reducible refine gate_dst (N := 6) rfl ?_); refine box_event ?hg (N := 6) ?hd (cs := #[.int .i64 0, .int .i64 0, .int .i64 0]) (t := 44) ?hr ?_; (case hd => rfl); (case hg => rfl); (case hr => first | (go_simp; done) | (go_simp; rfl)); intro gb121 hg w33 hbox hb; have n0_ := Aside0.mk (blk_below (g := gb114) (o := .cells #[.int .i64 a0_0, .int .i64 a0_1, .int .i64 a0_2, .slice (some ad120) l0_3.length c0_3] 24 (0, 0)) (by (with_reducible repeat (first | refine blk_drewN ?_ _ | refine blk_drew ?_ | refine blk_alloc ?_ _)); exact BK114.out) hb); have n1_ := Aside0.mk (below_step (by repeat (first | (with_reducible first | exact HB.out | apply below_alloc | apply pw_below_drewN | apply below_drew1 | refine below_set ?_ GE114.out) | exact HB.out)) hb); have n2_ := Aside0.mk (hbox); have n3_ := Aside0.mk ((by rw [hg]; exact (below_size (by repeat (first | (with_reducible first | exact HB.out | apply below_alloc | apply pw_below_drewN | apply below_drew1 | refine below_set ?_ GE114.out) | exact HB.out))) : w.heap.size ≤ gb121)); have n4_ := Aside0.mk ((by rw [hg]; exact (below_size (by repeat (first | (with_reducible first | exact HB.out | apply below_alloc | apply pw_below_drewN | apply below_drew1 | refine below_set ?_ GE114.out) | exact HB.out))) : w.heap.size ≤ gb121)); have n5_ := Aside0.mk ((by rw [hg]; exact Nat.ne_of_lt (blk_lt (g := gb114) (o := .cells #[.int .i64 a0_0, .int .i64 a0_1, .int .i64 a0_2, .slice (some ad120) l0_3.length c0_3] 24 (0, 0)) (by (with_reducible repeat (first | refine blk_drewN ?_ _ | refine blk_drew ?_ | refine blk_alloc ?_ _)); exact BK114.out)) : gb114 ≠ gb121)); have n6_ := Aside0.mk ((by rw [hg]; exact Nat.ne_of_gt (blk_lt (g := gb114) (o := .cells #[.int .i64 a0_0, .int .i64 a0_1, .int .i64 a0_2, .slice (some ad120) l0_3.length c0_3] 24 (0, 0)) (by (with_reducible repeat (first | refine blk_drewN ?_ _ | refine blk_drew ?_ | refine blk_alloc ?_ _)); exact BK114.out)) : gb121 ≠ gb114)); clear BK114; clear HB; have BK114 := n0_; have HB := n1_; have BK121 := n2_; have GW121 := n3_; have GE121 := n4_; have NB114_121 := n5_; have NB121_114 := n6_; clear n0_ n1_ n2_ n3_ n4_ n5_ n6_; clear hb hbox hg; have hnb34 := NB121_114.out; have hnc34 := NB114_121.out; have hcz35_0 : w33.cell? ⟨gb121, 0, none⟩ = some (.int .i64 0) := (blk_cell BK121.out 0).trans rfl; have hcz35_1 : w33.cell? ⟨gb121, 1, none⟩ = some (.int .i64 0) := (blk_cell BK121.out 1).trans rfl; have hcz35_2 : w33.cell? ⟨gb121, 2, none⟩ = some (.int .i64 0) := (blk_cell BK121.out 2).trans rfl; have hfz35_0 := blk_frozen BK121.out 0; have hfz35_1 := blk_frozen BK121.out 1; have hfz35_2 := blk_frozen BK121.out 2) | (go_at_call 20; (with_reducible refine (racewayref2_Write.calls k1 ((rd_T44 l0_3 x5_1).f0) t122 _ A23.out).mono ?_); rintro e w' ⟨rfl, ⟨nd, rfl⟩⟩; (try first | exact ⟨rfl, _, World.drewN_drewN _ _ _⟩ | exact ⟨rfl, _, Eq.trans (World.drewN_drewN _ _ _) (congrArg (World.drewN _) (Nat.add_assoc _ _ _))⟩)) | (go_at_call 20; (with_reducible refine (racewayref2_Write.calls k1 ((rd_T44 l0_3 x5_1).f1) t123 _ A26.out).mono ?_); rintro e w' ⟨rfl, ⟨nd, rfl⟩⟩; (try first | exact ⟨rfl, _, World.drewN_drewN _ _ _⟩ | exact ⟨rfl, _, Eq.trans (World.drewN_drewN _ _ _) (congrArg (World.drewN _) (Nat.add_assoc _ _ _))⟩)) | (go_at_call 20; (with_reducible refine (racewayref2_Write.calls k1 ((rd_T44 l0_3 x5_1).f2) t124 _ A29.out).mono ?_); rintro e w' ⟨rfl, ⟨nd, rfl⟩⟩; (try first | exact ⟨rfl, _, World.drewN_drewN _ _ _⟩ | exact ⟨rfl, _, Eq.trans (World.drewN_drewN _ _ _) (congrArg (World.drewN _) (Nat.add_assoc _ _ _))⟩)))
                                            repeat (go_quiet (first | ((with_reducible refine gate_dst (N := 6) rfl ?_); refine box_event ?hg (N := 6) ?hd (cs := #[.int .i64 0, .int .i64 0, .int .i64 0]) (t := 44) ?hr ?_; (case hd => rfl); (case hg => rfl); (case hr => first | (go_simp; done) | (go_simp; rfl)); intro gb121 hg w33 hbox hb; have n0_ := Aside0.mk (blk_below (g := gb114) (o := .cells #[.int .i64 a0_0, .int .i64 a0_1, .int .i64 a0_2, .slice (some ad120) l0_3.length c0_3] 24 (0, 0)) (by (with_reducible repeat (first | refine blk_drewN ?_ _ | refine blk_drew ?_ | refine blk_alloc ?_ _)); exact BK114.out) hb); have n1_ := Aside0.mk (below_step (by repeat (first | (with_reducible first | exact HB.out | apply below_alloc | apply pw_below_drewN | apply below_drew1 | refine below_set ?_ GE114.out) | exact HB.out)) hb); have n2_ := Aside0.mk (hbox); have n3_ := Aside0.mk ((by rw [hg]; exact (below_size (by repeat (first | (with_reducible first | exact HB.out | apply below_alloc | apply pw_below_drewN | apply below_drew1 | refine below_set ?_ GE114.out) | exact HB.out))) : w.heap.size ≤ gb121)); have n4_ := Aside0.mk ((by rw [hg]; exact (below_size (by repeat (first | (with_reducible first | exact HB.out | apply below_alloc | apply pw_below_drewN | apply below_drew1 | refine below_set ?_ GE114.out) | exact HB.out))) : w.heap.size ≤ gb121)); have n5_ := Aside0.mk ((by rw [hg]; exact Nat.ne_of_lt (blk_lt (g := gb114) (o := .cells #[.int .i64 a0_0, .int .i64 a0_1, .int .i64 a0_2, .slice (some ad120) l0_3.length c0_3] 24 (0, 0)) (by (with_reducible repeat (first | refine blk_drewN ?_ _ | refine blk_drew ?_ | refine blk_alloc ?_ _)); exact BK114.out)) : gb114 ≠ gb121)); have n6_ := Aside0.mk ((by rw [hg]; exact Nat.ne_of_gt (blk_lt (g := gb114) (o := .cells #[.int .i64 a0_0, .int .i64 a0_1, .int .i64 a0_2, .slice (some ad120) l0_3.length c0_3] 24 (0, 0)) (by (with_reducible repeat (first | refine blk_drewN ?_ _ | refine blk_drew ?_ | refine blk_alloc ?_ _)); exact BK114.out)) : gb121 ≠ gb114)); clear BK114; clear HB; have BK114 := n0_; have HB := n1_; have BK121 := n2_; have GW121 := n3_; have GE121 := n4_; have NB114_121 := n5_; have NB121_114 := n6_; clear n0_ n1_ n2_ n3_ n4_ n5_ n6_; clear hb hbox hg; have hnb34 := NB121_114.out; have hnc34 := NB114_121.out; have hcz35_0 : w33.cell? ⟨gb121, 0, none⟩ = some (.int .i64 0) := (blk_cell BK121.out 0).trans rfl; have hcz35_1 : w33.cell? ⟨gb121, 1, none⟩ = some (.int .i64 0) := (blk_cell BK121.out 1).trans rfl; have hcz35_2 : w33.cell? ⟨gb121, 2, none⟩ = some (.int .i64 0) := (blk_cell BK121.out 2).trans rfl; have hfz35_0 := blk_frozen BK121.out 0; have hfz35_1 := blk_frozen BK121.out 1; have hfz35_2 := blk_frozen BK121.out 2) | (go_at_call 20; (with_reducible refine (racewayref2_Write.calls k1 ((rd_T44 l0_3 x5_1).f0) t122 _ A23.out).mono ?_); rintro e w' ⟨rfl, ⟨nd, rfl⟩⟩; (try first | exact ⟨rfl, _, World.drewN_drewN _ _ _⟩ | exact ⟨rfl, _, Eq.trans (World.drewN_drewN _ _ _) (congrArg (World.drewN _) (Nat.add_assoc _ _ _))⟩)) | (go_at_call 20; (with_reducible refine (racewayref2_Write.calls k1 ((rd_T44 l0_3 x5_1).f1) t123 _ A26.out).mono ?_); rintro e w' ⟨rfl, ⟨nd, rfl⟩⟩; (try first | exact ⟨rfl, _, World.drewN_drewN _ _ _⟩ | exact ⟨rfl, _, Eq.trans (World.drewN_drewN _ _ _) (congrArg (World.drewN _) (Nat.add_assoc _ _ _))⟩)) | (go_at_call 20; (with_reducible refine (racewayref2_Write.calls k1 ((rd_T44 l0_3 x5_1).f2) t124 _ A29.out).mono ?_); rintro e w' ⟨rfl, ⟨nd, rfl⟩⟩; (try first | exact ⟨rfl, _, World.drewN_drewN _ _ _⟩ | exact ⟨rfl, _, Eq.trans (World.drewN_drewN _ _ _) (congrArg (World.drewN _) (Nat.add_assoc _ _ _))⟩))); try go_wp2_with (first | ((with_reducible refine gate_dst (N := 6) rfl ?_); refine box_event ?hg (N := 6) ?hd (cs := #[.int .i64 0, .int .i64 0, .int .i64 0]) (t := 44) ?hr ?_; (case hd => rfl); (case hg => rfl); (case hr => first | (go_simp; done) | (go_simp; rfl)); intro gb121 hg w33 hbox hb; have n0_ := Aside0.mk (blk_below (g := gb114) (o := .cells #[.int .i64 a0_0, .int .i64 a0_1, .int .i64 a0_2, .slice (some ad120) l0_3.length c0_3] 24 (0, 0)) (by (with_reducible repeat (first | refine blk_drewN ?_ _ | refine blk_drew ?_ | refine blk_alloc ?_ _)); exact BK114.out) hb); have n1_ := Aside0.mk (below_step (by repeat (first | (with_reducible first | exact HB.out | apply below_alloc | apply pw_below_drewN | apply below_drew1 | refine below_set ?_ GE114.out) | exact HB.out)) hb); have n2_ := Aside0.mk (hbox); have n3_ := Aside0.mk ((by rw [hg]; exact (below_size (by repeat (first | (with_reducible first | exact HB.out | apply below_alloc | apply pw_below_drewN | apply below_drew1 | refine below_set ?_ GE114.out) | exact HB.out))) : w.heap.size ≤ gb121)); have n4_ := Aside0.mk ((by rw [hg]; exact (below_size (by repeat (first | (with_reducible first | exact HB.out | apply below_alloc | apply pw_below_drewN | apply below_drew1 | refine below_set ?_ GE114.out) | exact HB.out))) : w.heap.size ≤ gb121)); have n5_ := Aside0.mk ((by rw [hg]; exact Nat.ne_of_lt (blk_lt (g := gb114) (o := .cells #[.int .i64 a0_0, .int .i64 a0_1, .int .i64 a0_2, .slice (some ad120) l0_3.length c0_3] 24 (0, 0)) (by (with_reducible repeat (first | refine blk_drewN ?_ _ | refine blk_drew ?_ | refine blk_alloc ?_ _)); exact BK114.out)) : gb114 ≠ gb121)); have n6_ := Aside0.mk ((by rw [hg]; exact Nat.ne_of_gt (blk_lt (g := gb114) (o := .cells #[.int .i64 a0_0, .int .i64 a0_1, .int .i64 a0_2, .slice (some ad120) l0_3.length c0_3] 24 (0, 0)) (by (with_reducible repeat (first | refine blk_drewN ?_ _ | refine blk_drew ?_ | refine blk_alloc ?_ _)); exact BK114.out)) : gb121 ≠ gb114)); clear BK114; clear HB; have BK114 := n0_; have HB := n1_; have BK121 := n2_; have GW121 := n3_; have GE121 := n4_; have NB114_121 := n5_; have NB121_114 := n6_; clear n0_ n1_ n2_ n3_ n4_ n5_ n6_; clear hb hbox hg; have hnb34 := NB121_114.out; have hnc34 := NB114_121.out; have hcz35_0 : w33.cell? ⟨gb121, 0, none⟩ = some (.int .i64 0) := (blk_cell BK121.out 0).trans rfl; have hcz35_1 : w33.cell? ⟨gb121, 1, none⟩ = some (.int .i64 0) := (blk_cell BK121.out 1).trans rfl; have hcz35_2 : w33.cell? ⟨gb121, 2, none⟩ = some (.int .i64 0) := (blk_cell BK121.out 2).trans rfl; have hfz35_0 := blk_frozen BK121.out 0; have hfz35_1 := blk_frozen BK121.out 1; have hfz35_2 := blk_frozen BK121.out 2) | (go_at_call 20; (with_reducible refine (racewayref2_Write.calls k1 ((rd_T44 l0_3 x5_1).f0) t122 _ A23.out).mono ?_); rintro e w' ⟨rfl, ⟨nd, rfl⟩⟩; (try first | exact ⟨rfl, _, World.drewN_drewN _ _ _⟩ | exact ⟨rfl, _, Eq.trans (World.drewN_drewN _ _ _) (congrArg (World.drewN _) (Nat.add_assoc _ _ _))⟩)) | (go_at_call 20; (with_reducible refine (racewayref2_Write.calls k1 ((rd_T44 l0_3 x5_1).f1) t123 _ A26.out).mono ?_); rintro e w' ⟨rfl, ⟨nd, rfl⟩⟩; (try first | exact ⟨rfl, _, World.drewN_drewN _ _ _⟩ | exact ⟨rfl, _, Eq.trans (World.drewN_drewN _ _ _) (congrArg (World.drewN _) (Nat.add_assoc _ _ _))⟩)) | (go_at_call 20; (with_reducible refine (racewayref2_Write.calls k1 ((rd_T44 l0_3 x5_1).f2) t124 _ A29.out).mono ?_); rintro e w' ⟨rfl, ⟨nd, rfl⟩⟩; (try first | exact ⟨rfl, _, World.drewN_drewN _ _ _⟩ | exact ⟨rfl, _, Eq.trans (World.drewN_drewN _ _ _) (congrArg (World.drewN _) (Nat.add_assoc _ _ _))⟩))))
                                            go_roundg k1
                                            case measure => have := HK1.out; omega
                                            case rel => exact ⟨(((((((x4_1 ++ (⟨#[97, 32]⟩ : ByteArray)) ++ t122) ++ (⟨#[32]⟩ : ByteArray)) ++ t123) ++ (⟨#[32]⟩ : ByteArray)) ++ t124) ++ (⟨#[10]⟩ : ByteArray)), (wrap64 (x5_1 + 1)), (by first | rfl | (simp; done) | (simp [*]; done)), (by first | rfl | (simp; done) | (simp [*]; done)), H', ⟨by have := HK1.out; omega⟩, ⟨by (with_reducible repeat (first | refine blk_drewN ?_ _ | refine blk_drew ?_ | refine blk_alloc ?_ _)); refine blk_far ?_ NB114_121.out _; (with_reducible repeat (first | refine blk_drewN ?_ _ | refine blk_drew ?_ | refine blk_alloc ?_ _)); refine blk_far ?_ NB114_121.out _; (with_reducible repeat (first | refine blk_drewN ?_ _ | refine blk_drew ?_ | refine blk_alloc ?_ _)); refine blk_far ?_ NB114_121.out _; (with_reducible repeat (first | refine blk_drewN ?_ _ | refine blk_drew ?_ | refine blk_alloc ?_ _)); exact BK114.out⟩, ⟨by repeat (first | (with_reducible first | exact HB.out | apply below_alloc | apply pw_below_drewN | apply below_drew1 | refine below_set ?_ GE114.out | refine below_set ?_ GE121.out) | exact HB.out)⟩⟩
                                          · rw [if_neg c31] at H
                                            exact absurd H (by simp)
                                        · rw [if_neg c30] at H
                                          exact absurd H (by simp)
                                      · rw [if_neg c28] at H
                                        exact absurd H (by simp)
                                    · rw [if_neg c27] at H
                                      exact absurd H (by simp)
                                  · rw [if_neg c25] at H
                                    exact absurd H (by simp)
                                · rw [if_neg c24] at H
                                  exact absurd H (by simp)
                              · rw [if_neg c22] at H
                                exact absurd H (by simp)
                            · rw [if_neg c21] at H
                              exact absurd H (by simp)
                          · rw [if_neg c20] at H
                            have c20b0 : decide (x5_1 < (l0_3.length : Int)) = false := decide_eq_false c20
                            clear c20
                            simp only [Option.some.injEq, Prod.mk.injEq] at H
                            obtain ⟨rfl, rfl⟩ := H
                            have hcz36_0 : wr.cell? ⟨gb114, 0, none⟩ = some (.int .i64 a0_0) := (blk_cell BK114.out 0).trans rfl
                            have hcz36_1 : wr.cell? ⟨gb114, 1, none⟩ = some (.int .i64 a0_1) := (blk_cell BK114.out 1).trans rfl
                            have hcz36_2 : wr.cell? ⟨gb114, 2, none⟩ = some (.int .i64 a0_2) := (blk_cell BK114.out 2).trans rfl
                            have hcz36_3 : wr.cell? ⟨gb114, 3, none⟩ = some (.slice A0_3 l0_3.length c0_3) := (blk_cell BK114.out 3).trans rfl
                            have hfz36_0 := blk_frozen BK114.out 0
                            have hfz36_1 := blk_frozen BK114.out 1
                            have hfz36_2 := blk_frozen BK114.out 2
                            have hfz36_3 := blk_frozen BK114.out 3
                            go_wp2
                            repeat (go_quiet (fail); try go_wp2)
                            go_ret2
                            exact ⟨by first | rfl | (simp [errW_none, errW_some] <;> rfl) | (simp [*, errW_none, errW_some] <;> rfl), by repeat (first | (with_reducible first | exact HB.out | apply below_alloc | apply pw_below_drewN | apply below_drew1 | refine below_set ?_ GE114.out) | exact HB.out)⟩
                  · rw [if_neg c15] at H
                    exact absurd H (by simp)
                · rw [if_neg c14] at H
                  exact absurd H (by simp)
              · rw [if_neg c12] at H
                exact absurd H (by simp)
            · rw [if_neg c11] at H
              exact absurd H (by simp)
          · rw [if_neg c9] at H
            exact absurd H (by simp)
        · rw [if_neg c8] at H
          exact absurd H (by simp)
      · rw [if_neg c6] at H
        exact absurd H (by simp)
    · rw [if_neg c5] at H
      exact absurd H (by simp)
  · rw [if_neg c3] at H
    have c3b0 : (t115 == 0) = false := beq_eq_false_iff_ne.mpr c3
    have c3b1 : (t115 != 0) = true := bne_iff_ne.mpr c3
    simp only [Option.some.injEq, Prod.mk.injEq] at H
    obtain ⟨rfl, rfl⟩ := H
    go_enter Tryz.func9, Tryz.ntmps9
    go_wp2_with (first | ((with_reducible refine gate_dst (N := 1) rfl ?_); refine box_event ?hg (N := 1) ?hd (cs := #[.int .i64 a0_0, .int .i64 a0_1, .int .i64 a0_2, .slice A0_3 l0_3.length c0_3]) (t := 24) ?hr ?_; (case hd => rfl); (case hg => rfl); (case hr => first | (go_simp; done) | (go_simp; rfl)); intro gb114 hg w37 hbox hb; have n0_ := Aside0.mk (below_step (by repeat (first | (with_reducible first | exact HB.out | apply below_alloc | apply pw_below_drewN | apply below_drew1) | exact HB.out)) hb); have n1_ := Aside0.mk (hbox); have n2_ := Aside0.mk ((by rw [hg]; exact (below_size (by repeat (first | (with_reducible first | exact HB.out | apply below_alloc | apply pw_below_drewN | apply below_drew1) | exact HB.out))) : w.heap.size ≤ gb114)); have n3_ := Aside0.mk ((by rw [hg]; exact (below_size (by repeat (first | (with_reducible first | exact HB.out | apply below_alloc | apply pw_below_drewN | apply below_drew1) | exact HB.out))) : w.heap.size ≤ gb114)); clear HB; have HB := n0_; have BK114 := n1_; have GW114 := n2_; have GE114 := n3_; clear n0_ n1_ n2_ n3_; clear hb hbox hg; have hcz38_0 : w37.cell? ⟨gb114, 0, none⟩ = some (.int .i64 a0_0) := (blk_cell BK114.out 0).trans rfl; have hcz38_1 : w37.cell? ⟨gb114, 1, none⟩ = some (.int .i64 a0_1) := (blk_cell BK114.out 1).trans rfl; have hcz38_2 : w37.cell? ⟨gb114, 2, none⟩ = some (.int .i64 a0_2) := (blk_cell BK114.out 2).trans rfl; have hcz38_3 : w37.cell? ⟨gb114, 3, none⟩ = some (.slice A0_3 l0_3.length c0_3) := (blk_cell BK114.out 3).trans rfl; have hfz38_0 := blk_frozen BK114.out 0; have hfz38_1 := blk_frozen BK114.out 1; have hfz38_2 := blk_frozen BK114.out 2; have hfz38_3 := blk_frozen BK114.out 3) | (go_at_call 19; (with_reducible refine (racewayref3_Check.calls k a0_0 a0_1 a0_2 _ _ l0_3 t115 _ ?side1 ?side2 A2.out).mono ?_); (case side1 => repeat (first | exact (Kd.C_below HR0_3.out HB.out) | (with_reducible refine Kd.C_alloc ?_ _) | (with_reducible refine Kd.C_drewN ?_ _) | (with_reducible refine Kd.C_drew ?_))); (case side2 => exact HC0_3.out); rintro e w39 ⟨rfl, hb⟩; have n0_ := Aside0.mk (blk_below (g := gb114) (o := .cells #[.int .i64 a0_0, .int .i64 a0_1, .int .i64 a0_2, .slice A0_3 l0_3.length c0_3] 24 (0, 0)) (by (with_reducible repeat (first | refine blk_drewN ?_ _ | refine blk_drew ?_ | refine blk_alloc ?_ _)); exact BK114.out) hb); have n1_ := Aside0.mk (below_step (by repeat (first | (with_reducible first | exact HB.out | apply below_alloc | apply pw_below_drewN | apply below_drew1 | refine below_set ?_ GE114.out) | exact HB.out)) hb); clear BK114; clear HB; have BK114 := n0_; have HB := n1_; clear n0_ n1_; (try clear hb); (try clear hb2); (try clear hk); (try clear hi)))
    repeat (go_quiet (first | ((with_reducible refine gate_dst (N := 1) rfl ?_); refine box_event ?hg (N := 1) ?hd (cs := #[.int .i64 a0_0, .int .i64 a0_1, .int .i64 a0_2, .slice A0_3 l0_3.length c0_3]) (t := 24) ?hr ?_; (case hd => rfl); (case hg => rfl); (case hr => first | (go_simp; done) | (go_simp; rfl)); intro gb114 hg w37 hbox hb; have n0_ := Aside0.mk (below_step (by repeat (first | (with_reducible first | exact HB.out | apply below_alloc | apply pw_below_drewN | apply below_drew1) | exact HB.out)) hb); have n1_ := Aside0.mk (hbox); have n2_ := Aside0.mk ((by rw [hg]; exact (below_size (by repeat (first | (with_reducible first | exact HB.out | apply below_alloc | apply pw_below_drewN | apply below_drew1) | exact HB.out))) : w.heap.size ≤ gb114)); have n3_ := Aside0.mk ((by rw [hg]; exact (below_size (by repeat (first | (with_reducible first | exact HB.out | apply below_alloc | apply pw_below_drewN | apply below_drew1) | exact HB.out))) : w.heap.size ≤ gb114)); clear HB; have HB := n0_; have BK114 := n1_; have GW114 := n2_; have GE114 := n3_; clear n0_ n1_ n2_ n3_; clear hb hbox hg; have hcz38_0 : w37.cell? ⟨gb114, 0, none⟩ = some (.int .i64 a0_0) := (blk_cell BK114.out 0).trans rfl; have hcz38_1 : w37.cell? ⟨gb114, 1, none⟩ = some (.int .i64 a0_1) := (blk_cell BK114.out 1).trans rfl; have hcz38_2 : w37.cell? ⟨gb114, 2, none⟩ = some (.int .i64 a0_2) := (blk_cell BK114.out 2).trans rfl; have hcz38_3 : w37.cell? ⟨gb114, 3, none⟩ = some (.slice A0_3 l0_3.length c0_3) := (blk_cell BK114.out 3).trans rfl; have hfz38_0 := blk_frozen BK114.out 0; have hfz38_1 := blk_frozen BK114.out 1; have hfz38_2 := blk_frozen BK114.out 2; have hfz38_3 := blk_frozen BK114.out 3) | (go_at_call 19; (with_reducible refine (racewayref3_Check.calls k a0_0 a0_1 a0_2 _ _ l0_3 t115 _ ?side1 ?side2 A2.out).mono ?_); (case side1 => repeat (first | exact (Kd.C_below HR0_3.out HB.out) | (with_reducible refine Kd.C_alloc ?_ _) | (with_reducible refine Kd.C_drewN ?_ _) | (with_reducible refine Kd.C_drew ?_))); (case side2 => exact HC0_3.out); rintro e w39 ⟨rfl, hb⟩; have n0_ := Aside0.mk (blk_below (g := gb114) (o := .cells #[.int .i64 a0_0, .int .i64 a0_1, .int .i64 a0_2, .slice A0_3 l0_3.length c0_3] 24 (0, 0)) (by (with_reducible repeat (first | refine blk_drewN ?_ _ | refine blk_drew ?_ | refine blk_alloc ?_ _)); exact BK114.out) hb); have n1_ := Aside0.mk (below_step (by repeat (first | (with_reducible first | exact HB.out | apply below_alloc | apply pw_below_drewN | apply below_drew1 | refine below_set ?_ GE114.out) | exact HB.out)) hb); clear BK114; clear HB; have BK114 := n0_; have HB := n1_; clear n0_ n1_; (try clear hb); (try clear hb2); (try clear hk); (try clear hi))); try go_wp2_with (first | ((with_reducible refine gate_dst (N := 1) rfl ?_); refine box_event ?hg (N := 1) ?hd (cs := #[.int .i64 a0_0, .int .i64 a0_1, .int .i64 a0_2, .slice A0_3 l0_3.length c0_3]) (t := 24) ?hr ?_; (case hd => rfl); (case hg => rfl); (case hr => first | (go_simp; done) | (go_simp; rfl)); intro gb114 hg w37 hbox hb; have n0_ := Aside0.mk (below_step (by repeat (first | (with_reducible first | exact HB.out | apply below_alloc | apply pw_below_drewN | apply below_drew1) | exact HB.out)) hb); have n1_ := Aside0.mk (hbox); have n2_ := Aside0.mk ((by rw [hg]; exact (below_size (by repeat (first | (with_reducible first | exact HB.out | apply below_alloc | apply pw_below_drewN | apply below_drew1) | exact HB.out))) : w.heap.size ≤ gb114)); have n3_ := Aside0.mk ((by rw [hg]; exact (below_size (by repeat (first | (with_reducible first | exact HB.out | apply below_alloc | apply pw_below_drewN | apply below_drew1) | exact HB.out))) : w.heap.size ≤ gb114)); clear HB; have HB := n0_; have BK114 := n1_; have GW114 := n2_; have GE114 := n3_; clear n0_ n1_ n2_ n3_; clear hb hbox hg; have hcz38_0 : w37.cell? ⟨gb114, 0, none⟩ = some (.int .i64 a0_0) := (blk_cell BK114.out 0).trans rfl; have hcz38_1 : w37.cell? ⟨gb114, 1, none⟩ = some (.int .i64 a0_1) := (blk_cell BK114.out 1).trans rfl; have hcz38_2 : w37.cell? ⟨gb114, 2, none⟩ = some (.int .i64 a0_2) := (blk_cell BK114.out 2).trans rfl; have hcz38_3 : w37.cell? ⟨gb114, 3, none⟩ = some (.slice A0_3 l0_3.length c0_3) := (blk_cell BK114.out 3).trans rfl; have hfz38_0 := blk_frozen BK114.out 0; have hfz38_1 := blk_frozen BK114.out 1; have hfz38_2 := blk_frozen BK114.out 2; have hfz38_3 := blk_frozen BK114.out 3) | (go_at_call 19; (with_reducible refine (racewayref3_Check.calls k a0_0 a0_1 a0_2 _ _ l0_3 t115 _ ?side1 ?side2 A2.out).mono ?_); (case side1 => repeat (first | exact (Kd.C_below HR0_3.out HB.out) | (with_reducible refine Kd.C_alloc ?_ _) | (with_reducible refine Kd.C_drewN ?_ _) | (with_reducible refine Kd.C_drew ?_))); (case side2 => exact HC0_3.out); rintro e w39 ⟨rfl, hb⟩; have n0_ := Aside0.mk (blk_below (g := gb114) (o := .cells #[.int .i64 a0_0, .int .i64 a0_1, .int .i64 a0_2, .slice A0_3 l0_3.length c0_3] 24 (0, 0)) (by (with_reducible repeat (first | refine blk_drewN ?_ _ | refine blk_drew ?_ | refine blk_alloc ?_ _)); exact BK114.out) hb); have n1_ := Aside0.mk (below_step (by repeat (first | (with_reducible first | exact HB.out | apply below_alloc | apply pw_below_drewN | apply below_drew1 | refine below_set ?_ GE114.out) | exact HB.out)) hb); clear BK114; clear HB; have BK114 := n0_; have HB := n1_; clear n0_ n1_; (try clear hb); (try clear hb2); (try clear hk); (try clear hi))))
    go_ret2
    exact ⟨by first | rfl | (simp [errW_none, errW_some] <;> rfl) | (simp [*, errW_none, errW_some] <;> rfl), by repeat (first | (with_reducible first | exact HB.out | apply below_alloc | apply pw_below_drewN | apply below_drew1 | refine below_set ?_ GE114.out) | exact HB.out)⟩

/-! ### racewaylaw4_DimacsPrints: function 3 -/
def racewaylaw4_DimacsPrints.j0 : Nat → Bool → Bool → Int → Int → Int → List (S44) → Option (Bool)
  | 0, _, _, _, _, _, _ => none
  | k + 1, x3, x16, x126000, x126001, x126002, x126003 => if x16 = true then (some x3) else ((dimacs_Print.f x126000 x126001 x126002 x126003).bind fun bt127 => ((racewayref4_Print.f k x126000 x126001 x126002 x126003).bind fun bt129 => (if bt127.1.toList = bt129.1.toList then (some (bt127.2 == bt129.2)) else (some false))))
def racewaylaw4_DimacsPrints.f (k : Nat) (a0_0 : Int) (a0_1 : Int) (a0_2 : Int) (l0_3 : List (S44)) : Option (Bool) := (racewaylaw4_shown.f).bind fun t126 => (if t126 = true then (racewaylaw4_DimacsPrints.j0 k t126 (decide ((l0_3.length : Int) > 300)) a0_0 a0_1 a0_2 l0_3) else (racewaylaw4_DimacsPrints.j0 k t126 true a0_0 a0_1 a0_2 l0_3))
theorem racewaylaw4_DimacsPrints.mono_l : ∀ k, (∀ y0 y1 y2 y3 y4 y5, LeO (racewaylaw4_DimacsPrints.j0 k y0 y1 y2 y3 y4 y5) (racewaylaw4_DimacsPrints.j0 (k + 1) y0 y1 y2 y3 y4 y5))
  | 0 => fun _ _ _ _ _ _ r h => by simp [racewaylaw4_DimacsPrints.j0] at h
  | k + 1 => by
    have ih0 := racewaylaw4_DimacsPrints.mono_l k
    · intro y0 y1 y2 y3 y4 y5
      unfold racewaylaw4_DimacsPrints.j0
      repeat' first
      | (with_reducible exact ih0 _ _ _ _ _ _)
      | (with_reducible exact racewayref4_Print.mono _ _ _ _ _)
      | (with_reducible exact LeO.refl _)
      | (with_reducible exact LeO.none _)
      | (with_reducible refine LeO.ite ?_ ?_)
      | (with_reducible refine LeO.bind ?_ (fun _ => ?_))
      | exact ih0 _ _ _ _ _ _
      | exact racewayref4_Print.mono _ _ _ _ _
      | exact LeO.none _
      | refine LeO.ite ?_ ?_
      | refine LeO.bind ?_ (fun _ => ?_)
theorem racewaylaw4_DimacsPrints.mono : ∀ a0 a1 a2 a3 k, LeO (racewaylaw4_DimacsPrints.f k a0 a1 a2 a3) (racewaylaw4_DimacsPrints.f (k + 1) a0 a1 a2 a3) := by
  intro a0 a1 a2 a3 k
  have ih0 := racewaylaw4_DimacsPrints.mono_l k
  unfold racewaylaw4_DimacsPrints.f
  repeat' first
      | (with_reducible exact ih0 _ _ _ _ _ _)
      | (with_reducible exact racewayref4_Print.mono _ _ _ _ _)
      | (with_reducible exact LeO.refl _)
      | (with_reducible exact LeO.none _)
      | (with_reducible refine LeO.ite ?_ ?_)
      | (with_reducible refine LeO.bind ?_ (fun _ => ?_))
      | exact ih0 _ _ _ _ _ _
      | exact racewayref4_Print.mono _ _ _ _ _
      | exact LeO.none _
      | refine LeO.ite ?_ ?_
      | refine LeO.bind ?_ (fun _ => ?_)
set_option maxHeartbeats 8000000 in
set_option maxRecDepth 100000 in
theorem racewaylaw4_DimacsPrints.calls (k : Nat) (a0_0 : Int) (a0_1 : Int) (a0_2 : Int) (A0_3 : Option Addr) (c0_3 : Nat) (l0_3 : List (S44)) (r : Bool) (w : World) (hr0_3 : Kd.C k44 w A0_3 l0_3.length l0_3) (hc0_3 : l0_3.length ≤ c0_3) (h : racewaylaw4_DimacsPrints.f k a0_0 a0_1 a0_2 l0_3 = some r) (hG : LaidG w) :
    Calls Tryz.prog 3 #[.agg #[.int .i64 a0_0, .int .i64 a0_1, .int .i64 a0_2, .slice A0_3 l0_3.length c0_3]] w fun e w' => e = .returned (.bool r) ∧ Below w.heap.size w w' := by
  have hu24 := Tryz.underlying24
  have HR0_3 := Aside0.mk hr0_3
  have HC0_3 := Aside0.mk hc0_3
  clear hr0_3 hc0_3
  have HB := Aside0.mk (Below.refl w.heap.size w)
  have H : ((racewaylaw4_shown.f).bind fun t126 => (if t126 = true then (racewaylaw4_DimacsPrints.j0 k t126 (decide ((l0_3.length : Int) > 300)) a0_0 a0_1 a0_2 l0_3) else (racewaylaw4_DimacsPrints.j0 k t126 true a0_0 a0_1 a0_2 l0_3))) = some r := h
  clear h
  replace H := Option.bind_eq_some_iff.mp H
  obtain ⟨t126, A20, H⟩ := H
  replace H : (if t126 = true then (racewaylaw4_DimacsPrints.j0 k t126 (decide ((l0_3.length : Int) > 300)) a0_0 a0_1 a0_2 l0_3) else (racewaylaw4_DimacsPrints.j0 k t126 true a0_0 a0_1 a0_2 l0_3)) = some r := H
  have A2 := Aside0.mk A20
  clear A20
  have HC3 := Aside0.mk H
  clear H
  go_enter Tryz.func3, Tryz.ntmps3
  go_upto_region 2 with (first | ((with_reducible refine gate_dst (N := 1) rfl ?_); (try (refine gate_guard (by rfl) ?_; dsimp only)); refine box_event ?hg (N := 1) ?hd (cs := #[.int .i64 a0_0, .int .i64 a0_1, .int .i64 a0_2, .slice A0_3 l0_3.length c0_3]) (t := 24) ?hr ?_; (case hd => rfl); (case hg => rfl); (case hr => first | (go_simp; done) | (go_simp; rfl)); intro gb125 hg w4 hbox hb; have n0_ := Aside0.mk (below_step (by repeat (first | (with_reducible first | exact HB.out | apply below_alloc | apply pw_below_drewN | apply below_drew1) | exact HB.out)) hb); have n1_ := Aside0.mk (hbox); have n2_ := Aside0.mk ((by rw [hg]; exact (below_size (by repeat (first | (with_reducible first | exact HB.out | apply below_alloc | apply pw_below_drewN | apply below_drew1) | exact HB.out))) : w.heap.size ≤ gb125)); have n3_ := Aside0.mk ((by rw [hg]; exact (below_size (by repeat (first | (with_reducible first | exact HB.out | apply below_alloc | apply pw_below_drewN | apply below_drew1) | exact HB.out))) : w.heap.size ≤ gb125)); clear HB; have HB := n0_; have BK125 := n1_; have GW125 := n2_; have GE125 := n3_; clear n0_ n1_ n2_ n3_; clear hb hbox hg) | ((with_reducible refine gate_callee (f := 7) rfl ?_); refine goesL_ (some 8) rfl rfl Tryz.func7 (by kernel_rfl) rfl #[] rfl (by (try simp only [List.map_toArray, List.map_cons, List.map_nil]); first | done | rfl | (simp only [List.length_drop, List.length_take]; rfl)) ?_; (with_reducible refine (racewaylaw4_shown.calls  t126 _ A2.out (LaidG.below hG (by repeat (first | (with_reducible first | exact HB.out | apply below_alloc | apply pw_below_drewN | apply below_drew1 | refine below_set ?_ GE125.out) | exact HB.out)))).mono ?_); rintro e w5 ⟨rfl, hb⟩; refine ⟨_, rfl, ?_⟩; have n0_ := Aside0.mk (blk_below (g := gb125) (o := .cells #[.int .i64 a0_0, .int .i64 a0_1, .int .i64 a0_2, .slice A0_3 l0_3.length c0_3] 24 (0, 0)) (by (with_reducible repeat (first | refine blk_drewN ?_ _ | refine blk_drew ?_ | refine blk_alloc ?_ _)); exact BK125.out) hb); have n1_ := Aside0.mk (below_step (by repeat (first | (with_reducible first | exact HB.out | apply below_alloc | apply pw_below_drewN | apply below_drew1 | refine below_set ?_ GE125.out) | exact HB.out)) hb); clear BK125; clear HB; have BK125 := n0_; have HB := n1_; clear n0_ n1_; (try clear hb); (try clear hb2); (try clear hk); (try clear hi)))
  (try simp only [Act.put, List.setIfInBounds_toArray, List.set_cons_zero, List.set_cons_succ])
  go_cut [16] (fun v16 wc => ∃ (kq : Nat) (x16_2 : Bool), v16 = .bool x16_2 ∧ Aside0 (racewaylaw4_DimacsPrints.j0 kq t126 x16_2 a0_0 a0_1 a0_2 l0_3 = some r) ∧ Aside0 (kq ≤ k) ∧ Aside0 (wc.heap[gb125]? = some (.cells #[.int .i64 a0_0, .int .i64 a0_1, .int .i64 a0_2, (.slice A0_3 l0_3.length c0_3)] 24 (0, 0))) ∧ Aside0 (Below w.heap.size w wc))
  case first =>
    have H := HC3.out
    clear HC3
    by_cases c6 : t126 = true
    · subst c6
      have H1 : (racewaylaw4_DimacsPrints.j0 k true (decide ((l0_3.length : Int) > 300)) a0_0 a0_1 a0_2 l0_3) = some r := by rw [if_pos rfl] at H; exact H
      clear H
      have H := H1
      clear H1
      have H' := Aside0.mk H
      clear H
      have hcz7_0 : w5.cell? ⟨gb125, 0, none⟩ = some (.int .i64 a0_0) := (blk_cell BK125.out 0).trans rfl
      have hcz7_1 : w5.cell? ⟨gb125, 1, none⟩ = some (.int .i64 a0_1) := (blk_cell BK125.out 1).trans rfl
      have hcz7_2 : w5.cell? ⟨gb125, 2, none⟩ = some (.int .i64 a0_2) := (blk_cell BK125.out 2).trans rfl
      have hcz7_3 : w5.cell? ⟨gb125, 3, none⟩ = some (.slice A0_3 l0_3.length c0_3) := (blk_cell BK125.out 3).trans rfl
      have hfz7_0 := blk_frozen BK125.out 0
      have hfz7_1 := blk_frozen BK125.out 1
      have hfz7_2 := blk_frozen BK125.out 2
      have hfz7_3 := blk_frozen BK125.out 3
      go_wp2
      go_meet
      case rel => exact ⟨_, (decide ((l0_3.length : Int) > 300)), (by first | rfl | (simp; done) | (simp [*]; done)), H', ⟨by first | omega | exact Nat.le_refl _⟩, ⟨by (with_reducible repeat (first | refine blk_drewN ?_ _ | refine blk_drew ?_ | refine blk_alloc ?_ _)); exact BK125.out⟩, ⟨by repeat (first | (with_reducible first | exact HB.out | apply below_alloc | apply pw_below_drewN | apply below_drew1 | refine below_set ?_ GE125.out) | exact HB.out)⟩⟩
    · replace c6 := Bool.eq_false_iff.mpr c6
      subst c6
      have H1 : (racewaylaw4_DimacsPrints.j0 k false true a0_0 a0_1 a0_2 l0_3) = some r := by rw [if_neg (show ¬ (false = true) by decide)] at H; exact H
      clear H
      have H := H1
      clear H1
      have H' := Aside0.mk H
      clear H
      go_wp2
      go_meet
      case rel => exact ⟨_, (true), (by first | rfl | (simp; done) | (simp [*]; done)), H', ⟨by first | omega | exact Nat.le_refl _⟩, ⟨by (with_reducible repeat (first | refine blk_drewN ?_ _ | refine blk_drew ?_ | refine blk_alloc ?_ _)); exact BK125.out⟩, ⟨by repeat (first | (with_reducible first | exact HB.out | apply below_alloc | apply pw_below_drewN | apply below_drew1 | refine below_set ?_ GE125.out) | exact HB.out)⟩⟩
  case rest =>
    clear HC3
    try clear p2
    try clear c3
    try clear c6
    try clear c7
    try clear hcz7_0
    try clear hcz7_1
    try clear hcz7_2
    try clear hcz7_3
    try clear hfz7_0
    try clear hfz7_1
    try clear hfz7_2
    try clear hfz7_3
    obtain ⟨kq, x16_2, rfl, HA, HJ2, BK125, HB⟩ := hcut
    cases kq with
    | zero => exact absurd HA.out (by simp [racewaylaw4_DimacsPrints.j0])
    | succ kj2 =>
      as_aux_lemma =>
        have H := HA.out
        clear HA
        simp only [racewaylaw4_DimacsPrints.j0] at H
        by_cases c8 : x16_2 = true
        · subst c8
          have H1 : (some t126) = some r := by rw [if_pos rfl] at H; exact H
          clear H
          have H := H1
          clear H1
          obtain rfl := Option.some.inj H
          go_wp2
          go_ret
          exact ⟨by first | rfl | (simp [errW_none, errW_some] <;> rfl) | (simp [*, errW_none, errW_some] <;> rfl), by repeat (first | (with_reducible first | exact HB.out | apply below_alloc | apply pw_below_drewN | apply below_drew1 | refine below_set ?_ GE125.out) | exact HB.out)⟩
        · replace c8 := Bool.eq_false_iff.mpr c8
          subst c8
          have H1 : ((dimacs_Print.f a0_0 a0_1 a0_2 l0_3).bind fun bt127 => ((racewayref4_Print.f kj2 a0_0 a0_1 a0_2 l0_3).bind fun bt129 => (if bt127.1.toList = bt129.1.toList then (some (bt127.2 == bt129.2)) else (some false)))) = some r := by rw [if_neg (show ¬ (false = true) by decide)] at H; exact H
          clear H
          have H := H1
          clear H1
          replace H := Option.bind_eq_some_iff.mp H
          obtain ⟨⟨t127, t128⟩, A90, H⟩ := H
          replace H : ((racewayref4_Print.f kj2 a0_0 a0_1 a0_2 l0_3).bind fun bt129 => (if t127.toList = bt129.1.toList then (some (t128 == bt129.2)) else (some false))) = some r := H
          have A9 := Aside0.mk A90
          clear A90
          replace H := Option.bind_eq_some_iff.mp H
          obtain ⟨⟨t129, t130⟩, A100, H⟩ := H
          replace H : (if t127.toList = t129.toList then (some (t128 == t130)) else (some false)) = some r := H
          have A10 := Aside0.mk A100
          clear A100
          by_cases c11 : t127.toList = t129.toList
          · rw [if_pos c11] at H
            have c11b0 : (t127.toList == t129.toList) = true := beq_iff_eq.mpr c11
            have c11b1 : (t127.toList != t129.toList) = false := bne_eq_false_iff_eq.mpr c11
            clear c11
            obtain rfl := Option.some.inj H
            have hcz12_0 : wc.cell? ⟨gb125, 0, none⟩ = some (.int .i64 a0_0) := (blk_cell BK125.out 0).trans rfl
            have hcz12_1 : wc.cell? ⟨gb125, 1, none⟩ = some (.int .i64 a0_1) := (blk_cell BK125.out 1).trans rfl
            have hcz12_2 : wc.cell? ⟨gb125, 2, none⟩ = some (.int .i64 a0_2) := (blk_cell BK125.out 2).trans rfl
            have hcz12_3 : wc.cell? ⟨gb125, 3, none⟩ = some (.slice A0_3 l0_3.length c0_3) := (blk_cell BK125.out 3).trans rfl
            have hfz12_0 := blk_frozen BK125.out 0
            have hfz12_1 := blk_frozen BK125.out 1
            have hfz12_2 := blk_frozen BK125.out 2
            have hfz12_3 := blk_frozen BK125.out 3
            go_wp2_with (first | ((with_reducible refine gate_callee (f := 8) rfl ?_); refine goesL_ (some 20) rfl rfl Tryz.func8 (by kernel_rfl) rfl #[.agg #[.int .i64 a0_0, .int .i64 a0_1, .int .i64 a0_2, .slice A0_3 l0_3.length c0_3]] rfl (by (try simp only [List.map_toArray, List.map_cons, List.map_nil]); first | done | rfl | (simp only [List.length_drop, List.length_take]; rfl)) ?_; (with_reducible refine (dimacs_Print.calls a0_0 a0_1 a0_2 _ _ l0_3 t127 t128 _ ?side1 ?side2 A9.out (LaidG.below hG (by repeat (first | (with_reducible first | exact HB.out | apply below_alloc | apply pw_below_drewN | apply below_drew1 | refine below_set ?_ GE125.out) | exact HB.out)))).mono ?_); (case side1 => repeat (first | exact (Kd.C_below HR0_3.out HB.out) | (with_reducible refine Kd.C_alloc ?_ _) | (with_reducible refine Kd.C_drewN ?_ _) | (with_reducible refine Kd.C_drew ?_))); (case side2 => exact HC0_3.out); rintro e w13 ⟨rfl, hb⟩; refine ⟨_, rfl, ?_⟩; have n0_ := Aside0.mk (blk_below (g := gb125) (o := .cells #[.int .i64 a0_0, .int .i64 a0_1, .int .i64 a0_2, .slice A0_3 l0_3.length c0_3] 24 (0, 0)) (by (with_reducible repeat (first | refine blk_drewN ?_ _ | refine blk_drew ?_ | refine blk_alloc ?_ _)); exact BK125.out) hb); have n1_ := Aside0.mk (below_step (by repeat (first | (with_reducible first | exact HB.out | apply below_alloc | apply pw_below_drewN | apply below_drew1 | refine below_set ?_ GE125.out) | exact HB.out)) hb); clear BK125; clear HB; have BK125 := n0_; have HB := n1_; clear n0_ n1_; (try clear hb); (try clear hb2); (try clear hk); (try clear hi); have hcz14_0 : w13.cell? ⟨gb125, 0, none⟩ = some (.int .i64 a0_0) := (blk_cell BK125.out 0).trans rfl; have hcz14_1 : w13.cell? ⟨gb125, 1, none⟩ = some (.int .i64 a0_1) := (blk_cell BK125.out 1).trans rfl; have hcz14_2 : w13.cell? ⟨gb125, 2, none⟩ = some (.int .i64 a0_2) := (blk_cell BK125.out 2).trans rfl; have hcz14_3 : w13.cell? ⟨gb125, 3, none⟩ = some (.slice A0_3 l0_3.length c0_3) := (blk_cell BK125.out 3).trans rfl; have hfz14_0 := blk_frozen BK125.out 0; have hfz14_1 := blk_frozen BK125.out 1; have hfz14_2 := blk_frozen BK125.out 2; have hfz14_3 := blk_frozen BK125.out 3) | ((with_reducible refine gate_callee (f := 9) rfl ?_); refine goesL_ (some 25) rfl rfl Tryz.func9 (by kernel_rfl) rfl #[.agg #[.int .i64 a0_0, .int .i64 a0_1, .int .i64 a0_2, .slice A0_3 l0_3.length c0_3]] rfl (by (try simp only [List.map_toArray, List.map_cons, List.map_nil]); first | done | rfl | (simp only [List.length_drop, List.length_take]; rfl)) ?_; (with_reducible refine (racewayref4_Print.calls kj2 a0_0 a0_1 a0_2 _ _ l0_3 t129 t130 _ ?side1 ?side2 A10.out).mono ?_); (case side1 => repeat (first | exact (Kd.C_below HR0_3.out HB.out) | (with_reducible refine Kd.C_alloc ?_ _) | (with_reducible refine Kd.C_drewN ?_ _) | (with_reducible refine Kd.C_drew ?_))); (case side2 => exact HC0_3.out); rintro e w15 ⟨rfl, hb⟩; refine ⟨_, rfl, ?_⟩; have n0_ := Aside0.mk (blk_below (g := gb125) (o := .cells #[.int .i64 a0_0, .int .i64 a0_1, .int .i64 a0_2, .slice A0_3 l0_3.length c0_3] 24 (0, 0)) (by (with_reducible repeat (first | refine blk_drewN ?_ _ | refine blk_drew ?_ | refine blk_alloc ?_ _)); exact BK125.out) hb); have n1_ := Aside0.mk (below_step (by repeat (first | (with_reducible first | exact HB.out | apply below_alloc | apply pw_below_drewN | apply below_drew1 | refine below_set ?_ GE125.out) | exact HB.out)) hb); clear BK125; clear HB; have BK125 := n0_; have HB := n1_; clear n0_ n1_; (try clear hb); (try clear hb2); (try clear hk); (try clear hi)))
            go_ret
            exact ⟨by first | rfl | (simp [errW_none, errW_some] <;> rfl) | (simp [*, errW_none, errW_some] <;> rfl), by repeat (first | (with_reducible first | exact HB.out | apply below_alloc | apply pw_below_drewN | apply below_drew1 | refine below_set ?_ GE125.out) | exact HB.out)⟩
          · rw [if_neg c11] at H
            have c11b0 : (t127.toList == t129.toList) = false := beq_eq_false_iff_ne.mpr c11
            have c11b1 : (t127.toList != t129.toList) = true := bne_iff_ne.mpr c11
            obtain rfl := Option.some.inj H
            have hcz16_0 : wc.cell? ⟨gb125, 0, none⟩ = some (.int .i64 a0_0) := (blk_cell BK125.out 0).trans rfl
            have hcz16_1 : wc.cell? ⟨gb125, 1, none⟩ = some (.int .i64 a0_1) := (blk_cell BK125.out 1).trans rfl
            have hcz16_2 : wc.cell? ⟨gb125, 2, none⟩ = some (.int .i64 a0_2) := (blk_cell BK125.out 2).trans rfl
            have hcz16_3 : wc.cell? ⟨gb125, 3, none⟩ = some (.slice A0_3 l0_3.length c0_3) := (blk_cell BK125.out 3).trans rfl
            have hfz16_0 := blk_frozen BK125.out 0
            have hfz16_1 := blk_frozen BK125.out 1
            have hfz16_2 := blk_frozen BK125.out 2
            have hfz16_3 := blk_frozen BK125.out 3
            go_wp2_with (first | ((with_reducible refine gate_callee (f := 8) rfl ?_); refine goesL_ (some 20) rfl rfl Tryz.func8 (by kernel_rfl) rfl #[.agg #[.int .i64 a0_0, .int .i64 a0_1, .int .i64 a0_2, .slice A0_3 l0_3.length c0_3]] rfl (by (try simp only [List.map_toArray, List.map_cons, List.map_nil]); first | done | rfl | (simp only [List.length_drop, List.length_take]; rfl)) ?_; (with_reducible refine (dimacs_Print.calls a0_0 a0_1 a0_2 _ _ l0_3 t127 t128 _ ?side1 ?side2 A9.out (LaidG.below hG (by repeat (first | (with_reducible first | exact HB.out | apply below_alloc | apply pw_below_drewN | apply below_drew1 | refine below_set ?_ GE125.out) | exact HB.out)))).mono ?_); (case side1 => repeat (first | exact (Kd.C_below HR0_3.out HB.out) | (with_reducible refine Kd.C_alloc ?_ _) | (with_reducible refine Kd.C_drewN ?_ _) | (with_reducible refine Kd.C_drew ?_))); (case side2 => exact HC0_3.out); rintro e w17 ⟨rfl, hb⟩; refine ⟨_, rfl, ?_⟩; have n0_ := Aside0.mk (blk_below (g := gb125) (o := .cells #[.int .i64 a0_0, .int .i64 a0_1, .int .i64 a0_2, .slice A0_3 l0_3.length c0_3] 24 (0, 0)) (by (with_reducible repeat (first | refine blk_drewN ?_ _ | refine blk_drew ?_ | refine blk_alloc ?_ _)); exact BK125.out) hb); have n1_ := Aside0.mk (below_step (by repeat (first | (with_reducible first | exact HB.out | apply below_alloc | apply pw_below_drewN | apply below_drew1 | refine below_set ?_ GE125.out) | exact HB.out)) hb); clear BK125; clear HB; have BK125 := n0_; have HB := n1_; clear n0_ n1_; (try clear hb); (try clear hb2); (try clear hk); (try clear hi); have hcz18_0 : w17.cell? ⟨gb125, 0, none⟩ = some (.int .i64 a0_0) := (blk_cell BK125.out 0).trans rfl; have hcz18_1 : w17.cell? ⟨gb125, 1, none⟩ = some (.int .i64 a0_1) := (blk_cell BK125.out 1).trans rfl; have hcz18_2 : w17.cell? ⟨gb125, 2, none⟩ = some (.int .i64 a0_2) := (blk_cell BK125.out 2).trans rfl; have hcz18_3 : w17.cell? ⟨gb125, 3, none⟩ = some (.slice A0_3 l0_3.length c0_3) := (blk_cell BK125.out 3).trans rfl; have hfz18_0 := blk_frozen BK125.out 0; have hfz18_1 := blk_frozen BK125.out 1; have hfz18_2 := blk_frozen BK125.out 2; have hfz18_3 := blk_frozen BK125.out 3) | ((with_reducible refine gate_callee (f := 9) rfl ?_); refine goesL_ (some 25) rfl rfl Tryz.func9 (by kernel_rfl) rfl #[.agg #[.int .i64 a0_0, .int .i64 a0_1, .int .i64 a0_2, .slice A0_3 l0_3.length c0_3]] rfl (by (try simp only [List.map_toArray, List.map_cons, List.map_nil]); first | done | rfl | (simp only [List.length_drop, List.length_take]; rfl)) ?_; (with_reducible refine (racewayref4_Print.calls kj2 a0_0 a0_1 a0_2 _ _ l0_3 t129 t130 _ ?side1 ?side2 A10.out).mono ?_); (case side1 => repeat (first | exact (Kd.C_below HR0_3.out HB.out) | (with_reducible refine Kd.C_alloc ?_ _) | (with_reducible refine Kd.C_drewN ?_ _) | (with_reducible refine Kd.C_drew ?_))); (case side2 => exact HC0_3.out); rintro e w19 ⟨rfl, hb⟩; refine ⟨_, rfl, ?_⟩; have n0_ := Aside0.mk (blk_below (g := gb125) (o := .cells #[.int .i64 a0_0, .int .i64 a0_1, .int .i64 a0_2, .slice A0_3 l0_3.length c0_3] 24 (0, 0)) (by (with_reducible repeat (first | refine blk_drewN ?_ _ | refine blk_drew ?_ | refine blk_alloc ?_ _)); exact BK125.out) hb); have n1_ := Aside0.mk (below_step (by repeat (first | (with_reducible first | exact HB.out | apply below_alloc | apply pw_below_drewN | apply below_drew1 | refine below_set ?_ GE125.out) | exact HB.out)) hb); clear BK125; clear HB; have BK125 := n0_; have HB := n1_; clear n0_ n1_; (try clear hb); (try clear hb2); (try clear hk); (try clear hi)))
            go_ret
            exact ⟨by first | rfl | (simp [errW_none, errW_some] <;> rfl) | (simp [*, errW_none, errW_some] <;> rfl), by repeat (first | (with_reducible first | exact HB.out | apply below_alloc | apply pw_below_drewN | apply below_drew1 | refine below_set ?_ GE125.out) | exact HB.out)⟩

/-! ### racewaylaw4_pick: function 12 -/
def racewaylaw4_pick.f (a0 : Int) (a1 : Int) : Option (Int) := if a0 < 0 then (if a1 = 0 then (none) else (some (Int.tmod (wrap64 (-(wrap64 (a0 + 1)))) a1))) else (if a1 = 0 then (none) else (some (Int.tmod a0 a1)))
set_option maxHeartbeats 8000000 in
set_option maxRecDepth 100000 in
theorem racewaylaw4_pick.calls (a0 : Int) (a1 : Int) (r : Int) (w : World) (h : racewaylaw4_pick.f a0 a1 = some r) :
    Calls Tryz.prog 12 #[.int .i64 a0, .int .i64 a1] w fun e w' => e = .returned (.int .i64 r) ∧ Drawn0 w w' := by
  have H : (if a0 < 0 then (if a1 = 0 then (none) else (some (Int.tmod (wrap64 (-(wrap64 (a0 + 1)))) a1))) else (if a1 = 0 then (none) else (some (Int.tmod a0 a1)))) = some r := h
  clear h
  by_cases c3 : a0 < 0
  · rw [if_pos c3] at H
    have c3b0 : decide (a0 < 0) = true := decide_eq_true c3
    clear c3
    by_cases c4 : a1 = 0
    · rw [if_pos c4] at H
      exact absurd H (by simp)
    · rw [if_neg c4] at H
      have c4b0 : (a1 == 0) = false := beq_eq_false_iff_ne.mpr c4
      have c4b1 : (a1 != 0) = true := bne_iff_ne.mpr c4
      obtain rfl := Option.some.inj H
      go_enter Tryz.func12, Tryz.ntmps12
      go_wp2
      go_ret
      exact ⟨by first | rfl | (simp; done) | (simp [*]; done), by repeat (first | exact Drawn0.refl _ | apply Drawn0.step)⟩
  · rw [if_neg c3] at H
    have c3b0 : decide (a0 < 0) = false := decide_eq_false c3
    clear c3
    by_cases c5 : a1 = 0
    · rw [if_pos c5] at H
      exact absurd H (by simp)
    · rw [if_neg c5] at H
      have c5b0 : (a1 == 0) = false := beq_eq_false_iff_ne.mpr c5
      have c5b1 : (a1 != 0) = true := bne_iff_ne.mpr c5
      obtain rfl := Option.some.inj H
      go_enter Tryz.func12, Tryz.ntmps12
      go_wp2
      go_ret
      exact ⟨by first | rfl | (simp; done) | (simp [*]; done), by repeat (first | exact Drawn0.refl _ | apply Drawn0.step)⟩

end Go.Proofs.YtgpeppnbgfdaaaaGreatDoor.R
