/- Functions of the program as plain Lean functions, and that their calls come to these: written by a program of this session. Conditions: what each theorem asks. -/
import Derived.Test.YteifkibpeimbpaaDoorQx0
import Derived.Test.YteifkibpeimbpaaDoorQx1
import Derived.Test.YteifkibpeimbpaaDoorText
namespace Go.Proofs.YteifkibpeimbpaaDoor.Q
open Go.RowKit Go.Proofs.YteifkibpeimbpaaDoor.H Go.Proofs.YteifkibpeimbpaaDoorW.PrintWords Go.Proofs.YteifkibpeimbpaaDoorW.PrintLast Go.Proofs.YteifkibpeimbpaaDoorW.PrintMore
attribute [local go_sem] max2_int min2_int max_two min_two max_three min_three max_four min_four   -- for this text's walks alone
set_option linter.unusedVariables false
set_option linter.unusedSimpArgs false

/-! ### racewaylaw2_TextOrder: function 5 -/
mutual
def racewaylaw2_TextOrder.j0 : Nat → ByteArray → Bool → Bool → Option (Bool)
  | 0, _, _, _ => none
  | k + 1, x0, x3, x20 => if x20 = true then (some x3) else ((text_Words.f x0).bind fun t138 => (racewaylaw2_TextOrder.l0 k x0 t138 0 0))
def racewaylaw2_TextOrder.l0 : Nat → ByteArray → List ByteArray → Int → Int → Option (Bool)
  | 0, _, _, _, _ => none
  | k + 1, x0, x4, x5, x6 => if x6 < (x4.length : Int) then (racewaylaw2_TextOrder.l1 k x0 x4 x5 x6) else (racewaylaw2_TextOrder.l2 k x0 x5)
def racewaylaw2_TextOrder.j3 : Nat → ByteArray → List ByteArray → Int → Int → Option (Bool)
  | 0, _, _, _, _ => none
  | k + 1, x0, x4, x5, x6 => if 0 ≤ x6 then (if x6 < (x4.length : Int) then (if (rdOf ByteArray.empty x4 x6).toList = ([] : List UInt8) then (racewaylaw2_TextOrder.j4 k x0 x4 x5 x6 true) else (if (wrap64 (x5 + ((rdOf ByteArray.empty x4 x6).size : Int))) > (x0.size : Int) then (racewaylaw2_TextOrder.j4 k x0 x4 x5 x6 true) else (if 0 ≤ x5 then (if x5 ≤ (wrap64 (x5 + ((rdOf ByteArray.empty x4 x6).size : Int))) then (if (wrap64 (x5 + ((rdOf ByteArray.empty x4 x6).size : Int))) ≤ (x0.size : Int) then (racewaylaw2_TextOrder.j4 k x0 x4 x5 x6 ((x0.extract (x5 : Int).toNat ((wrap64 (x5 + ((rdOf ByteArray.empty x4 x6).size : Int))) : Int).toNat).toList != (rdOf ByteArray.empty x4 x6).toList)) else (none)) else (none)) else (none)))) else (none)) else (none)
def racewaylaw2_TextOrder.j4 : Nat → ByteArray → List ByteArray → Int → Int → Bool → Option (Bool)
  | 0, _, _, _, _, _ => none
  | k + 1, x0, x4, x5, x6, x87 => if x87 = true then (some false) else (if 0 ≤ x6 then (if x6 < (x4.length : Int) then (if (wrap64 (x5 + ((rdOf ByteArray.empty x4 x6).size : Int))) < (x0.size : Int) then (if 0 ≤ (wrap64 (x5 + ((rdOf ByteArray.empty x4 x6).size : Int))) then (if (bt x0 (wrap64 (x5 + ((rdOf ByteArray.empty x4 x6).size : Int)))) = 32 then (racewaylaw2_TextOrder.l0 k x0 x4 (wrap64 (x5 + ((rdOf ByteArray.empty x4 x6).size : Int))) (wrap64 (x6 + 1))) else (if (bt x0 (wrap64 (x5 + ((rdOf ByteArray.empty x4 x6).size : Int)))) = 9 then (racewaylaw2_TextOrder.l0 k x0 x4 (wrap64 (x5 + ((rdOf ByteArray.empty x4 x6).size : Int))) (wrap64 (x6 + 1))) else (if (bt x0 (wrap64 (x5 + ((rdOf ByteArray.empty x4 x6).size : Int)))) = 13 then (racewaylaw2_TextOrder.l0 k x0 x4 (wrap64 (x5 + ((rdOf ByteArray.empty x4 x6).size : Int))) (wrap64 (x6 + 1))) else (some false)))) else (none)) else (racewaylaw2_TextOrder.l0 k x0 x4 (wrap64 (x5 + ((rdOf ByteArray.empty x4 x6).size : Int))) (wrap64 (x6 + 1)))) else (none)) else (none))
def racewaylaw2_TextOrder.l1 : Nat → ByteArray → List ByteArray → Int → Int → Option (Bool)
  | 0, _, _, _, _ => none
  | k + 1, x0, x4, x5, x6 => if x5 < (x0.size : Int) then (if 0 ≤ x5 then (if (bt x0 x5) = 32 then (racewaylaw2_TextOrder.l1 k x0 x4 (wrap64 (x5 + 1)) x6) else (if (bt x0 x5) = 9 then (racewaylaw2_TextOrder.l1 k x0 x4 (wrap64 (x5 + 1)) x6) else (if (bt x0 x5) = 13 then (racewaylaw2_TextOrder.l1 k x0 x4 (wrap64 (x5 + 1)) x6) else (racewaylaw2_TextOrder.j3 k x0 x4 x5 x6)))) else (none)) else (racewaylaw2_TextOrder.j3 k x0 x4 x5 x6)
def racewaylaw2_TextOrder.l2 : Nat → ByteArray → Int → Option (Bool)
  | 0, _, _ => none
  | k + 1, x0, x5 => if x5 < (x0.size : Int) then (if 0 ≤ x5 then (if (bt x0 x5) = 32 then (racewaylaw2_TextOrder.l2 k x0 (wrap64 (x5 + 1))) else (if (bt x0 x5) = 9 then (racewaylaw2_TextOrder.l2 k x0 (wrap64 (x5 + 1))) else (if (bt x0 x5) = 13 then (racewaylaw2_TextOrder.l2 k x0 (wrap64 (x5 + 1))) else (some false)))) else (none)) else (racewaylaw2_TextOrder.l3 k x0 0 0)
def racewaylaw2_TextOrder.l3 : Nat → ByteArray → Int → Int → Option (Bool)
  | 0, _, _, _ => none
  | k + 1, x0, x7, x8 => if x8 < (x0.size : Int) then (if 0 ≤ x8 then (if (bt x0 x8) = 10 then (racewaylaw2_TextOrder.l3 k x0 (wrap64 (x7 + 1)) (wrap64 (x8 + 1))) else (racewaylaw2_TextOrder.l3 k x0 x7 (wrap64 (x8 + 1)))) else (none)) else (if x0.toList = ([] : List UInt8) then (racewaylaw2_TextOrder.j7 k x0 x7 0 false) else (if 0 ≤ (wrap64 ((x0.size : Int) - 1)) then (if (wrap64 ((x0.size : Int) - 1)) < (x0.size : Int) then (racewaylaw2_TextOrder.j7 k x0 x7 0 ((bt x0 (wrap64 ((x0.size : Int) - 1))) != 10)) else (none)) else (none)))
def racewaylaw2_TextOrder.j7 : Nat → ByteArray → Int → Int → Bool → Option (Bool)
  | 0, _, _, _, _ => none
  | k + 1, x0, x7, x9, x160 => if x160 = true then (racewaylaw2_TextOrder.j8 k x0 x7 1) else (racewaylaw2_TextOrder.j8 k x0 x7 x9)
def racewaylaw2_TextOrder.j8 : Nat → ByteArray → Int → Int → Option (Bool)
  | 0, _, _, _ => none
  | k + 1, x0, x7, x9 => (text_Lines.f x0).bind fun t146 => (racewaylaw2_TextOrder.l4 k x0 x7 x9 t146 (⟨#[]⟩ : ByteArray) 0)
def racewaylaw2_TextOrder.l4 : Nat → ByteArray → Int → Int → List ByteArray → ByteArray → Int → Option (Bool)
  | 0, _, _, _, _, _, _ => none
  | k + 1, x0, x7, x9, x10, x11, x12 => if x12 < (x10.length : Int) then (if 0 ≤ x12 then (if x11.size + (rdOf ByteArray.empty x10 x12).size ≤ 9223372036854775807 then (if (x11 ++ (rdOf ByteArray.empty x10 x12)).size + 1 ≤ 9223372036854775807 then (racewaylaw2_TextOrder.l4 k x0 x7 x9 x10 ((x11 ++ (rdOf ByteArray.empty x10 x12)) ++ (⟨#[10]⟩ : ByteArray)) (wrap64 (x12 + 1))) else (none)) else (none)) else (none)) else (if (x10.length : Int) = (wrap64 (x7 + x9)) then (if x0.toList = x11.toList then (some true) else (if x0.size + 1 ≤ 9223372036854775807 then (some ((x0 ++ (⟨#[10]⟩ : ByteArray)).toList == x11.toList)) else (none))) else (some false))
end
def racewaylaw2_TextOrder.f (k : Nat) (a0 : ByteArray) : Option (Bool) := (racewaylaw2_shown.f).bind fun t137 => (if t137 = true then (racewaylaw2_TextOrder.j0 k a0 t137 (decide ((a0.size : Int) > 2000))) else (racewaylaw2_TextOrder.j0 k a0 t137 true))
theorem racewaylaw2_TextOrder.mono_l : ∀ k, (∀ y0 y1 y2, LeO (racewaylaw2_TextOrder.j0 k y0 y1 y2) (racewaylaw2_TextOrder.j0 (k + 1) y0 y1 y2)) ∧ (∀ y0 y1 y2 y3, LeO (racewaylaw2_TextOrder.l0 k y0 y1 y2 y3) (racewaylaw2_TextOrder.l0 (k + 1) y0 y1 y2 y3)) ∧ (∀ y0 y1 y2 y3, LeO (racewaylaw2_TextOrder.j3 k y0 y1 y2 y3) (racewaylaw2_TextOrder.j3 (k + 1) y0 y1 y2 y3)) ∧ (∀ y0 y1 y2 y3 y4, LeO (racewaylaw2_TextOrder.j4 k y0 y1 y2 y3 y4) (racewaylaw2_TextOrder.j4 (k + 1) y0 y1 y2 y3 y4)) ∧ (∀ y0 y1 y2 y3, LeO (racewaylaw2_TextOrder.l1 k y0 y1 y2 y3) (racewaylaw2_TextOrder.l1 (k + 1) y0 y1 y2 y3)) ∧ (∀ y0 y1, LeO (racewaylaw2_TextOrder.l2 k y0 y1) (racewaylaw2_TextOrder.l2 (k + 1) y0 y1)) ∧ (∀ y0 y1 y2, LeO (racewaylaw2_TextOrder.l3 k y0 y1 y2) (racewaylaw2_TextOrder.l3 (k + 1) y0 y1 y2)) ∧ (∀ y0 y1 y2 y3, LeO (racewaylaw2_TextOrder.j7 k y0 y1 y2 y3) (racewaylaw2_TextOrder.j7 (k + 1) y0 y1 y2 y3)) ∧ (∀ y0 y1 y2, LeO (racewaylaw2_TextOrder.j8 k y0 y1 y2) (racewaylaw2_TextOrder.j8 (k + 1) y0 y1 y2)) ∧ (∀ y0 y1 y2 y3 y4 y5, LeO (racewaylaw2_TextOrder.l4 k y0 y1 y2 y3 y4 y5) (racewaylaw2_TextOrder.l4 (k + 1) y0 y1 y2 y3 y4 y5))
  | 0 => ⟨fun _ _ _ r h => by simp [racewaylaw2_TextOrder.j0] at h, fun _ _ _ _ r h => by simp [racewaylaw2_TextOrder.l0] at h, fun _ _ _ _ r h => by simp [racewaylaw2_TextOrder.j3] at h, fun _ _ _ _ _ r h => by simp [racewaylaw2_TextOrder.j4] at h, fun _ _ _ _ r h => by simp [racewaylaw2_TextOrder.l1] at h, fun _ _ r h => by simp [racewaylaw2_TextOrder.l2] at h, fun _ _ _ r h => by simp [racewaylaw2_TextOrder.l3] at h, fun _ _ _ _ r h => by simp [racewaylaw2_TextOrder.j7] at h, fun _ _ _ r h => by simp [racewaylaw2_TextOrder.j8] at h, fun _ _ _ _ _ _ r h => by simp [racewaylaw2_TextOrder.l4] at h⟩
  | k + 1 => by
    obtain ⟨ih0, ih1, ih2, ih3, ih4, ih5, ih6, ih7, ih8, ih9⟩ := racewaylaw2_TextOrder.mono_l k
    refine ⟨?_, ?_, ?_, ?_, ?_, ?_, ?_, ?_, ?_, ?_⟩
    · intro y0 y1 y2
      unfold racewaylaw2_TextOrder.j0
      repeat' first
      | (with_reducible exact ih0 _ _ _)
      | (with_reducible exact ih1 _ _ _ _)
      | (with_reducible exact ih2 _ _ _ _)
      | (with_reducible exact ih3 _ _ _ _ _)
      | (with_reducible exact ih4 _ _ _ _)
      | (with_reducible exact ih5 _ _)
      | (with_reducible exact ih6 _ _ _)
      | (with_reducible exact ih7 _ _ _ _)
      | (with_reducible exact ih8 _ _ _)
      | (with_reducible exact ih9 _ _ _ _ _ _)
      | (with_reducible exact LeO.refl _)
      | (with_reducible exact LeO.none _)
      | (with_reducible refine LeO.ite ?_ ?_)
      | (with_reducible refine LeO.bind ?_ (fun _ => ?_))
      | exact ih0 _ _ _
      | exact ih1 _ _ _ _
      | exact ih2 _ _ _ _
      | exact ih3 _ _ _ _ _
      | exact ih4 _ _ _ _
      | exact ih5 _ _
      | exact ih6 _ _ _
      | exact ih7 _ _ _ _
      | exact ih8 _ _ _
      | exact ih9 _ _ _ _ _ _
      | exact LeO.none _
      | refine LeO.ite ?_ ?_
      | refine LeO.bind ?_ (fun _ => ?_)
    · intro y0 y1 y2 y3
      unfold racewaylaw2_TextOrder.l0
      repeat' first
      | (with_reducible exact ih0 _ _ _)
      | (with_reducible exact ih1 _ _ _ _)
      | (with_reducible exact ih2 _ _ _ _)
      | (with_reducible exact ih3 _ _ _ _ _)
      | (with_reducible exact ih4 _ _ _ _)
      | (with_reducible exact ih5 _ _)
      | (with_reducible exact ih6 _ _ _)
      | (with_reducible exact ih7 _ _ _ _)
      | (with_reducible exact ih8 _ _ _)
      | (with_reducible exact ih9 _ _ _ _ _ _)
      | (with_reducible exact LeO.refl _)
      | (with_reducible exact LeO.none _)
      | (with_reducible refine LeO.ite ?_ ?_)
      | (with_reducible refine LeO.bind ?_ (fun _ => ?_))
      | exact ih0 _ _ _
      | exact ih1 _ _ _ _
      | exact ih2 _ _ _ _
      | exact ih3 _ _ _ _ _
      | exact ih4 _ _ _ _
      | exact ih5 _ _
      | exact ih6 _ _ _
      | exact ih7 _ _ _ _
      | exact ih8 _ _ _
      | exact ih9 _ _ _ _ _ _
      | exact LeO.none _
      | refine LeO.ite ?_ ?_
      | refine LeO.bind ?_ (fun _ => ?_)
    · intro y0 y1 y2 y3
      unfold racewaylaw2_TextOrder.j3
      repeat' first
      | (with_reducible exact ih0 _ _ _)
      | (with_reducible exact ih1 _ _ _ _)
      | (with_reducible exact ih2 _ _ _ _)
      | (with_reducible exact ih3 _ _ _ _ _)
      | (with_reducible exact ih4 _ _ _ _)
      | (with_reducible exact ih5 _ _)
      | (with_reducible exact ih6 _ _ _)
      | (with_reducible exact ih7 _ _ _ _)
      | (with_reducible exact ih8 _ _ _)
      | (with_reducible exact ih9 _ _ _ _ _ _)
      | (with_reducible exact LeO.refl _)
      | (with_reducible exact LeO.none _)
      | (with_reducible refine LeO.ite ?_ ?_)
      | (with_reducible refine LeO.bind ?_ (fun _ => ?_))
      | exact ih0 _ _ _
      | exact ih1 _ _ _ _
      | exact ih2 _ _ _ _
      | exact ih3 _ _ _ _ _
      | exact ih4 _ _ _ _
      | exact ih5 _ _
      | exact ih6 _ _ _
      | exact ih7 _ _ _ _
      | exact ih8 _ _ _
      | exact ih9 _ _ _ _ _ _
      | exact LeO.none _
      | refine LeO.ite ?_ ?_
      | refine LeO.bind ?_ (fun _ => ?_)
    · intro y0 y1 y2 y3 y4
      unfold racewaylaw2_TextOrder.j4
      repeat' first
      | (with_reducible exact ih0 _ _ _)
      | (with_reducible exact ih1 _ _ _ _)
      | (with_reducible exact ih2 _ _ _ _)
      | (with_reducible exact ih3 _ _ _ _ _)
      | (with_reducible exact ih4 _ _ _ _)
      | (with_reducible exact ih5 _ _)
      | (with_reducible exact ih6 _ _ _)
      | (with_reducible exact ih7 _ _ _ _)
      | (with_reducible exact ih8 _ _ _)
      | (with_reducible exact ih9 _ _ _ _ _ _)
      | (with_reducible exact LeO.refl _)
      | (with_reducible exact LeO.none _)
      | (with_reducible refine LeO.ite ?_ ?_)
      | (with_reducible refine LeO.bind ?_ (fun _ => ?_))
      | exact ih0 _ _ _
      | exact ih1 _ _ _ _
      | exact ih2 _ _ _ _
      | exact ih3 _ _ _ _ _
      | exact ih4 _ _ _ _
      | exact ih5 _ _
      | exact ih6 _ _ _
      | exact ih7 _ _ _ _
      | exact ih8 _ _ _
      | exact ih9 _ _ _ _ _ _
      | exact LeO.none _
      | refine LeO.ite ?_ ?_
      | refine LeO.bind ?_ (fun _ => ?_)
    · intro y0 y1 y2 y3
      unfold racewaylaw2_TextOrder.l1
      repeat' first
      | (with_reducible exact ih0 _ _ _)
      | (with_reducible exact ih1 _ _ _ _)
      | (with_reducible exact ih2 _ _ _ _)
      | (with_reducible exact ih3 _ _ _ _ _)
      | (with_reducible exact ih4 _ _ _ _)
      | (with_reducible exact ih5 _ _)
      | (with_reducible exact ih6 _ _ _)
      | (with_reducible exact ih7 _ _ _ _)
      | (with_reducible exact ih8 _ _ _)
      | (with_reducible exact ih9 _ _ _ _ _ _)
      | (with_reducible exact LeO.refl _)
      | (with_reducible exact LeO.none _)
      | (with_reducible refine LeO.ite ?_ ?_)
      | (with_reducible refine LeO.bind ?_ (fun _ => ?_))
      | exact ih0 _ _ _
      | exact ih1 _ _ _ _
      | exact ih2 _ _ _ _
      | exact ih3 _ _ _ _ _
      | exact ih4 _ _ _ _
      | exact ih5 _ _
      | exact ih6 _ _ _
      | exact ih7 _ _ _ _
      | exact ih8 _ _ _
      | exact ih9 _ _ _ _ _ _
      | exact LeO.none _
      | refine LeO.ite ?_ ?_
      | refine LeO.bind ?_ (fun _ => ?_)
    · intro y0 y1
      unfold racewaylaw2_TextOrder.l2
      repeat' first
      | (with_reducible exact ih0 _ _ _)
      | (with_reducible exact ih1 _ _ _ _)
      | (with_reducible exact ih2 _ _ _ _)
      | (with_reducible exact ih3 _ _ _ _ _)
      | (with_reducible exact ih4 _ _ _ _)
      | (with_reducible exact ih5 _ _)
      | (with_reducible exact ih6 _ _ _)
      | (with_reducible exact ih7 _ _ _ _)
      | (with_reducible exact ih8 _ _ _)
      | (with_reducible exact ih9 _ _ _ _ _ _)
      | (with_reducible exact LeO.refl _)
      | (with_reducible exact LeO.none _)
      | (with_reducible refine LeO.ite ?_ ?_)
      | (with_reducible refine LeO.bind ?_ (fun _ => ?_))
      | exact ih0 _ _ _
      | exact ih1 _ _ _ _
      | exact ih2 _ _ _ _
      | exact ih3 _ _ _ _ _
      | exact ih4 _ _ _ _
      | exact ih5 _ _
      | exact ih6 _ _ _
      | exact ih7 _ _ _ _
      | exact ih8 _ _ _
      | exact ih9 _ _ _ _ _ _
      | exact LeO.none _
      | refine LeO.ite ?_ ?_
      | refine LeO.bind ?_ (fun _ => ?_)
    · intro y0 y1 y2
      unfold racewaylaw2_TextOrder.l3
      repeat' first
      | (with_reducible exact ih0 _ _ _)
      | (with_reducible exact ih1 _ _ _ _)
      | (with_reducible exact ih2 _ _ _ _)
      | (with_reducible exact ih3 _ _ _ _ _)
      | (with_reducible exact ih4 _ _ _ _)
      | (with_reducible exact ih5 _ _)
      | (with_reducible exact ih6 _ _ _)
      | (with_reducible exact ih7 _ _ _ _)
      | (with_reducible exact ih8 _ _ _)
      | (with_reducible exact ih9 _ _ _ _ _ _)
      | (with_reducible exact LeO.refl _)
      | (with_reducible exact LeO.none _)
      | (with_reducible refine LeO.ite ?_ ?_)
      | (with_reducible refine LeO.bind ?_ (fun _ => ?_))
      | exact ih0 _ _ _
      | exact ih1 _ _ _ _
      | exact ih2 _ _ _ _
      | exact ih3 _ _ _ _ _
      | exact ih4 _ _ _ _
      | exact ih5 _ _
      | exact ih6 _ _ _
      | exact ih7 _ _ _ _
      | exact ih8 _ _ _
      | exact ih9 _ _ _ _ _ _
      | exact LeO.none _
      | refine LeO.ite ?_ ?_
      | refine LeO.bind ?_ (fun _ => ?_)
    · intro y0 y1 y2 y3
      unfold racewaylaw2_TextOrder.j7
      repeat' first
      | (with_reducible exact ih0 _ _ _)
      | (with_reducible exact ih1 _ _ _ _)
      | (with_reducible exact ih2 _ _ _ _)
      | (with_reducible exact ih3 _ _ _ _ _)
      | (with_reducible exact ih4 _ _ _ _)
      | (with_reducible exact ih5 _ _)
      | (with_reducible exact ih6 _ _ _)
      | (with_reducible exact ih7 _ _ _ _)
      | (with_reducible exact ih8 _ _ _)
      | (with_reducible exact ih9 _ _ _ _ _ _)
      | (with_reducible exact LeO.refl _)
      | (with_reducible exact LeO.none _)
      | (with_reducible refine LeO.ite ?_ ?_)
      | (with_reducible refine LeO.bind ?_ (fun _ => ?_))
      | exact ih0 _ _ _
      | exact ih1 _ _ _ _
      | exact ih2 _ _ _ _
      | exact ih3 _ _ _ _ _
      | exact ih4 _ _ _ _
      | exact ih5 _ _
      | exact ih6 _ _ _
      | exact ih7 _ _ _ _
      | exact ih8 _ _ _
      | exact ih9 _ _ _ _ _ _
      | exact LeO.none _
      | refine LeO.ite ?_ ?_
      | refine LeO.bind ?_ (fun _ => ?_)
    · intro y0 y1 y2
      unfold racewaylaw2_TextOrder.j8
      repeat' first
      | (with_reducible exact ih0 _ _ _)
      | (with_reducible exact ih1 _ _ _ _)
      | (with_reducible exact ih2 _ _ _ _)
      | (with_reducible exact ih3 _ _ _ _ _)
      | (with_reducible exact ih4 _ _ _ _)
      | (with_reducible exact ih5 _ _)
      | (with_reducible exact ih6 _ _ _)
      | (with_reducible exact ih7 _ _ _ _)
      | (with_reducible exact ih8 _ _ _)
      | (with_reducible exact ih9 _ _ _ _ _ _)
      | (with_reducible exact LeO.refl _)
      | (with_reducible exact LeO.none _)
      | (with_reducible refine LeO.ite ?_ ?_)
      | (with_reducible refine LeO.bind ?_ (fun _ => ?_))
      | exact ih0 _ _ _
      | exact ih1 _ _ _ _
      | exact ih2 _ _ _ _
      | exact ih3 _ _ _ _ _
      | exact ih4 _ _ _ _
      | exact ih5 _ _
      | exact ih6 _ _ _
      | exact ih7 _ _ _ _
      | exact ih8 _ _ _
      | exact ih9 _ _ _ _ _ _
      | exact LeO.none _
      | refine LeO.ite ?_ ?_
      | refine LeO.bind ?_ (fun _ => ?_)
    · intro y0 y1 y2 y3 y4 y5
      unfold racewaylaw2_TextOrder.l4
      repeat' first
      | (with_reducible exact ih0 _ _ _)
      | (with_reducible exact ih1 _ _ _ _)
      | (with_reducible exact ih2 _ _ _ _)
      | (with_reducible exact ih3 _ _ _ _ _)
      | (with_reducible exact ih4 _ _ _ _)
      | (with_reducible exact ih5 _ _)
      | (with_reducible exact ih6 _ _ _)
      | (with_reducible exact ih7 _ _ _ _)
      | (with_reducible exact ih8 _ _ _)
      | (with_reducible exact ih9 _ _ _ _ _ _)
      | (with_reducible exact LeO.refl _)
      | (with_reducible exact LeO.none _)
      | (with_reducible refine LeO.ite ?_ ?_)
      | (with_reducible refine LeO.bind ?_ (fun _ => ?_))
      | exact ih0 _ _ _
      | exact ih1 _ _ _ _
      | exact ih2 _ _ _ _
      | exact ih3 _ _ _ _ _
      | exact ih4 _ _ _ _
      | exact ih5 _ _
      | exact ih6 _ _ _
      | exact ih7 _ _ _ _
      | exact ih8 _ _ _
      | exact ih9 _ _ _ _ _ _
      | exact LeO.none _
      | refine LeO.ite ?_ ?_
      | refine LeO.bind ?_ (fun _ => ?_)
theorem racewaylaw2_TextOrder.mono : ∀ a0 k, LeO (racewaylaw2_TextOrder.f k a0) (racewaylaw2_TextOrder.f (k + 1) a0) := by
  intro a0 k
  obtain ⟨ih0, ih1, ih2, ih3, ih4, ih5, ih6, ih7, ih8, ih9⟩ := racewaylaw2_TextOrder.mono_l k
  unfold racewaylaw2_TextOrder.f
  repeat' first
      | (with_reducible exact ih0 _ _ _)
      | (with_reducible exact ih1 _ _ _ _)
      | (with_reducible exact ih2 _ _ _ _)
      | (with_reducible exact ih3 _ _ _ _ _)
      | (with_reducible exact ih4 _ _ _ _)
      | (with_reducible exact ih5 _ _)
      | (with_reducible exact ih6 _ _ _)
      | (with_reducible exact ih7 _ _ _ _)
      | (with_reducible exact ih8 _ _ _)
      | (with_reducible exact ih9 _ _ _ _ _ _)
      | (with_reducible exact LeO.refl _)
      | (with_reducible exact LeO.none _)
      | (with_reducible refine LeO.ite ?_ ?_)
      | (with_reducible refine LeO.bind ?_ (fun _ => ?_))
      | exact ih0 _ _ _
      | exact ih1 _ _ _ _
      | exact ih2 _ _ _ _
      | exact ih3 _ _ _ _ _
      | exact ih4 _ _ _ _
      | exact ih5 _ _
      | exact ih6 _ _ _
      | exact ih7 _ _ _ _
      | exact ih8 _ _ _
      | exact ih9 _ _ _ _ _ _
      | exact LeO.none _
      | refine LeO.ite ?_ ?_
      | refine LeO.bind ?_ (fun _ => ?_)
set_option maxHeartbeats 8000000 in
set_option maxRecDepth 100000 in
theorem racewaylaw2_TextOrder.calls (k : Nat) (a0 : ByteArray) (r : Bool) (w : World) (h : racewaylaw2_TextOrder.f k a0 = some r) (hG : LaidG w) :
    Calls Tryd.prog 5 #[.string a0] w fun e w' => e = .returned (.bool r) ∧ Below w.heap.size w w' := by
  have HB := Aside0.mk (Below.refl w.heap.size w)
  have H : ((racewaylaw2_shown.f).bind fun t137 => (if t137 = true then (racewaylaw2_TextOrder.j0 k a0 t137 (decide ((a0.size : Int) > 2000))) else (racewaylaw2_TextOrder.j0 k a0 t137 true))) = some r := h
  clear h
  replace H := Option.bind_eq_some_iff.mp H
  obtain ⟨t137, A20, H⟩ := H
  replace H : (if t137 = true then (racewaylaw2_TextOrder.j0 k a0 t137 (decide ((a0.size : Int) > 2000))) else (racewaylaw2_TextOrder.j0 k a0 t137 true)) = some r := H
  have A2 := Aside0.mk A20
  clear A20
  have HC3 := Aside0.mk H
  clear H
  go_enter Tryd.func5, Tryd.ntmps5
  go_upto_region 2 with (first | (go_at_call 8; (with_reducible refine (racewaylaw2_shown.calls  t137 _ A2.out (LaidG.below hG (by repeat (first | (with_reducible first | exact HB.out | apply below_alloc | apply pw_below_drewN | apply below_drew1) | exact HB.out)))).mono ?_); rintro e w4 ⟨rfl, hb⟩; have n0_ := Aside0.mk (below_step (by repeat (first | (with_reducible first | exact HB.out | apply below_alloc | apply pw_below_drewN | apply below_drew1) | exact HB.out)) hb); clear HB; have HB := n0_; clear n0_; (try clear hb); (try clear hb2); (try clear hk); (try clear hi)))
  repeat (go_quiet (first | (go_at_call 8; (with_reducible refine (racewaylaw2_shown.calls  t137 _ A2.out (LaidG.below hG (by repeat (first | (with_reducible first | exact HB.out | apply below_alloc | apply pw_below_drewN | apply below_drew1) | exact HB.out)))).mono ?_); rintro e w4 ⟨rfl, hb⟩; have n0_ := Aside0.mk (below_step (by repeat (first | (with_reducible first | exact HB.out | apply below_alloc | apply pw_below_drewN | apply below_drew1) | exact HB.out)) hb); clear HB; have HB := n0_; clear n0_; (try clear hb); (try clear hb2); (try clear hk); (try clear hi))); go_upto_region 2 with (first | (go_at_call 8; (with_reducible refine (racewaylaw2_shown.calls  t137 _ A2.out (LaidG.below hG (by repeat (first | (with_reducible first | exact HB.out | apply below_alloc | apply pw_below_drewN | apply below_drew1) | exact HB.out)))).mono ?_); rintro e w4 ⟨rfl, hb⟩; have n0_ := Aside0.mk (below_step (by repeat (first | (with_reducible first | exact HB.out | apply below_alloc | apply pw_below_drewN | apply below_drew1) | exact HB.out)) hb); clear HB; have HB := n0_; clear n0_; (try clear hb); (try clear hb2); (try clear hk); (try clear hi))))
  (try simp only [Act.put, List.setIfInBounds_toArray, List.set_cons_zero, List.set_cons_succ])
  go_cut [20] (fun v20 wc => ∃ (kq : Nat) (x20_2 : Bool), v20 = .bool x20_2 ∧ Aside0 (racewaylaw2_TextOrder.j0 kq a0 t137 x20_2 = some r) ∧ Aside0 (kq ≤ k) ∧ Aside0 (Below w.heap.size w wc))
  case first =>
    have H := HC3.out
    clear HC3
    by_cases c5 : t137 = true
    · subst c5
      have H1 : (racewaylaw2_TextOrder.j0 k a0 true (decide ((a0.size : Int) > 2000))) = some r := by rw [if_pos rfl] at H; exact H
      clear H
      have H := H1
      clear H1
      have H' := Aside0.mk H
      clear H
      go_wp2
      repeat (go_quiet (fail); try go_wp2)
      go_meet
      case rel => exact ⟨_, (decide ((a0.size : Int) > 2000)), (by first | rfl | (simp; done) | (simp [*]; done)), H', ⟨by first | omega | exact Nat.le_refl _⟩, ⟨by repeat (first | (with_reducible first | exact HB.out | apply below_alloc | apply pw_below_drewN | apply below_drew1) | exact HB.out)⟩⟩
    · replace c5 := Bool.eq_false_iff.mpr c5
      subst c5
      have H1 : (racewaylaw2_TextOrder.j0 k a0 false true) = some r := by rw [if_neg (show ¬ (false = true) by decide)] at H; exact H
      clear H
      have H := H1
      clear H1
      have H' := Aside0.mk H
      clear H
      go_wp2
      repeat (go_quiet (fail); try go_wp2)
      go_meet
      case rel => exact ⟨_, (true), (by first | rfl | (simp; done) | (simp [*]; done)), H', ⟨by first | omega | exact Nat.le_refl _⟩, ⟨by repeat (first | (with_reducible first | exact HB.out | apply below_alloc | apply pw_below_drewN | apply below_drew1) | exact HB.out)⟩⟩
  case rest =>
    clear HC3
    try clear p2
    try clear c5
    obtain ⟨kq, x20_2, rfl, HA, HJ2, HB⟩ := hcut
    cases kq with
    | zero => exact absurd HA.out (by simp [racewaylaw2_TextOrder.j0])
    | succ kj2 =>
      as_aux_lemma =>
        have H := HA.out
        clear HA
        simp only [racewaylaw2_TextOrder.j0] at H
        by_cases c6 : x20_2 = true
        · subst c6
          have H1 : (some t137) = some r := by rw [if_pos rfl] at H; exact H
          clear H
          have H := H1
          clear H1
          obtain rfl := Option.some.inj H
          go_wp2
          repeat (go_quiet (fail); try go_wp2)
          go_ret
          exact ⟨by first | rfl | (simp [errW_none, errW_some] <;> rfl) | (simp [*, errW_none, errW_some] <;> rfl), by repeat (first | (with_reducible first | exact HB.out | apply below_alloc | apply pw_below_drewN | apply below_drew1) | exact HB.out)⟩
        · replace c6 := Bool.eq_false_iff.mpr c6
          subst c6
          have H1 : ((text_Words.f a0).bind fun t138 => (racewaylaw2_TextOrder.l0 kj2 a0 t138 0 0)) = some r := by rw [if_neg (show ¬ (false = true) by decide)] at H; exact H
          clear H
          have H := H1
          clear H1
          replace H := Option.bind_eq_some_iff.mp H
          obtain ⟨t138, A70, H⟩ := H
          replace H : (racewaylaw2_TextOrder.l0 kj2 a0 t138 0 0) = some r := H
          have A7 := Aside0.mk A70
          clear A70
          have H' := Aside0.mk H
          clear H
          go_wp2_with (first | (go_at_call 12; (with_reducible refine (text_Words.calls a0 t138 _ A7.out).mono ?_); rintro e w8 ⟨v139, rfl, ho0, hb⟩; have n0_ := Aside0.mk (Kd.R_lower ho0 (below_size (by repeat (first | (with_reducible first | exact HB.out | apply below_alloc | apply pw_below_drewN | apply below_drew1) | exact HB.out)))); have n1_ := Aside0.mk (below_step (by repeat (first | (with_reducible first | exact HB.out | apply below_alloc | apply pw_below_drewN | apply below_drew1) | exact HB.out)) hb); clear HB; have HO140 := n0_; have HB := n1_; clear n0_ n1_; (try clear hb); (try clear hb2); (try clear hk); (try clear hi); (try clear ho0)))
          repeat (go_quiet (first | (go_at_call 12; (with_reducible refine (text_Words.calls a0 t138 _ A7.out).mono ?_); rintro e w8 ⟨v139, rfl, ho0, hb⟩; have n0_ := Aside0.mk (Kd.R_lower ho0 (below_size (by repeat (first | (with_reducible first | exact HB.out | apply below_alloc | apply pw_below_drewN | apply below_drew1) | exact HB.out)))); have n1_ := Aside0.mk (below_step (by repeat (first | (with_reducible first | exact HB.out | apply below_alloc | apply pw_below_drewN | apply below_drew1) | exact HB.out)) hb); clear HB; have HO140 := n0_; have HB := n1_; clear n0_ n1_; (try clear hb); (try clear hb2); (try clear hk); (try clear hi); (try clear ho0))); try go_wp2_with (first | (go_at_call 12; (with_reducible refine (text_Words.calls a0 t138 _ A7.out).mono ?_); rintro e w8 ⟨v139, rfl, ho0, hb⟩; have n0_ := Aside0.mk (Kd.R_lower ho0 (below_size (by repeat (first | (with_reducible first | exact HB.out | apply below_alloc | apply pw_below_drewN | apply below_drew1) | exact HB.out)))); have n1_ := Aside0.mk (below_step (by repeat (first | (with_reducible first | exact HB.out | apply below_alloc | apply pw_below_drewN | apply below_drew1) | exact HB.out)) hb); clear HB; have HO140 := n0_; have HB := n1_; clear n0_ n1_; (try clear hb); (try clear hb2); (try clear hk); (try clear hi); (try clear ho0))))
          go_loopg [5, 6] kj2 (fun kq v5 v6 w' => ∃ (x5_2 : Int) (x6_2 : Int), v5 = .int .i64 x5_2 ∧ v6 = .int .i64 x6_2 ∧ Aside0 (racewaylaw2_TextOrder.l0 kq a0 t138 x5_2 x6_2 = some r) ∧ Aside0 (kq ≤ kj2) ∧ Aside0 (Kd.R Kd.string 9 w' w.heap.size (fun _ => True) v139 t138) ∧ Aside0 (Below w.heap.size w w'))
          case atStart => exact ⟨(0), (0), (by first | rfl | (simp; done) | (simp [*]; done)), (by first | rfl | (simp; done) | (simp [*]; done)), H', ⟨Nat.le_refl _⟩, ⟨by (with_reducible repeat (first | apply Kd.R_alloc | apply Kd.R_drewN | apply Kd.R_drew)); exact HO140.out⟩, ⟨by repeat (first | (with_reducible first | exact HB.out | apply below_alloc | apply pw_below_drewN | apply below_drew1) | exact HB.out)⟩⟩
          case round =>
            clear H'
            try clear p2
            try clear c5
            try clear c6
            try clear p2
            obtain ⟨x5_2, x6_2, rfl, rfl, HA, HK2, HO_4, HB⟩ := hrel
            cases gk with
            | zero => exact absurd HA.out (by simp [racewaylaw2_TextOrder.l0])
            | succ k2 =>
              as_aux_lemma =>
                have H := HA.out
                clear HA
                simp only [racewaylaw2_TextOrder.l0] at H
                by_cases c9 : x6_2 < (t138.length : Int)
                · rw [if_pos c9] at H
                  have c9b0 : decide (x6_2 < (t138.length : Int)) = true := decide_eq_true c9
                  clear c9
                  have HC10 := Aside0.mk H
                  clear H
                  obtain ⟨Ao11, co11, eo11⟩ := Kd.R_slice HO_4.out
                  subst eo11
                  go_upto_block 2 with (fail)
                  repeat (go_quiet (fail); go_upto_block 2 with (fail))
                  go_cut [5] (fun v5 wc => ∃ (kq : Nat) (x5_9 : Int), v5 = .int .i64 x5_9 ∧ Aside0 (racewaylaw2_TextOrder.j3 kq a0 t138 x5_9 x6_2 = some r) ∧ Aside0 (kq ≤ k2) ∧ Aside0 (Kd.R Kd.string 9 wc w.heap.size (fun _ => True) (.slice Ao11 t138.length co11) t138) ∧ Aside0 (Below w.heap.size w wc))
                  case first =>
                    have H := HC10.out
                    clear HC10
                    have H' := Aside0.mk H
                    clear H
                    go_wp2
                    repeat (go_quiet (fail); try go_wp2)
                    go_loopg [5] k2 (fun kq v5 w' => ∃ (x5_3 : Int), v5 = .int .i64 x5_3 ∧ Aside0 (racewaylaw2_TextOrder.l1 kq a0 t138 x5_3 x6_2 = some r) ∧ Aside0 (kq ≤ k2) ∧ Aside0 (Kd.R Kd.string 9 w' w.heap.size (fun _ => True) (.slice Ao11 t138.length co11) t138) ∧ Aside0 (Below w.heap.size w w'))
                    case atStart => exact ⟨(x5_2), (by first | rfl | (simp; done) | (simp [*]; done)), H', ⟨Nat.le_refl _⟩, ⟨by (with_reducible repeat (first | apply Kd.R_alloc | apply Kd.R_drewN | apply Kd.R_drew)); exact HO_4.out⟩, ⟨by repeat (first | (with_reducible first | exact HB.out | apply below_alloc | apply pw_below_drewN | apply below_drew1) | exact HB.out)⟩⟩
                    case round =>
                      clear H'
                      try clear p2
                      try clear c5
                      try clear c6
                      try clear c9
                      try clear c9b0
                      try clear p2
                      obtain ⟨x5_3, rfl, HA, HK3, HO_4, HB⟩ := hrel
                      cases gk with
                      | zero => exact absurd HA.out (by simp [racewaylaw2_TextOrder.l1])
                      | succ k3 =>
                        as_aux_lemma =>
                          have H := HA.out
                          clear HA
                          simp only [racewaylaw2_TextOrder.l1] at H
                          by_cases c12 : x5_3 < (a0.size : Int)
                          · rw [if_pos c12] at H
                            have c12b0 : decide (x5_3 < (a0.size : Int)) = true := decide_eq_true c12
                            clear c12
                            (first | rw [c12b0] | (simp only [i64_w, i32_w]; rw [c12b0]) | skip)
                            by_cases c13 : 0 ≤ x5_3
                            · rw [if_pos c13] at H
                              have c13b0 : decide (0 ≤ x5_3) = true := decide_eq_true c13
                              clear c13
                              by_cases c15 : (bt a0 x5_3) = 32
                              · rw [if_pos c15] at H
                                have c15b0 : ((bt a0 x5_3) == 32) = true := beq_iff_eq.mpr c15
                                have c15b1 : ((bt a0 x5_3) != 32) = false := bne_eq_false_iff_eq.mpr c15
                                clear c15
                                have H' := Aside0.mk H
                                clear H
                                have p14 : 0 ≤ (x5_3 : Int) := of_decide_eq_true (by first | (with_reducible assumption) | assumption)
                                have q14 : x5_3 < (a0.size : Int) := of_decide_eq_true (by first | (with_reducible assumption) | assumption)
                                have hx14 := bt_at a0 x5_3
                                replace p14 := eq_true p14
                                replace q14 := eq_true q14
                                go_wp2
                                repeat (go_quiet (fail); try go_wp2)
                                go_roundg k3
                                case measure => have := HJ2.out; have := HK2.out; have := HK3.out; omega
                                case rel => exact ⟨(wrap64 (x5_3 + 1)), (by first | rfl | (simp; done) | (simp [*]; done)), H', ⟨by have := HJ2.out; have := HK2.out; have := HK3.out; omega⟩, ⟨by (with_reducible repeat (first | apply Kd.R_alloc | apply Kd.R_drewN | apply Kd.R_drew)); exact HO_4.out⟩, ⟨by repeat (first | (with_reducible first | exact HB.out | apply below_alloc | apply pw_below_drewN | apply below_drew1) | exact HB.out)⟩⟩
                              · rw [if_neg c15] at H
                                have c15b0 : ((bt a0 x5_3) == 32) = false := beq_eq_false_iff_ne.mpr c15
                                have c15b1 : ((bt a0 x5_3) != 32) = true := bne_iff_ne.mpr c15
                                by_cases c17 : (bt a0 x5_3) = 9
                                · rw [if_pos c17] at H
                                  have c17b0 : ((bt a0 x5_3) == 9) = true := beq_iff_eq.mpr c17
                                  have c17b1 : ((bt a0 x5_3) != 9) = false := bne_eq_false_iff_eq.mpr c17
                                  clear c17
                                  have H' := Aside0.mk H
                                  clear H
                                  have p14 : 0 ≤ (x5_3 : Int) := of_decide_eq_true (by first | (with_reducible assumption) | assumption)
                                  have q14 : x5_3 < (a0.size : Int) := of_decide_eq_true (by first | (with_reducible assumption) | assumption)
                                  have hx14 := bt_at a0 x5_3
                                  replace p14 := eq_true p14
                                  replace q14 := eq_true q14
                                  have p16 : 0 ≤ (x5_3 : Int) := of_decide_eq_true (by first | (with_reducible assumption) | assumption)
                                  have q16 : x5_3 < (a0.size : Int) := of_decide_eq_true (by first | (with_reducible assumption) | assumption)
                                  have hx16 := bt_at a0 x5_3
                                  replace p16 := eq_true p16
                                  replace q16 := eq_true q16
                                  go_wp2
                                  repeat (go_quiet (fail); try go_wp2)
                                  go_roundg k3
                                  case measure => have := HJ2.out; have := HK2.out; have := HK3.out; omega
                                  case rel => exact ⟨(wrap64 (x5_3 + 1)), (by first | rfl | (simp; done) | (simp [*]; done)), H', ⟨by have := HJ2.out; have := HK2.out; have := HK3.out; omega⟩, ⟨by (with_reducible repeat (first | apply Kd.R_alloc | apply Kd.R_drewN | apply Kd.R_drew)); exact HO_4.out⟩, ⟨by repeat (first | (with_reducible first | exact HB.out | apply below_alloc | apply pw_below_drewN | apply below_drew1) | exact HB.out)⟩⟩
                                · rw [if_neg c17] at H
                                  have c17b0 : ((bt a0 x5_3) == 9) = false := beq_eq_false_iff_ne.mpr c17
                                  have c17b1 : ((bt a0 x5_3) != 9) = true := bne_iff_ne.mpr c17
                                  by_cases c19 : (bt a0 x5_3) = 13
                                  · rw [if_pos c19] at H
                                    have c19b0 : ((bt a0 x5_3) == 13) = true := beq_iff_eq.mpr c19
                                    have c19b1 : ((bt a0 x5_3) != 13) = false := bne_eq_false_iff_eq.mpr c19
                                    clear c19
                                    have H' := Aside0.mk H
                                    clear H
                                    have p14 : 0 ≤ (x5_3 : Int) := of_decide_eq_true (by first | (with_reducible assumption) | assumption)
                                    have q14 : x5_3 < (a0.size : Int) := of_decide_eq_true (by first | (with_reducible assumption) | assumption)
                                    have hx14 := bt_at a0 x5_3
                                    replace p14 := eq_true p14
                                    replace q14 := eq_true q14
                                    have p16 : 0 ≤ (x5_3 : Int) := of_decide_eq_true (by first | (with_reducible assumption) | assumption)
                                    have q16 : x5_3 < (a0.size : Int) := of_decide_eq_true (by first | (with_reducible assumption) | assumption)
                                    have hx16 := bt_at a0 x5_3
                                    replace p16 := eq_true p16
                                    replace q16 := eq_true q16
                                    have p18 : 0 ≤ (x5_3 : Int) := of_decide_eq_true (by first | (with_reducible assumption) | assumption)
                                    have q18 : x5_3 < (a0.size : Int) := of_decide_eq_true (by first | (with_reducible assumption) | assumption)
                                    have hx18 := bt_at a0 x5_3
                                    replace p18 := eq_true p18
                                    replace q18 := eq_true q18
                                    go_wp2
                                    repeat (go_quiet (fail); try go_wp2)
                                    go_roundg k3
                                    case measure => have := HJ2.out; have := HK2.out; have := HK3.out; omega
                                    case rel => exact ⟨(wrap64 (x5_3 + 1)), (by first | rfl | (simp; done) | (simp [*]; done)), H', ⟨by have := HJ2.out; have := HK2.out; have := HK3.out; omega⟩, ⟨by (with_reducible repeat (first | apply Kd.R_alloc | apply Kd.R_drewN | apply Kd.R_drew)); exact HO_4.out⟩, ⟨by repeat (first | (with_reducible first | exact HB.out | apply below_alloc | apply pw_below_drewN | apply below_drew1) | exact HB.out)⟩⟩
                                  · rw [if_neg c19] at H
                                    have c19b0 : ((bt a0 x5_3) == 13) = false := beq_eq_false_iff_ne.mpr c19
                                    have c19b1 : ((bt a0 x5_3) != 13) = true := bne_iff_ne.mpr c19
                                    have H' := Aside0.mk H
                                    clear H
                                    have p14 : 0 ≤ (x5_3 : Int) := of_decide_eq_true (by first | (with_reducible assumption) | assumption)
                                    have q14 : x5_3 < (a0.size : Int) := of_decide_eq_true (by first | (with_reducible assumption) | assumption)
                                    have hx14 := bt_at a0 x5_3
                                    replace p14 := eq_true p14
                                    replace q14 := eq_true q14
                                    have p16 : 0 ≤ (x5_3 : Int) := of_decide_eq_true (by first | (with_reducible assumption) | assumption)
                                    have q16 : x5_3 < (a0.size : Int) := of_decide_eq_true (by first | (with_reducible assumption) | assumption)
                                    have hx16 := bt_at a0 x5_3
                                    replace p16 := eq_true p16
                                    replace q16 := eq_true q16
                                    have p18 : 0 ≤ (x5_3 : Int) := of_decide_eq_true (by first | (with_reducible assumption) | assumption)
                                    have q18 : x5_3 < (a0.size : Int) := of_decide_eq_true (by first | (with_reducible assumption) | assumption)
                                    have hx18 := bt_at a0 x5_3
                                    replace p18 := eq_true p18
                                    replace q18 := eq_true q18
                                    go_wp2
                                    repeat (go_quiet (fail); try go_wp2)
                                    go_meet
                                    case rel => exact ⟨_, (x5_3), (by first | rfl | (simp; done) | (simp [*]; done)), H', ⟨by have := HJ2.out; have := HK2.out; have := HK3.out; first | omega | exact Nat.le_refl _⟩, ⟨by (with_reducible repeat (first | apply Kd.R_alloc | apply Kd.R_drewN | apply Kd.R_drew)); exact HO_4.out⟩, ⟨by repeat (first | (with_reducible first | exact HB.out | apply below_alloc | apply pw_below_drewN | apply below_drew1) | exact HB.out)⟩⟩
                            · rw [if_neg c13] at H
                              exact absurd H (by simp)
                          · rw [if_neg c12] at H
                            have c12b0 : decide (x5_3 < (a0.size : Int)) = false := decide_eq_false c12
                            clear c12
                            (first | rw [c12b0] | (simp only [i64_w, i32_w]; rw [c12b0]) | skip)
                            have H' := Aside0.mk H
                            clear H
                            go_wp2
                            repeat (go_quiet (fail); try go_wp2)
                            go_meet
                            case rel => exact ⟨_, (x5_3), (by first | rfl | (simp; done) | (simp [*]; done)), H', ⟨by have := HJ2.out; have := HK2.out; have := HK3.out; first | omega | exact Nat.le_refl _⟩, ⟨by (with_reducible repeat (first | apply Kd.R_alloc | apply Kd.R_drewN | apply Kd.R_drew)); exact HO_4.out⟩, ⟨by repeat (first | (with_reducible first | exact HB.out | apply below_alloc | apply pw_below_drewN | apply below_drew1) | exact HB.out)⟩⟩
                  case rest =>
                    clear HC10
                    try clear c1
                    try clear p1
                    try clear q1
                    try clear hx1
                    try clear p2
                    try clear c5
                    try clear c6
                    try clear p6
                    try clear c9
                    try clear c9b0
                    try clear c12
                    try clear c12b0
                    try clear c13
                    try clear c13b0
                    try clear p14
                    try clear q14
                    try clear hx14
                    try clear c15
                    try clear c15b0
                    try clear c15b1
                    try clear p16
                    try clear q16
                    try clear hx16
                    try clear c17
                    try clear c17b0
                    try clear c17b1
                    try clear p18
                    try clear q18
                    try clear hx18
                    try clear c19
                    try clear c19b0
                    try clear c19b1
                    try clear p14
                    try clear p16
                    try clear p18
                    try clear p2
                    try clear q14
                    try clear q16
                    try clear q18
                    obtain ⟨kq, x5_9, rfl, HA, HJ9, HO_4, HB⟩ := hcut
                    cases kq with
                    | zero => exact absurd HA.out (by simp [racewaylaw2_TextOrder.j3])
                    | succ kj9 =>
                      as_aux_lemma =>
                        have H := HA.out
                        clear HA
                        simp only [racewaylaw2_TextOrder.j3] at H
                        have HC20 := Aside0.mk H
                        clear H
                        go_upto_region 11 with (fail)
                        repeat (go_quiet (fail); go_upto_region 11 with (fail))
                        go_cut [87] (fun v87 wc => ∃ (kq : Nat) (x87_19 : Bool), v87 = .bool x87_19 ∧ Aside0 (racewaylaw2_TextOrder.j4 kq a0 t138 x5_9 x6_2 x87_19 = some r) ∧ Aside0 (kq ≤ kj9) ∧ Aside0 (Kd.R Kd.string 9 wc w.heap.size (fun _ => True) (.slice Ao11 t138.length co11) t138) ∧ Aside0 (Below w.heap.size w wc))
                        case first =>
                          have H := HC20.out
                          clear HC20
                          by_cases c21 : 0 ≤ x6_2
                          · rw [if_pos c21] at H
                            have c21b0 : decide (0 ≤ x6_2) = true := decide_eq_true c21
                            clear c21
                            (first | rw [c21b0] | (simp only [i64_w, i32_w]; rw [c21b0]) | skip)
                            by_cases c22 : x6_2 < (t138.length : Int)
                            · rw [if_pos c22] at H
                              have c22b0 : decide (x6_2 < (t138.length : Int)) = true := decide_eq_true c22
                              clear c22
                              by_cases c23 : (rdOf ByteArray.empty t138 x6_2).toList = ([] : List UInt8)
                              · rw [if_pos c23] at H
                                have c23b0 : ((rdOf ByteArray.empty t138 x6_2).toList == ([] : List UInt8)) = true := beq_iff_eq.mpr c23
                                have c23b1 : ((rdOf ByteArray.empty t138 x6_2).toList != ([] : List UInt8)) = false := bne_eq_false_iff_eq.mpr c23
                                (try (have c23b2 : (rdOf ByteArray.empty t138 x6_2).toList.isEmpty = true := by simpa using c23))
                                clear c23
                                have H' := Aside0.mk H
                                clear H
                                have p141 : 0 ≤ (x6_2 : Int) := of_decide_eq_true (by first | (with_reducible assumption) | assumption)
                                have q141 : x6_2 < (t138.length : Int) := of_decide_eq_true (by first | (with_reducible assumption) | assumption)
                                obtain ⟨ad141, e141, hx141_0⟩ := Kd.at_string (Kd.R_reads' HO_4.out).2.2 x6_2 p141 q141
                                cases e141
                                replace p141 := eq_true p141
                                replace q141 := eq_true q141
                                go_wp2
                                repeat (go_quiet (fail); try go_wp2)
                                go_meet
                                case rel => exact ⟨_, (true), (by first | rfl | (simp; done) | (simp [*]; done)), H', ⟨by have := HJ2.out; have := HK2.out; have := HJ9.out; first | omega | exact Nat.le_refl _⟩, ⟨by (with_reducible repeat (first | apply Kd.R_alloc | apply Kd.R_drewN | apply Kd.R_drew)); exact HO_4.out⟩, ⟨by repeat (first | (with_reducible first | exact HB.out | apply below_alloc | apply pw_below_drewN | apply below_drew1) | exact HB.out)⟩⟩
                              · rw [if_neg c23] at H
                                have c23b0 : ((rdOf ByteArray.empty t138 x6_2).toList == ([] : List UInt8)) = false := beq_eq_false_iff_ne.mpr c23
                                have c23b1 : ((rdOf ByteArray.empty t138 x6_2).toList != ([] : List UInt8)) = true := bne_iff_ne.mpr c23
                                (try (have c23b2 : (rdOf ByteArray.empty t138 x6_2).toList.isEmpty = false := by simpa using c23))
                                by_cases c24 : (wrap64 (x5_9 + ((rdOf ByteArray.empty t138 x6_2).size : Int))) > (a0.size : Int)
                                · rw [if_pos c24] at H
                                  have c24b0 : decide ((a0.size : Int) < (wrap64 (x5_9 + ((rdOf ByteArray.empty t138 x6_2).size : Int)))) = true := decide_eq_true c24
                                  clear c24
                                  have H' := Aside0.mk H
                                  clear H
                                  have p141 : 0 ≤ (x6_2 : Int) := of_decide_eq_true (by first | (with_reducible assumption) | assumption)
                                  have q141 : x6_2 < (t138.length : Int) := of_decide_eq_true (by first | (with_reducible assumption) | assumption)
                                  obtain ⟨ad141, e141, hx141_0⟩ := Kd.at_string (Kd.R_reads' HO_4.out).2.2 x6_2 p141 q141
                                  cases e141
                                  replace p141 := eq_true p141
                                  replace q141 := eq_true q141
                                  have p142 : 0 ≤ (x6_2 : Int) := of_decide_eq_true (by first | (with_reducible assumption) | assumption)
                                  have q142 : x6_2 < (t138.length : Int) := of_decide_eq_true (by first | (with_reducible assumption) | assumption)
                                  obtain ⟨ad142, e142, hx142_0⟩ := Kd.at_string (Kd.R_reads' HO_4.out).2.2 x6_2 p142 q142
                                  obtain rfl : ad141 = ad142 := (by injection e142)
                                  replace p142 := eq_true p142
                                  replace q142 := eq_true q142
                                  go_wp2
                                  repeat (go_quiet (fail); try go_wp2)
                                  go_meet
                                  case rel => exact ⟨_, (true), (by first | rfl | (simp; done) | (simp [*]; done)), H', ⟨by have := HJ2.out; have := HK2.out; have := HJ9.out; first | omega | exact Nat.le_refl _⟩, ⟨by (with_reducible repeat (first | apply Kd.R_alloc | apply Kd.R_drewN | apply Kd.R_drew)); exact HO_4.out⟩, ⟨by repeat (first | (with_reducible first | exact HB.out | apply below_alloc | apply pw_below_drewN | apply below_drew1) | exact HB.out)⟩⟩
                                · rw [if_neg c24] at H
                                  have c24b0 : decide ((a0.size : Int) < (wrap64 (x5_9 + ((rdOf ByteArray.empty t138 x6_2).size : Int)))) = false := decide_eq_false c24
                                  clear c24
                                  by_cases c25 : 0 ≤ x5_9
                                  · rw [if_pos c25] at H
                                    have c25b0 := eq_true c25
                                    have c25b1 : decide (0 ≤ x5_9) = true := decide_eq_true c25
                                    clear c25
                                    by_cases c26 : x5_9 ≤ (wrap64 (x5_9 + ((rdOf ByteArray.empty t138 x6_2).size : Int)))
                                    · rw [if_pos c26] at H
                                      have c26b0 := eq_true c26
                                      have c26b1 : decide (x5_9 ≤ (wrap64 (x5_9 + ((rdOf ByteArray.empty t138 x6_2).size : Int)))) = true := decide_eq_true c26
                                      by_cases c27 : (wrap64 (x5_9 + ((rdOf ByteArray.empty t138 x6_2).size : Int))) ≤ (a0.size : Int)
                                      · rw [if_pos c27] at H
                                        have c27b0 := eq_true c27
                                        have c27b1 : decide ((wrap64 (x5_9 + ((rdOf ByteArray.empty t138 x6_2).size : Int))) ≤ (a0.size : Int)) = true := decide_eq_true c27
                                        have H' := Aside0.mk H
                                        clear H
                                        have p141 : 0 ≤ (x6_2 : Int) := of_decide_eq_true (by first | (with_reducible assumption) | assumption)
                                        have q141 : x6_2 < (t138.length : Int) := of_decide_eq_true (by first | (with_reducible assumption) | assumption)
                                        obtain ⟨ad141, e141, hx141_0⟩ := Kd.at_string (Kd.R_reads' HO_4.out).2.2 x6_2 p141 q141
                                        cases e141
                                        replace p141 := eq_true p141
                                        replace q141 := eq_true q141
                                        have p142 : 0 ≤ (x6_2 : Int) := of_decide_eq_true (by first | (with_reducible assumption) | assumption)
                                        have q142 : x6_2 < (t138.length : Int) := of_decide_eq_true (by first | (with_reducible assumption) | assumption)
                                        obtain ⟨ad142, e142, hx142_0⟩ := Kd.at_string (Kd.R_reads' HO_4.out).2.2 x6_2 p142 q142
                                        obtain rfl : ad141 = ad142 := (by injection e142)
                                        replace p142 := eq_true p142
                                        replace q142 := eq_true q142
                                        have p143 : 0 ≤ (x6_2 : Int) := of_decide_eq_true (by first | (with_reducible assumption) | assumption)
                                        have q143 : x6_2 < (t138.length : Int) := of_decide_eq_true (by first | (with_reducible assumption) | assumption)
                                        obtain ⟨ad143, e143, hx143_0⟩ := Kd.at_string (Kd.R_reads' HO_4.out).2.2 x6_2 p143 q143
                                        obtain rfl : ad141 = ad143 := (by injection e143)
                                        replace p143 := eq_true p143
                                        replace q143 := eq_true q143
                                        have p144 : 0 ≤ (x6_2 : Int) := of_decide_eq_true (by first | (with_reducible assumption) | assumption)
                                        have q144 : x6_2 < (t138.length : Int) := of_decide_eq_true (by first | (with_reducible assumption) | assumption)
                                        obtain ⟨ad144, e144, hx144_0⟩ := Kd.at_string (Kd.R_reads' HO_4.out).2.2 x6_2 p144 q144
                                        obtain rfl : ad141 = ad144 := (by injection e144)
                                        replace p144 := eq_true p144
                                        replace q144 := eq_true q144
                                        go_wp2
                                        repeat (go_quiet (fail); try go_wp2)
                                        go_meet
                                        case rel => exact ⟨_, (((a0.extract (x5_9 : Int).toNat ((wrap64 (x5_9 + ((rdOf ByteArray.empty t138 x6_2).size : Int))) : Int).toNat).toList != (rdOf ByteArray.empty t138 x6_2).toList)), (by first | rfl | (simp; done) | (simp [*]; done)), H', ⟨by have := HJ2.out; have := HK2.out; have := HJ9.out; first | omega | exact Nat.le_refl _⟩, ⟨by (with_reducible repeat (first | apply Kd.R_alloc | apply Kd.R_drewN | apply Kd.R_drew)); exact HO_4.out⟩, ⟨by repeat (first | (with_reducible first | exact HB.out | apply below_alloc | apply pw_below_drewN | apply below_drew1) | exact HB.out)⟩⟩
                                      · rw [if_neg c27] at H
                                        exact absurd H (by simp)
                                    · rw [if_neg c26] at H
                                      exact absurd H (by simp)
                                  · rw [if_neg c25] at H
                                    exact absurd H (by simp)
                            · rw [if_neg c22] at H
                              exact absurd H (by simp)
                          · rw [if_neg c21] at H
                            exact absurd H (by simp)
                        case rest =>
                          clear HC20
                          try clear c1
                          try clear p1
                          try clear q1
                          try clear hx1
                          try clear c2
                          try clear p2
                          try clear c5
                          try clear c6
                          try clear p6
                          try clear c9
                          try clear c9b0
                          try clear c12
                          try clear c12b0
                          try clear c13
                          try clear c13b0
                          try clear p14
                          try clear q14
                          try clear hx14
                          try clear c15
                          try clear c15b0
                          try clear c15b1
                          try clear p16
                          try clear q16
                          try clear hx16
                          try clear c17
                          try clear c17b0
                          try clear c17b1
                          try clear p18
                          try clear q18
                          try clear hx18
                          try clear c19
                          try clear c19b0
                          try clear c19b1
                          try clear c21
                          try clear c21b0
                          try clear c22
                          try clear c22b0
                          try clear c23
                          try clear c23b0
                          try clear c23b1
                          try clear c23b2
                          try clear c24
                          try clear c24b0
                          try clear c25
                          try clear c25b0
                          try clear c25b1
                          try clear c26
                          try clear c26b0
                          try clear c26b1
                          try clear c27
                          try clear c27b0
                          try clear c27b1
                          try clear hx141_0
                          try clear hx142_0
                          try clear hx143_0
                          try clear hx144_0
                          try clear p1
                          try clear p14
                          try clear p141
                          try clear p142
                          try clear p143
                          try clear p144
                          try clear p16
                          try clear p18
                          try clear p2
                          try clear p6
                          try clear q1
                          try clear q14
                          try clear q141
                          try clear q142
                          try clear q143
                          try clear q144
                          try clear q16
                          try clear q18
                          obtain ⟨kq, x87_19, rfl, HA, HJ19, HO_4, HB⟩ := hcut
                          cases kq with
                          | zero => exact absurd HA.out (by simp [racewaylaw2_TextOrder.j4])
                          | succ kj19 =>
                            as_aux_lemma =>
                              have H := HA.out
                              clear HA
                              simp only [racewaylaw2_TextOrder.j4] at H
                              by_cases c28 : x87_19 = true
                              · subst c28
                                have H1 : (some false) = some r := by rw [if_pos rfl] at H; exact H
                                clear H
                                have H := H1
                                clear H1
                                obtain rfl := Option.some.inj H
                                go_wp2
                                repeat (go_quiet (fail); try go_wp2)
                                go_ret
                                exact ⟨by first | rfl | (simp [errW_none, errW_some] <;> rfl) | (simp [*, errW_none, errW_some] <;> rfl), by repeat (first | (with_reducible first | exact HB.out | apply below_alloc | apply pw_below_drewN | apply below_drew1) | exact HB.out)⟩
                              · replace c28 := Bool.eq_false_iff.mpr c28
                                subst c28
                                have H1 : (if 0 ≤ x6_2 then (if x6_2 < (t138.length : Int) then (if (wrap64 (x5_9 + ((rdOf ByteArray.empty t138 x6_2).size : Int))) < (a0.size : Int) then (if 0 ≤ (wrap64 (x5_9 + ((rdOf ByteArray.empty t138 x6_2).size : Int))) then (if (bt a0 (wrap64 (x5_9 + ((rdOf ByteArray.empty t138 x6_2).size : Int)))) = 32 then (racewaylaw2_TextOrder.l0 kj19 a0 t138 (wrap64 (x5_9 + ((rdOf ByteArray.empty t138 x6_2).size : Int))) (wrap64 (x6_2 + 1))) else (if (bt a0 (wrap64 (x5_9 + ((rdOf ByteArray.empty t138 x6_2).size : Int)))) = 9 then (racewaylaw2_TextOrder.l0 kj19 a0 t138 (wrap64 (x5_9 + ((rdOf ByteArray.empty t138 x6_2).size : Int))) (wrap64 (x6_2 + 1))) else (if (bt a0 (wrap64 (x5_9 + ((rdOf ByteArray.empty t138 x6_2).size : Int)))) = 13 then (racewaylaw2_TextOrder.l0 kj19 a0 t138 (wrap64 (x5_9 + ((rdOf ByteArray.empty t138 x6_2).size : Int))) (wrap64 (x6_2 + 1))) else (some false)))) else (none)) else (racewaylaw2_TextOrder.l0 kj19 a0 t138 (wrap64 (x5_9 + ((rdOf ByteArray.empty t138 x6_2).size : Int))) (wrap64 (x6_2 + 1)))) else (none)) else (none)) = some r := by rw [if_neg (show ¬ (false = true) by decide)] at H; exact H
                                clear H
                                have H := H1
                                clear H1
                                by_cases c29 : 0 ≤ x6_2
                                · rw [if_pos c29] at H
                                  have c29b0 : decide (0 ≤ x6_2) = true := decide_eq_true c29
                                  clear c29
                                  by_cases c30 : x6_2 < (t138.length : Int)
                                  · rw [if_pos c30] at H
                                    have c30b0 : decide (x6_2 < (t138.length : Int)) = true := decide_eq_true c30
                                    clear c30
                                    by_cases c31 : (wrap64 (x5_9 + ((rdOf ByteArray.empty t138 x6_2).size : Int))) < (a0.size : Int)
                                    · rw [if_pos c31] at H
                                      have c31b0 : decide ((wrap64 (x5_9 + ((rdOf ByteArray.empty t138 x6_2).size : Int))) < (a0.size : Int)) = true := decide_eq_true c31
                                      clear c31
                                      obtain ⟨ji32, hji32⟩ : ∃ j_ : Int, (wrap64 (x5_9 + ((rdOf ByteArray.empty t138 x6_2).size : Int))) = j_ := ⟨_, rfl⟩
                                      replace H : (if 0 ≤ (ji32) then (if (bt a0 (ji32)) = 32 then (racewaylaw2_TextOrder.l0 kj19 a0 t138 ji32 (wrap64 (x6_2 + 1))) else (if (bt a0 (ji32)) = 9 then (racewaylaw2_TextOrder.l0 kj19 a0 t138 ji32 (wrap64 (x6_2 + 1))) else (if (bt a0 (ji32)) = 13 then (racewaylaw2_TextOrder.l0 kj19 a0 t138 ji32 (wrap64 (x6_2 + 1))) else (some false)))) else (none)) = some r := by first | (rw [hji32] at H; exact H) | (simp only [hji32] at H ⊢; exact H)
                                      (try rw [hji32] at c31b0)
                                      have hji32w : (IntKind.i64.wrap (x5_9 + ((rdOf ByteArray.empty t138 x6_2).size : Int))) = ji32 := (i64_w _).trans hji32
                                      by_cases c33 : 0 ≤ (ji32)
                                      · rw [if_pos c33] at H
                                        have c33b0 : decide (0 ≤ (ji32)) = true := decide_eq_true c33
                                        clear c33
                                        by_cases c35 : (bt a0 (ji32)) = 32
                                        · rw [if_pos c35] at H
                                          have c35b0 : ((bt a0 (ji32)) == 32) = true := beq_iff_eq.mpr c35
                                          have c35b1 : ((bt a0 (ji32)) != 32) = false := bne_eq_false_iff_eq.mpr c35
                                          clear c35
                                          have H' := Aside0.mk H
                                          clear H
                                          have p145 : 0 ≤ (x6_2 : Int) := of_decide_eq_true (by first | (with_reducible assumption) | assumption)
                                          have q145 : x6_2 < (t138.length : Int) := of_decide_eq_true (by first | (with_reducible assumption) | assumption)
                                          obtain ⟨ad145, e145, hx145_0⟩ := Kd.at_string (Kd.R_reads' HO_4.out).2.2 x6_2 p145 q145
                                          cases e145
                                          replace p145 := eq_true p145
                                          replace q145 := eq_true q145
                                          have p34 : 0 ≤ ((ji32) : Int) := of_decide_eq_true (by first | (with_reducible assumption) | assumption)
                                          have q34 : (ji32) < (a0.size : Int) := of_decide_eq_true (by first | (with_reducible assumption) | assumption)
                                          have hx34 := bt_at a0 (ji32)
                                          replace p34 := eq_true p34
                                          replace q34 := eq_true q34
                                          go_wp2
                                          repeat (go_quiet (fail); try go_wp2)
                                          go_roundg kj19
                                          case measure => have := HJ2.out; have := HK2.out; have := HJ9.out; have := HJ19.out; omega
                                          case rel => exact ⟨(ji32), (wrap64 (x6_2 + 1)), (by first | rfl | (simp; done) | (simp only [← hji32] <;> (first | rfl | simp)) | (simp [*]; done)), (by first | rfl | (simp; done) | (simp [*]; done)), H', ⟨by have := HJ2.out; have := HK2.out; have := HJ9.out; have := HJ19.out; omega⟩, ⟨by (with_reducible repeat (first | apply Kd.R_alloc | apply Kd.R_drewN | apply Kd.R_drew)); exact HO_4.out⟩, ⟨by repeat (first | (with_reducible first | exact HB.out | apply below_alloc | apply pw_below_drewN | apply below_drew1) | exact HB.out)⟩⟩
                                        · rw [if_neg c35] at H
                                          have c35b0 : ((bt a0 (ji32)) == 32) = false := beq_eq_false_iff_ne.mpr c35
                                          have c35b1 : ((bt a0 (ji32)) != 32) = true := bne_iff_ne.mpr c35
                                          by_cases c37 : (bt a0 (ji32)) = 9
                                          · rw [if_pos c37] at H
                                            have c37b0 : ((bt a0 (ji32)) == 9) = true := beq_iff_eq.mpr c37
                                            have c37b1 : ((bt a0 (ji32)) != 9) = false := bne_eq_false_iff_eq.mpr c37
                                            clear c37
                                            have H' := Aside0.mk H
                                            clear H
                                            have p145 : 0 ≤ (x6_2 : Int) := of_decide_eq_true (by first | (with_reducible assumption) | assumption)
                                            have q145 : x6_2 < (t138.length : Int) := of_decide_eq_true (by first | (with_reducible assumption) | assumption)
                                            obtain ⟨ad145, e145, hx145_0⟩ := Kd.at_string (Kd.R_reads' HO_4.out).2.2 x6_2 p145 q145
                                            cases e145
                                            replace p145 := eq_true p145
                                            replace q145 := eq_true q145
                                            have p34 : 0 ≤ ((ji32) : Int) := of_decide_eq_true (by first | (with_reducible assumption) | assumption)
                                            have q34 : (ji32) < (a0.size : Int) := of_decide_eq_true (by first | (with_reducible assumption) | assumption)
                                            have hx34 := bt_at a0 (ji32)
                                            replace p34 := eq_true p34
                                            replace q34 := eq_true q34
                                            have p36 : 0 ≤ ((ji32) : Int) := of_decide_eq_true (by first | (with_reducible assumption) | assumption)
                                            have q36 : (ji32) < (a0.size : Int) := of_decide_eq_true (by first | (with_reducible assumption) | assumption)
                                            have hx36 := bt_at a0 (ji32)
                                            replace p36 := eq_true p36
                                            replace q36 := eq_true q36
                                            go_wp2
                                            repeat (go_quiet (fail); try go_wp2)
                                            go_roundg kj19
                                            case measure => have := HJ2.out; have := HK2.out; have := HJ9.out; have := HJ19.out; omega
                                            case rel => exact ⟨(ji32), (wrap64 (x6_2 + 1)), (by first | rfl | (simp; done) | (simp only [← hji32] <;> (first | rfl | simp)) | (simp [*]; done)), (by first | rfl | (simp; done) | (simp [*]; done)), H', ⟨by have := HJ2.out; have := HK2.out; have := HJ9.out; have := HJ19.out; omega⟩, ⟨by (with_reducible repeat (first | apply Kd.R_alloc | apply Kd.R_drewN | apply Kd.R_drew)); exact HO_4.out⟩, ⟨by repeat (first | (with_reducible first | exact HB.out | apply below_alloc | apply pw_below_drewN | apply below_drew1) | exact HB.out)⟩⟩
                                          · rw [if_neg c37] at H
                                            have c37b0 : ((bt a0 (ji32)) == 9) = false := beq_eq_false_iff_ne.mpr c37
                                            have c37b1 : ((bt a0 (ji32)) != 9) = true := bne_iff_ne.mpr c37
                                            by_cases c39 : (bt a0 (ji32)) = 13
                                            · rw [if_pos c39] at H
                                              have c39b0 : ((bt a0 (ji32)) == 13) = true := beq_iff_eq.mpr c39
                                              have c39b1 : ((bt a0 (ji32)) != 13) = false := bne_eq_false_iff_eq.mpr c39
                                              clear c39
                                              have H' := Aside0.mk H
                                              clear H
                                              have p145 : 0 ≤ (x6_2 : Int) := of_decide_eq_true (by first | (with_reducible assumption) | assumption)
                                              have q145 : x6_2 < (t138.length : Int) := of_decide_eq_true (by first | (with_reducible assumption) | assumption)
                                              obtain ⟨ad145, e145, hx145_0⟩ := Kd.at_string (Kd.R_reads' HO_4.out).2.2 x6_2 p145 q145
                                              cases e145
                                              replace p145 := eq_true p145
                                              replace q145 := eq_true q145
                                              have p34 : 0 ≤ ((ji32) : Int) := of_decide_eq_true (by first | (with_reducible assumption) | assumption)
                                              have q34 : (ji32) < (a0.size : Int) := of_decide_eq_true (by first | (with_reducible assumption) | assumption)
                                              have hx34 := bt_at a0 (ji32)
                                              replace p34 := eq_true p34
                                              replace q34 := eq_true q34
                                              have p36 : 0 ≤ ((ji32) : Int) := of_decide_eq_true (by first | (with_reducible assumption) | assumption)
                                              have q36 : (ji32) < (a0.size : Int) := of_decide_eq_true (by first | (with_reducible assumption) | assumption)
                                              have hx36 := bt_at a0 (ji32)
                                              replace p36 := eq_true p36
                                              replace q36 := eq_true q36
                                              have p38 : 0 ≤ ((ji32) : Int) := of_decide_eq_true (by first | (with_reducible assumption) | assumption)
                                              have q38 : (ji32) < (a0.size : Int) := of_decide_eq_true (by first | (with_reducible assumption) | assumption)
                                              have hx38 := bt_at a0 (ji32)
                                              replace p38 := eq_true p38
                                              replace q38 := eq_true q38
                                              go_wp2
                                              repeat (go_quiet (fail); try go_wp2)
                                              go_roundg kj19
                                              case measure => have := HJ2.out; have := HK2.out; have := HJ9.out; have := HJ19.out; omega
                                              case rel => exact ⟨(ji32), (wrap64 (x6_2 + 1)), (by first | rfl | (simp; done) | (simp only [← hji32] <;> (first | rfl | simp)) | (simp [*]; done)), (by first | rfl | (simp; done) | (simp [*]; done)), H', ⟨by have := HJ2.out; have := HK2.out; have := HJ9.out; have := HJ19.out; omega⟩, ⟨by (with_reducible repeat (first | apply Kd.R_alloc | apply Kd.R_drewN | apply Kd.R_drew)); exact HO_4.out⟩, ⟨by repeat (first | (with_reducible first | exact HB.out | apply below_alloc | apply pw_below_drewN | apply below_drew1) | exact HB.out)⟩⟩
                                            · rw [if_neg c39] at H
                                              have c39b0 : ((bt a0 (ji32)) == 13) = false := beq_eq_false_iff_ne.mpr c39
                                              have c39b1 : ((bt a0 (ji32)) != 13) = true := bne_iff_ne.mpr c39
                                              obtain rfl := Option.some.inj H
                                              have p145 : 0 ≤ (x6_2 : Int) := of_decide_eq_true (by first | (with_reducible assumption) | assumption)
                                              have q145 : x6_2 < (t138.length : Int) := of_decide_eq_true (by first | (with_reducible assumption) | assumption)
                                              obtain ⟨ad145, e145, hx145_0⟩ := Kd.at_string (Kd.R_reads' HO_4.out).2.2 x6_2 p145 q145
                                              cases e145
                                              replace p145 := eq_true p145
                                              replace q145 := eq_true q145
                                              have p34 : 0 ≤ ((ji32) : Int) := of_decide_eq_true (by first | (with_reducible assumption) | assumption)
                                              have q34 : (ji32) < (a0.size : Int) := of_decide_eq_true (by first | (with_reducible assumption) | assumption)
                                              have hx34 := bt_at a0 (ji32)
                                              replace p34 := eq_true p34
                                              replace q34 := eq_true q34
                                              have p36 : 0 ≤ ((ji32) : Int) := of_decide_eq_true (by first | (with_reducible assumption) | assumption)
                                              have q36 : (ji32) < (a0.size : Int) := of_decide_eq_true (by first | (with_reducible assumption) | assumption)
                                              have hx36 := bt_at a0 (ji32)
                                              replace p36 := eq_true p36
                                              replace q36 := eq_true q36
                                              have p38 : 0 ≤ ((ji32) : Int) := of_decide_eq_true (by first | (with_reducible assumption) | assumption)
                                              have q38 : (ji32) < (a0.size : Int) := of_decide_eq_true (by first | (with_reducible assumption) | assumption)
                                              have hx38 := bt_at a0 (ji32)
                                              replace p38 := eq_true p38
                                              replace q38 := eq_true q38
                                              go_wp2
                                              repeat (go_quiet (fail); try go_wp2)
                                              go_ret
                                              exact ⟨by first | rfl | (simp [errW_none, errW_some] <;> rfl) | (simp only [← hji32]; first | rfl | (simp [errW_none, errW_some] <;> rfl)) | (simp [*, errW_none, errW_some] <;> rfl), by repeat (first | (with_reducible first | exact HB.out | apply below_alloc | apply pw_below_drewN | apply below_drew1) | exact HB.out)⟩
                                      · rw [if_neg c33] at H
                                        exact absurd H (by simp)
                                    · rw [if_neg c31] at H
                                      have c31b0 : decide ((wrap64 (x5_9 + ((rdOf ByteArray.empty t138 x6_2).size : Int))) < (a0.size : Int)) = false := decide_eq_false c31
                                      clear c31
                                      have H' := Aside0.mk H
                                      clear H
                                      have p145 : 0 ≤ (x6_2 : Int) := of_decide_eq_true (by first | (with_reducible assumption) | assumption)
                                      have q145 : x6_2 < (t138.length : Int) := of_decide_eq_true (by first | (with_reducible assumption) | assumption)
                                      obtain ⟨ad145, e145, hx145_0⟩ := Kd.at_string (Kd.R_reads' HO_4.out).2.2 x6_2 p145 q145
                                      cases e145
                                      replace p145 := eq_true p145
                                      replace q145 := eq_true q145
                                      go_wp2
                                      repeat (go_quiet (fail); try go_wp2)
                                      go_roundg kj19
                                      case measure => have := HJ2.out; have := HK2.out; have := HJ9.out; have := HJ19.out; omega
                                      case rel => exact ⟨(wrap64 (x5_9 + ((rdOf ByteArray.empty t138 x6_2).size : Int))), (wrap64 (x6_2 + 1)), (by first | rfl | (simp; done) | (simp [*]; done)), (by first | rfl | (simp; done) | (simp [*]; done)), H', ⟨by have := HJ2.out; have := HK2.out; have := HJ9.out; have := HJ19.out; omega⟩, ⟨by (with_reducible repeat (first | apply Kd.R_alloc | apply Kd.R_drewN | apply Kd.R_drew)); exact HO_4.out⟩, ⟨by repeat (first | (with_reducible first | exact HB.out | apply below_alloc | apply pw_below_drewN | apply below_drew1) | exact HB.out)⟩⟩
                                  · rw [if_neg c30] at H
                                    exact absurd H (by simp)
                                · rw [if_neg c29] at H
                                  exact absurd H (by simp)
                · rw [if_neg c9] at H
                  have c9b0 : decide (x6_2 < (t138.length : Int)) = false := decide_eq_false c9
                  clear c9
                  have H' := Aside0.mk H
                  clear H
                  obtain ⟨Ao40, co40, eo40⟩ := Kd.R_slice HO_4.out
                  subst eo40
                  go_wp2
                  repeat (go_quiet (fail); try go_wp2)
                  go_loopg [5] k2 (fun kq v5 w' => ∃ (x5_3 : Int), v5 = .int .i64 x5_3 ∧ Aside0 (racewaylaw2_TextOrder.l2 kq a0 x5_3 = some r) ∧ Aside0 (kq ≤ k2) ∧ Aside0 (Below w.heap.size w w'))
                  case atStart => exact ⟨(x5_2), (by first | rfl | (simp; done) | (simp [*]; done)), H', ⟨Nat.le_refl _⟩, ⟨by repeat (first | (with_reducible first | exact HB.out | apply below_alloc | apply pw_below_drewN | apply below_drew1) | exact HB.out)⟩⟩
                  case round =>
                    clear H'
                    try clear c1
                    try clear p1
                    try clear q1
                    try clear hx1
                    try clear c2
                    try clear p2
                    try clear c3
                    try clear p3
                    try clear q3
                    try clear hx3
                    try clear c5
                    try clear c6
                    try clear p6
                    try clear c9
                    try clear c9b0
                    try clear c12
                    try clear c12b0
                    try clear c13
                    try clear c13b0
                    try clear p14
                    try clear q14
                    try clear hx14
                    try clear c15
                    try clear c15b0
                    try clear c15b1
                    try clear p16
                    try clear q16
                    try clear hx16
                    try clear c17
                    try clear c17b0
                    try clear c17b1
                    try clear p18
                    try clear q18
                    try clear hx18
                    try clear c19
                    try clear c19b0
                    try clear c19b1
                    try clear c21
                    try clear c21b0
                    try clear c22
                    try clear c22b0
                    try clear c23
                    try clear c23b0
                    try clear c23b1
                    try clear c23b2
                    try clear c24
                    try clear c24b0
                    try clear c25
                    try clear c25b0
                    try clear c25b1
                    try clear c26
                    try clear c26b0
                    try clear c26b1
                    try clear c27
                    try clear c27b0
                    try clear c27b1
                    try clear c28
                    try clear c29
                    try clear c29b0
                    try clear c30
                    try clear c30b0
                    try clear c31
                    try clear c31b0
                    try clear c33
                    try clear c33b0
                    try clear p34
                    try clear q34
                    try clear hx34
                    try clear c35
                    try clear c35b0
                    try clear c35b1
                    try clear p36
                    try clear q36
                    try clear hx36
                    try clear c37
                    try clear c37b0
                    try clear c37b1
                    try clear p38
                    try clear q38
                    try clear hx38
                    try clear c39
                    try clear c39b0
                    try clear c39b1
                    try clear hx141_0
                    try clear hx142_0
                    try clear hx143_0
                    try clear hx144_0
                    try clear hx145_0
                    try clear p1
                    try clear p14
                    try clear p141
                    try clear p142
                    try clear p143
                    try clear p144
                    try clear p145
                    try clear p16
                    try clear p18
                    try clear p2
                    try clear p34
                    try clear p36
                    try clear p38
                    try clear p6
                    try clear q1
                    try clear q14
                    try clear q141
                    try clear q142
                    try clear q143
                    try clear q144
                    try clear q145
                    try clear q16
                    try clear q18
                    try clear q34
                    try clear q36
                    try clear q38
                    obtain ⟨x5_3, rfl, HA, HK3, HB⟩ := hrel
                    cases gk with
                    | zero => exact absurd HA.out (by simp [racewaylaw2_TextOrder.l2])
                    | succ k3 =>
                      as_aux_lemma =>
                        have H := HA.out
                        clear HA
                        simp only [racewaylaw2_TextOrder.l2] at H
                        by_cases c41 : x5_3 < (a0.size : Int)
                        · rw [if_pos c41] at H
                          have c41b0 : decide (x5_3 < (a0.size : Int)) = true := decide_eq_true c41
                          clear c41
                          by_cases c42 : 0 ≤ x5_3
                          · rw [if_pos c42] at H
                            have c42b0 : decide (0 ≤ x5_3) = true := decide_eq_true c42
                            clear c42
                            by_cases c44 : (bt a0 x5_3) = 32
                            · rw [if_pos c44] at H
                              have c44b0 : ((bt a0 x5_3) == 32) = true := beq_iff_eq.mpr c44
                              have c44b1 : ((bt a0 x5_3) != 32) = false := bne_eq_false_iff_eq.mpr c44
                              clear c44
                              have H' := Aside0.mk H
                              clear H
                              have p43 : 0 ≤ (x5_3 : Int) := of_decide_eq_true (by first | (with_reducible assumption) | assumption)
                              have q43 : x5_3 < (a0.size : Int) := of_decide_eq_true (by first | (with_reducible assumption) | assumption)
                              have hx43 := bt_at a0 x5_3
                              replace p43 := eq_true p43
                              replace q43 := eq_true q43
                              go_wp2
                              repeat (go_quiet (fail); try go_wp2)
                              go_roundg k3
                              case measure => have := HJ2.out; have := HK2.out; have := HK3.out; omega
                              case rel => exact ⟨(wrap64 (x5_3 + 1)), (by first | rfl | (simp; done) | (simp [*]; done)), H', ⟨by have := HJ2.out; have := HK2.out; have := HK3.out; omega⟩, ⟨by repeat (first | (with_reducible first | exact HB.out | apply below_alloc | apply pw_below_drewN | apply below_drew1) | exact HB.out)⟩⟩
                            · rw [if_neg c44] at H
                              have c44b0 : ((bt a0 x5_3) == 32) = false := beq_eq_false_iff_ne.mpr c44
                              have c44b1 : ((bt a0 x5_3) != 32) = true := bne_iff_ne.mpr c44
                              by_cases c46 : (bt a0 x5_3) = 9
                              · rw [if_pos c46] at H
                                have c46b0 : ((bt a0 x5_3) == 9) = true := beq_iff_eq.mpr c46
                                have c46b1 : ((bt a0 x5_3) != 9) = false := bne_eq_false_iff_eq.mpr c46
                                clear c46
                                have H' := Aside0.mk H
                                clear H
                                have p43 : 0 ≤ (x5_3 : Int) := of_decide_eq_true (by first | (with_reducible assumption) | assumption)
                                have q43 : x5_3 < (a0.size : Int) := of_decide_eq_true (by first | (with_reducible assumption) | assumption)
                                have hx43 := bt_at a0 x5_3
                                replace p43 := eq_true p43
                                replace q43 := eq_true q43
                                have p45 : 0 ≤ (x5_3 : Int) := of_decide_eq_true (by first | (with_reducible assumption) | assumption)
                                have q45 : x5_3 < (a0.size : Int) := of_decide_eq_true (by first | (with_reducible assumption) | assumption)
                                have hx45 := bt_at a0 x5_3
                                replace p45 := eq_true p45
                                replace q45 := eq_true q45
                                go_wp2
                                repeat (go_quiet (fail); try go_wp2)
                                go_roundg k3
                                case measure => have := HJ2.out; have := HK2.out; have := HK3.out; omega
                                case rel => exact ⟨(wrap64 (x5_3 + 1)), (by first | rfl | (simp; done) | (simp [*]; done)), H', ⟨by have := HJ2.out; have := HK2.out; have := HK3.out; omega⟩, ⟨by repeat (first | (with_reducible first | exact HB.out | apply below_alloc | apply pw_below_drewN | apply below_drew1) | exact HB.out)⟩⟩
                              · rw [if_neg c46] at H
                                have c46b0 : ((bt a0 x5_3) == 9) = false := beq_eq_false_iff_ne.mpr c46
                                have c46b1 : ((bt a0 x5_3) != 9) = true := bne_iff_ne.mpr c46
                                by_cases c48 : (bt a0 x5_3) = 13
                                · rw [if_pos c48] at H
                                  have c48b0 : ((bt a0 x5_3) == 13) = true := beq_iff_eq.mpr c48
                                  have c48b1 : ((bt a0 x5_3) != 13) = false := bne_eq_false_iff_eq.mpr c48
                                  clear c48
                                  have H' := Aside0.mk H
                                  clear H
                                  have p43 : 0 ≤ (x5_3 : Int) := of_decide_eq_true (by first | (with_reducible assumption) | assumption)
                                  have q43 : x5_3 < (a0.size : Int) := of_decide_eq_true (by first | (with_reducible assumption) | assumption)
                                  have hx43 := bt_at a0 x5_3
                                  replace p43 := eq_true p43
                                  replace q43 := eq_true q43
                                  have p45 : 0 ≤ (x5_3 : Int) := of_decide_eq_true (by first | (with_reducible assumption) | assumption)
                                  have q45 : x5_3 < (a0.size : Int) := of_decide_eq_true (by first | (with_reducible assumption) | assumption)
                                  have hx45 := bt_at a0 x5_3
                                  replace p45 := eq_true p45
                                  replace q45 := eq_true q45
                                  have p47 : 0 ≤ (x5_3 : Int) := of_decide_eq_true (by first | (with_reducible assumption) | assumption)
                                  have q47 : x5_3 < (a0.size : Int) := of_decide_eq_true (by first | (with_reducible assumption) | assumption)
                                  have hx47 := bt_at a0 x5_3
                                  replace p47 := eq_true p47
                                  replace q47 := eq_true q47
                                  go_wp2
                                  repeat (go_quiet (fail); try go_wp2)
                                  go_roundg k3
                                  case measure => have := HJ2.out; have := HK2.out; have := HK3.out; omega
                                  case rel => exact ⟨(wrap64 (x5_3 + 1)), (by first | rfl | (simp; done) | (simp [*]; done)), H', ⟨by have := HJ2.out; have := HK2.out; have := HK3.out; omega⟩, ⟨by repeat (first | (with_reducible first | exact HB.out | apply below_alloc | apply pw_below_drewN | apply below_drew1) | exact HB.out)⟩⟩
                                · rw [if_neg c48] at H
                                  have c48b0 : ((bt a0 x5_3) == 13) = false := beq_eq_false_iff_ne.mpr c48
                                  have c48b1 : ((bt a0 x5_3) != 13) = true := bne_iff_ne.mpr c48
                                  obtain rfl := Option.some.inj H
                                  have p43 : 0 ≤ (x5_3 : Int) := of_decide_eq_true (by first | (with_reducible assumption) | assumption)
                                  have q43 : x5_3 < (a0.size : Int) := of_decide_eq_true (by first | (with_reducible assumption) | assumption)
                                  have hx43 := bt_at a0 x5_3
                                  replace p43 := eq_true p43
                                  replace q43 := eq_true q43
                                  have p45 : 0 ≤ (x5_3 : Int) := of_decide_eq_true (by first | (with_reducible assumption) | assumption)
                                  have q45 : x5_3 < (a0.size : Int) := of_decide_eq_true (by first | (with_reducible assumption) | assumption)
                                  have hx45 := bt_at a0 x5_3
                                  replace p45 := eq_true p45
                                  replace q45 := eq_true q45
                                  have p47 : 0 ≤ (x5_3 : Int) := of_decide_eq_true (by first | (with_reducible assumption) | assumption)
                                  have q47 : x5_3 < (a0.size : Int) := of_decide_eq_true (by first | (with_reducible assumption) | assumption)
                                  have hx47 := bt_at a0 x5_3
                                  replace p47 := eq_true p47
                                  replace q47 := eq_true q47
                                  go_wp2
                                  repeat (go_quiet (fail); try go_wp2)
                                  go_ret
                                  exact ⟨by first | rfl | (simp [errW_none, errW_some] <;> rfl) | (simp [*, errW_none, errW_some] <;> rfl), by repeat (first | (with_reducible first | exact HB.out | apply below_alloc | apply pw_below_drewN | apply below_drew1) | exact HB.out)⟩
                          · rw [if_neg c42] at H
                            exact absurd H (by simp)
                        · rw [if_neg c41] at H
                          have c41b0 : decide (x5_3 < (a0.size : Int)) = false := decide_eq_false c41
                          clear c41
                          have H' := Aside0.mk H
                          clear H
                          go_wp2
                          repeat (go_quiet (fail); try go_wp2)
                          go_loopg [7, 8] k3 (fun kq v7 v8 w' => ∃ (x7_4 : Int) (x8_4 : Int), v7 = .int .i64 x7_4 ∧ v8 = .int .i64 x8_4 ∧ Aside0 (racewaylaw2_TextOrder.l3 kq a0 x7_4 x8_4 = some r) ∧ Aside0 (kq ≤ k3) ∧ Aside0 (Below w.heap.size w w'))
                          case atStart => exact ⟨(0), (0), (by first | rfl | (simp; done) | (simp [*]; done)), (by first | rfl | (simp; done) | (simp [*]; done)), H', ⟨Nat.le_refl _⟩, ⟨by repeat (first | (with_reducible first | exact HB.out | apply below_alloc | apply pw_below_drewN | apply below_drew1) | exact HB.out)⟩⟩
                          case round =>
                            clear H'
                            try clear c1
                            try clear p1
                            try clear q1
                            try clear hx1
                            try clear c2
                            try clear p2
                            try clear c3
                            try clear p3
                            try clear q3
                            try clear hx3
                            try clear c4
                            try clear p4
                            try clear q4
                            try clear hx4
                            try clear c5
                            try clear c6
                            try clear p6
                            try clear c9
                            try clear c9b0
                            try clear c12
                            try clear c12b0
                            try clear c13
                            try clear c13b0
                            try clear p14
                            try clear q14
                            try clear hx14
                            try clear c15
                            try clear c15b0
                            try clear c15b1
                            try clear p16
                            try clear q16
                            try clear hx16
                            try clear c17
                            try clear c17b0
                            try clear c17b1
                            try clear p18
                            try clear q18
                            try clear hx18
                            try clear c19
                            try clear c19b0
                            try clear c19b1
                            try clear c21
                            try clear c21b0
                            try clear c22
                            try clear c22b0
                            try clear c23
                            try clear c23b0
                            try clear c23b1
                            try clear c23b2
                            try clear c24
                            try clear c24b0
                            try clear c25
                            try clear c25b0
                            try clear c25b1
                            try clear c26
                            try clear c26b0
                            try clear c26b1
                            try clear c27
                            try clear c27b0
                            try clear c27b1
                            try clear c28
                            try clear c29
                            try clear c29b0
                            try clear c30
                            try clear c30b0
                            try clear c31
                            try clear c31b0
                            try clear c33
                            try clear c33b0
                            try clear p34
                            try clear q34
                            try clear hx34
                            try clear c35
                            try clear c35b0
                            try clear c35b1
                            try clear p36
                            try clear q36
                            try clear hx36
                            try clear c37
                            try clear c37b0
                            try clear c37b1
                            try clear p38
                            try clear q38
                            try clear hx38
                            try clear c39
                            try clear c39b0
                            try clear c39b1
                            try clear c41
                            try clear c41b0
                            try clear c42
                            try clear c42b0
                            try clear p43
                            try clear q43
                            try clear hx43
                            try clear c44
                            try clear c44b0
                            try clear c44b1
                            try clear p45
                            try clear q45
                            try clear hx45
                            try clear c46
                            try clear c46b0
                            try clear c46b1
                            try clear p47
                            try clear q47
                            try clear hx47
                            try clear c48
                            try clear c48b0
                            try clear c48b1
                            try clear hx141_0
                            try clear hx142_0
                            try clear hx143_0
                            try clear hx144_0
                            try clear hx145_0
                            try clear p1
                            try clear p14
                            try clear p141
                            try clear p142
                            try clear p143
                            try clear p144
                            try clear p145
                            try clear p16
                            try clear p18
                            try clear p2
                            try clear p3
                            try clear p34
                            try clear p36
                            try clear p38
                            try clear p43
                            try clear p45
                            try clear p47
                            try clear p6
                            try clear q1
                            try clear q14
                            try clear q141
                            try clear q142
                            try clear q143
                            try clear q144
                            try clear q145
                            try clear q16
                            try clear q18
                            try clear q3
                            try clear q34
                            try clear q36
                            try clear q38
                            try clear q43
                            try clear q45
                            try clear q47
                            obtain ⟨x7_4, x8_4, rfl, rfl, HA, HK4, HB⟩ := hrel
                            cases gk with
                            | zero => exact absurd HA.out (by simp [racewaylaw2_TextOrder.l3])
                            | succ k4 =>
                              as_aux_lemma =>
                                have H := HA.out
                                clear HA
                                simp only [racewaylaw2_TextOrder.l3] at H
                                by_cases c49 : x8_4 < (a0.size : Int)
                                · rw [if_pos c49] at H
                                  have c49b0 : decide (x8_4 < (a0.size : Int)) = true := decide_eq_true c49
                                  clear c49
                                  by_cases c50 : 0 ≤ x8_4
                                  · rw [if_pos c50] at H
                                    have c50b0 : decide (0 ≤ x8_4) = true := decide_eq_true c50
                                    clear c50
                                    by_cases c52 : (bt a0 x8_4) = 10
                                    · rw [if_pos c52] at H
                                      have c52b0 : ((bt a0 x8_4) == 10) = true := beq_iff_eq.mpr c52
                                      have c52b1 : ((bt a0 x8_4) != 10) = false := bne_eq_false_iff_eq.mpr c52
                                      clear c52
                                      have H' := Aside0.mk H
                                      clear H
                                      have p51 : 0 ≤ (x8_4 : Int) := of_decide_eq_true (by first | (with_reducible assumption) | assumption)
                                      have q51 : x8_4 < (a0.size : Int) := of_decide_eq_true (by first | (with_reducible assumption) | assumption)
                                      have hx51 := bt_at a0 x8_4
                                      replace p51 := eq_true p51
                                      replace q51 := eq_true q51
                                      go_wp2
                                      repeat (go_quiet (fail); try go_wp2)
                                      go_roundg k4
                                      case measure => have := HJ2.out; have := HK2.out; have := HK3.out; have := HK4.out; omega
                                      case rel => exact ⟨(wrap64 (x7_4 + 1)), (wrap64 (x8_4 + 1)), (by first | rfl | (simp; done) | (simp [*]; done)), (by first | rfl | (simp; done) | (simp [*]; done)), H', ⟨by have := HJ2.out; have := HK2.out; have := HK3.out; have := HK4.out; omega⟩, ⟨by repeat (first | (with_reducible first | exact HB.out | apply below_alloc | apply pw_below_drewN | apply below_drew1) | exact HB.out)⟩⟩
                                    · rw [if_neg c52] at H
                                      have c52b0 : ((bt a0 x8_4) == 10) = false := beq_eq_false_iff_ne.mpr c52
                                      have c52b1 : ((bt a0 x8_4) != 10) = true := bne_iff_ne.mpr c52
                                      have H' := Aside0.mk H
                                      clear H
                                      have p51 : 0 ≤ (x8_4 : Int) := of_decide_eq_true (by first | (with_reducible assumption) | assumption)
                                      have q51 : x8_4 < (a0.size : Int) := of_decide_eq_true (by first | (with_reducible assumption) | assumption)
                                      have hx51 := bt_at a0 x8_4
                                      replace p51 := eq_true p51
                                      replace q51 := eq_true q51
                                      go_wp2
                                      repeat (go_quiet (fail); try go_wp2)
                                      go_roundg k4
                                      case measure => have := HJ2.out; have := HK2.out; have := HK3.out; have := HK4.out; omega
                                      case rel => exact ⟨(x7_4), (wrap64 (x8_4 + 1)), (by first | rfl | (simp; done) | (simp [*]; done)), (by first | rfl | (simp; done) | (simp [*]; done)), H', ⟨by have := HJ2.out; have := HK2.out; have := HK3.out; have := HK4.out; omega⟩, ⟨by repeat (first | (with_reducible first | exact HB.out | apply below_alloc | apply pw_below_drewN | apply below_drew1) | exact HB.out)⟩⟩
                                  · rw [if_neg c50] at H
                                    exact absurd H (by simp)
                                · rw [if_neg c49] at H
                                  have c49b0 : decide (x8_4 < (a0.size : Int)) = false := decide_eq_false c49
                                  clear c49
                                  have HC53 := Aside0.mk H
                                  clear H
                                  go_upto_region 27 with (fail)
                                  repeat (go_quiet (fail); go_upto_region 27 with (fail))
                                  go_cut [160] (fun v160 wc => ∃ (kq : Nat) (x160_52 : Bool), v160 = .bool x160_52 ∧ Aside0 (racewaylaw2_TextOrder.j7 kq a0 x7_4 0 x160_52 = some r) ∧ Aside0 (kq ≤ k4) ∧ Aside0 (Below w.heap.size w wc))
                                  case first =>
                                    have H := HC53.out
                                    clear HC53
                                    by_cases c54 : a0.toList = ([] : List UInt8)
                                    · rw [if_pos c54] at H
                                      have c54b0 : (a0.toList == ([] : List UInt8)) = true := beq_iff_eq.mpr c54
                                      have c54b1 : (a0.toList != ([] : List UInt8)) = false := bne_eq_false_iff_eq.mpr c54
                                      (try (have c54b2 : a0.toList.isEmpty = true := by simpa using c54))
                                      clear c54
                                      (first | rw [c54b0] | (simp only [i64_w, i32_w]; rw [c54b0]) | skip)
                                      have H' := Aside0.mk H
                                      clear H
                                      go_wp2
                                      repeat (go_quiet (fail); try go_wp2)
                                      go_meet
                                      case rel => exact ⟨_, (false), (by first | rfl | (simp; done) | (simp [*]; done)), H', ⟨by have := HJ2.out; have := HK2.out; have := HK3.out; have := HK4.out; first | omega | exact Nat.le_refl _⟩, ⟨by repeat (first | (with_reducible first | exact HB.out | apply below_alloc | apply pw_below_drewN | apply below_drew1) | exact HB.out)⟩⟩
                                    · rw [if_neg c54] at H
                                      have c54b0 : (a0.toList == ([] : List UInt8)) = false := beq_eq_false_iff_ne.mpr c54
                                      have c54b1 : (a0.toList != ([] : List UInt8)) = true := bne_iff_ne.mpr c54
                                      (try (have c54b2 : a0.toList.isEmpty = false := by simpa using c54))
                                      (first | rw [c54b0] | (simp only [i64_w, i32_w]; rw [c54b0]) | skip)
                                      obtain ⟨ji55, hji55⟩ : ∃ j_ : Int, (wrap64 ((a0.size : Int) - 1)) = j_ := ⟨_, rfl⟩
                                      replace H : (if 0 ≤ (ji55) then (if (ji55) < (a0.size : Int) then (racewaylaw2_TextOrder.j7 k4 a0 x7_4 0 ((bt a0 (ji55)) != 10)) else (none)) else (none)) = some r := by first | (rw [hji55] at H; exact H) | (simp only [hji55] at H ⊢; exact H)
                                      have hji55w : (IntKind.i64.wrap ((a0.size : Int) - 1)) = ji55 := (i64_w _).trans hji55
                                      by_cases c56 : 0 ≤ (ji55)
                                      · rw [if_pos c56] at H
                                        have c56b0 : decide (0 ≤ (ji55)) = true := decide_eq_true c56
                                        clear c56
                                        by_cases c57 : (ji55) < (a0.size : Int)
                                        · rw [if_pos c57] at H
                                          have c57b0 : decide ((ji55) < (a0.size : Int)) = true := decide_eq_true c57
                                          clear c57
                                          have H' := Aside0.mk H
                                          clear H
                                          have p58 : 0 ≤ ((ji55) : Int) := of_decide_eq_true (by first | (with_reducible assumption) | assumption)
                                          have q58 : (ji55) < (a0.size : Int) := of_decide_eq_true (by first | (with_reducible assumption) | assumption)
                                          have hx58 := bt_at a0 (ji55)
                                          replace p58 := eq_true p58
                                          replace q58 := eq_true q58
                                          go_wp2
                                          repeat (go_quiet (fail); try go_wp2)
                                          go_meet
                                          case rel => exact ⟨_, (((bt a0 (ji55)) != 10)), (by first | rfl | (simp; done) | (simp only [← hji55] <;> (first | rfl | simp)) | (simp [*]; done)), H', ⟨by have := HJ2.out; have := HK2.out; have := HK3.out; have := HK4.out; first | omega | exact Nat.le_refl _⟩, ⟨by repeat (first | (with_reducible first | exact HB.out | apply below_alloc | apply pw_below_drewN | apply below_drew1) | exact HB.out)⟩⟩
                                        · rw [if_neg c57] at H
                                          exact absurd H (by simp)
                                      · rw [if_neg c56] at H
                                        exact absurd H (by simp)
                                  case rest =>
                                    clear HC53
                                    try clear c1
                                    try clear p1
                                    try clear q1
                                    try clear hx1
                                    try clear c2
                                    try clear p2
                                    try clear c3
                                    try clear p3
                                    try clear q3
                                    try clear hx3
                                    try clear c4
                                    try clear p4
                                    try clear q4
                                    try clear hx4
                                    try clear c5
                                    try clear p5
                                    try clear q5
                                    try clear hx5
                                    try clear c6
                                    try clear p6
                                    try clear c9
                                    try clear c9b0
                                    try clear c12
                                    try clear c12b0
                                    try clear c13
                                    try clear c13b0
                                    try clear p14
                                    try clear q14
                                    try clear hx14
                                    try clear c15
                                    try clear c15b0
                                    try clear c15b1
                                    try clear p16
                                    try clear q16
                                    try clear hx16
                                    try clear c17
                                    try clear c17b0
                                    try clear c17b1
                                    try clear p18
                                    try clear q18
                                    try clear hx18
                                    try clear c19
                                    try clear c19b0
                                    try clear c19b1
                                    try clear c21
                                    try clear c21b0
                                    try clear c22
                                    try clear c22b0
                                    try clear c23
                                    try clear c23b0
                                    try clear c23b1
                                    try clear c23b2
                                    try clear c24
                                    try clear c24b0
                                    try clear c25
                                    try clear c25b0
                                    try clear c25b1
                                    try clear c26
                                    try clear c26b0
                                    try clear c26b1
                                    try clear c27
                                    try clear c27b0
                                    try clear c27b1
                                    try clear c28
                                    try clear c29
                                    try clear c29b0
                                    try clear c30
                                    try clear c30b0
                                    try clear c31
                                    try clear c31b0
                                    try clear c33
                                    try clear c33b0
                                    try clear p34
                                    try clear q34
                                    try clear hx34
                                    try clear c35
                                    try clear c35b0
                                    try clear c35b1
                                    try clear p36
                                    try clear q36
                                    try clear hx36
                                    try clear c37
                                    try clear c37b0
                                    try clear c37b1
                                    try clear p38
                                    try clear q38
                                    try clear hx38
                                    try clear c39
                                    try clear c39b0
                                    try clear c39b1
                                    try clear c41
                                    try clear c41b0
                                    try clear c42
                                    try clear c42b0
                                    try clear p43
                                    try clear q43
                                    try clear hx43
                                    try clear c44
                                    try clear c44b0
                                    try clear c44b1
                                    try clear p45
                                    try clear q45
                                    try clear hx45
                                    try clear c46
                                    try clear c46b0
                                    try clear c46b1
                                    try clear p47
                                    try clear q47
                                    try clear hx47
                                    try clear c48
                                    try clear c48b0
                                    try clear c48b1
                                    try clear c49
                                    try clear c49b0
                                    try clear c50
                                    try clear c50b0
                                    try clear p51
                                    try clear q51
                                    try clear hx51
                                    try clear c52
                                    try clear c52b0
                                    try clear c52b1
                                    try clear c54
                                    try clear c54b0
                                    try clear c54b1
                                    try clear c54b2
                                    try clear c56
                                    try clear c56b0
                                    try clear c57
                                    try clear c57b0
                                    try clear p58
                                    try clear q58
                                    try clear hx58
                                    try clear hx141_0
                                    try clear hx142_0
                                    try clear hx143_0
                                    try clear hx144_0
                                    try clear hx145_0
                                    try clear p1
                                    try clear p14
                                    try clear p141
                                    try clear p142
                                    try clear p143
                                    try clear p144
                                    try clear p145
                                    try clear p16
                                    try clear p18
                                    try clear p2
                                    try clear p3
                                    try clear p34
                                    try clear p36
                                    try clear p38
                                    try clear p4
                                    try clear p43
                                    try clear p45
                                    try clear p47
                                    try clear p51
                                    try clear p58
                                    try clear p6
                                    try clear q1
                                    try clear q14
                                    try clear q141
                                    try clear q142
                                    try clear q143
                                    try clear q144
                                    try clear q145
                                    try clear q16
                                    try clear q18
                                    try clear q3
                                    try clear q34
                                    try clear q36
                                    try clear q38
                                    try clear q4
                                    try clear q43
                                    try clear q45
                                    try clear q47
                                    try clear q51
                                    try clear q58
                                    obtain ⟨kq, x160_52, rfl, HA, HJ52, HB⟩ := hcut
                                    cases kq with
                                    | zero => exact absurd HA.out (by simp [racewaylaw2_TextOrder.j7])
                                    | succ kj52 =>
                                      as_aux_lemma =>
                                        have H := HA.out
                                        clear HA
                                        simp only [racewaylaw2_TextOrder.j7] at H
                                        have HC59 := Aside0.mk H
                                        clear H
                                        go_upto_if 160 with (fail)
                                        repeat (go_quiet (fail); go_upto_if 160 with (fail))
                                        go_cut [9] (fun v9 wc => ∃ (kq : Nat) (x9_58 : Int), v9 = .int .i64 x9_58 ∧ Aside0 (racewaylaw2_TextOrder.j8 kq a0 x7_4 x9_58 = some r) ∧ Aside0 (kq ≤ kj52) ∧ Aside0 (Below w.heap.size w wc))
                                        case first =>
                                          have H := HC59.out
                                          clear HC59
                                          by_cases c60 : x160_52 = true
                                          · subst c60
                                            have H1 : (racewaylaw2_TextOrder.j8 kj52 a0 x7_4 1) = some r := by rw [if_pos rfl] at H; exact H
                                            clear H
                                            have H := H1
                                            clear H1
                                            have H' := Aside0.mk H
                                            clear H
                                            go_wp2
                                            repeat (go_quiet (fail); try go_wp2)
                                            go_meet
                                            case rel => exact ⟨_, (1), (by first | rfl | (simp; done) | (simp [*]; done)), H', ⟨by have := HJ2.out; have := HK2.out; have := HK3.out; have := HK4.out; have := HJ52.out; first | omega | exact Nat.le_refl _⟩, ⟨by repeat (first | (with_reducible first | exact HB.out | apply below_alloc | apply pw_below_drewN | apply below_drew1) | exact HB.out)⟩⟩
                                          · replace c60 := Bool.eq_false_iff.mpr c60
                                            subst c60
                                            have H1 : (racewaylaw2_TextOrder.j8 kj52 a0 x7_4 0) = some r := by rw [if_neg (show ¬ (false = true) by decide)] at H; exact H
                                            clear H
                                            have H := H1
                                            clear H1
                                            have H' := Aside0.mk H
                                            clear H
                                            go_wp2
                                            repeat (go_quiet (fail); try go_wp2)
                                            go_meet
                                            case rel => exact ⟨_, (0), (by first | rfl | (simp; done) | (simp [*]; done)), H', ⟨by have := HJ2.out; have := HK2.out; have := HK3.out; have := HK4.out; have := HJ52.out; first | omega | exact Nat.le_refl _⟩, ⟨by repeat (first | (with_reducible first | exact HB.out | apply below_alloc | apply pw_below_drewN | apply below_drew1) | exact HB.out)⟩⟩
                                        case rest =>
                                          clear HC59
                                          try clear c1
                                          try clear p1
                                          try clear q1
                                          try clear hx1
                                          try clear c2
                                          try clear p2
                                          try clear c3
                                          try clear p3
                                          try clear q3
                                          try clear hx3
                                          try clear c4
                                          try clear p4
                                          try clear q4
                                          try clear hx4
                                          try clear c5
                                          try clear p5
                                          try clear q5
                                          try clear hx5
                                          try clear c6
                                          try clear p6
                                          try clear c9
                                          try clear c9b0
                                          try clear c12
                                          try clear c12b0
                                          try clear c13
                                          try clear c13b0
                                          try clear p14
                                          try clear q14
                                          try clear hx14
                                          try clear c15
                                          try clear c15b0
                                          try clear c15b1
                                          try clear p16
                                          try clear q16
                                          try clear hx16
                                          try clear c17
                                          try clear c17b0
                                          try clear c17b1
                                          try clear p18
                                          try clear q18
                                          try clear hx18
                                          try clear c19
                                          try clear c19b0
                                          try clear c19b1
                                          try clear c21
                                          try clear c21b0
                                          try clear c22
                                          try clear c22b0
                                          try clear c23
                                          try clear c23b0
                                          try clear c23b1
                                          try clear c23b2
                                          try clear c24
                                          try clear c24b0
                                          try clear c25
                                          try clear c25b0
                                          try clear c25b1
                                          try clear c26
                                          try clear c26b0
                                          try clear c26b1
                                          try clear c27
                                          try clear c27b0
                                          try clear c27b1
                                          try clear c28
                                          try clear c29
                                          try clear c29b0
                                          try clear c30
                                          try clear c30b0
                                          try clear c31
                                          try clear c31b0
                                          try clear c33
                                          try clear c33b0
                                          try clear p34
                                          try clear q34
                                          try clear hx34
                                          try clear c35
                                          try clear c35b0
                                          try clear c35b1
                                          try clear p36
                                          try clear q36
                                          try clear hx36
                                          try clear c37
                                          try clear c37b0
                                          try clear c37b1
                                          try clear p38
                                          try clear q38
                                          try clear hx38
                                          try clear c39
                                          try clear c39b0
                                          try clear c39b1
                                          try clear c41
                                          try clear c41b0
                                          try clear c42
                                          try clear c42b0
                                          try clear p43
                                          try clear q43
                                          try clear hx43
                                          try clear c44
                                          try clear c44b0
                                          try clear c44b1
                                          try clear p45
                                          try clear q45
                                          try clear hx45
                                          try clear c46
                                          try clear c46b0
                                          try clear c46b1
                                          try clear p47
                                          try clear q47
                                          try clear hx47
                                          try clear c48
                                          try clear c48b0
                                          try clear c48b1
                                          try clear c49
                                          try clear c49b0
                                          try clear c50
                                          try clear c50b0
                                          try clear p51
                                          try clear q51
                                          try clear hx51
                                          try clear c52
                                          try clear c52b0
                                          try clear c52b1
                                          try clear c54
                                          try clear c54b0
                                          try clear c54b1
                                          try clear c54b2
                                          try clear c56
                                          try clear c56b0
                                          try clear c57
                                          try clear c57b0
                                          try clear p58
                                          try clear q58
                                          try clear hx58
                                          try clear c60
                                          try clear hx141_0
                                          try clear hx142_0
                                          try clear hx143_0
                                          try clear hx144_0
                                          try clear hx145_0
                                          try clear p1
                                          try clear p14
                                          try clear p141
                                          try clear p142
                                          try clear p143
                                          try clear p144
                                          try clear p145
                                          try clear p16
                                          try clear p18
                                          try clear p2
                                          try clear p3
                                          try clear p34
                                          try clear p36
                                          try clear p38
                                          try clear p4
                                          try clear p43
                                          try clear p45
                                          try clear p47
                                          try clear p5
                                          try clear p51
                                          try clear p58
                                          try clear p6
                                          try clear q1
                                          try clear q14
                                          try clear q141
                                          try clear q142
                                          try clear q143
                                          try clear q144
                                          try clear q145
                                          try clear q16
                                          try clear q18
                                          try clear q3
                                          try clear q34
                                          try clear q36
                                          try clear q38
                                          try clear q4
                                          try clear q43
                                          try clear q45
                                          try clear q47
                                          try clear q5
                                          try clear q51
                                          try clear q58
                                          obtain ⟨kq, x9_58, rfl, HA, HJ58, HB⟩ := hcut
                                          cases kq with
                                          | zero => exact absurd HA.out (by simp [racewaylaw2_TextOrder.j8])
                                          | succ kj58 =>
                                            as_aux_lemma =>
                                              have H := HA.out
                                              clear HA
                                              simp only [racewaylaw2_TextOrder.j8] at H
                                              replace H := Option.bind_eq_some_iff.mp H
                                              obtain ⟨t146, A610, H⟩ := H
                                              replace H : (racewaylaw2_TextOrder.l4 kj58 a0 x7_4 x9_58 t146 (⟨#[]⟩ : ByteArray) 0) = some r := H
                                              have A61 := Aside0.mk A610
                                              clear A610
                                              have H' := Aside0.mk H
                                              clear H
                                              go_wp2_with (first | (go_at_call 13; (with_reducible refine (text_Lines.calls a0 t146 _ A61.out (LaidG.below hG (by repeat (first | (with_reducible first | exact HB.out | apply below_alloc | apply pw_below_drewN | apply below_drew1) | exact HB.out)))).mono ?_); rintro e w62 ⟨v147, rfl, ho0, hb⟩; have n0_ := Aside0.mk (Kd.R_lower ho0 (below_size (by repeat (first | (with_reducible first | exact HB.out | apply below_alloc | apply pw_below_drewN | apply below_drew1) | exact HB.out)))); have n1_ := Aside0.mk (below_step (by repeat (first | (with_reducible first | exact HB.out | apply below_alloc | apply pw_below_drewN | apply below_drew1) | exact HB.out)) hb); clear HB; have HO148 := n0_; have HB := n1_; clear n0_ n1_; (try clear hb); (try clear hb2); (try clear hk); (try clear hi); (try clear ho0)))
                                              repeat (go_quiet (first | (go_at_call 13; (with_reducible refine (text_Lines.calls a0 t146 _ A61.out (LaidG.below hG (by repeat (first | (with_reducible first | exact HB.out | apply below_alloc | apply pw_below_drewN | apply below_drew1) | exact HB.out)))).mono ?_); rintro e w62 ⟨v147, rfl, ho0, hb⟩; have n0_ := Aside0.mk (Kd.R_lower ho0 (below_size (by repeat (first | (with_reducible first | exact HB.out | apply below_alloc | apply pw_below_drewN | apply below_drew1) | exact HB.out)))); have n1_ := Aside0.mk (below_step (by repeat (first | (with_reducible first | exact HB.out | apply below_alloc | apply pw_below_drewN | apply below_drew1) | exact HB.out)) hb); clear HB; have HO148 := n0_; have HB := n1_; clear n0_ n1_; (try clear hb); (try clear hb2); (try clear hk); (try clear hi); (try clear ho0))); try go_wp2_with (first | (go_at_call 13; (with_reducible refine (text_Lines.calls a0 t146 _ A61.out (LaidG.below hG (by repeat (first | (with_reducible first | exact HB.out | apply below_alloc | apply pw_below_drewN | apply below_drew1) | exact HB.out)))).mono ?_); rintro e w62 ⟨v147, rfl, ho0, hb⟩; have n0_ := Aside0.mk (Kd.R_lower ho0 (below_size (by repeat (first | (with_reducible first | exact HB.out | apply below_alloc | apply pw_below_drewN | apply below_drew1) | exact HB.out)))); have n1_ := Aside0.mk (below_step (by repeat (first | (with_reducible first | exact HB.out | apply below_alloc | apply pw_below_drewN | apply below_drew1) | exact HB.out)) hb); clear HB; have HO148 := n0_; have HB := n1_; clear n0_ n1_; (try clear hb); (try clear hb2); (try clear hk); (try clear hi); (try clear ho0))))
                                              go_loopg [11, 12] kj58 (fun kq v11 v12 w' => ∃ (x11_7 : ByteArray) (x12_7 : Int), v11 = .string x11_7 ∧ v12 = .int .i64 x12_7 ∧ Aside0 (racewaylaw2_TextOrder.l4 kq a0 x7_4 x9_58 t146 x11_7 x12_7 = some r) ∧ Aside0 (kq ≤ kj58) ∧ Aside0 (Kd.R Kd.string 9 w' w.heap.size (fun _ => True) v147 t146) ∧ Aside0 (Below w.heap.size w w'))
                                              case atStart => exact ⟨((⟨#[]⟩ : ByteArray)), (0), (by first | rfl | (simp; done) | (simp [*]; done)), (by first | rfl | (simp; done) | (simp [*]; done)), H', ⟨Nat.le_refl _⟩, ⟨by (with_reducible repeat (first | apply Kd.R_alloc | apply Kd.R_drewN | apply Kd.R_drew)); exact HO148.out⟩, ⟨by repeat (first | (with_reducible first | exact HB.out | apply below_alloc | apply pw_below_drewN | apply below_drew1) | exact HB.out)⟩⟩
                                              case round =>
                                                clear H'
                                                try clear c1
                                                try clear p1
                                                try clear q1
                                                try clear hx1
                                                try clear c2
                                                try clear p2
                                                try clear c3
                                                try clear p3
                                                try clear q3
                                                try clear hx3
                                                try clear c4
                                                try clear p4
                                                try clear q4
                                                try clear hx4
                                                try clear c5
                                                try clear p5
                                                try clear q5
                                                try clear hx5
                                                try clear c6
                                                try clear p6
                                                try clear c9
                                                try clear c9b0
                                                try clear c12
                                                try clear c12b0
                                                try clear c13
                                                try clear c13b0
                                                try clear p14
                                                try clear q14
                                                try clear hx14
                                                try clear c15
                                                try clear c15b0
                                                try clear c15b1
                                                try clear p16
                                                try clear q16
                                                try clear hx16
                                                try clear c17
                                                try clear c17b0
                                                try clear c17b1
                                                try clear p18
                                                try clear q18
                                                try clear hx18
                                                try clear c19
                                                try clear c19b0
                                                try clear c19b1
                                                try clear c21
                                                try clear c21b0
                                                try clear c22
                                                try clear c22b0
                                                try clear c23
                                                try clear c23b0
                                                try clear c23b1
                                                try clear c23b2
                                                try clear c24
                                                try clear c24b0
                                                try clear c25
                                                try clear c25b0
                                                try clear c25b1
                                                try clear c26
                                                try clear c26b0
                                                try clear c26b1
                                                try clear c27
                                                try clear c27b0
                                                try clear c27b1
                                                try clear c28
                                                try clear c29
                                                try clear c29b0
                                                try clear c30
                                                try clear c30b0
                                                try clear c31
                                                try clear c31b0
                                                try clear c33
                                                try clear c33b0
                                                try clear p34
                                                try clear q34
                                                try clear hx34
                                                try clear c35
                                                try clear c35b0
                                                try clear c35b1
                                                try clear p36
                                                try clear q36
                                                try clear hx36
                                                try clear c37
                                                try clear c37b0
                                                try clear c37b1
                                                try clear p38
                                                try clear q38
                                                try clear hx38
                                                try clear c39
                                                try clear c39b0
                                                try clear c39b1
                                                try clear c41
                                                try clear c41b0
                                                try clear c42
                                                try clear c42b0
                                                try clear p43
                                                try clear q43
                                                try clear hx43
                                                try clear c44
                                                try clear c44b0
                                                try clear c44b1
                                                try clear p45
                                                try clear q45
                                                try clear hx45
                                                try clear c46
                                                try clear c46b0
                                                try clear c46b1
                                                try clear p47
                                                try clear q47
                                                try clear hx47
                                                try clear c48
                                                try clear c48b0
                                                try clear c48b1
                                                try clear c49
                                                try clear c49b0
                                                try clear c50
                                                try clear c50b0
                                                try clear p51
                                                try clear q51
                                                try clear hx51
                                                try clear c52
                                                try clear c52b0
                                                try clear c52b1
                                                try clear c54
                                                try clear c54b0
                                                try clear c54b1
                                                try clear c54b2
                                                try clear c56
                                                try clear c56b0
                                                try clear c57
                                                try clear c57b0
                                                try clear p58
                                                try clear q58
                                                try clear hx58
                                                try clear c60
                                                try clear hx141_0
                                                try clear hx142_0
                                                try clear hx143_0
                                                try clear hx144_0
                                                try clear hx145_0
                                                try clear p1
                                                try clear p14
                                                try clear p141
                                                try clear p142
                                                try clear p143
                                                try clear p144
                                                try clear p145
                                                try clear p16
                                                try clear p18
                                                try clear p2
                                                try clear p3
                                                try clear p34
                                                try clear p36
                                                try clear p38
                                                try clear p4
                                                try clear p43
                                                try clear p45
                                                try clear p47
                                                try clear p5
                                                try clear p51
                                                try clear p58
                                                try clear p6
                                                try clear q1
                                                try clear q14
                                                try clear q141
                                                try clear q142
                                                try clear q143
                                                try clear q144
                                                try clear q145
                                                try clear q16
                                                try clear q18
                                                try clear q3
                                                try clear q34
                                                try clear q36
                                                try clear q38
                                                try clear q4
                                                try clear q43
                                                try clear q45
                                                try clear q47
                                                try clear q5
                                                try clear q51
                                                try clear q58
                                                obtain ⟨x11_7, x12_7, rfl, rfl, HA, HK7, HO_10, HB⟩ := hrel
                                                cases gk with
                                                | zero => exact absurd HA.out (by simp [racewaylaw2_TextOrder.l4])
                                                | succ k7 =>
                                                  as_aux_lemma =>
                                                    have H := HA.out
                                                    clear HA
                                                    simp only [racewaylaw2_TextOrder.l4] at H
                                                    by_cases c63 : x12_7 < (t146.length : Int)
                                                    · rw [if_pos c63] at H
                                                      have c63b0 : decide (x12_7 < (t146.length : Int)) = true := decide_eq_true c63
                                                      clear c63
                                                      by_cases c64 : 0 ≤ x12_7
                                                      · rw [if_pos c64] at H
                                                        have c64b0 : decide (0 ≤ x12_7) = true := decide_eq_true c64
                                                        clear c64
                                                        by_cases c65 : x11_7.size + (rdOf ByteArray.empty t146 x12_7).size ≤ 9223372036854775807
                                                        · rw [if_pos c65] at H
                                                          have c65b0 := eq_true c65
                                                          have c65b1 : decide (x11_7.size + (rdOf ByteArray.empty t146 x12_7).size ≤ 9223372036854775807) = true := decide_eq_true c65
                                                          try have c65b2 : (9223372036854775807 < x11_7.size + (rdOf ByteArray.empty t146 x12_7).size) = False := eq_false (Nat.not_lt.2 c65)
                                                          by_cases c66 : (x11_7 ++ (rdOf ByteArray.empty t146 x12_7)).size + 1 ≤ 9223372036854775807
                                                          · rw [if_pos c66] at H
                                                            have c66b0 := eq_true c66
                                                            have c66b1 : decide ((x11_7 ++ (rdOf ByteArray.empty t146 x12_7)).size + 1 ≤ 9223372036854775807) = true := decide_eq_true c66
                                                            try have c66b2 : (9223372036854775807 < (x11_7 ++ (rdOf ByteArray.empty t146 x12_7)).size + 1) = False := eq_false (Nat.not_lt.2 c66)
                                                            (try (have c66b3 := c66; simp only [ByteArray.size_append] at c66b3; have c66b4 := eq_true c66b3))
                                                            have H' := Aside0.mk H
                                                            clear H
                                                            obtain ⟨Ao67, co67, eo67⟩ := Kd.R_slice HO_10.out
                                                            subst eo67
                                                            have p149 : 0 ≤ (x12_7 : Int) := of_decide_eq_true (by first | (with_reducible assumption) | assumption)
                                                            have q149 : x12_7 < (t146.length : Int) := of_decide_eq_true (by first | (with_reducible assumption) | assumption)
                                                            obtain ⟨ad149, e149, hx149_0⟩ := Kd.at_string (Kd.R_reads' HO_10.out).2.2 x12_7 p149 q149
                                                            cases e149
                                                            replace p149 := eq_true p149
                                                            replace q149 := eq_true q149
                                                            go_wp2
                                                            repeat (go_quiet (fail); try go_wp2)
                                                            go_roundg k7
                                                            case measure => have := HJ2.out; have := HK2.out; have := HK3.out; have := HK4.out; have := HJ52.out; have := HJ58.out; have := HK7.out; omega
                                                            case rel => exact ⟨((x11_7 ++ (rdOf ByteArray.empty t146 x12_7)) ++ (⟨#[10]⟩ : ByteArray)), (wrap64 (x12_7 + 1)), (by first | rfl | (simp; done) | (simp [*]; done)), (by first | rfl | (simp; done) | (simp [*]; done)), H', ⟨by have := HJ2.out; have := HK2.out; have := HK3.out; have := HK4.out; have := HJ52.out; have := HJ58.out; have := HK7.out; omega⟩, ⟨by (with_reducible repeat (first | apply Kd.R_alloc | apply Kd.R_drewN | apply Kd.R_drew)); exact HO_10.out⟩, ⟨by repeat (first | (with_reducible first | exact HB.out | apply below_alloc | apply pw_below_drewN | apply below_drew1) | exact HB.out)⟩⟩
                                                          · rw [if_neg c66] at H
                                                            exact absurd H (by simp)
                                                        · rw [if_neg c65] at H
                                                          exact absurd H (by simp)
                                                      · rw [if_neg c64] at H
                                                        exact absurd H (by simp)
                                                    · rw [if_neg c63] at H
                                                      have c63b0 : decide (x12_7 < (t146.length : Int)) = false := decide_eq_false c63
                                                      clear c63
                                                      by_cases c68 : (t146.length : Int) = (wrap64 (x7_4 + x9_58))
                                                      · rw [if_pos c68] at H
                                                        have c68b0 : ((t146.length : Int) == (wrap64 (x7_4 + x9_58))) = true := beq_iff_eq.mpr c68
                                                        have c68b1 : ((t146.length : Int) != (wrap64 (x7_4 + x9_58))) = false := bne_eq_false_iff_eq.mpr c68
                                                        clear c68
                                                        by_cases c69 : a0.toList = x11_7.toList
                                                        · rw [if_pos c69] at H
                                                          have c69b0 : (a0.toList == x11_7.toList) = true := beq_iff_eq.mpr c69
                                                          have c69b1 : (a0.toList != x11_7.toList) = false := bne_eq_false_iff_eq.mpr c69
                                                          clear c69
                                                          obtain rfl := Option.some.inj H
                                                          obtain ⟨Ao70, co70, eo70⟩ := Kd.R_slice HO_10.out
                                                          subst eo70
                                                          go_wp2
                                                          repeat (go_quiet (fail); try go_wp2)
                                                          go_ret
                                                          exact ⟨by first | rfl | (simp [errW_none, errW_some] <;> rfl) | (simp [*, errW_none, errW_some] <;> rfl), by repeat (first | (with_reducible first | exact HB.out | apply below_alloc | apply pw_below_drewN | apply below_drew1) | exact HB.out)⟩
                                                        · rw [if_neg c69] at H
                                                          have c69b0 : (a0.toList == x11_7.toList) = false := beq_eq_false_iff_ne.mpr c69
                                                          have c69b1 : (a0.toList != x11_7.toList) = true := bne_iff_ne.mpr c69
                                                          by_cases c71 : a0.size + 1 ≤ 9223372036854775807
                                                          · rw [if_pos c71] at H
                                                            have c71b0 := eq_true c71
                                                            have c71b1 : decide (a0.size + 1 ≤ 9223372036854775807) = true := decide_eq_true c71
                                                            try have c71b2 : (9223372036854775807 < a0.size + 1) = False := eq_false (Nat.not_lt.2 c71)
                                                            obtain rfl := Option.some.inj H
                                                            obtain ⟨Ao72, co72, eo72⟩ := Kd.R_slice HO_10.out
                                                            subst eo72
                                                            go_wp2
                                                            repeat (go_quiet (fail); try go_wp2)
                                                            go_ret
                                                            exact ⟨by first | rfl | (simp [errW_none, errW_some] <;> rfl) | (simp [*, errW_none, errW_some] <;> rfl), by repeat (first | (with_reducible first | exact HB.out | apply below_alloc | apply pw_below_drewN | apply below_drew1) | exact HB.out)⟩
                                                          · rw [if_neg c71] at H
                                                            exact absurd H (by simp)
                                                      · rw [if_neg c68] at H
                                                        have c68b0 : ((t146.length : Int) == (wrap64 (x7_4 + x9_58))) = false := beq_eq_false_iff_ne.mpr c68
                                                        have c68b1 : ((t146.length : Int) != (wrap64 (x7_4 + x9_58))) = true := bne_iff_ne.mpr c68
                                                        obtain rfl := Option.some.inj H
                                                        obtain ⟨Ao73, co73, eo73⟩ := Kd.R_slice HO_10.out
                                                        subst eo73
                                                        go_wp2
                                                        repeat (go_quiet (fail); try go_wp2)
                                                        go_ret
                                                        exact ⟨by first | rfl | (simp [errW_none, errW_some] <;> rfl) | (simp [*, errW_none, errW_some] <;> rfl), by repeat (first | (with_reducible first | exact HB.out | apply below_alloc | apply pw_below_drewN | apply below_drew1) | exact HB.out)⟩

/-- THE ONE PURE STATEMENT of racewaylaw2_TextOrder: yours. -/
def racewaylaw2_TextOrder.Pure : Prop := ∀ (a0 : ByteArray), a0.size ≤ 140737488351232 → ∃ k, racewaylaw2_TextOrder.f k a0 = some true
theorem racewaylaw2_TextOrder.walk (P : racewaylaw2_TextOrder.Pure) (a0 : ByteArray) (w : World) (w0 : a0.size ≤ 140737488351232) (hG : LaidG w) :
    Calls Tryd.prog 5 #[.string a0] w fun e w' => e = .returned (.bool true) ∧ Below w.heap.size w w' := by
  obtain ⟨k, h⟩ := P a0 w0
  refine (racewaylaw2_TextOrder.calls k a0 true w h hG).mono ?_
  rintro e w' ⟨rfl, hd⟩
  exact ⟨rfl, hd⟩

end Go.Proofs.YteifkibpeimbpaaDoor.Q
