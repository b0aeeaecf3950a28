/- Functions of the program as plain Lean functions, and that their calls come to these: written by a program of this session. Conditions: what each theorem asks. -/
import Derived.Test.YteifkibpeimbpaaDoorQx0
import Derived.Test.YteifkibpeimbpaaDoorQx1
import Derived.Test.YteifkibpeimbpaaDoorText
namespace Go.Proofs.YteifkibpeimbpaaDoor.Q
open Go.RowKit Go.Proofs.YteifkibpeimbpaaDoor.H Go.Proofs.YteifkibpeimbpaaDoorW.PrintWords Go.Proofs.YteifkibpeimbpaaDoorW.PrintLast Go.Proofs.YteifkibpeimbpaaDoorW.PrintMore
attribute [local go_sem] max2_int min2_int max_two min_two max_three min_three max_four min_four   -- for this text's walks alone
set_option linter.unusedVariables false
set_option linter.unusedSimpArgs false

/-! ### racewaylaw2_TextCounts: function 4 -/
mutual
def racewaylaw2_TextCounts.j0 : Nat → Int → Int → ByteArray → ByteArray → Bool → Option (Bool)
  | 0, _, _, _, _, _ => none
  | k + 1, x0, x1, x6, x7, x47 => if x47 = true then (some false) else (if x0 < 0 then (racewaylaw2_TextCounts.j1 k x0 x1 x6 x7 0 1) else (racewaylaw2_TextCounts.j1 k x0 x1 x6 x7 0 0))
def racewaylaw2_TextCounts.j1 : Nat → Int → Int → ByteArray → ByteArray → Int → Int → Option (Bool)
  | 0, _, _, _, _, _, _ => none
  | k + 1, x0, x1, x6, x7, x8, x9 => racewaylaw2_TextCounts.l0 k x0 x1 x6 x7 x8 x9 x9
def racewaylaw2_TextCounts.l0 : Nat → Int → Int → ByteArray → ByteArray → Int → Int → Int → Option (Bool)
  | 0, _, _, _, _, _, _, _ => none
  | k + 1, x0, x1, x6, x7, x8, x9, x10 => if x10 < (x6.size : Int) then (if 0 ≤ x10 then (if (bt x6 x10) < 48 then (racewaylaw2_TextCounts.j3 k x0 x1 x6 x7 x8 x9 x10 true) else (racewaylaw2_TextCounts.j3 k x0 x1 x6 x7 x8 x9 x10 (decide ((bt x6 x10) > 57)))) else (none)) else (if x8 = x0 then (if (x6.size : Int) > x9 then (if (x6.size : Int) = (wrap64 (x9 + 1)) then (if x0 ≥ 0 then ((text_Join.f (([x6, x7] : List ByteArray))).bind fun t124 => (if x6.size + 1 ≤ 9223372036854775807 then (if (x6 ++ (⟨#[32]⟩ : ByteArray)).size + x7.size ≤ 9223372036854775807 then (if t124.toList = ((x6 ++ (⟨#[32]⟩ : ByteArray)) ++ x7).toList then (some ((x6.toList == x7.toList) == (x0 == x1))) else (some false)) else (none)) else (none))) else (if 0 < (x6.size : Int) then (if (bt x6 0) = 45 then ((text_Join.f (([x6, x7] : List ByteArray))).bind fun t128 => (if x6.size + 1 ≤ 9223372036854775807 then (if (x6 ++ (⟨#[32]⟩ : ByteArray)).size + x7.size ≤ 9223372036854775807 then (if t128.toList = ((x6 ++ (⟨#[32]⟩ : ByteArray)) ++ x7).toList then (some ((x6.toList == x7.toList) == (x0 == x1))) else (some false)) else (none)) else (none))) else (some false)) else (none))) else (if 0 ≤ x9 then (if x9 < (x6.size : Int) then (if (bt x6 x9) = 48 then (some false) else (if x0 ≥ 0 then ((text_Join.f (([x6, x7] : List ByteArray))).bind fun t132 => (if x6.size + 1 ≤ 9223372036854775807 then (if (x6 ++ (⟨#[32]⟩ : ByteArray)).size + x7.size ≤ 9223372036854775807 then (if t132.toList = ((x6 ++ (⟨#[32]⟩ : ByteArray)) ++ x7).toList then (some ((x6.toList == x7.toList) == (x0 == x1))) else (some false)) else (none)) else (none))) else (if 0 < (x6.size : Int) then (if (bt x6 0) = 45 then ((text_Join.f (([x6, x7] : List ByteArray))).bind fun t136 => (if x6.size + 1 ≤ 9223372036854775807 then (if (x6 ++ (⟨#[32]⟩ : ByteArray)).size + x7.size ≤ 9223372036854775807 then (if t136.toList = ((x6 ++ (⟨#[32]⟩ : ByteArray)) ++ x7).toList then (some ((x6.toList == x7.toList) == (x0 == x1))) else (some false)) else (none)) else (none))) else (some false)) else (none)))) else (none)) else (none))) else (some false)) else (some false))
def racewaylaw2_TextCounts.j3 : Nat → Int → Int → ByteArray → ByteArray → Int → Int → Int → Bool → Option (Bool)
  | 0, _, _, _, _, _, _, _, _ => none
  | k + 1, x0, x1, x6, x7, x8, x9, x10, x66 => if x66 = true then (some false) else (if x0 < 0 then (if 0 ≤ x10 then (if x10 < (x6.size : Int) then (racewaylaw2_TextCounts.l0 k x0 x1 x6 x7 (wrap64 ((wrap64 (10 * x8)) - (((bt x6 x10) - 48) % 256))) x9 (wrap64 (x10 + 1))) else (none)) else (none)) else (if 0 ≤ x10 then (if x10 < (x6.size : Int) then (racewaylaw2_TextCounts.l0 k x0 x1 x6 x7 (wrap64 ((wrap64 (10 * x8)) + (((bt x6 x10) - 48) % 256))) x9 (wrap64 (x10 + 1))) else (none)) else (none)))
end
def racewaylaw2_TextCounts.f (k : Nat) (a0 : Int) (a1 : Int) : Option (Bool) := (racewaylaw2_shown.f).bind fun t118 => (if t118 = true then ((text_Write.f a0).bind fun t119 => ((text_Write.f a1).bind fun t120 => (if a0 ≥ 0 then (if a1 ≥ a0 then (if (t120.size : Int) < (t119.size : Int) then (racewaylaw2_TextCounts.j0 k a0 a1 t119 t120 true) else (if a0 < 0 then (if a1 ≤ a0 then (racewaylaw2_TextCounts.j0 k a0 a1 t119 t120 (decide ((t120.size : Int) < (t119.size : Int)))) else (racewaylaw2_TextCounts.j0 k a0 a1 t119 t120 false)) else (racewaylaw2_TextCounts.j0 k a0 a1 t119 t120 false))) else (if a0 < 0 then (if a1 ≤ a0 then (racewaylaw2_TextCounts.j0 k a0 a1 t119 t120 (decide ((t120.size : Int) < (t119.size : Int)))) else (racewaylaw2_TextCounts.j0 k a0 a1 t119 t120 false)) else (racewaylaw2_TextCounts.j0 k a0 a1 t119 t120 false))) else (if a0 < 0 then (if a1 ≤ a0 then (racewaylaw2_TextCounts.j0 k a0 a1 t119 t120 (decide ((t120.size : Int) < (t119.size : Int)))) else (racewaylaw2_TextCounts.j0 k a0 a1 t119 t120 false)) else (racewaylaw2_TextCounts.j0 k a0 a1 t119 t120 false))))) else (some false))
theorem racewaylaw2_TextCounts.mono_l : ∀ k, (∀ y0 y1 y2 y3 y4, LeO (racewaylaw2_TextCounts.j0 k y0 y1 y2 y3 y4) (racewaylaw2_TextCounts.j0 (k + 1) y0 y1 y2 y3 y4)) ∧ (∀ y0 y1 y2 y3 y4 y5, LeO (racewaylaw2_TextCounts.j1 k y0 y1 y2 y3 y4 y5) (racewaylaw2_TextCounts.j1 (k + 1) y0 y1 y2 y3 y4 y5)) ∧ (∀ y0 y1 y2 y3 y4 y5 y6, LeO (racewaylaw2_TextCounts.l0 k y0 y1 y2 y3 y4 y5 y6) (racewaylaw2_TextCounts.l0 (k + 1) y0 y1 y2 y3 y4 y5 y6)) ∧ (∀ y0 y1 y2 y3 y4 y5 y6 y7, LeO (racewaylaw2_TextCounts.j3 k y0 y1 y2 y3 y4 y5 y6 y7) (racewaylaw2_TextCounts.j3 (k + 1) y0 y1 y2 y3 y4 y5 y6 y7))
  | 0 => ⟨fun _ _ _ _ _ r h => by simp [racewaylaw2_TextCounts.j0] at h, fun _ _ _ _ _ _ r h => by simp [racewaylaw2_TextCounts.j1] at h, fun _ _ _ _ _ _ _ r h => by simp [racewaylaw2_TextCounts.l0] at h, fun _ _ _ _ _ _ _ _ r h => by simp [racewaylaw2_TextCounts.j3] at h⟩
  | k + 1 => by
    obtain ⟨ih0, ih1, ih2, ih3⟩ := racewaylaw2_TextCounts.mono_l k
    refine ⟨?_, ?_, ?_, ?_⟩
    · intro y0 y1 y2 y3 y4
      unfold racewaylaw2_TextCounts.j0
      repeat' first
      | (with_reducible exact ih0 _ _ _ _ _)
      | (with_reducible exact ih1 _ _ _ _ _ _)
      | (with_reducible exact ih2 _ _ _ _ _ _ _)
      | (with_reducible exact ih3 _ _ _ _ _ _ _ _)
      | (with_reducible exact LeO.refl _)
      | (with_reducible exact LeO.none _)
      | (with_reducible refine LeO.ite ?_ ?_)
      | (with_reducible refine LeO.bind ?_ (fun _ => ?_))
      | exact ih0 _ _ _ _ _
      | exact ih1 _ _ _ _ _ _
      | exact ih2 _ _ _ _ _ _ _
      | exact ih3 _ _ _ _ _ _ _ _
      | exact LeO.none _
      | refine LeO.ite ?_ ?_
      | refine LeO.bind ?_ (fun _ => ?_)
    · intro y0 y1 y2 y3 y4 y5
      unfold racewaylaw2_TextCounts.j1
      repeat' first
      | (with_reducible exact ih0 _ _ _ _ _)
      | (with_reducible exact ih1 _ _ _ _ _ _)
      | (with_reducible exact ih2 _ _ _ _ _ _ _)
      | (with_reducible exact ih3 _ _ _ _ _ _ _ _)
      | (with_reducible exact LeO.refl _)
      | (with_reducible exact LeO.none _)
      | (with_reducible refine LeO.ite ?_ ?_)
      | (with_reducible refine LeO.bind ?_ (fun _ => ?_))
      | exact ih0 _ _ _ _ _
      | exact ih1 _ _ _ _ _ _
      | exact ih2 _ _ _ _ _ _ _
      | exact ih3 _ _ _ _ _ _ _ _
      | exact LeO.none _
      | refine LeO.ite ?_ ?_
      | refine LeO.bind ?_ (fun _ => ?_)
    · intro y0 y1 y2 y3 y4 y5 y6
      unfold racewaylaw2_TextCounts.l0
      repeat' first
      | (with_reducible exact ih0 _ _ _ _ _)
      | (with_reducible exact ih1 _ _ _ _ _ _)
      | (with_reducible exact ih2 _ _ _ _ _ _ _)
      | (with_reducible exact ih3 _ _ _ _ _ _ _ _)
      | (with_reducible exact LeO.refl _)
      | (with_reducible exact LeO.none _)
      | (with_reducible refine LeO.ite ?_ ?_)
      | (with_reducible refine LeO.bind ?_ (fun _ => ?_))
      | exact ih0 _ _ _ _ _
      | exact ih1 _ _ _ _ _ _
      | exact ih2 _ _ _ _ _ _ _
      | exact ih3 _ _ _ _ _ _ _ _
      | exact LeO.none _
      | refine LeO.ite ?_ ?_
      | refine LeO.bind ?_ (fun _ => ?_)
    · intro y0 y1 y2 y3 y4 y5 y6 y7
      unfold racewaylaw2_TextCounts.j3
      repeat' first
      | (with_reducible exact ih0 _ _ _ _ _)
      | (with_reducible exact ih1 _ _ _ _ _ _)
      | (with_reducible exact ih2 _ _ _ _ _ _ _)
      | (with_reducible exact ih3 _ _ _ _ _ _ _ _)
      | (with_reducible exact LeO.refl _)
      | (with_reducible exact LeO.none _)
      | (with_reducible refine LeO.ite ?_ ?_)
      | (with_reducible refine LeO.bind ?_ (fun _ => ?_))
      | exact ih0 _ _ _ _ _
      | exact ih1 _ _ _ _ _ _
      | exact ih2 _ _ _ _ _ _ _
      | exact ih3 _ _ _ _ _ _ _ _
      | exact LeO.none _
      | refine LeO.ite ?_ ?_
      | refine LeO.bind ?_ (fun _ => ?_)
theorem racewaylaw2_TextCounts.mono : ∀ a0 a1 k, LeO (racewaylaw2_TextCounts.f k a0 a1) (racewaylaw2_TextCounts.f (k + 1) a0 a1) := by
  intro a0 a1 k
  obtain ⟨ih0, ih1, ih2, ih3⟩ := racewaylaw2_TextCounts.mono_l k
  unfold racewaylaw2_TextCounts.f
  repeat' first
      | (with_reducible exact ih0 _ _ _ _ _)
      | (with_reducible exact ih1 _ _ _ _ _ _)
      | (with_reducible exact ih2 _ _ _ _ _ _ _)
      | (with_reducible exact ih3 _ _ _ _ _ _ _ _)
      | (with_reducible exact LeO.refl _)
      | (with_reducible exact LeO.none _)
      | (with_reducible refine LeO.ite ?_ ?_)
      | (with_reducible refine LeO.bind ?_ (fun _ => ?_))
      | exact ih0 _ _ _ _ _
      | exact ih1 _ _ _ _ _ _
      | exact ih2 _ _ _ _ _ _ _
      | exact ih3 _ _ _ _ _ _ _ _
      | exact LeO.none _
      | refine LeO.ite ?_ ?_
      | refine LeO.bind ?_ (fun _ => ?_)
set_option maxHeartbeats 8000000 in
set_option maxRecDepth 100000 in
theorem racewaylaw2_TextCounts.calls (k : Nat) (a0 : Int) (a1 : Int) (r : Bool) (w : World) (h : racewaylaw2_TextCounts.f k a0 a1 = some r) (hG : LaidG w) :
    Calls Tryd.prog 4 #[.int .i64 a0, .int .i64 a1] w fun e w' => e = .returned (.bool r) ∧ Below w.heap.size w w' := by
  have HB := Aside0.mk (Below.refl w.heap.size w)
  have H : ((racewaylaw2_shown.f).bind fun t118 => (if t118 = true then ((text_Write.f a0).bind fun t119 => ((text_Write.f a1).bind fun t120 => (if a0 ≥ 0 then (if a1 ≥ a0 then (if (t120.size : Int) < (t119.size : Int) then (racewaylaw2_TextCounts.j0 k a0 a1 t119 t120 true) else (if a0 < 0 then (if a1 ≤ a0 then (racewaylaw2_TextCounts.j0 k a0 a1 t119 t120 (decide ((t120.size : Int) < (t119.size : Int)))) else (racewaylaw2_TextCounts.j0 k a0 a1 t119 t120 false)) else (racewaylaw2_TextCounts.j0 k a0 a1 t119 t120 false))) else (if a0 < 0 then (if a1 ≤ a0 then (racewaylaw2_TextCounts.j0 k a0 a1 t119 t120 (decide ((t120.size : Int) < (t119.size : Int)))) else (racewaylaw2_TextCounts.j0 k a0 a1 t119 t120 false)) else (racewaylaw2_TextCounts.j0 k a0 a1 t119 t120 false))) else (if a0 < 0 then (if a1 ≤ a0 then (racewaylaw2_TextCounts.j0 k a0 a1 t119 t120 (decide ((t120.size : Int) < (t119.size : Int)))) else (racewaylaw2_TextCounts.j0 k a0 a1 t119 t120 false)) else (racewaylaw2_TextCounts.j0 k a0 a1 t119 t120 false))))) else (some false))) = some r := h
  clear h
  replace H := Option.bind_eq_some_iff.mp H
  obtain ⟨t118, A30, H⟩ := H
  replace H : (if t118 = true then ((text_Write.f a0).bind fun t119 => ((text_Write.f a1).bind fun t120 => (if a0 ≥ 0 then (if a1 ≥ a0 then (if (t120.size : Int) < (t119.size : Int) then (racewaylaw2_TextCounts.j0 k a0 a1 t119 t120 true) else (if a0 < 0 then (if a1 ≤ a0 then (racewaylaw2_TextCounts.j0 k a0 a1 t119 t120 (decide ((t120.size : Int) < (t119.size : Int)))) else (racewaylaw2_TextCounts.j0 k a0 a1 t119 t120 false)) else (racewaylaw2_TextCounts.j0 k a0 a1 t119 t120 false))) else (if a0 < 0 then (if a1 ≤ a0 then (racewaylaw2_TextCounts.j0 k a0 a1 t119 t120 (decide ((t120.size : Int) < (t119.size : Int)))) else (racewaylaw2_TextCounts.j0 k a0 a1 t119 t120 false)) else (racewaylaw2_TextCounts.j0 k a0 a1 t119 t120 false))) else (if a0 < 0 then (if a1 ≤ a0 then (racewaylaw2_TextCounts.j0 k a0 a1 t119 t120 (decide ((t120.size : Int) < (t119.size : Int)))) else (racewaylaw2_TextCounts.j0 k a0 a1 t119 t120 false)) else (racewaylaw2_TextCounts.j0 k a0 a1 t119 t120 false))))) else (some false)) = some r := H
  have A3 := Aside0.mk A30
  clear A30
  by_cases c4 : t118 = true
  · subst c4
    have H1 : ((text_Write.f a0).bind fun t119 => ((text_Write.f a1).bind fun t120 => (if a0 ≥ 0 then (if a1 ≥ a0 then (if (t120.size : Int) < (t119.size : Int) then (racewaylaw2_TextCounts.j0 k a0 a1 t119 t120 true) else (if a0 < 0 then (if a1 ≤ a0 then (racewaylaw2_TextCounts.j0 k a0 a1 t119 t120 (decide ((t120.size : Int) < (t119.size : Int)))) else (racewaylaw2_TextCounts.j0 k a0 a1 t119 t120 false)) else (racewaylaw2_TextCounts.j0 k a0 a1 t119 t120 false))) else (if a0 < 0 then (if a1 ≤ a0 then (racewaylaw2_TextCounts.j0 k a0 a1 t119 t120 (decide ((t120.size : Int) < (t119.size : Int)))) else (racewaylaw2_TextCounts.j0 k a0 a1 t119 t120 false)) else (racewaylaw2_TextCounts.j0 k a0 a1 t119 t120 false))) else (if a0 < 0 then (if a1 ≤ a0 then (racewaylaw2_TextCounts.j0 k a0 a1 t119 t120 (decide ((t120.size : Int) < (t119.size : Int)))) else (racewaylaw2_TextCounts.j0 k a0 a1 t119 t120 false)) else (racewaylaw2_TextCounts.j0 k a0 a1 t119 t120 false))))) = some r := by rw [if_pos rfl] at H; exact H
    clear H
    have H := H1
    clear H1
    replace H := Option.bind_eq_some_iff.mp H
    obtain ⟨t119, A50, H⟩ := H
    replace H : ((text_Write.f a1).bind fun t120 => (if a0 ≥ 0 then (if a1 ≥ a0 then (if (t120.size : Int) < (t119.size : Int) then (racewaylaw2_TextCounts.j0 k a0 a1 t119 t120 true) else (if a0 < 0 then (if a1 ≤ a0 then (racewaylaw2_TextCounts.j0 k a0 a1 t119 t120 (decide ((t120.size : Int) < (t119.size : Int)))) else (racewaylaw2_TextCounts.j0 k a0 a1 t119 t120 false)) else (racewaylaw2_TextCounts.j0 k a0 a1 t119 t120 false))) else (if a0 < 0 then (if a1 ≤ a0 then (racewaylaw2_TextCounts.j0 k a0 a1 t119 t120 (decide ((t120.size : Int) < (t119.size : Int)))) else (racewaylaw2_TextCounts.j0 k a0 a1 t119 t120 false)) else (racewaylaw2_TextCounts.j0 k a0 a1 t119 t120 false))) else (if a0 < 0 then (if a1 ≤ a0 then (racewaylaw2_TextCounts.j0 k a0 a1 t119 t120 (decide ((t120.size : Int) < (t119.size : Int)))) else (racewaylaw2_TextCounts.j0 k a0 a1 t119 t120 false)) else (racewaylaw2_TextCounts.j0 k a0 a1 t119 t120 false)))) = some r := H
    have A5 := Aside0.mk A50
    clear A50
    replace H := Option.bind_eq_some_iff.mp H
    obtain ⟨t120, A60, H⟩ := H
    replace H : (if a0 ≥ 0 then (if a1 ≥ a0 then (if (t120.size : Int) < (t119.size : Int) then (racewaylaw2_TextCounts.j0 k a0 a1 t119 t120 true) else (if a0 < 0 then (if a1 ≤ a0 then (racewaylaw2_TextCounts.j0 k a0 a1 t119 t120 (decide ((t120.size : Int) < (t119.size : Int)))) else (racewaylaw2_TextCounts.j0 k a0 a1 t119 t120 false)) else (racewaylaw2_TextCounts.j0 k a0 a1 t119 t120 false))) else (if a0 < 0 then (if a1 ≤ a0 then (racewaylaw2_TextCounts.j0 k a0 a1 t119 t120 (decide ((t120.size : Int) < (t119.size : Int)))) else (racewaylaw2_TextCounts.j0 k a0 a1 t119 t120 false)) else (racewaylaw2_TextCounts.j0 k a0 a1 t119 t120 false))) else (if a0 < 0 then (if a1 ≤ a0 then (racewaylaw2_TextCounts.j0 k a0 a1 t119 t120 (decide ((t120.size : Int) < (t119.size : Int)))) else (racewaylaw2_TextCounts.j0 k a0 a1 t119 t120 false)) else (racewaylaw2_TextCounts.j0 k a0 a1 t119 t120 false))) = some r := H
    have A6 := Aside0.mk A60
    clear A60
    have HC7 := Aside0.mk H
    clear H
    go_enter Tryd.func4, Tryd.ntmps4
    go_upto_region 6 with (first | ((with_reducible refine gate_callee (f := 8) rfl ?_); refine goesL_ (some 11) rfl rfl Tryd.func8 (by kernel_rfl) rfl #[] rfl (by (try simp only [List.map_toArray, List.map_cons, List.map_nil]); first | done | rfl | (simp only [List.length_drop, List.length_take]; rfl)) ?_; (with_reducible refine (racewaylaw2_shown.calls  true _ A3.out (LaidG.below hG (by repeat (first | (with_reducible first | exact HB.out | apply below_alloc | apply pw_below_drewN | apply below_drew1) | exact HB.out)))).mono ?_); rintro e w8 ⟨rfl, hb⟩; refine ⟨_, rfl, ?_⟩; have n0_ := Aside0.mk (below_step (by repeat (first | (with_reducible first | exact HB.out | apply below_alloc | apply pw_below_drewN | apply below_drew1) | exact HB.out)) hb); clear HB; have HB := n0_; clear n0_; (try clear hb); (try clear hb2); (try clear hk); (try clear hi)) | ((with_reducible refine gate_callee (f := 10) rfl ?_); refine goesL_ (some 15) rfl rfl Tryd.func10 (by kernel_rfl) rfl #[.int .i64 a0] rfl (by (try simp only [List.map_toArray, List.map_cons, List.map_nil]); first | done | rfl | (simp only [List.length_drop, List.length_take]; rfl)) ?_; (with_reducible refine (text_Write.calls a0 t119 _ A5.out (LaidG.below hG (by repeat (first | (with_reducible first | exact HB.out | apply below_alloc | apply pw_below_drewN | apply below_drew1) | exact HB.out)))).mono ?_); rintro e w9 ⟨rfl, hb⟩; refine ⟨_, rfl, ?_⟩; have n0_ := Aside0.mk (below_step (by repeat (first | (with_reducible first | exact HB.out | apply below_alloc | apply pw_below_drewN | apply below_drew1) | exact HB.out)) hb); clear HB; have HB := n0_; clear n0_; (try clear hb); (try clear hb2); (try clear hk); (try clear hi)) | ((with_reducible refine gate_callee (f := 10) rfl ?_); refine goesL_ (some 17) rfl rfl Tryd.func10 (by kernel_rfl) rfl #[.int .i64 a1] rfl (by (try simp only [List.map_toArray, List.map_cons, List.map_nil]); first | done | rfl | (simp only [List.length_drop, List.length_take]; rfl)) ?_; (with_reducible refine (text_Write.calls a1 t120 _ A6.out (LaidG.below hG (by repeat (first | (with_reducible first | exact HB.out | apply below_alloc | apply pw_below_drewN | apply below_drew1) | exact HB.out)))).mono ?_); rintro e w10 ⟨rfl, hb⟩; refine ⟨_, rfl, ?_⟩; have n0_ := Aside0.mk (below_step (by repeat (first | (with_reducible first | exact HB.out | apply below_alloc | apply pw_below_drewN | apply below_drew1) | exact HB.out)) hb); clear HB; have HB := n0_; clear n0_; (try clear hb); (try clear hb2); (try clear hk); (try clear hi)))
    (try simp only [Act.put, List.setIfInBounds_toArray, List.set_cons_zero, List.set_cons_succ])
    go_cut [47] (fun v47 wc => ∃ (kq : Nat) (x47_6 : Bool), v47 = .bool x47_6 ∧ Aside0 (racewaylaw2_TextCounts.j0 kq a0 a1 t119 t120 x47_6 = some r) ∧ Aside0 (kq ≤ k) ∧ Aside0 (Below w.heap.size w wc))
    case first =>
      have H := HC7.out
      clear HC7
      by_cases c11 : a0 ≥ 0
      · rw [if_pos c11] at H
        have c11b0 : decide (0 ≤ a0) = true := decide_eq_true c11
        clear c11
        (first | rw [c11b0] | (simp only [i64_w, i32_w]; rw [c11b0]) | skip)
        by_cases c12 : a1 ≥ a0
        · rw [if_pos c12] at H
          have c12b0 : decide (a0 ≤ a1) = true := decide_eq_true c12
          clear c12
          by_cases c13 : (t120.size : Int) < (t119.size : Int)
          · rw [if_pos c13] at H
            have c13b0 : decide ((t120.size : Int) < (t119.size : Int)) = true := decide_eq_true c13
            have c13b1 : decide (t120.size < t119.size) = true := decide_eq_true (Int.ofNat_lt.mp c13)
            clear c13
            have H' := Aside0.mk H
            clear H
            go_wp2
            go_meet
            case rel => exact ⟨_, (true), (by first | rfl | (simp; done) | (simp [*]; done)), H', ⟨by first | omega | exact Nat.le_refl _⟩, ⟨by repeat (first | (with_reducible first | exact HB.out | apply below_alloc | apply pw_below_drewN | apply below_drew1) | exact HB.out)⟩⟩
          · rw [if_neg c13] at H
            have c13b0 : decide ((t120.size : Int) < (t119.size : Int)) = false := decide_eq_false c13
            have c13b1 : decide (t120.size < t119.size) = false := decide_eq_false (fun h => c13 (Int.ofNat_lt.mpr h))
            clear c13
            by_cases c14 : a0 < 0
            · rw [if_pos c14] at H
              have c14b0 : decide (a0 < 0) = true := decide_eq_true c14
              clear c14
              by_cases c15 : a1 ≤ a0
              · rw [if_pos c15] at H
                have c15b0 : decide (a1 ≤ a0) = true := decide_eq_true c15
                clear c15
                have H' := Aside0.mk H
                clear H
                go_wp2
                go_meet
                case rel => exact ⟨_, (decide ((t120.size : Int) < (t119.size : Int))), (by first | rfl | (simp; done) | (simp [*]; done)), H', ⟨by first | omega | exact Nat.le_refl _⟩, ⟨by repeat (first | (with_reducible first | exact HB.out | apply below_alloc | apply pw_below_drewN | apply below_drew1) | exact HB.out)⟩⟩
              · rw [if_neg c15] at H
                have c15b0 : decide (a1 ≤ a0) = false := decide_eq_false c15
                clear c15
                have H' := Aside0.mk H
                clear H
                go_wp2
                go_meet
                case rel => exact ⟨_, (false), (by first | rfl | (simp; done) | (simp [*]; done)), H', ⟨by first | omega | exact Nat.le_refl _⟩, ⟨by repeat (first | (with_reducible first | exact HB.out | apply below_alloc | apply pw_below_drewN | apply below_drew1) | exact HB.out)⟩⟩
            · rw [if_neg c14] at H
              have c14b0 : decide (a0 < 0) = false := decide_eq_false c14
              clear c14
              have H' := Aside0.mk H
              clear H
              go_wp2
              go_meet
              case rel => exact ⟨_, (false), (by first | rfl | (simp; done) | (simp [*]; done)), H', ⟨by first | omega | exact Nat.le_refl _⟩, ⟨by repeat (first | (with_reducible first | exact HB.out | apply below_alloc | apply pw_below_drewN | apply below_drew1) | exact HB.out)⟩⟩
        · rw [if_neg c12] at H
          have c12b0 : decide (a0 ≤ a1) = false := decide_eq_false c12
          clear c12
          by_cases c16 : a0 < 0
          · rw [if_pos c16] at H
            have c16b0 : decide (a0 < 0) = true := decide_eq_true c16
            clear c16
            by_cases c17 : a1 ≤ a0
            · rw [if_pos c17] at H
              have c17b0 : decide (a1 ≤ a0) = true := decide_eq_true c17
              clear c17
              have H' := Aside0.mk H
              clear H
              go_wp2
              go_meet
              case rel => exact ⟨_, (decide ((t120.size : Int) < (t119.size : Int))), (by first | rfl | (simp; done) | (simp [*]; done)), H', ⟨by first | omega | exact Nat.le_refl _⟩, ⟨by repeat (first | (with_reducible first | exact HB.out | apply below_alloc | apply pw_below_drewN | apply below_drew1) | exact HB.out)⟩⟩
            · rw [if_neg c17] at H
              have c17b0 : decide (a1 ≤ a0) = false := decide_eq_false c17
              clear c17
              have H' := Aside0.mk H
              clear H
              go_wp2
              go_meet
              case rel => exact ⟨_, (false), (by first | rfl | (simp; done) | (simp [*]; done)), H', ⟨by first | omega | exact Nat.le_refl _⟩, ⟨by repeat (first | (with_reducible first | exact HB.out | apply below_alloc | apply pw_below_drewN | apply below_drew1) | exact HB.out)⟩⟩
          · rw [if_neg c16] at H
            have c16b0 : decide (a0 < 0) = false := decide_eq_false c16
            clear c16
            have H' := Aside0.mk H
            clear H
            go_wp2
            go_meet
            case rel => exact ⟨_, (false), (by first | rfl | (simp; done) | (simp [*]; done)), H', ⟨by first | omega | exact Nat.le_refl _⟩, ⟨by repeat (first | (with_reducible first | exact HB.out | apply below_alloc | apply pw_below_drewN | apply below_drew1) | exact HB.out)⟩⟩
      · rw [if_neg c11] at H
        have c11b0 : decide (0 ≤ a0) = false := decide_eq_false c11
        clear c11
        (first | rw [c11b0] | (simp only [i64_w, i32_w]; rw [c11b0]) | skip)
        by_cases c18 : a0 < 0
        · rw [if_pos c18] at H
          have c18b0 : decide (a0 < 0) = true := decide_eq_true c18
          clear c18
          by_cases c19 : a1 ≤ a0
          · rw [if_pos c19] at H
            have c19b0 : decide (a1 ≤ a0) = true := decide_eq_true c19
            clear c19
            have H' := Aside0.mk H
            clear H
            go_wp2
            go_meet
            case rel => exact ⟨_, (decide ((t120.size : Int) < (t119.size : Int))), (by first | rfl | (simp; done) | (simp [*]; done)), H', ⟨by first | omega | exact Nat.le_refl _⟩, ⟨by repeat (first | (with_reducible first | exact HB.out | apply below_alloc | apply pw_below_drewN | apply below_drew1) | exact HB.out)⟩⟩
          · rw [if_neg c19] at H
            have c19b0 : decide (a1 ≤ a0) = false := decide_eq_false c19
            clear c19
            have H' := Aside0.mk H
            clear H
            go_wp2
            go_meet
            case rel => exact ⟨_, (false), (by first | rfl | (simp; done) | (simp [*]; done)), H', ⟨by first | omega | exact Nat.le_refl _⟩, ⟨by repeat (first | (with_reducible first | exact HB.out | apply below_alloc | apply pw_below_drewN | apply below_drew1) | exact HB.out)⟩⟩
        · rw [if_neg c18] at H
          have c18b0 : decide (a0 < 0) = false := decide_eq_false c18
          clear c18
          have H' := Aside0.mk H
          clear H
          go_wp2
          go_meet
          case rel => exact ⟨_, (false), (by first | rfl | (simp; done) | (simp [*]; done)), H', ⟨by first | omega | exact Nat.le_refl _⟩, ⟨by repeat (first | (with_reducible first | exact HB.out | apply below_alloc | apply pw_below_drewN | apply below_drew1) | exact HB.out)⟩⟩
    case rest =>
      clear HC7
      try clear c1
      try clear p2
      try clear c4
      try clear c8
      try clear c10
      try clear c11
      try clear c11b0
      try clear c12
      try clear c12b0
      try clear c13
      try clear c13b0
      try clear c13b1
      try clear c14
      try clear c14b0
      try clear c15
      try clear c15b0
      try clear c16
      try clear c16b0
      try clear c17
      try clear c17b0
      try clear c18
      try clear c18b0
      try clear c19
      try clear c19b0
      obtain ⟨kq, x47_6, rfl, HA, HJ6, HB⟩ := hcut
      cases kq with
      | zero => exact absurd HA.out (by simp [racewaylaw2_TextCounts.j0])
      | succ kj6 =>
        as_aux_lemma =>
          have H := HA.out
          clear HA
          simp only [racewaylaw2_TextCounts.j0] at H
          by_cases c20 : x47_6 = true
          · subst c20
            have H1 : (some false) = some r := by rw [if_pos rfl] at H; exact H
            clear H
            have H := H1
            clear H1
            obtain rfl := Option.some.inj H
            go_wp2
            go_ret
            exact ⟨by first | rfl | (simp [errW_none, errW_some] <;> rfl) | (simp [*, errW_none, errW_some] <;> rfl), by repeat (first | (with_reducible first | exact HB.out | apply below_alloc | apply pw_below_drewN | apply below_drew1) | exact HB.out)⟩
          · replace c20 := Bool.eq_false_iff.mpr c20
            subst c20
            have H1 : (if a0 < 0 then (racewaylaw2_TextCounts.j1 kj6 a0 a1 t119 t120 0 1) else (racewaylaw2_TextCounts.j1 kj6 a0 a1 t119 t120 0 0)) = some r := by rw [if_neg (show ¬ (false = true) by decide)] at H; exact H
            clear H
            have H := H1
            clear H1
            have HC21 := Aside0.mk H
            clear H
            go_upto_if 49 with (fail)
            go_cut [9] (fun v9 wc => ∃ (kq : Nat) (x9_20 : Int), v9 = .int .i64 x9_20 ∧ Aside0 (racewaylaw2_TextCounts.j1 kq a0 a1 t119 t120 0 x9_20 = some r) ∧ Aside0 (kq ≤ kj6) ∧ Aside0 (Below w.heap.size w wc))
            case first =>
              have H := HC21.out
              clear HC21
              by_cases c22 : a0 < 0
              · rw [if_pos c22] at H
                have c22b0 : decide (a0 < 0) = true := decide_eq_true c22
                clear c22
                (first | rw [c22b0] | (simp only [i64_w, i32_w]; rw [c22b0]) | skip)
                have H' := Aside0.mk H
                clear H
                go_wp2
                go_meet
                case rel => exact ⟨_, (1), (by first | rfl | (simp; done) | (simp [*]; done)), H', ⟨by have := HJ6.out; first | omega | exact Nat.le_refl _⟩, ⟨by repeat (first | (with_reducible first | exact HB.out | apply below_alloc | apply pw_below_drewN | apply below_drew1) | exact HB.out)⟩⟩
              · rw [if_neg c22] at H
                have c22b0 : decide (a0 < 0) = false := decide_eq_false c22
                clear c22
                (first | rw [c22b0] | (simp only [i64_w, i32_w]; rw [c22b0]) | skip)
                have H' := Aside0.mk H
                clear H
                go_wp2
                go_meet
                case rel => exact ⟨_, (0), (by first | rfl | (simp; done) | (simp [*]; done)), H', ⟨by have := HJ6.out; first | omega | exact Nat.le_refl _⟩, ⟨by repeat (first | (with_reducible first | exact HB.out | apply below_alloc | apply pw_below_drewN | apply below_drew1) | exact HB.out)⟩⟩
            case rest =>
              clear HC21
              try clear c1
              try clear c2
              try clear p2
              try clear c4
              try clear c8
              try clear c10
              try clear c11
              try clear c11b0
              try clear c12
              try clear c12b0
              try clear c13
              try clear c13b0
              try clear c13b1
              try clear c14
              try clear c14b0
              try clear c15
              try clear c15b0
              try clear c16
              try clear c16b0
              try clear c17
              try clear c17b0
              try clear c18
              try clear c18b0
              try clear c19
              try clear c19b0
              try clear c20
              try clear c22
              try clear c22b0
              try clear p2
              obtain ⟨kq, x9_20, rfl, HA, HJ20, HB⟩ := hcut
              cases kq with
              | zero => exact absurd HA.out (by simp [racewaylaw2_TextCounts.j1])
              | succ kj20 =>
                as_aux_lemma =>
                  have H := HA.out
                  clear HA
                  simp only [racewaylaw2_TextCounts.j1] at H
                  have H' := Aside0.mk H
                  clear H
                  go_wp2
                  go_loopg [8, 10] kj20 (fun kq v8 v10 w' => ∃ (x8_3 : Int) (x10_3 : Int), v8 = .int .i64 x8_3 ∧ v10 = .int .i64 x10_3 ∧ Aside0 (racewaylaw2_TextCounts.l0 kq a0 a1 t119 t120 x8_3 x9_20 x10_3 = some r) ∧ Aside0 (kq ≤ kj20) ∧ Aside0 (Below w.heap.size w w'))
                  case atStart => exact ⟨(0), (x9_20), (by first | rfl | (simp; done) | (simp [*]; done)), (by first | rfl | (simp; done) | (simp [*]; done)), H', ⟨Nat.le_refl _⟩, ⟨by repeat (first | (with_reducible first | exact HB.out | apply below_alloc | apply pw_below_drewN | apply below_drew1) | exact HB.out)⟩⟩
                  case round =>
                    clear H'
                    try clear c1
                    try clear c2
                    try clear p2
                    try clear c4
                    try clear c8
                    try clear c10
                    try clear c11
                    try clear c11b0
                    try clear c12
                    try clear c12b0
                    try clear c13
                    try clear c13b0
                    try clear c13b1
                    try clear c14
                    try clear c14b0
                    try clear c15
                    try clear c15b0
                    try clear c16
                    try clear c16b0
                    try clear c17
                    try clear c17b0
                    try clear c18
                    try clear c18b0
                    try clear c19
                    try clear c19b0
                    try clear c20
                    try clear c22
                    try clear c22b0
                    try clear p2
                    obtain ⟨x8_3, x10_3, rfl, rfl, HA, HK3, HB⟩ := hrel
                    cases gk with
                    | zero => exact absurd HA.out (by simp [racewaylaw2_TextCounts.l0])
                    | succ k3 =>
                      as_aux_lemma =>
                        have H := HA.out
                        clear HA
                        simp only [racewaylaw2_TextCounts.l0] at H
                        by_cases c23 : x10_3 < (t119.size : Int)
                        · rw [if_pos c23] at H
                          have c23b0 : decide (x10_3 < (t119.size : Int)) = true := decide_eq_true c23
                          clear c23
                          have HC24 := Aside0.mk H
                          clear H
                          go_upto_region 15 with (fail)
                          go_cut [66] (fun v66 wc => ∃ (kq : Nat) (x66_23 : Bool), v66 = .bool x66_23 ∧ Aside0 (racewaylaw2_TextCounts.j3 kq a0 a1 t119 t120 x8_3 x9_20 x10_3 x66_23 = some r) ∧ Aside0 (kq ≤ k3) ∧ Aside0 (Below w.heap.size w wc))
                          case first =>
                            have H := HC24.out
                            clear HC24
                            by_cases c25 : 0 ≤ x10_3
                            · rw [if_pos c25] at H
                              have c25b0 : decide (0 ≤ x10_3) = true := decide_eq_true c25
                              clear c25
                              (first | rw [c25b0] | (simp only [i64_w, i32_w]; rw [c25b0]) | skip)
                              by_cases c27 : (bt t119 x10_3) < 48
                              · rw [if_pos c27] at H
                                have c27b0 : decide ((bt t119 x10_3) < 48) = true := decide_eq_true c27
                                clear c27
                                have H' := Aside0.mk H
                                clear H
                                have p26 : 0 ≤ (x10_3 : Int) := of_decide_eq_true (by first | (with_reducible assumption) | assumption)
                                have q26 : x10_3 < (t119.size : Int) := of_decide_eq_true (by first | (with_reducible assumption) | assumption)
                                have hx26 := bt_at t119 x10_3
                                replace p26 := eq_true p26
                                replace q26 := eq_true q26
                                go_wp2
                                go_meet
                                case rel => exact ⟨_, (true), (by first | rfl | (simp; done) | (simp [*]; done)), H', ⟨by have := HJ6.out; have := HJ20.out; have := HK3.out; first | omega | exact Nat.le_refl _⟩, ⟨by repeat (first | (with_reducible first | exact HB.out | apply below_alloc | apply pw_below_drewN | apply below_drew1) | exact HB.out)⟩⟩
                              · rw [if_neg c27] at H
                                have c27b0 : decide ((bt t119 x10_3) < 48) = false := decide_eq_false c27
                                clear c27
                                have H' := Aside0.mk H
                                clear H
                                have p26 : 0 ≤ (x10_3 : Int) := of_decide_eq_true (by first | (with_reducible assumption) | assumption)
                                have q26 : x10_3 < (t119.size : Int) := of_decide_eq_true (by first | (with_reducible assumption) | assumption)
                                have hx26 := bt_at t119 x10_3
                                replace p26 := eq_true p26
                                replace q26 := eq_true q26
                                have p28 : 0 ≤ (x10_3 : Int) := of_decide_eq_true (by first | (with_reducible assumption) | assumption)
                                have q28 : x10_3 < (t119.size : Int) := of_decide_eq_true (by first | (with_reducible assumption) | assumption)
                                have hx28 := bt_at t119 x10_3
                                replace p28 := eq_true p28
                                replace q28 := eq_true q28
                                go_wp2
                                go_meet
                                case rel => exact ⟨_, (decide ((bt t119 x10_3) > 57)), (by first | rfl | (simp; done) | (simp [*]; done)), H', ⟨by have := HJ6.out; have := HJ20.out; have := HK3.out; first | omega | exact Nat.le_refl _⟩, ⟨by repeat (first | (with_reducible first | exact HB.out | apply below_alloc | apply pw_below_drewN | apply below_drew1) | exact HB.out)⟩⟩
                            · rw [if_neg c25] at H
                              exact absurd H (by simp)
                          case rest =>
                            clear HC24
                            try clear c1
                            try clear c2
                            try clear p2
                            try clear q2
                            try clear hx2
                            try clear c4
                            try clear c8
                            try clear c10
                            try clear c11
                            try clear c11b0
                            try clear c12
                            try clear c12b0
                            try clear c13
                            try clear c13b0
                            try clear c13b1
                            try clear c14
                            try clear c14b0
                            try clear c15
                            try clear c15b0
                            try clear c16
                            try clear c16b0
                            try clear c17
                            try clear c17b0
                            try clear c18
                            try clear c18b0
                            try clear c19
                            try clear c19b0
                            try clear c20
                            try clear c22
                            try clear c22b0
                            try clear c23
                            try clear c23b0
                            try clear c25
                            try clear c25b0
                            try clear p26
                            try clear q26
                            try clear hx26
                            try clear c27
                            try clear c27b0
                            try clear p28
                            try clear q28
                            try clear hx28
                            try clear p2
                            try clear p26
                            try clear p28
                            try clear q26
                            try clear q28
                            obtain ⟨kq, x66_23, rfl, HA, HJ23, HB⟩ := hcut
                            cases kq with
                            | zero => exact absurd HA.out (by simp [racewaylaw2_TextCounts.j3])
                            | succ kj23 =>
                              as_aux_lemma =>
                                have H := HA.out
                                clear HA
                                simp only [racewaylaw2_TextCounts.j3] at H
                                by_cases c29 : x66_23 = true
                                · subst c29
                                  have H1 : (some false) = some r := by rw [if_pos rfl] at H; exact H
                                  clear H
                                  have H := H1
                                  clear H1
                                  obtain rfl := Option.some.inj H
                                  go_wp2
                                  go_ret
                                  exact ⟨by first | rfl | (simp [errW_none, errW_some] <;> rfl) | (simp [*, errW_none, errW_some] <;> rfl), by repeat (first | (with_reducible first | exact HB.out | apply below_alloc | apply pw_below_drewN | apply below_drew1) | exact HB.out)⟩
                                · replace c29 := Bool.eq_false_iff.mpr c29
                                  subst c29
                                  have H1 : (if a0 < 0 then (if 0 ≤ x10_3 then (if x10_3 < (t119.size : Int) then (racewaylaw2_TextCounts.l0 kj23 a0 a1 t119 t120 (wrap64 ((wrap64 (10 * x8_3)) - (((bt t119 x10_3) - 48) % 256))) x9_20 (wrap64 (x10_3 + 1))) else (none)) else (none)) else (if 0 ≤ x10_3 then (if x10_3 < (t119.size : Int) then (racewaylaw2_TextCounts.l0 kj23 a0 a1 t119 t120 (wrap64 ((wrap64 (10 * x8_3)) + (((bt t119 x10_3) - 48) % 256))) x9_20 (wrap64 (x10_3 + 1))) else (none)) else (none))) = some r := by rw [if_neg (show ¬ (false = true) by decide)] at H; exact H
                                  clear H
                                  have H := H1
                                  clear H1
                                  by_cases c30 : a0 < 0
                                  · rw [if_pos c30] at H
                                    have c30b0 : decide (a0 < 0) = true := decide_eq_true c30
                                    clear c30
                                    by_cases c31 : 0 ≤ x10_3
                                    · rw [if_pos c31] at H
                                      have c31b0 : decide (0 ≤ x10_3) = true := decide_eq_true c31
                                      clear c31
                                      by_cases c32 : x10_3 < (t119.size : Int)
                                      · rw [if_pos c32] at H
                                        have c32b0 : decide (x10_3 < (t119.size : Int)) = true := decide_eq_true c32
                                        clear c32
                                        have H' := Aside0.mk H
                                        clear H
                                        have p33 : 0 ≤ (x10_3 : Int) := of_decide_eq_true (by first | (with_reducible assumption) | assumption)
                                        have q33 : x10_3 < (t119.size : Int) := of_decide_eq_true (by first | (with_reducible assumption) | assumption)
                                        have hx33 := bt_at t119 x10_3
                                        replace p33 := eq_true p33
                                        replace q33 := eq_true q33
                                        go_wp2
                                        go_roundg kj23
                                        case measure => have := HJ6.out; have := HJ20.out; have := HK3.out; have := HJ23.out; omega
                                        case rel => exact ⟨(wrap64 ((wrap64 (10 * x8_3)) - (((bt t119 x10_3) - 48) % 256))), (wrap64 (x10_3 + 1)), (by first | rfl | (simp; done) | (simp [*]; done)), (by first | rfl | (simp; done) | (simp [*]; done)), H', ⟨by have := HJ6.out; have := HJ20.out; have := HK3.out; have := HJ23.out; omega⟩, ⟨by repeat (first | (with_reducible first | exact HB.out | apply below_alloc | apply pw_below_drewN | apply below_drew1) | exact HB.out)⟩⟩
                                      · rw [if_neg c32] at H
                                        exact absurd H (by simp)
                                    · rw [if_neg c31] at H
                                      exact absurd H (by simp)
                                  · rw [if_neg c30] at H
                                    have c30b0 : decide (a0 < 0) = false := decide_eq_false c30
                                    clear c30
                                    by_cases c34 : 0 ≤ x10_3
                                    · rw [if_pos c34] at H
                                      have c34b0 : decide (0 ≤ x10_3) = true := decide_eq_true c34
                                      clear c34
                                      by_cases c35 : x10_3 < (t119.size : Int)
                                      · rw [if_pos c35] at H
                                        have c35b0 : decide (x10_3 < (t119.size : Int)) = true := decide_eq_true c35
                                        clear c35
                                        have H' := Aside0.mk H
                                        clear H
                                        have p36 : 0 ≤ (x10_3 : Int) := of_decide_eq_true (by first | (with_reducible assumption) | assumption)
                                        have q36 : x10_3 < (t119.size : Int) := of_decide_eq_true (by first | (with_reducible assumption) | assumption)
                                        have hx36 := bt_at t119 x10_3
                                        replace p36 := eq_true p36
                                        replace q36 := eq_true q36
                                        go_wp2
                                        go_roundg kj23
                                        case measure => have := HJ6.out; have := HJ20.out; have := HK3.out; have := HJ23.out; omega
                                        case rel => exact ⟨(wrap64 ((wrap64 (10 * x8_3)) + (((bt t119 x10_3) - 48) % 256))), (wrap64 (x10_3 + 1)), (by first | rfl | (simp; done) | (simp [*]; done)), (by first | rfl | (simp; done) | (simp [*]; done)), H', ⟨by have := HJ6.out; have := HJ20.out; have := HK3.out; have := HJ23.out; omega⟩, ⟨by repeat (first | (with_reducible first | exact HB.out | apply below_alloc | apply pw_below_drewN | apply below_drew1) | exact HB.out)⟩⟩
                                      · rw [if_neg c35] at H
                                        exact absurd H (by simp)
                                    · rw [if_neg c34] at H
                                      exact absurd H (by simp)
                        · rw [if_neg c23] at H
                          have c23b0 : decide (x10_3 < (t119.size : Int)) = false := decide_eq_false c23
                          clear c23
                          by_cases c37 : x8_3 = a0
                          · rw [if_pos c37] at H
                            have c37b0 : (x8_3 == a0) = true := beq_iff_eq.mpr c37
                            have c37b1 : (x8_3 != a0) = false := bne_eq_false_iff_eq.mpr c37
                            clear c37
                            by_cases c38 : (t119.size : Int) > x9_20
                            · rw [if_pos c38] at H
                              have c38b0 : decide (x9_20 < (t119.size : Int)) = true := decide_eq_true c38
                              clear c38
                              by_cases c39 : (t119.size : Int) = (wrap64 (x9_20 + 1))
                              · rw [if_pos c39] at H
                                have c39b0 : ((t119.size : Int) == (wrap64 (x9_20 + 1))) = true := beq_iff_eq.mpr c39
                                have c39b1 : ((t119.size : Int) != (wrap64 (x9_20 + 1))) = false := bne_eq_false_iff_eq.mpr c39
                                clear c39
                                by_cases c40 : a0 ≥ 0
                                · rw [if_pos c40] at H
                                  have c40b0 : decide (0 ≤ a0) = true := decide_eq_true c40
                                  clear c40
                                  obtain ⟨y121, hy121⟩ : ∃ y_ : List ByteArray, y_ = (([t119, t120] : List ByteArray)) := ⟨_, rfl⟩
                                  replace H : ((text_Join.f y121).bind fun t124 => (if t119.size + 1 ≤ 9223372036854775807 then (if (t119 ++ (⟨#[32]⟩ : ByteArray)).size + t120.size ≤ 9223372036854775807 then (if t124.toList = ((t119 ++ (⟨#[32]⟩ : ByteArray)) ++ t120).toList then (some ((t119.toList == t120.toList) == (a0 == a1))) else (some false)) else (none)) else (none))) = some r := by first | (rw [hy121]; with_reducible exact H) | (have H2_ := (Option.bind_some _ _).symm.trans H; rw [hy121]; with_reducible exact H2_) | (have H2_ := (Option.bind_some _ _).symm.trans H; with_reducible exact H2_) | with_reducible exact H | (rw [hy121]; exact H) | exact H
                                  have Ny121 := Aside0.mk hy121
                                  clear hy121
                                  replace H := Option.bind_eq_some_iff.mp H
                                  obtain ⟨t124, A410, H⟩ := H
                                  replace H : (if t119.size + 1 ≤ 9223372036854775807 then (if (t119 ++ (⟨#[32]⟩ : ByteArray)).size + t120.size ≤ 9223372036854775807 then (if t124.toList = ((t119 ++ (⟨#[32]⟩ : ByteArray)) ++ t120).toList then (some ((t119.toList == t120.toList) == (a0 == a1))) else (some false)) else (none)) else (none)) = some r := H
                                  have A41 := Aside0.mk A410
                                  clear A410
                                  by_cases c42 : t119.size + 1 ≤ 9223372036854775807
                                  · rw [if_pos c42] at H
                                    have c42b0 := eq_true c42
                                    have c42b1 : decide (t119.size + 1 ≤ 9223372036854775807) = true := decide_eq_true c42
                                    try have c42b2 : (9223372036854775807 < t119.size + 1) = False := eq_false (Nat.not_lt.2 c42)
                                    by_cases c43 : (t119 ++ (⟨#[32]⟩ : ByteArray)).size + t120.size ≤ 9223372036854775807
                                    · rw [if_pos c43] at H
                                      have c43b0 := eq_true c43
                                      have c43b1 : decide ((t119 ++ (⟨#[32]⟩ : ByteArray)).size + t120.size ≤ 9223372036854775807) = true := decide_eq_true c43
                                      try have c43b2 : (9223372036854775807 < (t119 ++ (⟨#[32]⟩ : ByteArray)).size + t120.size) = False := eq_false (Nat.not_lt.2 c43)
                                      (try (have c43b3 := c43; simp only [ByteArray.size_append] at c43b3; have c43b4 := eq_true c43b3))
                                      by_cases c44 : t124.toList = ((t119 ++ (⟨#[32]⟩ : ByteArray)) ++ t120).toList
                                      · rw [if_pos c44] at H
                                        have c44b0 : (t124.toList == ((t119 ++ (⟨#[32]⟩ : ByteArray)) ++ t120).toList) = true := beq_iff_eq.mpr c44
                                        have c44b1 : (t124.toList != ((t119 ++ (⟨#[32]⟩ : ByteArray)) ++ t120).toList) = false := bne_eq_false_iff_eq.mpr c44
                                        clear c44
                                        obtain rfl := Option.some.inj H
                                        go_wp2_with (first | ((with_reducible refine gate_dst (N := 119) rfl ?_); (try (refine gate_guard (by rfl) ?_; dsimp only)); refine Kd.R_lit Kd.string _ 9 ?hg (N := 119) ?hd (xs := ([t119, t120] : List ByteArray)) (inner := [.string t119, .string t120]) (ok := fun _ => True) (okp := fun _ => True) ?hr ?hp (fun _ hk => hk) trivial (Below.refl _ _) (Nat.le_refl _) (by simp) ?_; (case hd => rfl); (case hg => rfl); (case hr => first | (go_simp; done) | (go_simp; rfl)); (case hp => exact (Reps.one (show Kd.M Kd.string _ _ _ t119 [.string t119] from rfl) (Reps.one (show Kd.M Kd.string _ _ _ t120 [.string t120] from rfl) (Reps.none _ _)))); intro v122 w45 ho46 hb hg_ hnew_; clear hg_ hnew_; (first | rw [← Ny121.out] at ho46 | (simp only [Int.reduceToNat] at ho46; rw [← Ny121.out] at ho46)); have n0_ := Aside0.mk (Kd.R_lower ho46 (below_size (by repeat (first | (with_reducible first | exact HB.out | apply below_alloc | apply pw_below_drewN | apply below_drew1) | exact HB.out)))); have n1_ := Aside0.mk (below_step (by repeat (first | (with_reducible first | exact HB.out | apply below_alloc | apply pw_below_drewN | apply below_drew1) | exact HB.out)) hb); clear HB; have HO123 := n0_; have HB := n1_; clear n0_ n1_; clear hb ho46; obtain ⟨Ao47, co47, eo47⟩ := Kd.R_slice HO123.out; subst eo47) | (go_at_call 11; (with_reducible refine (text_Join.calls _ _ y121 t124 _ ?side1 ?side2 A41.out).mono ?_); (case side1 => repeat (first | exact (Kd.R_reads' HO123.out).2.2 | (with_reducible refine Kd.C_alloc ?_ _) | (with_reducible refine Kd.C_drewN ?_ _) | (with_reducible refine Kd.C_drew ?_))); (case side2 => exact (Kd.R_reads' HO123.out).2.1); rintro e w48 ⟨rfl, hb⟩; have n0_ := Aside0.mk (Kd.R_below (by (with_reducible repeat (first | apply Kd.R_alloc | apply Kd.R_drewN | apply Kd.R_drew)); exact HO123.out) hb); have n1_ := Aside0.mk (below_step (by repeat (first | (with_reducible first | exact HB.out | apply below_alloc | apply pw_below_drewN | apply below_drew1) | exact HB.out)) hb); clear HO123; clear HB; have HO123 := n0_; have HB := n1_; clear n0_ n1_; (try clear hb); (try clear hb2); (try clear hk); (try clear hi)))
                                        go_ret
                                        exact ⟨by first | rfl | (simp [errW_none, errW_some] <;> rfl) | (simp [*, errW_none, errW_some] <;> rfl), by repeat (first | (with_reducible first | exact HB.out | apply below_alloc | apply pw_below_drewN | apply below_drew1) | exact HB.out)⟩
                                      · rw [if_neg c44] at H
                                        have c44b0 : (t124.toList == ((t119 ++ (⟨#[32]⟩ : ByteArray)) ++ t120).toList) = false := beq_eq_false_iff_ne.mpr c44
                                        have c44b1 : (t124.toList != ((t119 ++ (⟨#[32]⟩ : ByteArray)) ++ t120).toList) = true := bne_iff_ne.mpr c44
                                        obtain rfl := Option.some.inj H
                                        go_wp2_with (first | ((with_reducible refine gate_dst (N := 119) rfl ?_); (try (refine gate_guard (by rfl) ?_; dsimp only)); refine Kd.R_lit Kd.string _ 9 ?hg (N := 119) ?hd (xs := ([t119, t120] : List ByteArray)) (inner := [.string t119, .string t120]) (ok := fun _ => True) (okp := fun _ => True) ?hr ?hp (fun _ hk => hk) trivial (Below.refl _ _) (Nat.le_refl _) (by simp) ?_; (case hd => rfl); (case hg => rfl); (case hr => first | (go_simp; done) | (go_simp; rfl)); (case hp => exact (Reps.one (show Kd.M Kd.string _ _ _ t119 [.string t119] from rfl) (Reps.one (show Kd.M Kd.string _ _ _ t120 [.string t120] from rfl) (Reps.none _ _)))); intro v122 w49 ho50 hb hg_ hnew_; clear hg_ hnew_; (first | rw [← Ny121.out] at ho50 | (simp only [Int.reduceToNat] at ho50; rw [← Ny121.out] at ho50)); have n0_ := Aside0.mk (Kd.R_lower ho50 (below_size (by repeat (first | (with_reducible first | exact HB.out | apply below_alloc | apply pw_below_drewN | apply below_drew1) | exact HB.out)))); have n1_ := Aside0.mk (below_step (by repeat (first | (with_reducible first | exact HB.out | apply below_alloc | apply pw_below_drewN | apply below_drew1) | exact HB.out)) hb); clear HB; have HO123 := n0_; have HB := n1_; clear n0_ n1_; clear hb ho50; obtain ⟨Ao51, co51, eo51⟩ := Kd.R_slice HO123.out; subst eo51) | (go_at_call 11; (with_reducible refine (text_Join.calls _ _ y121 t124 _ ?side1 ?side2 A41.out).mono ?_); (case side1 => repeat (first | exact (Kd.R_reads' HO123.out).2.2 | (with_reducible refine Kd.C_alloc ?_ _) | (with_reducible refine Kd.C_drewN ?_ _) | (with_reducible refine Kd.C_drew ?_))); (case side2 => exact (Kd.R_reads' HO123.out).2.1); rintro e w52 ⟨rfl, hb⟩; have n0_ := Aside0.mk (Kd.R_below (by (with_reducible repeat (first | apply Kd.R_alloc | apply Kd.R_drewN | apply Kd.R_drew)); exact HO123.out) hb); have n1_ := Aside0.mk (below_step (by repeat (first | (with_reducible first | exact HB.out | apply below_alloc | apply pw_below_drewN | apply below_drew1) | exact HB.out)) hb); clear HO123; clear HB; have HO123 := n0_; have HB := n1_; clear n0_ n1_; (try clear hb); (try clear hb2); (try clear hk); (try clear hi)))
                                        go_ret
                                        exact ⟨by first | rfl | (simp [errW_none, errW_some] <;> rfl) | (simp [*, errW_none, errW_some] <;> rfl), by repeat (first | (with_reducible first | exact HB.out | apply below_alloc | apply pw_below_drewN | apply below_drew1) | exact HB.out)⟩
                                    · rw [if_neg c43] at H
                                      exact absurd H (by simp)
                                  · rw [if_neg c42] at H
                                    exact absurd H (by simp)
                                · rw [if_neg c40] at H
                                  have c40b0 : decide (0 ≤ a0) = false := decide_eq_false c40
                                  clear c40
                                  by_cases c53 : 0 < (t119.size : Int)
                                  · rw [if_pos c53] at H
                                    have c53b0 : decide (0 < (t119.size : Int)) = true := decide_eq_true c53
                                    have c53b1 : decide (0 < t119.size) = true := decide_eq_true (by omega)
                                    clear c53
                                    by_cases c55 : (bt t119 0) = 45
                                    · rw [if_pos c55] at H
                                      have c55b0 : ((bt t119 0) == 45) = true := beq_iff_eq.mpr c55
                                      have c55b1 : ((bt t119 0) != 45) = false := bne_eq_false_iff_eq.mpr c55
                                      clear c55
                                      obtain ⟨y125, hy125⟩ : ∃ y_ : List ByteArray, y_ = (([t119, t120] : List ByteArray)) := ⟨_, rfl⟩
                                      replace H : ((text_Join.f y125).bind fun t128 => (if t119.size + 1 ≤ 9223372036854775807 then (if (t119 ++ (⟨#[32]⟩ : ByteArray)).size + t120.size ≤ 9223372036854775807 then (if t128.toList = ((t119 ++ (⟨#[32]⟩ : ByteArray)) ++ t120).toList then (some ((t119.toList == t120.toList) == (a0 == a1))) else (some false)) else (none)) else (none))) = some r := by first | (rw [hy125]; with_reducible exact H) | (have H2_ := (Option.bind_some _ _).symm.trans H; rw [hy125]; with_reducible exact H2_) | (have H2_ := (Option.bind_some _ _).symm.trans H; with_reducible exact H2_) | with_reducible exact H | (rw [hy125]; exact H) | exact H
                                      have Ny125 := Aside0.mk hy125
                                      clear hy125
                                      replace H := Option.bind_eq_some_iff.mp H
                                      obtain ⟨t128, A560, H⟩ := H
                                      replace H : (if t119.size + 1 ≤ 9223372036854775807 then (if (t119 ++ (⟨#[32]⟩ : ByteArray)).size + t120.size ≤ 9223372036854775807 then (if t128.toList = ((t119 ++ (⟨#[32]⟩ : ByteArray)) ++ t120).toList then (some ((t119.toList == t120.toList) == (a0 == a1))) else (some false)) else (none)) else (none)) = some r := H
                                      have A56 := Aside0.mk A560
                                      clear A560
                                      by_cases c57 : t119.size + 1 ≤ 9223372036854775807
                                      · rw [if_pos c57] at H
                                        have c57b0 := eq_true c57
                                        have c57b1 : decide (t119.size + 1 ≤ 9223372036854775807) = true := decide_eq_true c57
                                        try have c57b2 : (9223372036854775807 < t119.size + 1) = False := eq_false (Nat.not_lt.2 c57)
                                        by_cases c58 : (t119 ++ (⟨#[32]⟩ : ByteArray)).size + t120.size ≤ 9223372036854775807
                                        · rw [if_pos c58] at H
                                          have c58b0 := eq_true c58
                                          have c58b1 : decide ((t119 ++ (⟨#[32]⟩ : ByteArray)).size + t120.size ≤ 9223372036854775807) = true := decide_eq_true c58
                                          try have c58b2 : (9223372036854775807 < (t119 ++ (⟨#[32]⟩ : ByteArray)).size + t120.size) = False := eq_false (Nat.not_lt.2 c58)
                                          (try (have c58b3 := c58; simp only [ByteArray.size_append] at c58b3; have c58b4 := eq_true c58b3))
                                          by_cases c59 : t128.toList = ((t119 ++ (⟨#[32]⟩ : ByteArray)) ++ t120).toList
                                          · rw [if_pos c59] at H
                                            have c59b0 : (t128.toList == ((t119 ++ (⟨#[32]⟩ : ByteArray)) ++ t120).toList) = true := beq_iff_eq.mpr c59
                                            have c59b1 : (t128.toList != ((t119 ++ (⟨#[32]⟩ : ByteArray)) ++ t120).toList) = false := bne_eq_false_iff_eq.mpr c59
                                            clear c59
                                            obtain rfl := Option.some.inj H
                                            have p54 : 0 ≤ (0 : Int) := (by omega)
                                            have q54 : 0 < t119.size := (by have : (0 : Int) < (t119.size : Int) := of_decide_eq_true (by first | (with_reducible assumption) | assumption); omega)
                                            have hx54 : ∀ h : 0 < t119.size, ((t119[0]'h).toNat : Int) = bt t119 0 := bt_at t119 0
                                            clear p54
                                            have qi54 : (0 < (t119.size : Int)) = True := eq_true (of_decide_eq_true (by first | (with_reducible assumption) | assumption))
                                            replace q54 := eq_true q54
                                            go_wp2_with (first | ((with_reducible refine gate_dst (N := 119) rfl ?_); (try (refine gate_guard (by rfl) ?_; dsimp only)); refine Kd.R_lit Kd.string _ 9 ?hg (N := 119) ?hd (xs := ([t119, t120] : List ByteArray)) (inner := [.string t119, .string t120]) (ok := fun _ => True) (okp := fun _ => True) ?hr ?hp (fun _ hk => hk) trivial (Below.refl _ _) (Nat.le_refl _) (by simp) ?_; (case hd => rfl); (case hg => rfl); (case hr => first | (go_simp; done) | (go_simp; rfl)); (case hp => exact (Reps.one (show Kd.M Kd.string _ _ _ t119 [.string t119] from rfl) (Reps.one (show Kd.M Kd.string _ _ _ t120 [.string t120] from rfl) (Reps.none _ _)))); intro v126 w60 ho61 hb hg_ hnew_; clear hg_ hnew_; (first | rw [← Ny125.out] at ho61 | (simp only [Int.reduceToNat] at ho61; rw [← Ny125.out] at ho61)); have n0_ := Aside0.mk (Kd.R_lower ho61 (below_size (by repeat (first | (with_reducible first | exact HB.out | apply below_alloc | apply pw_below_drewN | apply below_drew1) | exact HB.out)))); have n1_ := Aside0.mk (below_step (by repeat (first | (with_reducible first | exact HB.out | apply below_alloc | apply pw_below_drewN | apply below_drew1) | exact HB.out)) hb); clear HB; have HO127 := n0_; have HB := n1_; clear n0_ n1_; clear hb ho61; obtain ⟨Ao62, co62, eo62⟩ := Kd.R_slice HO127.out; subst eo62) | (go_at_call 11; (with_reducible refine (text_Join.calls _ _ y125 t128 _ ?side1 ?side2 A56.out).mono ?_); (case side1 => repeat (first | exact (Kd.R_reads' HO127.out).2.2 | (with_reducible refine Kd.C_alloc ?_ _) | (with_reducible refine Kd.C_drewN ?_ _) | (with_reducible refine Kd.C_drew ?_))); (case side2 => exact (Kd.R_reads' HO127.out).2.1); rintro e w63 ⟨rfl, hb⟩; have n0_ := Aside0.mk (Kd.R_below (by (with_reducible repeat (first | apply Kd.R_alloc | apply Kd.R_drewN | apply Kd.R_drew)); exact HO127.out) hb); have n1_ := Aside0.mk (below_step (by repeat (first | (with_reducible first | exact HB.out | apply below_alloc | apply pw_below_drewN | apply below_drew1) | exact HB.out)) hb); clear HO127; clear HB; have HO127 := n0_; have HB := n1_; clear n0_ n1_; (try clear hb); (try clear hb2); (try clear hk); (try clear hi)))
                                            go_ret
                                            exact ⟨by first | rfl | (simp [errW_none, errW_some] <;> rfl) | (simp [*, errW_none, errW_some] <;> rfl), by repeat (first | (with_reducible first | exact HB.out | apply below_alloc | apply pw_below_drewN | apply below_drew1) | exact HB.out)⟩
                                          · rw [if_neg c59] at H
                                            have c59b0 : (t128.toList == ((t119 ++ (⟨#[32]⟩ : ByteArray)) ++ t120).toList) = false := beq_eq_false_iff_ne.mpr c59
                                            have c59b1 : (t128.toList != ((t119 ++ (⟨#[32]⟩ : ByteArray)) ++ t120).toList) = true := bne_iff_ne.mpr c59
                                            obtain rfl := Option.some.inj H
                                            have p54 : 0 ≤ (0 : Int) := (by omega)
                                            have q54 : 0 < t119.size := (by have : (0 : Int) < (t119.size : Int) := of_decide_eq_true (by first | (with_reducible assumption) | assumption); omega)
                                            have hx54 : ∀ h : 0 < t119.size, ((t119[0]'h).toNat : Int) = bt t119 0 := bt_at t119 0
                                            clear p54
                                            have qi54 : (0 < (t119.size : Int)) = True := eq_true (of_decide_eq_true (by first | (with_reducible assumption) | assumption))
                                            replace q54 := eq_true q54
                                            go_wp2_with (first | ((with_reducible refine gate_dst (N := 119) rfl ?_); (try (refine gate_guard (by rfl) ?_; dsimp only)); refine Kd.R_lit Kd.string _ 9 ?hg (N := 119) ?hd (xs := ([t119, t120] : List ByteArray)) (inner := [.string t119, .string t120]) (ok := fun _ => True) (okp := fun _ => True) ?hr ?hp (fun _ hk => hk) trivial (Below.refl _ _) (Nat.le_refl _) (by simp) ?_; (case hd => rfl); (case hg => rfl); (case hr => first | (go_simp; done) | (go_simp; rfl)); (case hp => exact (Reps.one (show Kd.M Kd.string _ _ _ t119 [.string t119] from rfl) (Reps.one (show Kd.M Kd.string _ _ _ t120 [.string t120] from rfl) (Reps.none _ _)))); intro v126 w64 ho65 hb hg_ hnew_; clear hg_ hnew_; (first | rw [← Ny125.out] at ho65 | (simp only [Int.reduceToNat] at ho65; rw [← Ny125.out] at ho65)); have n0_ := Aside0.mk (Kd.R_lower ho65 (below_size (by repeat (first | (with_reducible first | exact HB.out | apply below_alloc | apply pw_below_drewN | apply below_drew1) | exact HB.out)))); have n1_ := Aside0.mk (below_step (by repeat (first | (with_reducible first | exact HB.out | apply below_alloc | apply pw_below_drewN | apply below_drew1) | exact HB.out)) hb); clear HB; have HO127 := n0_; have HB := n1_; clear n0_ n1_; clear hb ho65; obtain ⟨Ao66, co66, eo66⟩ := Kd.R_slice HO127.out; subst eo66) | (go_at_call 11; (with_reducible refine (text_Join.calls _ _ y125 t128 _ ?side1 ?side2 A56.out).mono ?_); (case side1 => repeat (first | exact (Kd.R_reads' HO127.out).2.2 | (with_reducible refine Kd.C_alloc ?_ _) | (with_reducible refine Kd.C_drewN ?_ _) | (with_reducible refine Kd.C_drew ?_))); (case side2 => exact (Kd.R_reads' HO127.out).2.1); rintro e w67 ⟨rfl, hb⟩; have n0_ := Aside0.mk (Kd.R_below (by (with_reducible repeat (first | apply Kd.R_alloc | apply Kd.R_drewN | apply Kd.R_drew)); exact HO127.out) hb); have n1_ := Aside0.mk (below_step (by repeat (first | (with_reducible first | exact HB.out | apply below_alloc | apply pw_below_drewN | apply below_drew1) | exact HB.out)) hb); clear HO127; clear HB; have HO127 := n0_; have HB := n1_; clear n0_ n1_; (try clear hb); (try clear hb2); (try clear hk); (try clear hi)))
                                            go_ret
                                            exact ⟨by first | rfl | (simp [errW_none, errW_some] <;> rfl) | (simp [*, errW_none, errW_some] <;> rfl), by repeat (first | (with_reducible first | exact HB.out | apply below_alloc | apply pw_below_drewN | apply below_drew1) | exact HB.out)⟩
                                        · rw [if_neg c58] at H
                                          exact absurd H (by simp)
                                      · rw [if_neg c57] at H
                                        exact absurd H (by simp)
                                    · rw [if_neg c55] at H
                                      have c55b0 : ((bt t119 0) == 45) = false := beq_eq_false_iff_ne.mpr c55
                                      have c55b1 : ((bt t119 0) != 45) = true := bne_iff_ne.mpr c55
                                      obtain rfl := Option.some.inj H
                                      have p54 : 0 ≤ (0 : Int) := (by omega)
                                      have q54 : 0 < t119.size := (by have : (0 : Int) < (t119.size : Int) := of_decide_eq_true (by first | (with_reducible assumption) | assumption); omega)
                                      have hx54 : ∀ h : 0 < t119.size, ((t119[0]'h).toNat : Int) = bt t119 0 := bt_at t119 0
                                      clear p54
                                      have qi54 : (0 < (t119.size : Int)) = True := eq_true (of_decide_eq_true (by first | (with_reducible assumption) | assumption))
                                      replace q54 := eq_true q54
                                      go_wp2
                                      go_ret
                                      exact ⟨by first | rfl | (simp [errW_none, errW_some] <;> rfl) | (simp [*, errW_none, errW_some] <;> rfl), by repeat (first | (with_reducible first | exact HB.out | apply below_alloc | apply pw_below_drewN | apply below_drew1) | exact HB.out)⟩
                                  · rw [if_neg c53] at H
                                    exact absurd H (by simp)
                              · rw [if_neg c39] at H
                                have c39b0 : ((t119.size : Int) == (wrap64 (x9_20 + 1))) = false := beq_eq_false_iff_ne.mpr c39
                                have c39b1 : ((t119.size : Int) != (wrap64 (x9_20 + 1))) = true := bne_iff_ne.mpr c39
                                by_cases c68 : 0 ≤ x9_20
                                · rw [if_pos c68] at H
                                  have c68b0 : decide (0 ≤ x9_20) = true := decide_eq_true c68
                                  clear c68
                                  by_cases c69 : x9_20 < (t119.size : Int)
                                  · rw [if_pos c69] at H
                                    have c69b0 : decide (x9_20 < (t119.size : Int)) = true := decide_eq_true c69
                                    clear c69
                                    by_cases c71 : (bt t119 x9_20) = 48
                                    · rw [if_pos c71] at H
                                      have c71b0 : ((bt t119 x9_20) == 48) = true := beq_iff_eq.mpr c71
                                      have c71b1 : ((bt t119 x9_20) != 48) = false := bne_eq_false_iff_eq.mpr c71
                                      clear c71
                                      obtain rfl := Option.some.inj H
                                      have p70 : 0 ≤ (x9_20 : Int) := of_decide_eq_true (by first | (with_reducible assumption) | assumption)
                                      have q70 : x9_20 < (t119.size : Int) := of_decide_eq_true (by first | (with_reducible assumption) | assumption)
                                      have hx70 := bt_at t119 x9_20
                                      replace p70 := eq_true p70
                                      replace q70 := eq_true q70
                                      go_wp2
                                      go_ret
                                      exact ⟨by first | rfl | (simp [errW_none, errW_some] <;> rfl) | (simp [*, errW_none, errW_some] <;> rfl), by repeat (first | (with_reducible first | exact HB.out | apply below_alloc | apply pw_below_drewN | apply below_drew1) | exact HB.out)⟩
                                    · rw [if_neg c71] at H
                                      have c71b0 : ((bt t119 x9_20) == 48) = false := beq_eq_false_iff_ne.mpr c71
                                      have c71b1 : ((bt t119 x9_20) != 48) = true := bne_iff_ne.mpr c71
                                      by_cases c72 : a0 ≥ 0
                                      · rw [if_pos c72] at H
                                        have c72b0 : decide (0 ≤ a0) = true := decide_eq_true c72
                                        clear c72
                                        obtain ⟨y129, hy129⟩ : ∃ y_ : List ByteArray, y_ = (([t119, t120] : List ByteArray)) := ⟨_, rfl⟩
                                        replace H : ((text_Join.f y129).bind fun t132 => (if t119.size + 1 ≤ 9223372036854775807 then (if (t119 ++ (⟨#[32]⟩ : ByteArray)).size + t120.size ≤ 9223372036854775807 then (if t132.toList = ((t119 ++ (⟨#[32]⟩ : ByteArray)) ++ t120).toList then (some ((t119.toList == t120.toList) == (a0 == a1))) else (some false)) else (none)) else (none))) = some r := by first | (rw [hy129]; with_reducible exact H) | (have H2_ := (Option.bind_some _ _).symm.trans H; rw [hy129]; with_reducible exact H2_) | (have H2_ := (Option.bind_some _ _).symm.trans H; with_reducible exact H2_) | with_reducible exact H | (rw [hy129]; exact H) | exact H
                                        have Ny129 := Aside0.mk hy129
                                        clear hy129
                                        replace H := Option.bind_eq_some_iff.mp H
                                        obtain ⟨t132, A730, H⟩ := H
                                        replace H : (if t119.size + 1 ≤ 9223372036854775807 then (if (t119 ++ (⟨#[32]⟩ : ByteArray)).size + t120.size ≤ 9223372036854775807 then (if t132.toList = ((t119 ++ (⟨#[32]⟩ : ByteArray)) ++ t120).toList then (some ((t119.toList == t120.toList) == (a0 == a1))) else (some false)) else (none)) else (none)) = some r := H
                                        have A73 := Aside0.mk A730
                                        clear A730
                                        by_cases c74 : t119.size + 1 ≤ 9223372036854775807
                                        · rw [if_pos c74] at H
                                          have c74b0 := eq_true c74
                                          have c74b1 : decide (t119.size + 1 ≤ 9223372036854775807) = true := decide_eq_true c74
                                          try have c74b2 : (9223372036854775807 < t119.size + 1) = False := eq_false (Nat.not_lt.2 c74)
                                          by_cases c75 : (t119 ++ (⟨#[32]⟩ : ByteArray)).size + t120.size ≤ 9223372036854775807
                                          · rw [if_pos c75] at H
                                            have c75b0 := eq_true c75
                                            have c75b1 : decide ((t119 ++ (⟨#[32]⟩ : ByteArray)).size + t120.size ≤ 9223372036854775807) = true := decide_eq_true c75
                                            try have c75b2 : (9223372036854775807 < (t119 ++ (⟨#[32]⟩ : ByteArray)).size + t120.size) = False := eq_false (Nat.not_lt.2 c75)
                                            (try (have c75b3 := c75; simp only [ByteArray.size_append] at c75b3; have c75b4 := eq_true c75b3))
                                            by_cases c76 : t132.toList = ((t119 ++ (⟨#[32]⟩ : ByteArray)) ++ t120).toList
                                            · rw [if_pos c76] at H
                                              have c76b0 : (t132.toList == ((t119 ++ (⟨#[32]⟩ : ByteArray)) ++ t120).toList) = true := beq_iff_eq.mpr c76
                                              have c76b1 : (t132.toList != ((t119 ++ (⟨#[32]⟩ : ByteArray)) ++ t120).toList) = false := bne_eq_false_iff_eq.mpr c76
                                              clear c76
                                              obtain rfl := Option.some.inj H
                                              have p70 : 0 ≤ (x9_20 : Int) := of_decide_eq_true (by first | (with_reducible assumption) | assumption)
                                              have q70 : x9_20 < (t119.size : Int) := of_decide_eq_true (by first | (with_reducible assumption) | assumption)
                                              have hx70 := bt_at t119 x9_20
                                              replace p70 := eq_true p70
                                              replace q70 := eq_true q70
                                              go_wp2_with (first | ((with_reducible refine gate_dst (N := 119) rfl ?_); (try (refine gate_guard (by rfl) ?_; dsimp only)); refine Kd.R_lit Kd.string _ 9 ?hg (N := 119) ?hd (xs := ([t119, t120] : List ByteArray)) (inner := [.string t119, .string t120]) (ok := fun _ => True) (okp := fun _ => True) ?hr ?hp (fun _ hk => hk) trivial (Below.refl _ _) (Nat.le_refl _) (by simp) ?_; (case hd => rfl); (case hg => rfl); (case hr => first | (go_simp; done) | (go_simp; rfl)); (case hp => exact (Reps.one (show Kd.M Kd.string _ _ _ t119 [.string t119] from rfl) (Reps.one (show Kd.M Kd.string _ _ _ t120 [.string t120] from rfl) (Reps.none _ _)))); intro v130 w77 ho78 hb hg_ hnew_; clear hg_ hnew_; (first | rw [← Ny129.out] at ho78 | (simp only [Int.reduceToNat] at ho78; rw [← Ny129.out] at ho78)); have n0_ := Aside0.mk (Kd.R_lower ho78 (below_size (by repeat (first | (with_reducible first | exact HB.out | apply below_alloc | apply pw_below_drewN | apply below_drew1) | exact HB.out)))); have n1_ := Aside0.mk (below_step (by repeat (first | (with_reducible first | exact HB.out | apply below_alloc | apply pw_below_drewN | apply below_drew1) | exact HB.out)) hb); clear HB; have HO131 := n0_; have HB := n1_; clear n0_ n1_; clear hb ho78; obtain ⟨Ao79, co79, eo79⟩ := Kd.R_slice HO131.out; subst eo79) | (go_at_call 11; (with_reducible refine (text_Join.calls _ _ y129 t132 _ ?side1 ?side2 A73.out).mono ?_); (case side1 => repeat (first | exact (Kd.R_reads' HO131.out).2.2 | (with_reducible refine Kd.C_alloc ?_ _) | (with_reducible refine Kd.C_drewN ?_ _) | (with_reducible refine Kd.C_drew ?_))); (case side2 => exact (Kd.R_reads' HO131.out).2.1); rintro e w80 ⟨rfl, hb⟩; have n0_ := Aside0.mk (Kd.R_below (by (with_reducible repeat (first | apply Kd.R_alloc | apply Kd.R_drewN | apply Kd.R_drew)); exact HO131.out) hb); have n1_ := Aside0.mk (below_step (by repeat (first | (with_reducible first | exact HB.out | apply below_alloc | apply pw_below_drewN | apply below_drew1) | exact HB.out)) hb); clear HO131; clear HB; have HO131 := n0_; have HB := n1_; clear n0_ n1_; (try clear hb); (try clear hb2); (try clear hk); (try clear hi)))
                                              go_ret
                                              exact ⟨by first | rfl | (simp [errW_none, errW_some] <;> rfl) | (simp [*, errW_none, errW_some] <;> rfl), by repeat (first | (with_reducible first | exact HB.out | apply below_alloc | apply pw_below_drewN | apply below_drew1) | exact HB.out)⟩
                                            · rw [if_neg c76] at H
                                              have c76b0 : (t132.toList == ((t119 ++ (⟨#[32]⟩ : ByteArray)) ++ t120).toList) = false := beq_eq_false_iff_ne.mpr c76
                                              have c76b1 : (t132.toList != ((t119 ++ (⟨#[32]⟩ : ByteArray)) ++ t120).toList) = true := bne_iff_ne.mpr c76
                                              obtain rfl := Option.some.inj H
                                              have p70 : 0 ≤ (x9_20 : Int) := of_decide_eq_true (by first | (with_reducible assumption) | assumption)
                                              have q70 : x9_20 < (t119.size : Int) := of_decide_eq_true (by first | (with_reducible assumption) | assumption)
                                              have hx70 := bt_at t119 x9_20
                                              replace p70 := eq_true p70
                                              replace q70 := eq_true q70
                                              go_wp2_with (first | ((with_reducible refine gate_dst (N := 119) rfl ?_); (try (refine gate_guard (by rfl) ?_; dsimp only)); refine Kd.R_lit Kd.string _ 9 ?hg (N := 119) ?hd (xs := ([t119, t120] : List ByteArray)) (inner := [.string t119, .string t120]) (ok := fun _ => True) (okp := fun _ => True) ?hr ?hp (fun _ hk => hk) trivial (Below.refl _ _) (Nat.le_refl _) (by simp) ?_; (case hd => rfl); (case hg => rfl); (case hr => first | (go_simp; done) | (go_simp; rfl)); (case hp => exact (Reps.one (show Kd.M Kd.string _ _ _ t119 [.string t119] from rfl) (Reps.one (show Kd.M Kd.string _ _ _ t120 [.string t120] from rfl) (Reps.none _ _)))); intro v130 w81 ho82 hb hg_ hnew_; clear hg_ hnew_; (first | rw [← Ny129.out] at ho82 | (simp only [Int.reduceToNat] at ho82; rw [← Ny129.out] at ho82)); have n0_ := Aside0.mk (Kd.R_lower ho82 (below_size (by repeat (first | (with_reducible first | exact HB.out | apply below_alloc | apply pw_below_drewN | apply below_drew1) | exact HB.out)))); have n1_ := Aside0.mk (below_step (by repeat (first | (with_reducible first | exact HB.out | apply below_alloc | apply pw_below_drewN | apply below_drew1) | exact HB.out)) hb); clear HB; have HO131 := n0_; have HB := n1_; clear n0_ n1_; clear hb ho82; obtain ⟨Ao83, co83, eo83⟩ := Kd.R_slice HO131.out; subst eo83) | (go_at_call 11; (with_reducible refine (text_Join.calls _ _ y129 t132 _ ?side1 ?side2 A73.out).mono ?_); (case side1 => repeat (first | exact (Kd.R_reads' HO131.out).2.2 | (with_reducible refine Kd.C_alloc ?_ _) | (with_reducible refine Kd.C_drewN ?_ _) | (with_reducible refine Kd.C_drew ?_))); (case side2 => exact (Kd.R_reads' HO131.out).2.1); rintro e w84 ⟨rfl, hb⟩; have n0_ := Aside0.mk (Kd.R_below (by (with_reducible repeat (first | apply Kd.R_alloc | apply Kd.R_drewN | apply Kd.R_drew)); exact HO131.out) hb); have n1_ := Aside0.mk (below_step (by repeat (first | (with_reducible first | exact HB.out | apply below_alloc | apply pw_below_drewN | apply below_drew1) | exact HB.out)) hb); clear HO131; clear HB; have HO131 := n0_; have HB := n1_; clear n0_ n1_; (try clear hb); (try clear hb2); (try clear hk); (try clear hi)))
                                              go_ret
                                              exact ⟨by first | rfl | (simp [errW_none, errW_some] <;> rfl) | (simp [*, errW_none, errW_some] <;> rfl), by repeat (first | (with_reducible first | exact HB.out | apply below_alloc | apply pw_below_drewN | apply below_drew1) | exact HB.out)⟩
                                          · rw [if_neg c75] at H
                                            exact absurd H (by simp)
                                        · rw [if_neg c74] at H
                                          exact absurd H (by simp)
                                      · rw [if_neg c72] at H
                                        have c72b0 : decide (0 ≤ a0) = false := decide_eq_false c72
                                        clear c72
                                        by_cases c85 : 0 < (t119.size : Int)
                                        · rw [if_pos c85] at H
                                          have c85b0 : decide (0 < (t119.size : Int)) = true := decide_eq_true c85
                                          have c85b1 : decide (0 < t119.size) = true := decide_eq_true (by omega)
                                          clear c85
                                          by_cases c87 : (bt t119 0) = 45
                                          · rw [if_pos c87] at H
                                            have c87b0 : ((bt t119 0) == 45) = true := beq_iff_eq.mpr c87
                                            have c87b1 : ((bt t119 0) != 45) = false := bne_eq_false_iff_eq.mpr c87
                                            clear c87
                                            obtain ⟨y133, hy133⟩ : ∃ y_ : List ByteArray, y_ = (([t119, t120] : List ByteArray)) := ⟨_, rfl⟩
                                            replace H : ((text_Join.f y133).bind fun t136 => (if t119.size + 1 ≤ 9223372036854775807 then (if (t119 ++ (⟨#[32]⟩ : ByteArray)).size + t120.size ≤ 9223372036854775807 then (if t136.toList = ((t119 ++ (⟨#[32]⟩ : ByteArray)) ++ t120).toList then (some ((t119.toList == t120.toList) == (a0 == a1))) else (some false)) else (none)) else (none))) = some r := by first | (rw [hy133]; with_reducible exact H) | (have H2_ := (Option.bind_some _ _).symm.trans H; rw [hy133]; with_reducible exact H2_) | (have H2_ := (Option.bind_some _ _).symm.trans H; with_reducible exact H2_) | with_reducible exact H | (rw [hy133]; exact H) | exact H
                                            have Ny133 := Aside0.mk hy133
                                            clear hy133
                                            replace H := Option.bind_eq_some_iff.mp H
                                            obtain ⟨t136, A880, H⟩ := H
                                            replace H : (if t119.size + 1 ≤ 9223372036854775807 then (if (t119 ++ (⟨#[32]⟩ : ByteArray)).size + t120.size ≤ 9223372036854775807 then (if t136.toList = ((t119 ++ (⟨#[32]⟩ : ByteArray)) ++ t120).toList then (some ((t119.toList == t120.toList) == (a0 == a1))) else (some false)) else (none)) else (none)) = some r := H
                                            have A88 := Aside0.mk A880
                                            clear A880
                                            by_cases c89 : t119.size + 1 ≤ 9223372036854775807
                                            · rw [if_pos c89] at H
                                              have c89b0 := eq_true c89
                                              have c89b1 : decide (t119.size + 1 ≤ 9223372036854775807) = true := decide_eq_true c89
                                              try have c89b2 : (9223372036854775807 < t119.size + 1) = False := eq_false (Nat.not_lt.2 c89)
                                              by_cases c90 : (t119 ++ (⟨#[32]⟩ : ByteArray)).size + t120.size ≤ 9223372036854775807
                                              · rw [if_pos c90] at H
                                                have c90b0 := eq_true c90
                                                have c90b1 : decide ((t119 ++ (⟨#[32]⟩ : ByteArray)).size + t120.size ≤ 9223372036854775807) = true := decide_eq_true c90
                                                try have c90b2 : (9223372036854775807 < (t119 ++ (⟨#[32]⟩ : ByteArray)).size + t120.size) = False := eq_false (Nat.not_lt.2 c90)
                                                (try (have c90b3 := c90; simp only [ByteArray.size_append] at c90b3; have c90b4 := eq_true c90b3))
                                                by_cases c91 : t136.toList = ((t119 ++ (⟨#[32]⟩ : ByteArray)) ++ t120).toList
                                                · rw [if_pos c91] at H
                                                  have c91b0 : (t136.toList == ((t119 ++ (⟨#[32]⟩ : ByteArray)) ++ t120).toList) = true := beq_iff_eq.mpr c91
                                                  have c91b1 : (t136.toList != ((t119 ++ (⟨#[32]⟩ : ByteArray)) ++ t120).toList) = false := bne_eq_false_iff_eq.mpr c91
                                                  clear c91
                                                  obtain rfl := Option.some.inj H
                                                  have p70 : 0 ≤ (x9_20 : Int) := of_decide_eq_true (by first | (with_reducible assumption) | assumption)
                                                  have q70 : x9_20 < (t119.size : Int) := of_decide_eq_true (by first | (with_reducible assumption) | assumption)
                                                  have hx70 := bt_at t119 x9_20
                                                  replace p70 := eq_true p70
                                                  replace q70 := eq_true q70
                                                  have p86 : 0 ≤ (0 : Int) := (by omega)
                                                  have q86 : 0 < t119.size := (by have : (0 : Int) < (t119.size : Int) := of_decide_eq_true (by first | (with_reducible assumption) | assumption); omega)
                                                  have hx86 : ∀ h : 0 < t119.size, ((t119[0]'h).toNat : Int) = bt t119 0 := bt_at t119 0
                                                  clear p86
                                                  have qi86 : (0 < (t119.size : Int)) = True := eq_true (of_decide_eq_true (by first | (with_reducible assumption) | assumption))
                                                  replace q86 := eq_true q86
                                                  go_wp2_with (first | ((with_reducible refine gate_dst (N := 119) rfl ?_); (try (refine gate_guard (by rfl) ?_; dsimp only)); refine Kd.R_lit Kd.string _ 9 ?hg (N := 119) ?hd (xs := ([t119, t120] : List ByteArray)) (inner := [.string t119, .string t120]) (ok := fun _ => True) (okp := fun _ => True) ?hr ?hp (fun _ hk => hk) trivial (Below.refl _ _) (Nat.le_refl _) (by simp) ?_; (case hd => rfl); (case hg => rfl); (case hr => first | (go_simp; done) | (go_simp; rfl)); (case hp => exact (Reps.one (show Kd.M Kd.string _ _ _ t119 [.string t119] from rfl) (Reps.one (show Kd.M Kd.string _ _ _ t120 [.string t120] from rfl) (Reps.none _ _)))); intro v134 w92 ho93 hb hg_ hnew_; clear hg_ hnew_; (first | rw [← Ny133.out] at ho93 | (simp only [Int.reduceToNat] at ho93; rw [← Ny133.out] at ho93)); have n0_ := Aside0.mk (Kd.R_lower ho93 (below_size (by repeat (first | (with_reducible first | exact HB.out | apply below_alloc | apply pw_below_drewN | apply below_drew1) | exact HB.out)))); have n1_ := Aside0.mk (below_step (by repeat (first | (with_reducible first | exact HB.out | apply below_alloc | apply pw_below_drewN | apply below_drew1) | exact HB.out)) hb); clear HB; have HO135 := n0_; have HB := n1_; clear n0_ n1_; clear hb ho93; obtain ⟨Ao94, co94, eo94⟩ := Kd.R_slice HO135.out; subst eo94) | (go_at_call 11; (with_reducible refine (text_Join.calls _ _ y133 t136 _ ?side1 ?side2 A88.out).mono ?_); (case side1 => repeat (first | exact (Kd.R_reads' HO135.out).2.2 | (with_reducible refine Kd.C_alloc ?_ _) | (with_reducible refine Kd.C_drewN ?_ _) | (with_reducible refine Kd.C_drew ?_))); (case side2 => exact (Kd.R_reads' HO135.out).2.1); rintro e w95 ⟨rfl, hb⟩; have n0_ := Aside0.mk (Kd.R_below (by (with_reducible repeat (first | apply Kd.R_alloc | apply Kd.R_drewN | apply Kd.R_drew)); exact HO135.out) hb); have n1_ := Aside0.mk (below_step (by repeat (first | (with_reducible first | exact HB.out | apply below_alloc | apply pw_below_drewN | apply below_drew1) | exact HB.out)) hb); clear HO135; clear HB; have HO135 := n0_; have HB := n1_; clear n0_ n1_; (try clear hb); (try clear hb2); (try clear hk); (try clear hi)))
                                                  go_ret
                                                  exact ⟨by first | rfl | (simp [errW_none, errW_some] <;> rfl) | (simp [*, errW_none, errW_some] <;> rfl), by repeat (first | (with_reducible first | exact HB.out | apply below_alloc | apply pw_below_drewN | apply below_drew1) | exact HB.out)⟩
                                                · rw [if_neg c91] at H
                                                  have c91b0 : (t136.toList == ((t119 ++ (⟨#[32]⟩ : ByteArray)) ++ t120).toList) = false := beq_eq_false_iff_ne.mpr c91
                                                  have c91b1 : (t136.toList != ((t119 ++ (⟨#[32]⟩ : ByteArray)) ++ t120).toList) = true := bne_iff_ne.mpr c91
                                                  obtain rfl := Option.some.inj H
                                                  have p70 : 0 ≤ (x9_20 : Int) := of_decide_eq_true (by first | (with_reducible assumption) | assumption)
                                                  have q70 : x9_20 < (t119.size : Int) := of_decide_eq_true (by first | (with_reducible assumption) | assumption)
                                                  have hx70 := bt_at t119 x9_20
                                                  replace p70 := eq_true p70
                                                  replace q70 := eq_true q70
                                                  have p86 : 0 ≤ (0 : Int) := (by omega)
                                                  have q86 : 0 < t119.size := (by have : (0 : Int) < (t119.size : Int) := of_decide_eq_true (by first | (with_reducible assumption) | assumption); omega)
                                                  have hx86 : ∀ h : 0 < t119.size, ((t119[0]'h).toNat : Int) = bt t119 0 := bt_at t119 0
                                                  clear p86
                                                  have qi86 : (0 < (t119.size : Int)) = True := eq_true (of_decide_eq_true (by first | (with_reducible assumption) | assumption))
                                                  replace q86 := eq_true q86
                                                  go_wp2_with (first | ((with_reducible refine gate_dst (N := 119) rfl ?_); (try (refine gate_guard (by rfl) ?_; dsimp only)); refine Kd.R_lit Kd.string _ 9 ?hg (N := 119) ?hd (xs := ([t119, t120] : List ByteArray)) (inner := [.string t119, .string t120]) (ok := fun _ => True) (okp := fun _ => True) ?hr ?hp (fun _ hk => hk) trivial (Below.refl _ _) (Nat.le_refl _) (by simp) ?_; (case hd => rfl); (case hg => rfl); (case hr => first | (go_simp; done) | (go_simp; rfl)); (case hp => exact (Reps.one (show Kd.M Kd.string _ _ _ t119 [.string t119] from rfl) (Reps.one (show Kd.M Kd.string _ _ _ t120 [.string t120] from rfl) (Reps.none _ _)))); intro v134 w96 ho97 hb hg_ hnew_; clear hg_ hnew_; (first | rw [← Ny133.out] at ho97 | (simp only [Int.reduceToNat] at ho97; rw [← Ny133.out] at ho97)); have n0_ := Aside0.mk (Kd.R_lower ho97 (below_size (by repeat (first | (with_reducible first | exact HB.out | apply below_alloc | apply pw_below_drewN | apply below_drew1) | exact HB.out)))); have n1_ := Aside0.mk (below_step (by repeat (first | (with_reducible first | exact HB.out | apply below_alloc | apply pw_below_drewN | apply below_drew1) | exact HB.out)) hb); clear HB; have HO135 := n0_; have HB := n1_; clear n0_ n1_; clear hb ho97; obtain ⟨Ao98, co98, eo98⟩ := Kd.R_slice HO135.out; subst eo98) | (go_at_call 11; (with_reducible refine (text_Join.calls _ _ y133 t136 _ ?side1 ?side2 A88.out).mono ?_); (case side1 => repeat (first | exact (Kd.R_reads' HO135.out).2.2 | (with_reducible refine Kd.C_alloc ?_ _) | (with_reducible refine Kd.C_drewN ?_ _) | (with_reducible refine Kd.C_drew ?_))); (case side2 => exact (Kd.R_reads' HO135.out).2.1); rintro e w99 ⟨rfl, hb⟩; have n0_ := Aside0.mk (Kd.R_below (by (with_reducible repeat (first | apply Kd.R_alloc | apply Kd.R_drewN | apply Kd.R_drew)); exact HO135.out) hb); have n1_ := Aside0.mk (below_step (by repeat (first | (with_reducible first | exact HB.out | apply below_alloc | apply pw_below_drewN | apply below_drew1) | exact HB.out)) hb); clear HO135; clear HB; have HO135 := n0_; have HB := n1_; clear n0_ n1_; (try clear hb); (try clear hb2); (try clear hk); (try clear hi)))
                                                  go_ret
                                                  exact ⟨by first | rfl | (simp [errW_none, errW_some] <;> rfl) | (simp [*, errW_none, errW_some] <;> rfl), by repeat (first | (with_reducible first | exact HB.out | apply below_alloc | apply pw_below_drewN | apply below_drew1) | exact HB.out)⟩
                                              · rw [if_neg c90] at H
                                                exact absurd H (by simp)
                                            · rw [if_neg c89] at H
                                              exact absurd H (by simp)
                                          · rw [if_neg c87] at H
                                            have c87b0 : ((bt t119 0) == 45) = false := beq_eq_false_iff_ne.mpr c87
                                            have c87b1 : ((bt t119 0) != 45) = true := bne_iff_ne.mpr c87
                                            obtain rfl := Option.some.inj H
                                            have p70 : 0 ≤ (x9_20 : Int) := of_decide_eq_true (by first | (with_reducible assumption) | assumption)
                                            have q70 : x9_20 < (t119.size : Int) := of_decide_eq_true (by first | (with_reducible assumption) | assumption)
                                            have hx70 := bt_at t119 x9_20
                                            replace p70 := eq_true p70
                                            replace q70 := eq_true q70
                                            have p86 : 0 ≤ (0 : Int) := (by omega)
                                            have q86 : 0 < t119.size := (by have : (0 : Int) < (t119.size : Int) := of_decide_eq_true (by first | (with_reducible assumption) | assumption); omega)
                                            have hx86 : ∀ h : 0 < t119.size, ((t119[0]'h).toNat : Int) = bt t119 0 := bt_at t119 0
                                            clear p86
                                            have qi86 : (0 < (t119.size : Int)) = True := eq_true (of_decide_eq_true (by first | (with_reducible assumption) | assumption))
                                            replace q86 := eq_true q86
                                            go_wp2
                                            go_ret
                                            exact ⟨by first | rfl | (simp [errW_none, errW_some] <;> rfl) | (simp [*, errW_none, errW_some] <;> rfl), by repeat (first | (with_reducible first | exact HB.out | apply below_alloc | apply pw_below_drewN | apply below_drew1) | exact HB.out)⟩
                                        · rw [if_neg c85] at H
                                          exact absurd H (by simp)
                                  · rw [if_neg c69] at H
                                    exact absurd H (by simp)
                                · rw [if_neg c68] at H
                                  exact absurd H (by simp)
                            · rw [if_neg c38] at H
                              have c38b0 : decide (x9_20 < (t119.size : Int)) = false := decide_eq_false c38
                              clear c38
                              obtain rfl := Option.some.inj H
                              go_wp2
                              go_ret
                              exact ⟨by first | rfl | (simp [errW_none, errW_some] <;> rfl) | (simp [*, errW_none, errW_some] <;> rfl), by repeat (first | (with_reducible first | exact HB.out | apply below_alloc | apply pw_below_drewN | apply below_drew1) | exact HB.out)⟩
                          · rw [if_neg c37] at H
                            have c37b0 : (x8_3 == a0) = false := beq_eq_false_iff_ne.mpr c37
                            have c37b1 : (x8_3 != a0) = true := bne_iff_ne.mpr c37
                            obtain rfl := Option.some.inj H
                            go_wp2
                            go_ret
                            exact ⟨by first | rfl | (simp [errW_none, errW_some] <;> rfl) | (simp [*, errW_none, errW_some] <;> rfl), by repeat (first | (with_reducible first | exact HB.out | apply below_alloc | apply pw_below_drewN | apply below_drew1) | exact HB.out)⟩
  · replace c4 := Bool.eq_false_iff.mpr c4
    subst c4
    have H1 : (some false) = some r := by rw [if_neg (show ¬ (false = true) by decide)] at H; exact H
    clear H
    have H := H1
    clear H1
    obtain rfl := Option.some.inj H
    go_enter Tryd.func4, Tryd.ntmps4
    go_wp2_with (first | ((with_reducible refine gate_callee (f := 8) rfl ?_); refine goesL_ (some 11) rfl rfl Tryd.func8 (by kernel_rfl) rfl #[] rfl (by (try simp only [List.map_toArray, List.map_cons, List.map_nil]); first | done | rfl | (simp only [List.length_drop, List.length_take]; rfl)) ?_; (with_reducible refine (racewaylaw2_shown.calls  false _ A3.out (LaidG.below hG (by repeat (first | (with_reducible first | exact HB.out | apply below_alloc | apply pw_below_drewN | apply below_drew1) | exact HB.out)))).mono ?_); rintro e w100 ⟨rfl, hb⟩; refine ⟨_, rfl, ?_⟩; have n0_ := Aside0.mk (below_step (by repeat (first | (with_reducible first | exact HB.out | apply below_alloc | apply pw_below_drewN | apply below_drew1) | exact HB.out)) hb); clear HB; have HB := n0_; clear n0_; (try clear hb); (try clear hb2); (try clear hk); (try clear hi)))
    go_ret
    exact ⟨by first | rfl | (simp [errW_none, errW_some] <;> rfl) | (simp [*, errW_none, errW_some] <;> rfl), by repeat (first | (with_reducible first | exact HB.out | apply below_alloc | apply pw_below_drewN | apply below_drew1) | exact HB.out)⟩

/-- THE ONE PURE STATEMENT of racewaylaw2_TextCounts: yours. -/
def racewaylaw2_TextCounts.Pure : Prop := ∀ (a0 : Int) (a1 : Int), (Lit.int .i64 a0).wf = true → (Lit.int .i64 a1).wf = true → ∃ k, racewaylaw2_TextCounts.f k a0 a1 = some true
theorem racewaylaw2_TextCounts.walk (P : racewaylaw2_TextCounts.Pure) (a0 : Int) (a1 : Int) (w : World) (w0 : (Lit.int .i64 a0).wf = true) (w1 : (Lit.int .i64 a1).wf = true) (hG : LaidG w) :
    Calls Tryd.prog 4 #[.int .i64 a0, .int .i64 a1] w fun e w' => e = .returned (.bool true) ∧ Below w.heap.size w w' := by
  obtain ⟨k, h⟩ := P a0 a1 w0 w1
  refine (racewaylaw2_TextCounts.calls k a0 a1 true w h hG).mono ?_
  rintro e w' ⟨rfl, hd⟩
  exact ⟨rfl, hd⟩

end Go.Proofs.YteifkibpeimbpaaDoor.Q
