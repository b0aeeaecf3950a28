/- Functions of the program as plain Lean functions, and that their calls come to these: written by a program of this session. Conditions: what each theorem asks. -/
import Derived.Test.YteifkibpeimbpaaDoorQx0
import Derived.Test.YteifkibpeimbpaaDoorText
namespace Go.Proofs.YteifkibpeimbpaaDoor.Q
open Go.RowKit Go.Proofs.YteifkibpeimbpaaDoor.H Go.Proofs.YteifkibpeimbpaaDoorW.PrintWords Go.Proofs.YteifkibpeimbpaaDoorW.PrintLast Go.Proofs.YteifkibpeimbpaaDoorW.PrintMore
attribute [local go_sem] max2_int min2_int max_two min_two max_three min_three max_four min_four   -- for this text's walks alone
set_option linter.unusedVariables false
set_option linter.unusedSimpArgs false

/-! ### racewaylaw2_shown: function 8 -/
def racewaylaw2_shown.f  : Option (Bool) := (text_Number.f (⟨#[45, 48, 48, 55]⟩ : ByteArray)).bind fun bt101 => (if bt101.1 = (-7) then (some (bt101.2 == 0)) else (some false))
set_option maxHeartbeats 8000000 in
set_option maxRecDepth 100000 in
theorem racewaylaw2_shown.calls  (r : Bool) (w : World) (h : racewaylaw2_shown.f  = some r) (hG : LaidG w) :
    Calls Tryd.prog 8 #[] w fun e w' => e = .returned (.bool r) ∧ Below w.heap.size w w' := by
  have HB := Aside0.mk (Below.refl w.heap.size w)
  have H : ((text_Number.f (⟨#[45, 48, 48, 55]⟩ : ByteArray)).bind fun bt101 => (if bt101.1 = (-7) then (some (bt101.2 == 0)) else (some false))) = some r := h
  clear h
  replace H := Option.bind_eq_some_iff.mp H
  obtain ⟨⟨t101, t102⟩, A10, H⟩ := H
  replace H : (if t101 = (-7) then (some (t102 == 0)) else (some false)) = some r := H
  have A1 := Aside0.mk A10
  clear A10
  by_cases c2 : t101 = (-7)
  · rw [if_pos c2] at H
    have c2b0 : (t101 == (-7)) = true := beq_iff_eq.mpr c2
    have c2b1 : (t101 != (-7)) = false := bne_eq_false_iff_eq.mpr c2
    clear c2
    obtain rfl := Option.some.inj H
    go_enter Tryd.func8, Tryd.ntmps8
    go_wp2_with (first | ((with_reducible refine gate_callee (f := 9) rfl ?_); refine goesL_ (some 4) rfl rfl Tryd.func9 (by kernel_rfl) rfl #[.string (⟨#[45, 48, 48, 55]⟩ : ByteArray)] rfl (by (try simp only [List.map_toArray, List.map_cons, List.map_nil]); first | done | rfl | (simp only [List.length_drop, List.length_take]; rfl)) ?_; (with_reducible refine (text_Number.calls (⟨#[45, 48, 48, 55]⟩ : ByteArray) t101 t102 _ A1.out (LaidG.below hG (by repeat (first | (with_reducible first | exact HB.out | apply below_alloc | apply pw_below_drewN | apply below_drew1) | exact HB.out)))).mono ?_); rintro e w3 ⟨rfl, hb⟩; refine ⟨_, rfl, ?_⟩; have n0_ := Aside0.mk (below_step (by repeat (first | (with_reducible first | exact HB.out | apply below_alloc | apply pw_below_drewN | apply below_drew1) | exact HB.out)) hb); clear HB; have HB := n0_; clear n0_; (try clear hb); (try clear hb2); (try clear hk); (try clear hi)))
    go_ret
    exact ⟨by first | rfl | (simp [errW_none, errW_some] <;> rfl) | (simp [*, errW_none, errW_some] <;> rfl), by repeat (first | (with_reducible first | exact HB.out | apply below_alloc | apply pw_below_drewN | apply below_drew1) | exact HB.out)⟩
  · rw [if_neg c2] at H
    have c2b0 : (t101 == (-7)) = false := beq_eq_false_iff_ne.mpr c2
    have c2b1 : (t101 != (-7)) = true := bne_iff_ne.mpr c2
    obtain rfl := Option.some.inj H
    go_enter Tryd.func8, Tryd.ntmps8
    go_wp2_with (first | ((with_reducible refine gate_callee (f := 9) rfl ?_); refine goesL_ (some 4) rfl rfl Tryd.func9 (by kernel_rfl) rfl #[.string (⟨#[45, 48, 48, 55]⟩ : ByteArray)] rfl (by (try simp only [List.map_toArray, List.map_cons, List.map_nil]); first | done | rfl | (simp only [List.length_drop, List.length_take]; rfl)) ?_; (with_reducible refine (text_Number.calls (⟨#[45, 48, 48, 55]⟩ : ByteArray) t101 t102 _ A1.out (LaidG.below hG (by repeat (first | (with_reducible first | exact HB.out | apply below_alloc | apply pw_below_drewN | apply below_drew1) | exact HB.out)))).mono ?_); rintro e w4 ⟨rfl, hb⟩; refine ⟨_, rfl, ?_⟩; have n0_ := Aside0.mk (below_step (by repeat (first | (with_reducible first | exact HB.out | apply below_alloc | apply pw_below_drewN | apply below_drew1) | exact HB.out)) hb); clear HB; have HB := n0_; clear n0_; (try clear hb); (try clear hb2); (try clear hk); (try clear hi)))
    go_ret
    exact ⟨by first | rfl | (simp [errW_none, errW_some] <;> rfl) | (simp [*, errW_none, errW_some] <;> rfl), by repeat (first | (with_reducible first | exact HB.out | apply below_alloc | apply pw_below_drewN | apply below_drew1) | exact HB.out)⟩

/-! ### racewaylaw2_TextBounds: function 3 -/
mutual
def racewaylaw2_TextBounds.j0 : Nat → Int → ByteArray → Bool → Bool → Option (Bool)
  | 0, _, _, _, _ => none
  | k + 1, x0, x1, x5, x31 => if x31 = true then (some x5) else ((text_Number.f (⟨#[57, 50, 50, 51, 51, 55, 50, 48, 51, 54, 56, 53, 52, 55, 55, 53, 56, 48, 55]⟩ : ByteArray)).bind fun bt104 => ((text_Number.f (⟨#[45, 57, 50, 50, 51, 51, 55, 50, 48, 51, 54, 56, 53, 52, 55, 55, 53, 56, 48, 56]⟩ : ByteArray)).bind fun bt106 => ((text_Number.f (⟨#[57, 50, 50, 51, 51, 55, 50, 48, 51, 54, 56, 53, 52, 55, 55, 53, 56, 48, 56]⟩ : ByteArray)).bind fun bt108 => ((text_Number.f (⟨#[45, 57, 50, 50, 51, 51, 55, 50, 48, 51, 54, 56, 53, 52, 55, 55, 53, 56, 48, 57]⟩ : ByteArray)).bind fun bt110 => (racewaylaw2_TextBounds.l0 k x0 x1 bt104.1 bt104.2 bt106.1 bt106.2 bt108.2 bt110.2 (⟨#[49]⟩ : ByteArray) 0)))))
def racewaylaw2_TextBounds.j2 : Nat → ByteArray → Int → Int → Int → Int → Int → Int → ByteArray → Option (Bool)
  | 0, _, _, _, _, _, _, _, _ => none
  | k + 1, x1, x6, x7, x8, x9, x11, x13, x14 => (text_Number.f x14).bind fun bt112 => (if x1.size + 1 ≤ 9223372036854775807 then ((text_Number.f (x1 ++ (⟨#[45]⟩ : ByteArray))).bind fun bt114 => ((text_Number.f (x1 ++ (⟨#[53]⟩ : ByteArray))).bind fun bt116 => (racewaylaw2_TextBounds.l1 k x1 x6 x7 x8 x9 x11 x13 bt112.2 bt114.2 bt116.1 bt116.2 (x1.toList == ([45] : List UInt8)) 0))) else (none))
def racewaylaw2_TextBounds.l1 : Nat → ByteArray → Int → Int → Int → Int → Int → Int → Int → Int → Int → Int → Bool → Int → Option (Bool)
  | 0, _, _, _, _, _, _, _, _, _, _, _, _, _ => none
  | k + 1, x1, x6, x7, x8, x9, x11, x13, x17, x19, x20, x21, x22, x23 => if x23 < (x1.size : Int) then (if 0 ≤ x23 then (if (bt x1 x23) ≥ 48 then (if (bt x1 x23) ≤ 57 then (some true) else (racewaylaw2_TextBounds.l1 k x1 x6 x7 x8 x9 x11 x13 x17 x19 x20 x21 x22 (wrap64 (x23 + 1)))) else (racewaylaw2_TextBounds.l1 k x1 x6 x7 x8 x9 x11 x13 x17 x19 x20 x21 x22 (wrap64 (x23 + 1)))) else (none)) else (if x22 = true then (if x6 = 9223372036854775807 then (if x7 = 0 then (if x8 = (-9223372036854775808) then (if x9 = 0 then (if x11 = 3 then (if x13 = 3 then (if x17 = 3 then (if x19 = 2 then (if ((x21 == 0) == true) = true then (if x20 = 5 then (some true) else (some (x20 == (-5)))) else (some false)) else (some false)) else (some false)) else (some false)) else (some false)) else (some false)) else (some false)) else (some false)) else (some false)) else (if x6 = 9223372036854775807 then (if x7 = 0 then (if x8 = (-9223372036854775808) then (if x9 = 0 then (if x11 = 3 then (if x13 = 3 then (if x17 = 3 then (if x19 = 2 then (if ((x21 == 0) == (x1.toList == ([] : List UInt8))) = true then (if (x1.toList = ([] : List UInt8)) then (if x20 = 5 then (some true) else (some (x20 == (-5)))) else (some true)) else (some false)) else (some false)) else (some false)) else (some false)) else (some false)) else (some false)) else (some false)) else (some false)) else (some false)))
def racewaylaw2_TextBounds.l0 : Nat → Int → ByteArray → Int → Int → Int → Int → Int → Int → ByteArray → Int → Option (Bool)
  | 0, _, _, _, _, _, _, _, _, _, _ => none
  | k + 1, x0, x1, x6, x7, x8, x9, x11, x13, x14, x15 => if x15 < 19 then (if x14.size + 1 ≤ 9223372036854775807 then (racewaylaw2_TextBounds.l0 k x0 x1 x6 x7 x8 x9 x11 x13 (x14 ++ (⟨#[48]⟩ : ByteArray)) (wrap64 (x15 + 1))) else (none)) else (if x15 < x0 then (if x15 < 60 then (if x14.size + 1 ≤ 9223372036854775807 then (racewaylaw2_TextBounds.l0 k x0 x1 x6 x7 x8 x9 x11 x13 (x14 ++ (⟨#[48]⟩ : ByteArray)) (wrap64 (x15 + 1))) else (none)) else (racewaylaw2_TextBounds.j2 k x1 x6 x7 x8 x9 x11 x13 x14)) else (racewaylaw2_TextBounds.j2 k x1 x6 x7 x8 x9 x11 x13 x14))
end
def racewaylaw2_TextBounds.f (k : Nat) (a0 : Int) (a1 : ByteArray) : Option (Bool) := (racewaylaw2_shown.f).bind fun t103 => (if t103 = true then (racewaylaw2_TextBounds.j0 k a0 a1 t103 (decide ((a1.size : Int) > 100))) else (racewaylaw2_TextBounds.j0 k a0 a1 t103 true))
theorem racewaylaw2_TextBounds.mono_l : ∀ k, (∀ y0 y1 y2 y3, LeO (racewaylaw2_TextBounds.j0 k y0 y1 y2 y3) (racewaylaw2_TextBounds.j0 (k + 1) y0 y1 y2 y3)) ∧ (∀ y0 y1 y2 y3 y4 y5 y6 y7, LeO (racewaylaw2_TextBounds.j2 k y0 y1 y2 y3 y4 y5 y6 y7) (racewaylaw2_TextBounds.j2 (k + 1) y0 y1 y2 y3 y4 y5 y6 y7)) ∧ (∀ y0 y1 y2 y3 y4 y5 y6 y7 y8 y9 y10 y11 y12, LeO (racewaylaw2_TextBounds.l1 k y0 y1 y2 y3 y4 y5 y6 y7 y8 y9 y10 y11 y12) (racewaylaw2_TextBounds.l1 (k + 1) y0 y1 y2 y3 y4 y5 y6 y7 y8 y9 y10 y11 y12)) ∧ (∀ y0 y1 y2 y3 y4 y5 y6 y7 y8 y9, LeO (racewaylaw2_TextBounds.l0 k y0 y1 y2 y3 y4 y5 y6 y7 y8 y9) (racewaylaw2_TextBounds.l0 (k + 1) y0 y1 y2 y3 y4 y5 y6 y7 y8 y9))
  | 0 => ⟨fun _ _ _ _ r h => by simp [racewaylaw2_TextBounds.j0] at h, fun _ _ _ _ _ _ _ _ r h => by simp [racewaylaw2_TextBounds.j2] at h, fun _ _ _ _ _ _ _ _ _ _ _ _ _ r h => by simp [racewaylaw2_TextBounds.l1] at h, fun _ _ _ _ _ _ _ _ _ _ r h => by simp [racewaylaw2_TextBounds.l0] at h⟩
  | k + 1 => by
    obtain ⟨ih0, ih1, ih2, ih3⟩ := racewaylaw2_TextBounds.mono_l k
    refine ⟨?_, ?_, ?_, ?_⟩
    · intro y0 y1 y2 y3
      unfold racewaylaw2_TextBounds.j0
      repeat' first
      | (with_reducible exact ih0 _ _ _ _)
      | (with_reducible exact ih1 _ _ _ _ _ _ _ _)
      | (with_reducible exact ih2 _ _ _ _ _ _ _ _ _ _ _ _ _)
      | (with_reducible exact ih3 _ _ _ _ _ _ _ _ _ _)
      | (with_reducible exact LeO.refl _)
      | (with_reducible exact LeO.none _)
      | (with_reducible refine LeO.ite ?_ ?_)
      | (with_reducible refine LeO.bind ?_ (fun _ => ?_))
      | exact ih0 _ _ _ _
      | exact ih1 _ _ _ _ _ _ _ _
      | exact ih2 _ _ _ _ _ _ _ _ _ _ _ _ _
      | exact ih3 _ _ _ _ _ _ _ _ _ _
      | exact LeO.none _
      | refine LeO.ite ?_ ?_
      | refine LeO.bind ?_ (fun _ => ?_)
    · intro y0 y1 y2 y3 y4 y5 y6 y7
      unfold racewaylaw2_TextBounds.j2
      repeat' first
      | (with_reducible exact ih0 _ _ _ _)
      | (with_reducible exact ih1 _ _ _ _ _ _ _ _)
      | (with_reducible exact ih2 _ _ _ _ _ _ _ _ _ _ _ _ _)
      | (with_reducible exact ih3 _ _ _ _ _ _ _ _ _ _)
      | (with_reducible exact LeO.refl _)
      | (with_reducible exact LeO.none _)
      | (with_reducible refine LeO.ite ?_ ?_)
      | (with_reducible refine LeO.bind ?_ (fun _ => ?_))
      | exact ih0 _ _ _ _
      | exact ih1 _ _ _ _ _ _ _ _
      | exact ih2 _ _ _ _ _ _ _ _ _ _ _ _ _
      | exact ih3 _ _ _ _ _ _ _ _ _ _
      | exact LeO.none _
      | refine LeO.ite ?_ ?_
      | refine LeO.bind ?_ (fun _ => ?_)
    · intro y0 y1 y2 y3 y4 y5 y6 y7 y8 y9 y10 y11 y12
      unfold racewaylaw2_TextBounds.l1
      repeat' first
      | (with_reducible exact ih0 _ _ _ _)
      | (with_reducible exact ih1 _ _ _ _ _ _ _ _)
      | (with_reducible exact ih2 _ _ _ _ _ _ _ _ _ _ _ _ _)
      | (with_reducible exact ih3 _ _ _ _ _ _ _ _ _ _)
      | (with_reducible exact LeO.refl _)
      | (with_reducible exact LeO.none _)
      | (with_reducible refine LeO.ite ?_ ?_)
      | (with_reducible refine LeO.bind ?_ (fun _ => ?_))
      | exact ih0 _ _ _ _
      | exact ih1 _ _ _ _ _ _ _ _
      | exact ih2 _ _ _ _ _ _ _ _ _ _ _ _ _
      | exact ih3 _ _ _ _ _ _ _ _ _ _
      | exact LeO.none _
      | refine LeO.ite ?_ ?_
      | refine LeO.bind ?_ (fun _ => ?_)
    · intro y0 y1 y2 y3 y4 y5 y6 y7 y8 y9
      unfold racewaylaw2_TextBounds.l0
      repeat' first
      | (with_reducible exact ih0 _ _ _ _)
      | (with_reducible exact ih1 _ _ _ _ _ _ _ _)
      | (with_reducible exact ih2 _ _ _ _ _ _ _ _ _ _ _ _ _)
      | (with_reducible exact ih3 _ _ _ _ _ _ _ _ _ _)
      | (with_reducible exact LeO.refl _)
      | (with_reducible exact LeO.none _)
      | (with_reducible refine LeO.ite ?_ ?_)
      | (with_reducible refine LeO.bind ?_ (fun _ => ?_))
      | exact ih0 _ _ _ _
      | exact ih1 _ _ _ _ _ _ _ _
      | exact ih2 _ _ _ _ _ _ _ _ _ _ _ _ _
      | exact ih3 _ _ _ _ _ _ _ _ _ _
      | exact LeO.none _
      | refine LeO.ite ?_ ?_
      | refine LeO.bind ?_ (fun _ => ?_)
theorem racewaylaw2_TextBounds.mono : ∀ a0 a1 k, LeO (racewaylaw2_TextBounds.f k a0 a1) (racewaylaw2_TextBounds.f (k + 1) a0 a1) := by
  intro a0 a1 k
  obtain ⟨ih0, ih1, ih2, ih3⟩ := racewaylaw2_TextBounds.mono_l k
  unfold racewaylaw2_TextBounds.f
  repeat' first
      | (with_reducible exact ih0 _ _ _ _)
      | (with_reducible exact ih1 _ _ _ _ _ _ _ _)
      | (with_reducible exact ih2 _ _ _ _ _ _ _ _ _ _ _ _ _)
      | (with_reducible exact ih3 _ _ _ _ _ _ _ _ _ _)
      | (with_reducible exact LeO.refl _)
      | (with_reducible exact LeO.none _)
      | (with_reducible refine LeO.ite ?_ ?_)
      | (with_reducible refine LeO.bind ?_ (fun _ => ?_))
      | exact ih0 _ _ _ _
      | exact ih1 _ _ _ _ _ _ _ _
      | exact ih2 _ _ _ _ _ _ _ _ _ _ _ _ _
      | exact ih3 _ _ _ _ _ _ _ _ _ _
      | exact LeO.none _
      | refine LeO.ite ?_ ?_
      | refine LeO.bind ?_ (fun _ => ?_)
set_option maxHeartbeats 8000000 in
set_option maxRecDepth 100000 in
theorem racewaylaw2_TextBounds.calls (k : Nat) (a0 : Int) (a1 : ByteArray) (r : Bool) (w : World) (h : racewaylaw2_TextBounds.f k a0 a1 = some r) (hG : LaidG w) :
    Calls Tryd.prog 3 #[.int .i64 a0, .string a1] w fun e w' => e = .returned (.bool r) ∧ Below w.heap.size w w' := by
  have HB := Aside0.mk (Below.refl w.heap.size w)
  have H : ((racewaylaw2_shown.f).bind fun t103 => (if t103 = true then (racewaylaw2_TextBounds.j0 k a0 a1 t103 (decide ((a1.size : Int) > 100))) else (racewaylaw2_TextBounds.j0 k a0 a1 t103 true))) = some r := h
  clear h
  replace H := Option.bind_eq_some_iff.mp H
  obtain ⟨t103, A30, H⟩ := H
  replace H : (if t103 = true then (racewaylaw2_TextBounds.j0 k a0 a1 t103 (decide ((a1.size : Int) > 100))) else (racewaylaw2_TextBounds.j0 k a0 a1 t103 true)) = some r := H
  have A3 := Aside0.mk A30
  clear A30
  have HC4 := Aside0.mk H
  clear H
  go_enter Tryd.func3, Tryd.ntmps3
  go_upto_region 2 with (first | ((with_reducible refine gate_callee (f := 8) rfl ?_); refine goesL_ (some 24) rfl rfl Tryd.func8 (by kernel_rfl) rfl #[] rfl (by (try simp only [List.map_toArray, List.map_cons, List.map_nil]); first | done | rfl | (simp only [List.length_drop, List.length_take]; rfl)) ?_; (with_reducible refine (racewaylaw2_shown.calls  t103 _ A3.out (LaidG.below hG (by repeat (first | (with_reducible first | exact HB.out | apply below_alloc | apply pw_below_drewN | apply below_drew1) | exact HB.out)))).mono ?_); rintro e w5 ⟨rfl, hb⟩; refine ⟨_, rfl, ?_⟩; have n0_ := Aside0.mk (below_step (by repeat (first | (with_reducible first | exact HB.out | apply below_alloc | apply pw_below_drewN | apply below_drew1) | exact HB.out)) hb); clear HB; have HB := n0_; clear n0_; (try clear hb); (try clear hb2); (try clear hk); (try clear hi)))
  (try simp only [Act.put, List.setIfInBounds_toArray, List.set_cons_zero, List.set_cons_succ])
  go_cut [31] (fun v31 wc => ∃ (kq : Nat) (x31_3 : Bool), v31 = .bool x31_3 ∧ Aside0 (racewaylaw2_TextBounds.j0 kq a0 a1 t103 x31_3 = some r) ∧ Aside0 (kq ≤ k) ∧ Aside0 (Below w.heap.size w wc))
  case first =>
    have H := HC4.out
    clear HC4
    by_cases c6 : t103 = true
    · subst c6
      have H1 : (racewaylaw2_TextBounds.j0 k a0 a1 true (decide ((a1.size : Int) > 100))) = some r := by rw [if_pos rfl] at H; exact H
      clear H
      have H := H1
      clear H1
      have H' := Aside0.mk H
      clear H
      go_wp2
      go_meet
      case rel => exact ⟨_, (decide ((a1.size : Int) > 100)), (by first | rfl | (simp; done) | (simp [*]; done)), H', ⟨by first | omega | exact Nat.le_refl _⟩, ⟨by repeat (first | (with_reducible first | exact HB.out | apply below_alloc | apply pw_below_drewN | apply below_drew1) | exact HB.out)⟩⟩
    · replace c6 := Bool.eq_false_iff.mpr c6
      subst c6
      have H1 : (racewaylaw2_TextBounds.j0 k a0 a1 false true) = some r := by rw [if_neg (show ¬ (false = true) by decide)] at H; exact H
      clear H
      have H := H1
      clear H1
      have H' := Aside0.mk H
      clear H
      go_wp2
      go_meet
      case rel => exact ⟨_, (true), (by first | rfl | (simp; done) | (simp [*]; done)), H', ⟨by first | omega | exact Nat.le_refl _⟩, ⟨by repeat (first | (with_reducible first | exact HB.out | apply below_alloc | apply pw_below_drewN | apply below_drew1) | exact HB.out)⟩⟩
  case rest =>
    clear HC4
    try clear p2
    try clear c3
    try clear c6
    obtain ⟨kq, x31_3, rfl, HA, HJ3, HB⟩ := hcut
    cases kq with
    | zero => exact absurd HA.out (by simp [racewaylaw2_TextBounds.j0])
    | succ kj3 =>
      as_aux_lemma =>
        have H := HA.out
        clear HA
        simp only [racewaylaw2_TextBounds.j0] at H
        by_cases c7 : x31_3 = true
        · subst c7
          have H1 : (some t103) = some r := by rw [if_pos rfl] at H; exact H
          clear H
          have H := H1
          clear H1
          obtain rfl := Option.some.inj H
          go_wp2
          go_ret
          exact ⟨by first | rfl | (simp [errW_none, errW_some] <;> rfl) | (simp [*, errW_none, errW_some] <;> rfl), by repeat (first | (with_reducible first | exact HB.out | apply below_alloc | apply pw_below_drewN | apply below_drew1) | exact HB.out)⟩
        · replace c7 := Bool.eq_false_iff.mpr c7
          subst c7
          have H1 : ((text_Number.f (⟨#[57, 50, 50, 51, 51, 55, 50, 48, 51, 54, 56, 53, 52, 55, 55, 53, 56, 48, 55]⟩ : ByteArray)).bind fun bt104 => ((text_Number.f (⟨#[45, 57, 50, 50, 51, 51, 55, 50, 48, 51, 54, 56, 53, 52, 55, 55, 53, 56, 48, 56]⟩ : ByteArray)).bind fun bt106 => ((text_Number.f (⟨#[57, 50, 50, 51, 51, 55, 50, 48, 51, 54, 56, 53, 52, 55, 55, 53, 56, 48, 56]⟩ : ByteArray)).bind fun bt108 => ((text_Number.f (⟨#[45, 57, 50, 50, 51, 51, 55, 50, 48, 51, 54, 56, 53, 52, 55, 55, 53, 56, 48, 57]⟩ : ByteArray)).bind fun bt110 => (racewaylaw2_TextBounds.l0 kj3 a0 a1 bt104.1 bt104.2 bt106.1 bt106.2 bt108.2 bt110.2 (⟨#[49]⟩ : ByteArray) 0))))) = some r := by rw [if_neg (show ¬ (false = true) by decide)] at H; exact H
          clear H
          have H := H1
          clear H1
          replace H := Option.bind_eq_some_iff.mp H
          obtain ⟨⟨t104, t105⟩, A80, H⟩ := H
          replace H : ((text_Number.f (⟨#[45, 57, 50, 50, 51, 51, 55, 50, 48, 51, 54, 56, 53, 52, 55, 55, 53, 56, 48, 56]⟩ : ByteArray)).bind fun bt106 => ((text_Number.f (⟨#[57, 50, 50, 51, 51, 55, 50, 48, 51, 54, 56, 53, 52, 55, 55, 53, 56, 48, 56]⟩ : ByteArray)).bind fun bt108 => ((text_Number.f (⟨#[45, 57, 50, 50, 51, 51, 55, 50, 48, 51, 54, 56, 53, 52, 55, 55, 53, 56, 48, 57]⟩ : ByteArray)).bind fun bt110 => (racewaylaw2_TextBounds.l0 kj3 a0 a1 t104 t105 bt106.1 bt106.2 bt108.2 bt110.2 (⟨#[49]⟩ : ByteArray) 0)))) = some r := H
          have A8 := Aside0.mk A80
          clear A80
          replace H := Option.bind_eq_some_iff.mp H
          obtain ⟨⟨t106, t107⟩, A90, H⟩ := H
          replace H : ((text_Number.f (⟨#[57, 50, 50, 51, 51, 55, 50, 48, 51, 54, 56, 53, 52, 55, 55, 53, 56, 48, 56]⟩ : ByteArray)).bind fun bt108 => ((text_Number.f (⟨#[45, 57, 50, 50, 51, 51, 55, 50, 48, 51, 54, 56, 53, 52, 55, 55, 53, 56, 48, 57]⟩ : ByteArray)).bind fun bt110 => (racewaylaw2_TextBounds.l0 kj3 a0 a1 t104 t105 t106 t107 bt108.2 bt110.2 (⟨#[49]⟩ : ByteArray) 0))) = some r := H
          have A9 := Aside0.mk A90
          clear A90
          replace H := Option.bind_eq_some_iff.mp H
          obtain ⟨⟨t108, t109⟩, A100, H⟩ := H
          replace H : ((text_Number.f (⟨#[45, 57, 50, 50, 51, 51, 55, 50, 48, 51, 54, 56, 53, 52, 55, 55, 53, 56, 48, 57]⟩ : ByteArray)).bind fun bt110 => (racewaylaw2_TextBounds.l0 kj3 a0 a1 t104 t105 t106 t107 t109 bt110.2 (⟨#[49]⟩ : ByteArray) 0)) = some r := H
          have A10 := Aside0.mk A100
          clear A100
          replace H := Option.bind_eq_some_iff.mp H
          obtain ⟨⟨t110, t111⟩, A110, H⟩ := H
          replace H : (racewaylaw2_TextBounds.l0 kj3 a0 a1 t104 t105 t106 t107 t109 t111 (⟨#[49]⟩ : ByteArray) 0) = some r := H
          have A11 := Aside0.mk A110
          clear A110
          have HC12 := Aside0.mk H
          clear H
          go_upto_block 0 with (first | ((with_reducible refine gate_callee (f := 9) rfl ?_); refine goesL_ (some 34) rfl rfl Tryd.func9 (by kernel_rfl) rfl #[.string (⟨#[57, 50, 50, 51, 51, 55, 50, 48, 51, 54, 56, 53, 52, 55, 55, 53, 56, 48, 55]⟩ : ByteArray)] rfl (by (try simp only [List.map_toArray, List.map_cons, List.map_nil]); first | done | rfl | (simp only [List.length_drop, List.length_take]; rfl)) ?_; (with_reducible refine (text_Number.calls (⟨#[57, 50, 50, 51, 51, 55, 50, 48, 51, 54, 56, 53, 52, 55, 55, 53, 56, 48, 55]⟩ : ByteArray) t104 t105 _ A8.out (LaidG.below hG (by repeat (first | (with_reducible first | exact HB.out | apply below_alloc | apply pw_below_drewN | apply below_drew1) | exact HB.out)))).mono ?_); rintro e w13 ⟨rfl, hb⟩; refine ⟨_, rfl, ?_⟩; have n0_ := Aside0.mk (below_step (by repeat (first | (with_reducible first | exact HB.out | apply below_alloc | apply pw_below_drewN | apply below_drew1) | exact HB.out)) hb); clear HB; have HB := n0_; clear n0_; (try clear hb); (try clear hb2); (try clear hk); (try clear hi)) | ((with_reducible refine gate_callee (f := 9) rfl ?_); refine goesL_ (some 38) rfl rfl Tryd.func9 (by kernel_rfl) rfl #[.string (⟨#[45, 57, 50, 50, 51, 51, 55, 50, 48, 51, 54, 56, 53, 52, 55, 55, 53, 56, 48, 56]⟩ : ByteArray)] rfl (by (try simp only [List.map_toArray, List.map_cons, List.map_nil]); first | done | rfl | (simp only [List.length_drop, List.length_take]; rfl)) ?_; (with_reducible refine (text_Number.calls (⟨#[45, 57, 50, 50, 51, 51, 55, 50, 48, 51, 54, 56, 53, 52, 55, 55, 53, 56, 48, 56]⟩ : ByteArray) t106 t107 _ A9.out (LaidG.below hG (by repeat (first | (with_reducible first | exact HB.out | apply below_alloc | apply pw_below_drewN | apply below_drew1) | exact HB.out)))).mono ?_); rintro e w14 ⟨rfl, hb⟩; refine ⟨_, rfl, ?_⟩; have n0_ := Aside0.mk (below_step (by repeat (first | (with_reducible first | exact HB.out | apply below_alloc | apply pw_below_drewN | apply below_drew1) | exact HB.out)) hb); clear HB; have HB := n0_; clear n0_; (try clear hb); (try clear hb2); (try clear hk); (try clear hi)) | ((with_reducible refine gate_callee (f := 9) rfl ?_); refine goesL_ (some 42) rfl rfl Tryd.func9 (by kernel_rfl) rfl #[.string (⟨#[57, 50, 50, 51, 51, 55, 50, 48, 51, 54, 56, 53, 52, 55, 55, 53, 56, 48, 56]⟩ : ByteArray)] rfl (by (try simp only [List.map_toArray, List.map_cons, List.map_nil]); first | done | rfl | (simp only [List.length_drop, List.length_take]; rfl)) ?_; (with_reducible refine (text_Number.calls (⟨#[57, 50, 50, 51, 51, 55, 50, 48, 51, 54, 56, 53, 52, 55, 55, 53, 56, 48, 56]⟩ : ByteArray) t108 t109 _ A10.out (LaidG.below hG (by repeat (first | (with_reducible first | exact HB.out | apply below_alloc | apply pw_below_drewN | apply below_drew1) | exact HB.out)))).mono ?_); rintro e w15 ⟨rfl, hb⟩; refine ⟨_, rfl, ?_⟩; have n0_ := Aside0.mk (below_step (by repeat (first | (with_reducible first | exact HB.out | apply below_alloc | apply pw_below_drewN | apply below_drew1) | exact HB.out)) hb); clear HB; have HB := n0_; clear n0_; (try clear hb); (try clear hb2); (try clear hk); (try clear hi)) | ((with_reducible refine gate_callee (f := 9) rfl ?_); refine goesL_ (some 46) rfl rfl Tryd.func9 (by kernel_rfl) rfl #[.string (⟨#[45, 57, 50, 50, 51, 51, 55, 50, 48, 51, 54, 56, 53, 52, 55, 55, 53, 56, 48, 57]⟩ : ByteArray)] rfl (by (try simp only [List.map_toArray, List.map_cons, List.map_nil]); first | done | rfl | (simp only [List.length_drop, List.length_take]; rfl)) ?_; (with_reducible refine (text_Number.calls (⟨#[45, 57, 50, 50, 51, 51, 55, 50, 48, 51, 54, 56, 53, 52, 55, 55, 53, 56, 48, 57]⟩ : ByteArray) t110 t111 _ A11.out (LaidG.below hG (by repeat (first | (with_reducible first | exact HB.out | apply below_alloc | apply pw_below_drewN | apply below_drew1) | exact HB.out)))).mono ?_); rintro e w16 ⟨rfl, hb⟩; refine ⟨_, rfl, ?_⟩; have n0_ := Aside0.mk (below_step (by repeat (first | (with_reducible first | exact HB.out | apply below_alloc | apply pw_below_drewN | apply below_drew1) | exact HB.out)) hb); clear HB; have HB := n0_; clear n0_; (try clear hb); (try clear hb2); (try clear hk); (try clear hi)))
          (try simp only [Act.put, List.setIfInBounds_toArray, List.set_cons_zero, List.set_cons_succ])
          go_cut [14] (fun v14 wc => ∃ (kq : Nat) (x14_11 : ByteArray), v14 = .string x14_11 ∧ Aside0 (racewaylaw2_TextBounds.j2 kq a1 t104 t105 t106 t107 t109 t111 x14_11 = some r) ∧ Aside0 (kq ≤ kj3) ∧ Aside0 (Below w.heap.size w wc))
          case first =>
            have H := HC12.out
            clear HC12
            have H' := Aside0.mk H
            clear H
            go_wp2
            go_loopg [14, 15] kj3 (fun kq v14 v15 w' => ∃ (x14_2 : ByteArray) (x15_2 : Int), v14 = .string x14_2 ∧ v15 = .int .i64 x15_2 ∧ Aside0 (racewaylaw2_TextBounds.l0 kq a0 a1 t104 t105 t106 t107 t109 t111 x14_2 x15_2 = some r) ∧ Aside0 (kq ≤ kj3) ∧ Aside0 (Below w.heap.size w w'))
            case atStart => exact ⟨((⟨#[49]⟩ : ByteArray)), (0), (by first | rfl | (simp; done) | (simp [*]; done)), (by first | rfl | (simp; done) | (simp [*]; done)), H', ⟨Nat.le_refl _⟩, ⟨by repeat (first | (with_reducible first | exact HB.out | apply below_alloc | apply pw_below_drewN | apply below_drew1) | exact HB.out)⟩⟩
            case round =>
              clear H'
              try clear p2
              try clear c3
              try clear c6
              try clear c7
              try clear c8
              try clear c9
              try clear p2
              obtain ⟨x14_2, x15_2, rfl, rfl, HA, HK2, HB⟩ := hrel
              cases gk with
              | zero => exact absurd HA.out (by simp [racewaylaw2_TextBounds.l0])
              | succ k2 =>
                as_aux_lemma =>
                  have H := HA.out
                  clear HA
                  simp only [racewaylaw2_TextBounds.l0] at H
                  by_cases c17 : x15_2 < 19
                  · rw [if_pos c17] at H
                    have c17b0 : decide (x15_2 < 19) = true := decide_eq_true c17
                    clear c17
                    (first | rw [c17b0] | (simp only [i64_w, i32_w]; rw [c17b0]) | skip)
                    by_cases c18 : x14_2.size + 1 ≤ 9223372036854775807
                    · rw [if_pos c18] at H
                      have c18b0 := eq_true c18
                      have c18b1 : decide (x14_2.size + 1 ≤ 9223372036854775807) = true := decide_eq_true c18
                      try have c18b2 : (9223372036854775807 < x14_2.size + 1) = False := eq_false (Nat.not_lt.2 c18)
                      have H' := Aside0.mk H
                      clear H
                      go_wp2
                      go_roundg k2
                      case measure => have := HJ3.out; have := HK2.out; omega
                      case rel => exact ⟨(x14_2 ++ (⟨#[48]⟩ : ByteArray)), (wrap64 (x15_2 + 1)), (by first | rfl | (simp; done) | (simp [*]; done)), (by first | rfl | (simp; done) | (simp [*]; done)), H', ⟨by have := HJ3.out; have := HK2.out; omega⟩, ⟨by repeat (first | (with_reducible first | exact HB.out | apply below_alloc | apply pw_below_drewN | apply below_drew1) | exact HB.out)⟩⟩
                    · rw [if_neg c18] at H
                      exact absurd H (by simp)
                  · rw [if_neg c17] at H
                    have c17b0 : decide (x15_2 < 19) = false := decide_eq_false c17
                    clear c17
                    (first | rw [c17b0] | (simp only [i64_w, i32_w]; rw [c17b0]) | skip)
                    by_cases c19 : x15_2 < a0
                    · rw [if_pos c19] at H
                      have c19b0 : decide (x15_2 < a0) = true := decide_eq_true c19
                      clear c19
                      by_cases c20 : x15_2 < 60
                      · rw [if_pos c20] at H
                        have c20b0 : decide (x15_2 < 60) = true := decide_eq_true c20
                        clear c20
                        by_cases c21 : x14_2.size + 1 ≤ 9223372036854775807
                        · rw [if_pos c21] at H
                          have c21b0 := eq_true c21
                          have c21b1 : decide (x14_2.size + 1 ≤ 9223372036854775807) = true := decide_eq_true c21
                          try have c21b2 : (9223372036854775807 < x14_2.size + 1) = False := eq_false (Nat.not_lt.2 c21)
                          have H' := Aside0.mk H
                          clear H
                          go_wp2
                          go_roundg k2
                          case measure => have := HJ3.out; have := HK2.out; omega
                          case rel => exact ⟨(x14_2 ++ (⟨#[48]⟩ : ByteArray)), (wrap64 (x15_2 + 1)), (by first | rfl | (simp; done) | (simp [*]; done)), (by first | rfl | (simp; done) | (simp [*]; done)), H', ⟨by have := HJ3.out; have := HK2.out; omega⟩, ⟨by repeat (first | (with_reducible first | exact HB.out | apply below_alloc | apply pw_below_drewN | apply below_drew1) | exact HB.out)⟩⟩
                        · rw [if_neg c21] at H
                          exact absurd H (by simp)
                      · rw [if_neg c20] at H
                        have c20b0 : decide (x15_2 < 60) = false := decide_eq_false c20
                        clear c20
                        have H' := Aside0.mk H
                        clear H
                        go_wp2
                        go_meet
                        case rel => exact ⟨_, (x14_2), (by first | rfl | (simp; done) | (simp [*]; done)), H', ⟨by have := HJ3.out; have := HK2.out; first | omega | exact Nat.le_refl _⟩, ⟨by repeat (first | (with_reducible first | exact HB.out | apply below_alloc | apply pw_below_drewN | apply below_drew1) | exact HB.out)⟩⟩
                    · rw [if_neg c19] at H
                      have c19b0 : decide (x15_2 < a0) = false := decide_eq_false c19
                      clear c19
                      have H' := Aside0.mk H
                      clear H
                      go_wp2
                      go_meet
                      case rel => exact ⟨_, (x14_2), (by first | rfl | (simp; done) | (simp [*]; done)), H', ⟨by have := HJ3.out; have := HK2.out; first | omega | exact Nat.le_refl _⟩, ⟨by repeat (first | (with_reducible first | exact HB.out | apply below_alloc | apply pw_below_drewN | apply below_drew1) | exact HB.out)⟩⟩
          case rest =>
            clear HC12
            try clear c1
            try clear c2
            try clear p2
            try clear c3
            try clear c6
            try clear p6
            try clear c7
            try clear c8
            try clear c9
            try clear c17
            try clear c17b0
            try clear c18
            try clear c18b0
            try clear c18b1
            try clear c18b2
            try clear c19
            try clear c19b0
            try clear c20
            try clear c20b0
            try clear c21
            try clear c21b0
            try clear c21b1
            try clear c21b2
            try clear p2
            obtain ⟨kq, x14_11, rfl, HA, HJ11, HB⟩ := hcut
            cases kq with
            | zero => exact absurd HA.out (by simp [racewaylaw2_TextBounds.j2])
            | succ kj11 =>
              as_aux_lemma =>
                have H := HA.out
                clear HA
                simp only [racewaylaw2_TextBounds.j2] at H
                replace H := Option.bind_eq_some_iff.mp H
                obtain ⟨⟨t112, t113⟩, A220, H⟩ := H
                replace H : (if a1.size + 1 ≤ 9223372036854775807 then ((text_Number.f (a1 ++ (⟨#[45]⟩ : ByteArray))).bind fun bt114 => ((text_Number.f (a1 ++ (⟨#[53]⟩ : ByteArray))).bind fun bt116 => (racewaylaw2_TextBounds.l1 kj11 a1 t104 t105 t106 t107 t109 t111 t113 bt114.2 bt116.1 bt116.2 (a1.toList == ([45] : List UInt8)) 0))) else (none)) = some r := H
                have A22 := Aside0.mk A220
                clear A220
                by_cases c23 : a1.size + 1 ≤ 9223372036854775807
                · rw [if_pos c23] at H
                  have c23b0 := eq_true c23
                  have c23b1 : decide (a1.size + 1 ≤ 9223372036854775807) = true := decide_eq_true c23
                  try have c23b2 : (9223372036854775807 < a1.size + 1) = False := eq_false (Nat.not_lt.2 c23)
                  replace H := Option.bind_eq_some_iff.mp H
                  obtain ⟨⟨t114, t115⟩, A240, H⟩ := H
                  replace H : ((text_Number.f (a1 ++ (⟨#[53]⟩ : ByteArray))).bind fun bt116 => (racewaylaw2_TextBounds.l1 kj11 a1 t104 t105 t106 t107 t109 t111 t113 t115 bt116.1 bt116.2 (a1.toList == ([45] : List UInt8)) 0)) = some r := H
                  have A24 := Aside0.mk A240
                  clear A240
                  replace H := Option.bind_eq_some_iff.mp H
                  obtain ⟨⟨t116, t117⟩, A250, H⟩ := H
                  replace H : (racewaylaw2_TextBounds.l1 kj11 a1 t104 t105 t106 t107 t109 t111 t113 t115 t116 t117 (a1.toList == ([45] : List UInt8)) 0) = some r := H
                  have A25 := Aside0.mk A250
                  clear A250
                  have H' := Aside0.mk H
                  clear H
                  go_wp2_with (first | ((with_reducible refine gate_callee (f := 9) rfl ?_); refine goesL_ (some 66) rfl rfl Tryd.func9 (by kernel_rfl) rfl #[.string x14_11] rfl (by (try simp only [List.map_toArray, List.map_cons, List.map_nil]); first | done | rfl | (simp only [List.length_drop, List.length_take]; rfl)) ?_; (with_reducible refine (text_Number.calls x14_11 t112 t113 _ A22.out (LaidG.below hG (by repeat (first | (with_reducible first | exact HB.out | apply below_alloc | apply pw_below_drewN | apply below_drew1) | exact HB.out)))).mono ?_); rintro e w26 ⟨rfl, hb⟩; refine ⟨_, rfl, ?_⟩; have n0_ := Aside0.mk (below_step (by repeat (first | (with_reducible first | exact HB.out | apply below_alloc | apply pw_below_drewN | apply below_drew1) | exact HB.out)) hb); clear HB; have HB := n0_; clear n0_; (try clear hb); (try clear hb2); (try clear hk); (try clear hi)) | ((with_reducible refine gate_callee (f := 9) rfl ?_); refine goesL_ (some 72) rfl rfl Tryd.func9 (by kernel_rfl) rfl #[.string (a1 ++ (⟨#[45]⟩ : ByteArray))] rfl (by (try simp only [List.map_toArray, List.map_cons, List.map_nil]); first | done | rfl | (simp only [List.length_drop, List.length_take]; rfl)) ?_; (with_reducible refine (text_Number.calls (a1 ++ (⟨#[45]⟩ : ByteArray)) t114 t115 _ A24.out (LaidG.below hG (by repeat (first | (with_reducible first | exact HB.out | apply below_alloc | apply pw_below_drewN | apply below_drew1) | exact HB.out)))).mono ?_); rintro e w27 ⟨rfl, hb⟩; refine ⟨_, rfl, ?_⟩; have n0_ := Aside0.mk (below_step (by repeat (first | (with_reducible first | exact HB.out | apply below_alloc | apply pw_below_drewN | apply below_drew1) | exact HB.out)) hb); clear HB; have HB := n0_; clear n0_; (try clear hb); (try clear hb2); (try clear hk); (try clear hi)) | ((with_reducible refine gate_callee (f := 9) rfl ?_); refine goesL_ (some 78) rfl rfl Tryd.func9 (by kernel_rfl) rfl #[.string (a1 ++ (⟨#[53]⟩ : ByteArray))] rfl (by (try simp only [List.map_toArray, List.map_cons, List.map_nil]); first | done | rfl | (simp only [List.length_drop, List.length_take]; rfl)) ?_; (with_reducible refine (text_Number.calls (a1 ++ (⟨#[53]⟩ : ByteArray)) t116 t117 _ A25.out (LaidG.below hG (by repeat (first | (with_reducible first | exact HB.out | apply below_alloc | apply pw_below_drewN | apply below_drew1) | exact HB.out)))).mono ?_); rintro e w28 ⟨rfl, hb⟩; refine ⟨_, rfl, ?_⟩; have n0_ := Aside0.mk (below_step (by repeat (first | (with_reducible first | exact HB.out | apply below_alloc | apply pw_below_drewN | apply below_drew1) | exact HB.out)) hb); clear HB; have HB := n0_; clear n0_; (try clear hb); (try clear hb2); (try clear hk); (try clear hi)))
                  go_loopg [23] kj11 (fun kq v23 w' => ∃ (x23_3 : Int), v23 = .int .i64 x23_3 ∧ Aside0 (racewaylaw2_TextBounds.l1 kq a1 t104 t105 t106 t107 t109 t111 t113 t115 t116 t117 (a1.toList == ([45] : List UInt8)) x23_3 = some r) ∧ Aside0 (kq ≤ kj11) ∧ Aside0 (Below w.heap.size w w'))
                  case atStart => exact ⟨(0), (by first | rfl | (simp; done) | (simp [*]; done)), H', ⟨Nat.le_refl _⟩, ⟨by repeat (first | (with_reducible first | exact HB.out | apply below_alloc | apply pw_below_drewN | apply below_drew1) | exact HB.out)⟩⟩
                  case round =>
                    clear H'
                    try clear c1
                    try clear c2
                    try clear p2
                    try clear c3
                    try clear c6
                    try clear p6
                    try clear c7
                    try clear c8
                    try clear c9
                    try clear c17
                    try clear c17b0
                    try clear c18
                    try clear c18b0
                    try clear c18b1
                    try clear c18b2
                    try clear c19
                    try clear c19b0
                    try clear c20
                    try clear c20b0
                    try clear c21
                    try clear c21b0
                    try clear c21b1
                    try clear c21b2
                    try clear c23
                    try clear c23b0
                    try clear c23b1
                    try clear c23b2
                    try clear p2
                    try clear p6
                    obtain ⟨x23_3, rfl, HA, HK3, HB⟩ := hrel
                    cases gk with
                    | zero => exact absurd HA.out (by simp [racewaylaw2_TextBounds.l1])
                    | succ k3 =>
                      as_aux_lemma =>
                        have H := HA.out
                        clear HA
                        simp only [racewaylaw2_TextBounds.l1] at H
                        by_cases c29 : x23_3 < (a1.size : Int)
                        · rw [if_pos c29] at H
                          have c29b0 : decide (x23_3 < (a1.size : Int)) = true := decide_eq_true c29
                          clear c29
                          by_cases c30 : 0 ≤ x23_3
                          · rw [if_pos c30] at H
                            have c30b0 : decide (0 ≤ x23_3) = true := decide_eq_true c30
                            clear c30
                            by_cases c32 : (bt a1 x23_3) ≥ 48
                            · rw [if_pos c32] at H
                              have c32b0 : decide (48 ≤ (bt a1 x23_3)) = true := decide_eq_true c32
                              clear c32
                              by_cases c34 : (bt a1 x23_3) ≤ 57
                              · rw [if_pos c34] at H
                                have c34b0 : decide ((bt a1 x23_3) ≤ 57) = true := decide_eq_true c34
                                clear c34
                                obtain rfl := Option.some.inj H
                                have p31 : 0 ≤ (x23_3 : Int) := of_decide_eq_true (by first | (with_reducible assumption) | assumption)
                                have q31 : x23_3 < (a1.size : Int) := of_decide_eq_true (by first | (with_reducible assumption) | assumption)
                                have hx31 := bt_at a1 x23_3
                                replace p31 := eq_true p31
                                replace q31 := eq_true q31
                                have p33 : 0 ≤ (x23_3 : Int) := of_decide_eq_true (by first | (with_reducible assumption) | assumption)
                                have q33 : x23_3 < (a1.size : Int) := of_decide_eq_true (by first | (with_reducible assumption) | assumption)
                                have hx33 := bt_at a1 x23_3
                                replace p33 := eq_true p33
                                replace q33 := eq_true q33
                                go_wp2
                                go_ret
                                exact ⟨by first | rfl | (simp [errW_none, errW_some] <;> rfl) | (simp [*, errW_none, errW_some] <;> rfl), by repeat (first | (with_reducible first | exact HB.out | apply below_alloc | apply pw_below_drewN | apply below_drew1) | exact HB.out)⟩
                              · rw [if_neg c34] at H
                                have c34b0 : decide ((bt a1 x23_3) ≤ 57) = false := decide_eq_false c34
                                clear c34
                                have H' := Aside0.mk H
                                clear H
                                have p31 : 0 ≤ (x23_3 : Int) := of_decide_eq_true (by first | (with_reducible assumption) | assumption)
                                have q31 : x23_3 < (a1.size : Int) := of_decide_eq_true (by first | (with_reducible assumption) | assumption)
                                have hx31 := bt_at a1 x23_3
                                replace p31 := eq_true p31
                                replace q31 := eq_true q31
                                have p33 : 0 ≤ (x23_3 : Int) := of_decide_eq_true (by first | (with_reducible assumption) | assumption)
                                have q33 : x23_3 < (a1.size : Int) := of_decide_eq_true (by first | (with_reducible assumption) | assumption)
                                have hx33 := bt_at a1 x23_3
                                replace p33 := eq_true p33
                                replace q33 := eq_true q33
                                go_wp2
                                go_roundg k3
                                case measure => have := HJ3.out; have := HJ11.out; have := HK3.out; omega
                                case rel => exact ⟨(wrap64 (x23_3 + 1)), (by first | rfl | (simp; done) | (simp [*]; done)), H', ⟨by have := HJ3.out; have := HJ11.out; have := HK3.out; omega⟩, ⟨by repeat (first | (with_reducible first | exact HB.out | apply below_alloc | apply pw_below_drewN | apply below_drew1) | exact HB.out)⟩⟩
                            · rw [if_neg c32] at H
                              have c32b0 : decide (48 ≤ (bt a1 x23_3)) = false := decide_eq_false c32
                              clear c32
                              have H' := Aside0.mk H
                              clear H
                              have p31 : 0 ≤ (x23_3 : Int) := of_decide_eq_true (by first | (with_reducible assumption) | assumption)
                              have q31 : x23_3 < (a1.size : Int) := of_decide_eq_true (by first | (with_reducible assumption) | assumption)
                              have hx31 := bt_at a1 x23_3
                              replace p31 := eq_true p31
                              replace q31 := eq_true q31
                              go_wp2
                              go_roundg k3
                              case measure => have := HJ3.out; have := HJ11.out; have := HK3.out; omega
                              case rel => exact ⟨(wrap64 (x23_3 + 1)), (by first | rfl | (simp; done) | (simp [*]; done)), H', ⟨by have := HJ3.out; have := HJ11.out; have := HK3.out; omega⟩, ⟨by repeat (first | (with_reducible first | exact HB.out | apply below_alloc | apply pw_below_drewN | apply below_drew1) | exact HB.out)⟩⟩
                          · rw [if_neg c30] at H
                            exact absurd H (by simp)
                        · rw [if_neg c29] at H
                          have c29b0 : decide (x23_3 < (a1.size : Int)) = false := decide_eq_false c29
                          clear c29
                          by_cases c35 : (a1.toList == ([45] : List UInt8)) = true
                          · rw [if_pos c35] at H
                            have c35b0 : (a1.toList == ([45] : List UInt8)) = true := c35
                            (try (have c35b1 : decide (a1.toList = ([45] : List UInt8)) = true := by simpa using c35))
                            (try (have c35b2 : (a1.toList == ([45] : List UInt8)) = true := by simpa using c35))
                            clear c35
                            by_cases c36 : t104 = 9223372036854775807
                            · rw [if_pos c36] at H
                              have c36b0 : (t104 == 9223372036854775807) = true := beq_iff_eq.mpr c36
                              have c36b1 : (t104 != 9223372036854775807) = false := bne_eq_false_iff_eq.mpr c36
                              clear c36
                              by_cases c37 : t105 = 0
                              · rw [if_pos c37] at H
                                have c37b0 : (t105 == 0) = true := beq_iff_eq.mpr c37
                                have c37b1 : (t105 != 0) = false := bne_eq_false_iff_eq.mpr c37
                                clear c37
                                by_cases c38 : t106 = (-9223372036854775808)
                                · rw [if_pos c38] at H
                                  have c38b0 : (t106 == (-9223372036854775808)) = true := beq_iff_eq.mpr c38
                                  have c38b1 : (t106 != (-9223372036854775808)) = false := bne_eq_false_iff_eq.mpr c38
                                  clear c38
                                  by_cases c39 : t107 = 0
                                  · rw [if_pos c39] at H
                                    have c39b0 : (t107 == 0) = true := beq_iff_eq.mpr c39
                                    have c39b1 : (t107 != 0) = false := bne_eq_false_iff_eq.mpr c39
                                    clear c39
                                    by_cases c40 : t109 = 3
                                    · rw [if_pos c40] at H
                                      have c40b0 : (t109 == 3) = true := beq_iff_eq.mpr c40
                                      have c40b1 : (t109 != 3) = false := bne_eq_false_iff_eq.mpr c40
                                      clear c40
                                      by_cases c41 : t111 = 3
                                      · rw [if_pos c41] at H
                                        have c41b0 : (t111 == 3) = true := beq_iff_eq.mpr c41
                                        have c41b1 : (t111 != 3) = false := bne_eq_false_iff_eq.mpr c41
                                        clear c41
                                        by_cases c42 : t113 = 3
                                        · rw [if_pos c42] at H
                                          have c42b0 : (t113 == 3) = true := beq_iff_eq.mpr c42
                                          have c42b1 : (t113 != 3) = false := bne_eq_false_iff_eq.mpr c42
                                          clear c42
                                          by_cases c43 : t115 = 2
                                          · rw [if_pos c43] at H
                                            have c43b0 : (t115 == 2) = true := beq_iff_eq.mpr c43
                                            have c43b1 : (t115 != 2) = false := bne_eq_false_iff_eq.mpr c43
                                            clear c43
                                            by_cases c44 : ((t117 == 0) == true) = true
                                            · rw [if_pos c44] at H
                                              have c44b0 : ((t117 == 0) == true) = true := c44
                                              (try (have c44b1 : decide ((t117 == 0) = true) = true := by simpa using c44))
                                              (try (have c44b2 : ((t117 == 0) == true) = true := by simpa using c44))
                                              clear c44
                                              by_cases c45 : t116 = 5
                                              · rw [if_pos c45] at H
                                                have c45b0 : (t116 == 5) = true := beq_iff_eq.mpr c45
                                                have c45b1 : (t116 != 5) = false := bne_eq_false_iff_eq.mpr c45
                                                clear c45
                                                obtain rfl := Option.some.inj H
                                                go_wp2
                                                go_ret
                                                exact ⟨by first | rfl | (simp [errW_none, errW_some] <;> rfl) | (simp [*, errW_none, errW_some] <;> rfl), by repeat (first | (with_reducible first | exact HB.out | apply below_alloc | apply pw_below_drewN | apply below_drew1) | exact HB.out)⟩
                                              · rw [if_neg c45] at H
                                                have c45b0 : (t116 == 5) = false := beq_eq_false_iff_ne.mpr c45
                                                have c45b1 : (t116 != 5) = true := bne_iff_ne.mpr c45
                                                obtain rfl := Option.some.inj H
                                                go_wp2
                                                go_ret
                                                exact ⟨by first | rfl | (simp [errW_none, errW_some] <;> rfl) | (simp [*, errW_none, errW_some] <;> rfl), by repeat (first | (with_reducible first | exact HB.out | apply below_alloc | apply pw_below_drewN | apply below_drew1) | exact HB.out)⟩
                                            · rw [if_neg c44] at H
                                              have c44b0 : ((t117 == 0) == true) = false := by simpa using c44
                                              (try (have c44b1 : decide ((t117 == 0) = true) = false := by simpa using c44))
                                              (try (have c44b2 : ((t117 == 0) == true) = false := by simpa using c44))
                                              (try (have c44b3 : ¬ ((t117 == 0) = true) := by simpa using c44))
                                              clear c44
                                              obtain rfl := Option.some.inj H
                                              go_wp2
                                              go_ret
                                              exact ⟨by first | rfl | (simp [errW_none, errW_some] <;> rfl) | (simp [*, errW_none, errW_some] <;> rfl), by repeat (first | (with_reducible first | exact HB.out | apply below_alloc | apply pw_below_drewN | apply below_drew1) | exact HB.out)⟩
                                          · rw [if_neg c43] at H
                                            have c43b0 : (t115 == 2) = false := beq_eq_false_iff_ne.mpr c43
                                            have c43b1 : (t115 != 2) = true := bne_iff_ne.mpr c43
                                            obtain rfl := Option.some.inj H
                                            go_wp2
                                            go_ret
                                            exact ⟨by first | rfl | (simp [errW_none, errW_some] <;> rfl) | (simp [*, errW_none, errW_some] <;> rfl), by repeat (first | (with_reducible first | exact HB.out | apply below_alloc | apply pw_below_drewN | apply below_drew1) | exact HB.out)⟩
                                        · rw [if_neg c42] at H
                                          have c42b0 : (t113 == 3) = false := beq_eq_false_iff_ne.mpr c42
                                          have c42b1 : (t113 != 3) = true := bne_iff_ne.mpr c42
                                          obtain rfl := Option.some.inj H
                                          go_wp2
                                          go_ret
                                          exact ⟨by first | rfl | (simp [errW_none, errW_some] <;> rfl) | (simp [*, errW_none, errW_some] <;> rfl), by repeat (first | (with_reducible first | exact HB.out | apply below_alloc | apply pw_below_drewN | apply below_drew1) | exact HB.out)⟩
                                      · rw [if_neg c41] at H
                                        have c41b0 : (t111 == 3) = false := beq_eq_false_iff_ne.mpr c41
                                        have c41b1 : (t111 != 3) = true := bne_iff_ne.mpr c41
                                        obtain rfl := Option.some.inj H
                                        go_wp2
                                        go_ret
                                        exact ⟨by first | rfl | (simp [errW_none, errW_some] <;> rfl) | (simp [*, errW_none, errW_some] <;> rfl), by repeat (first | (with_reducible first | exact HB.out | apply below_alloc | apply pw_below_drewN | apply below_drew1) | exact HB.out)⟩
                                    · rw [if_neg c40] at H
                                      have c40b0 : (t109 == 3) = false := beq_eq_false_iff_ne.mpr c40
                                      have c40b1 : (t109 != 3) = true := bne_iff_ne.mpr c40
                                      obtain rfl := Option.some.inj H
                                      go_wp2
                                      go_ret
                                      exact ⟨by first | rfl | (simp [errW_none, errW_some] <;> rfl) | (simp [*, errW_none, errW_some] <;> rfl), by repeat (first | (with_reducible first | exact HB.out | apply below_alloc | apply pw_below_drewN | apply below_drew1) | exact HB.out)⟩
                                  · rw [if_neg c39] at H
                                    have c39b0 : (t107 == 0) = false := beq_eq_false_iff_ne.mpr c39
                                    have c39b1 : (t107 != 0) = true := bne_iff_ne.mpr c39
                                    obtain rfl := Option.some.inj H
                                    go_wp2
                                    go_ret
                                    exact ⟨by first | rfl | (simp [errW_none, errW_some] <;> rfl) | (simp [*, errW_none, errW_some] <;> rfl), by repeat (first | (with_reducible first | exact HB.out | apply below_alloc | apply pw_below_drewN | apply below_drew1) | exact HB.out)⟩
                                · rw [if_neg c38] at H
                                  have c38b0 : (t106 == (-9223372036854775808)) = false := beq_eq_false_iff_ne.mpr c38
                                  have c38b1 : (t106 != (-9223372036854775808)) = true := bne_iff_ne.mpr c38
                                  obtain rfl := Option.some.inj H
                                  go_wp2
                                  go_ret
                                  exact ⟨by first | rfl | (simp [errW_none, errW_some] <;> rfl) | (simp [*, errW_none, errW_some] <;> rfl), by repeat (first | (with_reducible first | exact HB.out | apply below_alloc | apply pw_below_drewN | apply below_drew1) | exact HB.out)⟩
                              · rw [if_neg c37] at H
                                have c37b0 : (t105 == 0) = false := beq_eq_false_iff_ne.mpr c37
                                have c37b1 : (t105 != 0) = true := bne_iff_ne.mpr c37
                                obtain rfl := Option.some.inj H
                                go_wp2
                                go_ret
                                exact ⟨by first | rfl | (simp [errW_none, errW_some] <;> rfl) | (simp [*, errW_none, errW_some] <;> rfl), by repeat (first | (with_reducible first | exact HB.out | apply below_alloc | apply pw_below_drewN | apply below_drew1) | exact HB.out)⟩
                            · rw [if_neg c36] at H
                              have c36b0 : (t104 == 9223372036854775807) = false := beq_eq_false_iff_ne.mpr c36
                              have c36b1 : (t104 != 9223372036854775807) = true := bne_iff_ne.mpr c36
                              obtain rfl := Option.some.inj H
                              go_wp2
                              go_ret
                              exact ⟨by first | rfl | (simp [errW_none, errW_some] <;> rfl) | (simp [*, errW_none, errW_some] <;> rfl), by repeat (first | (with_reducible first | exact HB.out | apply below_alloc | apply pw_below_drewN | apply below_drew1) | exact HB.out)⟩
                          · rw [if_neg c35] at H
                            have c35b0 : (a1.toList == ([45] : List UInt8)) = false := by simpa using c35
                            (try (have c35b1 : decide (a1.toList = ([45] : List UInt8)) = false := by simpa using c35))
                            (try (have c35b2 : (a1.toList == ([45] : List UInt8)) = false := by simpa using c35))
                            (try (have c35b3 : ¬ (a1.toList = ([45] : List UInt8)) := by simpa using c35))
                            clear c35
                            by_cases c46 : t104 = 9223372036854775807
                            · rw [if_pos c46] at H
                              have c46b0 : (t104 == 9223372036854775807) = true := beq_iff_eq.mpr c46
                              have c46b1 : (t104 != 9223372036854775807) = false := bne_eq_false_iff_eq.mpr c46
                              clear c46
                              by_cases c47 : t105 = 0
                              · rw [if_pos c47] at H
                                have c47b0 : (t105 == 0) = true := beq_iff_eq.mpr c47
                                have c47b1 : (t105 != 0) = false := bne_eq_false_iff_eq.mpr c47
                                clear c47
                                by_cases c48 : t106 = (-9223372036854775808)
                                · rw [if_pos c48] at H
                                  have c48b0 : (t106 == (-9223372036854775808)) = true := beq_iff_eq.mpr c48
                                  have c48b1 : (t106 != (-9223372036854775808)) = false := bne_eq_false_iff_eq.mpr c48
                                  clear c48
                                  by_cases c49 : t107 = 0
                                  · rw [if_pos c49] at H
                                    have c49b0 : (t107 == 0) = true := beq_iff_eq.mpr c49
                                    have c49b1 : (t107 != 0) = false := bne_eq_false_iff_eq.mpr c49
                                    clear c49
                                    by_cases c50 : t109 = 3
                                    · rw [if_pos c50] at H
                                      have c50b0 : (t109 == 3) = true := beq_iff_eq.mpr c50
                                      have c50b1 : (t109 != 3) = false := bne_eq_false_iff_eq.mpr c50
                                      clear c50
                                      by_cases c51 : t111 = 3
                                      · rw [if_pos c51] at H
                                        have c51b0 : (t111 == 3) = true := beq_iff_eq.mpr c51
                                        have c51b1 : (t111 != 3) = false := bne_eq_false_iff_eq.mpr c51
                                        clear c51
                                        by_cases c52 : t113 = 3
                                        · rw [if_pos c52] at H
                                          have c52b0 : (t113 == 3) = true := beq_iff_eq.mpr c52
                                          have c52b1 : (t113 != 3) = false := bne_eq_false_iff_eq.mpr c52
                                          clear c52
                                          by_cases c53 : t115 = 2
                                          · rw [if_pos c53] at H
                                            have c53b0 : (t115 == 2) = true := beq_iff_eq.mpr c53
                                            have c53b1 : (t115 != 2) = false := bne_eq_false_iff_eq.mpr c53
                                            clear c53
                                            by_cases c54 : ((t117 == 0) == (a1.toList == ([] : List UInt8))) = true
                                            · rw [if_pos c54] at H
                                              have c54b0 : ((t117 == 0) == (a1.toList == ([] : List UInt8))) = true := c54
                                              (try (have c54b1 : decide ((t117 == 0) = (a1.toList == ([] : List UInt8))) = true := by simpa using c54))
                                              (try (have c54b2 : ((t117 == 0) == (a1.toList == ([] : List UInt8))) = true := by simpa using c54))
                                              (try (have c54b3 : ((t117 == 0) == a1.toList.isEmpty) = true := by simpa using c54))
                                              (try (have c54b4 : decide ((t117 == 0) = a1.toList.isEmpty) = true := by simpa using c54))
                                              (try (have c54b5 : ((t117 == 0) == a1.toList.isEmpty) = true := by simpa using c54))
                                              clear c54
                                              by_cases c55 : (a1.toList = ([] : List UInt8))
                                              · rw [if_pos c55] at H
                                                have c55b0 : (a1.toList == ([] : List UInt8)) = true := beq_iff_eq.mpr c55
                                                have c55b1 : (a1.toList != ([] : List UInt8)) = false := bne_eq_false_iff_eq.mpr c55
                                                (try (have c55b2 : a1.toList.isEmpty = true := by simpa using c55))
                                                (try (have c55d0 := c54b0; simp only [c55b0] at c55d0; simp at c55d0))
                                                (try (have c55d1 := c54b2; simp only [c55b0] at c55d1; simp at c55d1))
                                                (try (have c55d2 := c54b3; simp only [c55b2] at c55d2; simp at c55d2))
                                                (try (have c55d3 := c54b5; simp only [c55b2] at c55d3; simp at c55d3))
                                                clear c55
                                                by_cases c56 : t116 = 5
                                                · rw [if_pos c56] at H
                                                  have c56b0 : (t116 == 5) = true := beq_iff_eq.mpr c56
                                                  have c56b1 : (t116 != 5) = false := bne_eq_false_iff_eq.mpr c56
                                                  clear c56
                                                  obtain rfl := Option.some.inj H
                                                  go_wp2
                                                  go_ret
                                                  exact ⟨by first | rfl | (simp [errW_none, errW_some] <;> rfl) | (simp [*, errW_none, errW_some] <;> rfl), by repeat (first | (with_reducible first | exact HB.out | apply below_alloc | apply pw_below_drewN | apply below_drew1) | exact HB.out)⟩
                                                · rw [if_neg c56] at H
                                                  have c56b0 : (t116 == 5) = false := beq_eq_false_iff_ne.mpr c56
                                                  have c56b1 : (t116 != 5) = true := bne_iff_ne.mpr c56
                                                  obtain rfl := Option.some.inj H
                                                  go_wp2
                                                  go_ret
                                                  exact ⟨by first | rfl | (simp [errW_none, errW_some] <;> rfl) | (simp [*, errW_none, errW_some] <;> rfl), by repeat (first | (with_reducible first | exact HB.out | apply below_alloc | apply pw_below_drewN | apply below_drew1) | exact HB.out)⟩
                                              · rw [if_neg c55] at H
                                                have c55b0 : (a1.toList == ([] : List UInt8)) = false := beq_eq_false_iff_ne.mpr c55
                                                have c55b1 : (a1.toList != ([] : List UInt8)) = true := bne_iff_ne.mpr c55
                                                (try (have c55b2 : a1.toList.isEmpty = false := by simpa using c55))
                                                (try (have c55d0 := c54b0; simp only [c55b0] at c55d0; simp at c55d0))
                                                (try (have c55d1 := c54b2; simp only [c55b0] at c55d1; simp at c55d1))
                                                (try (have c55d2 := c54b3; simp only [c55b2] at c55d2; simp at c55d2))
                                                (try (have c55d3 := c54b5; simp only [c55b2] at c55d3; simp at c55d3))
                                                obtain rfl := Option.some.inj H
                                                go_wp2
                                                go_ret
                                                exact ⟨by first | rfl | (simp [errW_none, errW_some] <;> rfl) | (simp [*, errW_none, errW_some] <;> rfl), by repeat (first | (with_reducible first | exact HB.out | apply below_alloc | apply pw_below_drewN | apply below_drew1) | exact HB.out)⟩
                                            · rw [if_neg c54] at H
                                              have c54b0 : ((t117 == 0) == (a1.toList == ([] : List UInt8))) = false := by simpa using c54
                                              (try (have c54b1 : decide ((t117 == 0) = (a1.toList == ([] : List UInt8))) = false := by simpa using c54))
                                              (try (have c54b2 : ((t117 == 0) == (a1.toList == ([] : List UInt8))) = false := by simpa using c54))
                                              (try (have c54b3 : ¬ ((t117 == 0) = (a1.toList == ([] : List UInt8))) := by simpa using c54))
                                              (try (have c54b4 : ((t117 == 0) == a1.toList.isEmpty) = false := by simpa using c54))
                                              (try (have c54b5 : decide ((t117 == 0) = a1.toList.isEmpty) = false := by simpa using c54))
                                              (try (have c54b6 : ((t117 == 0) == a1.toList.isEmpty) = false := by simpa using c54))
                                              (try (have c54b7 : ¬ ((t117 == 0) = a1.toList.isEmpty) := by simpa using c54))
                                              clear c54
                                              obtain rfl := Option.some.inj H
                                              go_wp2
                                              go_ret
                                              exact ⟨by first | rfl | (simp [errW_none, errW_some] <;> rfl) | (simp [*, errW_none, errW_some] <;> rfl), by repeat (first | (with_reducible first | exact HB.out | apply below_alloc | apply pw_below_drewN | apply below_drew1) | exact HB.out)⟩
                                          · rw [if_neg c53] at H
                                            have c53b0 : (t115 == 2) = false := beq_eq_false_iff_ne.mpr c53
                                            have c53b1 : (t115 != 2) = true := bne_iff_ne.mpr c53
                                            obtain rfl := Option.some.inj H
                                            go_wp2
                                            go_ret
                                            exact ⟨by first | rfl | (simp [errW_none, errW_some] <;> rfl) | (simp [*, errW_none, errW_some] <;> rfl), by repeat (first | (with_reducible first | exact HB.out | apply below_alloc | apply pw_below_drewN | apply below_drew1) | exact HB.out)⟩
                                        · rw [if_neg c52] at H
                                          have c52b0 : (t113 == 3) = false := beq_eq_false_iff_ne.mpr c52
                                          have c52b1 : (t113 != 3) = true := bne_iff_ne.mpr c52
                                          obtain rfl := Option.some.inj H
                                          go_wp2
                                          go_ret
                                          exact ⟨by first | rfl | (simp [errW_none, errW_some] <;> rfl) | (simp [*, errW_none, errW_some] <;> rfl), by repeat (first | (with_reducible first | exact HB.out | apply below_alloc | apply pw_below_drewN | apply below_drew1) | exact HB.out)⟩
                                      · rw [if_neg c51] at H
                                        have c51b0 : (t111 == 3) = false := beq_eq_false_iff_ne.mpr c51
                                        have c51b1 : (t111 != 3) = true := bne_iff_ne.mpr c51
                                        obtain rfl := Option.some.inj H
                                        go_wp2
                                        go_ret
                                        exact ⟨by first | rfl | (simp [errW_none, errW_some] <;> rfl) | (simp [*, errW_none, errW_some] <;> rfl), by repeat (first | (with_reducible first | exact HB.out | apply below_alloc | apply pw_below_drewN | apply below_drew1) | exact HB.out)⟩
                                    · rw [if_neg c50] at H
                                      have c50b0 : (t109 == 3) = false := beq_eq_false_iff_ne.mpr c50
                                      have c50b1 : (t109 != 3) = true := bne_iff_ne.mpr c50
                                      obtain rfl := Option.some.inj H
                                      go_wp2
                                      go_ret
                                      exact ⟨by first | rfl | (simp [errW_none, errW_some] <;> rfl) | (simp [*, errW_none, errW_some] <;> rfl), by repeat (first | (with_reducible first | exact HB.out | apply below_alloc | apply pw_below_drewN | apply below_drew1) | exact HB.out)⟩
                                  · rw [if_neg c49] at H
                                    have c49b0 : (t107 == 0) = false := beq_eq_false_iff_ne.mpr c49
                                    have c49b1 : (t107 != 0) = true := bne_iff_ne.mpr c49
                                    obtain rfl := Option.some.inj H
                                    go_wp2
                                    go_ret
                                    exact ⟨by first | rfl | (simp [errW_none, errW_some] <;> rfl) | (simp [*, errW_none, errW_some] <;> rfl), by repeat (first | (with_reducible first | exact HB.out | apply below_alloc | apply pw_below_drewN | apply below_drew1) | exact HB.out)⟩
                                · rw [if_neg c48] at H
                                  have c48b0 : (t106 == (-9223372036854775808)) = false := beq_eq_false_iff_ne.mpr c48
                                  have c48b1 : (t106 != (-9223372036854775808)) = true := bne_iff_ne.mpr c48
                                  obtain rfl := Option.some.inj H
                                  go_wp2
                                  go_ret
                                  exact ⟨by first | rfl | (simp [errW_none, errW_some] <;> rfl) | (simp [*, errW_none, errW_some] <;> rfl), by repeat (first | (with_reducible first | exact HB.out | apply below_alloc | apply pw_below_drewN | apply below_drew1) | exact HB.out)⟩
                              · rw [if_neg c47] at H
                                have c47b0 : (t105 == 0) = false := beq_eq_false_iff_ne.mpr c47
                                have c47b1 : (t105 != 0) = true := bne_iff_ne.mpr c47
                                obtain rfl := Option.some.inj H
                                go_wp2
                                go_ret
                                exact ⟨by first | rfl | (simp [errW_none, errW_some] <;> rfl) | (simp [*, errW_none, errW_some] <;> rfl), by repeat (first | (with_reducible first | exact HB.out | apply below_alloc | apply pw_below_drewN | apply below_drew1) | exact HB.out)⟩
                            · rw [if_neg c46] at H
                              have c46b0 : (t104 == 9223372036854775807) = false := beq_eq_false_iff_ne.mpr c46
                              have c46b1 : (t104 != 9223372036854775807) = true := bne_iff_ne.mpr c46
                              obtain rfl := Option.some.inj H
                              go_wp2
                              go_ret
                              exact ⟨by first | rfl | (simp [errW_none, errW_some] <;> rfl) | (simp [*, errW_none, errW_some] <;> rfl), by repeat (first | (with_reducible first | exact HB.out | apply below_alloc | apply pw_below_drewN | apply below_drew1) | exact HB.out)⟩
                · rw [if_neg c23] at H
                  exact absurd H (by simp)

/-- THE ONE PURE STATEMENT of racewaylaw2_TextBounds: yours. -/
def racewaylaw2_TextBounds.Pure : Prop := ∀ (a0 : Int) (a1 : ByteArray), (Lit.int .i64 a0).wf = true → a1.size ≤ 140737488351232 → ∃ k, racewaylaw2_TextBounds.f k a0 a1 = some true
theorem racewaylaw2_TextBounds.walk (P : racewaylaw2_TextBounds.Pure) (a0 : Int) (a1 : ByteArray) (w : World) (w0 : (Lit.int .i64 a0).wf = true) (w1 : a1.size ≤ 140737488351232) (hG : LaidG w) :
    Calls Tryd.prog 3 #[.int .i64 a0, .string a1] w fun e w' => e = .returned (.bool true) ∧ Below w.heap.size w w' := by
  obtain ⟨k, h⟩ := P a0 a1 w0 w1
  refine (racewaylaw2_TextBounds.calls k a0 a1 true w h hG).mono ?_
  rintro e w' ⟨rfl, hd⟩
  exact ⟨rfl, hd⟩

end Go.Proofs.YteifkibpeimbpaaDoor.Q
