/- Functions of the program as plain Lean functions, and that their calls come to these: written by a program of this session. Conditions: what each theorem asks. -/
import Derived.Test.YtgpeppnbgfdaaaaGreatDoorRx0
import Derived.Test.YtgpeppnbgfdaaaaGreatDoorRx2
import Derived.Test.YtgpeppnbgfdaaaaGreatDoorRxM
import Derived.Test.YtgpeppnbgfdaaaaGreatDoorText
import Derived.Test.YtgpeppnbgfdaaaaGreatDoorPrn
namespace Go.Proofs.YtgpeppnbgfdaaaaGreatDoor.R
open Go.RowKit Go.Proofs.YtgpeppnbgfdaaaaGreatDoor.H Go.Proofs.YtgpeppnbgfdaaaaGreatDoorW.PrintWords Go.Proofs.YtgpeppnbgfdaaaaGreatDoorW.PrintLast Go.Proofs.YtgpeppnbgfdaaaaGreatDoorW.PrintMore
attribute [local go_sem] max2_int min2_int max_two min_two max_three min_three max_four min_four   -- for this text's walks alone
set_option linter.unusedVariables false
private theorem sz_mk_ (a : Array UInt8) : (ByteArray.mk a).size = a.size := rfl
set_option linter.unusedSimpArgs false

/-! ### racewaylaw4_DimacsSpaces: function 6 -/
mutual
def racewaylaw4_DimacsSpaces.j0 : Nat → Int → Int → List (S57) → List Int → Bool → Bool → Option (Bool)
  | 0, _, _, _, _, _, _ => none
  | k + 1, x0, x1, x2, x3, x9, x28 => if x28 = true then (some x9) else ((racewaylaw4_made.f k x0 x1 x2).bind fun bt256 => ((dimacs_Print.f bt256.1 bt256.2.1 bt256.2.2.1 bt256.2.2.2).bind fun bt263 => (if bt263.2 = 0 then (racewaylaw4_DimacsSpaces.l0 k x3 bt263.1 (([(⟨#[32]⟩ : ByteArray), (⟨#[9]⟩ : ByteArray), (⟨#[32, 32]⟩ : ByteArray), (⟨#[32, 13, 32]⟩ : ByteArray), (⟨#[9, 9, 32, 48]⟩ : ByteArray), (⟨#[32, 48, 48]⟩ : ByteArray)] : List ByteArray)) (⟨#[]⟩ : ByteArray) 0 0 bt256.1 bt256.2.1 bt256.2.2.1 bt256.2.2.2) else (some false))))
def racewaylaw4_DimacsSpaces.l0 : Nat → List Int → ByteArray → List ByteArray → ByteArray → Int → Int → Int → Int → Int → List (S44) → Option (Bool)
  | 0, _, _, _, _, _, _, _, _, _, _ => none
  | k + 1, x3, x11, x13, x14, x15, x16, x263000, x263001, x263002, x263003 => if x16 < (x11.size : Int) then (if 0 ≤ x16 then (if (bt x11 x16) = 32 then (racewaylaw4_DimacsSpaces.j2 k x3 x11 x13 x14 x15 x16 (decide (x15 < (x3.length : Int))) x263000 x263001 x263002 x263003) else (racewaylaw4_DimacsSpaces.j2 k x3 x11 x13 x14 x15 x16 false x263000 x263001 x263002 x263003)) else (none)) else ((dimacs_Parse.f x14).bind fun bt268 => (if bt268.2.2.2.2.2 = 0 then (if bt268.2.2.2.2.1 = 0 then ((net_Same.f bt268.1 bt268.2.1 bt268.2.2.1 bt268.2.2.2.1 x263000 x263001 x263002 x263003).bind fun t277 => (some t277)) else (some false)) else (some false)))
def racewaylaw4_DimacsSpaces.j2 : Nat → List Int → ByteArray → List ByteArray → ByteArray → Int → Int → Bool → Int → Int → Int → List (S44) → Option (Bool)
  | 0, _, _, _, _, _, _, _, _, _, _, _ => none
  | k + 1, x3, x11, x13, x14, x15, x16, x57, x263000, x263001, x263002, x263003 => if x57 = true then (if 0 ≤ x15 then (if x15 < (x3.length : Int) then ((racewaylaw4_pick.f (rd x3 x15) 6).bind fun t279 => (if 0 ≤ t279 then (if t279 < (x13.length : Int) then (if (wrap64 (x16 + 1)) < (x11.size : Int) then (if 0 ≤ (wrap64 (x16 + 1)) then (if (bt x11 (wrap64 (x16 + 1))) < 48 then (racewaylaw4_DimacsSpaces.j3 k x3 x11 x13 x14 x15 x16 (rdOf ByteArray.empty x13 t279) true x263000 x263001 x263002 x263003) else (racewaylaw4_DimacsSpaces.j3 k x3 x11 x13 x14 x15 x16 (rdOf ByteArray.empty x13 t279) (decide ((bt x11 (wrap64 (x16 + 1))) > 57)) x263000 x263001 x263002 x263003)) else (none)) else (racewaylaw4_DimacsSpaces.j3 k x3 x11 x13 x14 x15 x16 (rdOf ByteArray.empty x13 t279) false x263000 x263001 x263002 x263003)) else (none)) else (none))) else (none)) else (none)) else (if 0 ≤ x16 then (if x16 ≤ (wrap64 (x16 + 1)) then (if (wrap64 (x16 + 1)) ≤ (x11.size : Int) then (if x14.size + (x11.extract (x16 : Int).toNat ((wrap64 (x16 + 1)) : Int).toNat).size ≤ 9223372036854775807 then (if x16 < (x11.size : Int) then (if (bt x11 x16) = 10 then (if x15 < (x3.length : Int) then (if 0 ≤ x15 then ((racewaylaw4_pick.f (rd x3 x15) 3).bind fun t285 => (if t285 = 0 then (if (x14 ++ (x11.extract (x16 : Int).toNat ((wrap64 (x16 + 1)) : Int).toNat)).size + 14 ≤ 9223372036854775807 then (racewaylaw4_DimacsSpaces.l0 k x3 x11 x13 ((x14 ++ (x11.extract (x16 : Int).toNat ((wrap64 (x16 + 1)) : Int).toNat)) ++ (⟨#[99, 32, 112, 32, 109, 97, 120, 32, 57, 32, 57, 10, 9, 10]⟩ : ByteArray)) x15 (wrap64 (x16 + 1)) x263000 x263001 x263002 x263003) else (none)) else (racewaylaw4_DimacsSpaces.l0 k x3 x11 x13 (x14 ++ (x11.extract (x16 : Int).toNat ((wrap64 (x16 + 1)) : Int).toNat)) x15 (wrap64 (x16 + 1)) x263000 x263001 x263002 x263003))) else (none)) else (racewaylaw4_DimacsSpaces.l0 k x3 x11 x13 (x14 ++ (x11.extract (x16 : Int).toNat ((wrap64 (x16 + 1)) : Int).toNat)) x15 (wrap64 (x16 + 1)) x263000 x263001 x263002 x263003)) else (racewaylaw4_DimacsSpaces.l0 k x3 x11 x13 (x14 ++ (x11.extract (x16 : Int).toNat ((wrap64 (x16 + 1)) : Int).toNat)) x15 (wrap64 (x16 + 1)) x263000 x263001 x263002 x263003)) else (none)) else (none)) else (none)) else (none)) else (none))
def racewaylaw4_DimacsSpaces.j3 : Nat → List Int → ByteArray → List ByteArray → ByteArray → Int → Int → ByteArray → Bool → Int → Int → Int → List (S44) → Option (Bool)
  | 0, _, _, _, _, _, _, _, _, _, _, _, _ => none
  | k + 1, x3, x11, x13, x14, x15, x16, x17, x84, x263000, x263001, x263002, x263003 => if x84 = true then (if 0 ≤ x15 then (if x15 < (x3.length : Int) then ((racewaylaw4_pick.f (rd x3 x15) 4).bind fun t282 => (if 0 ≤ t282 then (if t282 < (x13.length : Int) then (if x14.size + (rdOf ByteArray.empty x13 t282).size ≤ 9223372036854775807 then (racewaylaw4_DimacsSpaces.l0 k x3 x11 x13 (x14 ++ (rdOf ByteArray.empty x13 t282)) (wrap64 (x15 + 1)) (wrap64 (x16 + 1)) x263000 x263001 x263002 x263003) else (none)) else (none)) else (none))) else (none)) else (none)) else (if x14.size + x17.size ≤ 9223372036854775807 then (racewaylaw4_DimacsSpaces.l0 k x3 x11 x13 (x14 ++ x17) (wrap64 (x15 + 1)) (wrap64 (x16 + 1)) x263000 x263001 x263002 x263003) else (none))
end
def racewaylaw4_DimacsSpaces.f (k : Nat) (a0 : Int) (a1 : Int) (l2 : List (S57)) (l3 : List Int) : Option (Bool) := (racewaylaw4_shown.f).bind fun t255 => (if t255 = true then (racewaylaw4_DimacsSpaces.j0 k a0 a1 l2 l3 t255 (decide ((l3.length : Int) > 200))) else (racewaylaw4_DimacsSpaces.j0 k a0 a1 l2 l3 t255 true))
theorem racewaylaw4_DimacsSpaces.mono_l : ∀ k, (∀ y0 y1 y2 y3 y4 y5, LeO (racewaylaw4_DimacsSpaces.j0 k y0 y1 y2 y3 y4 y5) (racewaylaw4_DimacsSpaces.j0 (k + 1) y0 y1 y2 y3 y4 y5)) ∧ (∀ y0 y1 y2 y3 y4 y5 y6 y7 y8 y9, LeO (racewaylaw4_DimacsSpaces.l0 k y0 y1 y2 y3 y4 y5 y6 y7 y8 y9) (racewaylaw4_DimacsSpaces.l0 (k + 1) y0 y1 y2 y3 y4 y5 y6 y7 y8 y9)) ∧ (∀ y0 y1 y2 y3 y4 y5 y6 y7 y8 y9 y10, LeO (racewaylaw4_DimacsSpaces.j2 k y0 y1 y2 y3 y4 y5 y6 y7 y8 y9 y10) (racewaylaw4_DimacsSpaces.j2 (k + 1) y0 y1 y2 y3 y4 y5 y6 y7 y8 y9 y10)) ∧ (∀ y0 y1 y2 y3 y4 y5 y6 y7 y8 y9 y10 y11, LeO (racewaylaw4_DimacsSpaces.j3 k y0 y1 y2 y3 y4 y5 y6 y7 y8 y9 y10 y11) (racewaylaw4_DimacsSpaces.j3 (k + 1) y0 y1 y2 y3 y4 y5 y6 y7 y8 y9 y10 y11))
  | 0 => ⟨fun _ _ _ _ _ _ r h => by simp [racewaylaw4_DimacsSpaces.j0] at h, fun _ _ _ _ _ _ _ _ _ _ r h => by simp [racewaylaw4_DimacsSpaces.l0] at h, fun _ _ _ _ _ _ _ _ _ _ _ r h => by simp [racewaylaw4_DimacsSpaces.j2] at h, fun _ _ _ _ _ _ _ _ _ _ _ _ r h => by simp [racewaylaw4_DimacsSpaces.j3] at h⟩
  | k + 1 => by
    obtain ⟨ih0, ih1, ih2, ih3⟩ := racewaylaw4_DimacsSpaces.mono_l k
    refine ⟨?_, ?_, ?_, ?_⟩
    · intro y0 y1 y2 y3 y4 y5
      unfold racewaylaw4_DimacsSpaces.j0
      repeat' first
      | (with_reducible exact ih0 _ _ _ _ _ _)
      | (with_reducible exact ih1 _ _ _ _ _ _ _ _ _ _)
      | (with_reducible exact ih2 _ _ _ _ _ _ _ _ _ _ _)
      | (with_reducible exact ih3 _ _ _ _ _ _ _ _ _ _ _ _)
      | (with_reducible exact racewaylaw4_made.mono _ _ _ _)
      | (with_reducible exact LeO.refl _)
      | (with_reducible exact LeO.none _)
      | (with_reducible refine LeO.ite ?_ ?_)
      | (with_reducible refine LeO.bind ?_ (fun _ => ?_))
      | exact ih0 _ _ _ _ _ _
      | exact ih1 _ _ _ _ _ _ _ _ _ _
      | exact ih2 _ _ _ _ _ _ _ _ _ _ _
      | exact ih3 _ _ _ _ _ _ _ _ _ _ _ _
      | exact racewaylaw4_made.mono _ _ _ _
      | exact LeO.none _
      | refine LeO.ite ?_ ?_
      | refine LeO.bind ?_ (fun _ => ?_)
    · intro y0 y1 y2 y3 y4 y5 y6 y7 y8 y9
      unfold racewaylaw4_DimacsSpaces.l0
      repeat' first
      | (with_reducible exact ih0 _ _ _ _ _ _)
      | (with_reducible exact ih1 _ _ _ _ _ _ _ _ _ _)
      | (with_reducible exact ih2 _ _ _ _ _ _ _ _ _ _ _)
      | (with_reducible exact ih3 _ _ _ _ _ _ _ _ _ _ _ _)
      | (with_reducible exact racewaylaw4_made.mono _ _ _ _)
      | (with_reducible exact LeO.refl _)
      | (with_reducible exact LeO.none _)
      | (with_reducible refine LeO.ite ?_ ?_)
      | (with_reducible refine LeO.bind ?_ (fun _ => ?_))
      | exact ih0 _ _ _ _ _ _
      | exact ih1 _ _ _ _ _ _ _ _ _ _
      | exact ih2 _ _ _ _ _ _ _ _ _ _ _
      | exact ih3 _ _ _ _ _ _ _ _ _ _ _ _
      | exact racewaylaw4_made.mono _ _ _ _
      | exact LeO.none _
      | refine LeO.ite ?_ ?_
      | refine LeO.bind ?_ (fun _ => ?_)
    · intro y0 y1 y2 y3 y4 y5 y6 y7 y8 y9 y10
      unfold racewaylaw4_DimacsSpaces.j2
      repeat' first
      | (with_reducible exact ih0 _ _ _ _ _ _)
      | (with_reducible exact ih1 _ _ _ _ _ _ _ _ _ _)
      | (with_reducible exact ih2 _ _ _ _ _ _ _ _ _ _ _)
      | (with_reducible exact ih3 _ _ _ _ _ _ _ _ _ _ _ _)
      | (with_reducible exact racewaylaw4_made.mono _ _ _ _)
      | (with_reducible exact LeO.refl _)
      | (with_reducible exact LeO.none _)
      | (with_reducible refine LeO.ite ?_ ?_)
      | (with_reducible refine LeO.bind ?_ (fun _ => ?_))
      | exact ih0 _ _ _ _ _ _
      | exact ih1 _ _ _ _ _ _ _ _ _ _
      | exact ih2 _ _ _ _ _ _ _ _ _ _ _
      | exact ih3 _ _ _ _ _ _ _ _ _ _ _ _
      | exact racewaylaw4_made.mono _ _ _ _
      | exact LeO.none _
      | refine LeO.ite ?_ ?_
      | refine LeO.bind ?_ (fun _ => ?_)
    · intro y0 y1 y2 y3 y4 y5 y6 y7 y8 y9 y10 y11
      unfold racewaylaw4_DimacsSpaces.j3
      repeat' first
      | (with_reducible exact ih0 _ _ _ _ _ _)
      | (with_reducible exact ih1 _ _ _ _ _ _ _ _ _ _)
      | (with_reducible exact ih2 _ _ _ _ _ _ _ _ _ _ _)
      | (with_reducible exact ih3 _ _ _ _ _ _ _ _ _ _ _ _)
      | (with_reducible exact racewaylaw4_made.mono _ _ _ _)
      | (with_reducible exact LeO.refl _)
      | (with_reducible exact LeO.none _)
      | (with_reducible refine LeO.ite ?_ ?_)
      | (with_reducible refine LeO.bind ?_ (fun _ => ?_))
      | exact ih0 _ _ _ _ _ _
      | exact ih1 _ _ _ _ _ _ _ _ _ _
      | exact ih2 _ _ _ _ _ _ _ _ _ _ _
      | exact ih3 _ _ _ _ _ _ _ _ _ _ _ _
      | exact racewaylaw4_made.mono _ _ _ _
      | exact LeO.none _
      | refine LeO.ite ?_ ?_
      | refine LeO.bind ?_ (fun _ => ?_)
theorem racewaylaw4_DimacsSpaces.mono : ∀ a0 a1 a2 a3 k, LeO (racewaylaw4_DimacsSpaces.f k a0 a1 a2 a3) (racewaylaw4_DimacsSpaces.f (k + 1) a0 a1 a2 a3) := by
  intro a0 a1 a2 a3 k
  obtain ⟨ih0, ih1, ih2, ih3⟩ := racewaylaw4_DimacsSpaces.mono_l k
  unfold racewaylaw4_DimacsSpaces.f
  repeat' first
      | (with_reducible exact ih0 _ _ _ _ _ _)
      | (with_reducible exact ih1 _ _ _ _ _ _ _ _ _ _)
      | (with_reducible exact ih2 _ _ _ _ _ _ _ _ _ _ _)
      | (with_reducible exact ih3 _ _ _ _ _ _ _ _ _ _ _ _)
      | (with_reducible exact racewaylaw4_made.mono _ _ _ _)
      | (with_reducible exact LeO.refl _)
      | (with_reducible exact LeO.none _)
      | (with_reducible refine LeO.ite ?_ ?_)
      | (with_reducible refine LeO.bind ?_ (fun _ => ?_))
      | exact ih0 _ _ _ _ _ _
      | exact ih1 _ _ _ _ _ _ _ _ _ _
      | exact ih2 _ _ _ _ _ _ _ _ _ _ _
      | exact ih3 _ _ _ _ _ _ _ _ _ _ _ _
      | exact racewaylaw4_made.mono _ _ _ _
      | exact LeO.none _
      | refine LeO.ite ?_ ?_
      | refine LeO.bind ?_ (fun _ => ?_)
set_option maxHeartbeats 8000000 in
set_option maxRecDepth 100000 in
theorem racewaylaw4_DimacsSpaces.calls (k : Nat) (a0 : Int) (a1 : Int) (A2 : Option Addr) (c2 : Nat) (l2 : List (S57)) (A3 : Option Addr) (c3 : Nat) (l3 : List Int) (r : Bool) (w : World) (hr2 : Kd.C k57 w A2 l2.length l2) (hc2 : l2.length ≤ c2) (hr3 : Kd.C (Kd.int .i64) w A3 l3.length l3) (hc3 : l3.length ≤ c3) (h : racewaylaw4_DimacsSpaces.f k a0 a1 l2 l3 = some r) (hG : LaidG w) :
    Calls Tryz.prog 6 #[.int .i64 a0, .int .i64 a1, .slice A2 l2.length c2, .slice A3 l3.length c3] w fun e w' => e = .returned (.bool r) ∧ Below w.heap.size w w' := by
  have hu24 := Tryz.underlying24
  have HR2 := Aside0.mk hr2
  have HC2 := Aside0.mk hc2
  clear hr2 hc2
  have HR3 := Aside0.mk hr3
  have HC3 := Aside0.mk hc3
  clear hr3 hc3
  have HB := Aside0.mk (Below.refl w.heap.size w)
  have H : ((racewaylaw4_shown.f).bind fun t255 => (if t255 = true then (racewaylaw4_DimacsSpaces.j0 k a0 a1 l2 l3 t255 (decide ((l3.length : Int) > 200))) else (racewaylaw4_DimacsSpaces.j0 k a0 a1 l2 l3 t255 true))) = some r := h
  clear h
  replace H := Option.bind_eq_some_iff.mp H
  obtain ⟨t255, A50, H⟩ := H
  replace H : (if t255 = true then (racewaylaw4_DimacsSpaces.j0 k a0 a1 l2 l3 t255 (decide ((l3.length : Int) > 200))) else (racewaylaw4_DimacsSpaces.j0 k a0 a1 l2 l3 t255 true)) = some r := H
  have A5 := Aside0.mk A50
  clear A50
  have HC6 := Aside0.mk H
  clear H
  go_enter Tryz.func6, Tryz.ntmps6
  go_upto_region 2 with (first | ((with_reducible refine gate_callee (f := 7) rfl ?_); refine goesL_ (some 21) rfl rfl Tryz.func7 (by kernel_rfl) rfl #[] rfl (by (try simp only [List.map_toArray, List.map_cons, List.map_nil]); first | done | rfl | (simp only [List.length_drop, List.length_take]; rfl)) ?_; (with_reducible refine (racewaylaw4_shown.calls  t255 _ A5.out (LaidG.below hG (by repeat (first | (with_reducible first | exact HB.out | apply below_alloc | apply pw_below_drewN | apply below_drew1) | exact HB.out)))).mono ?_); rintro e w7 ⟨rfl, hb⟩; refine ⟨_, rfl, ?_⟩; have n0_ := Aside0.mk (below_step (by repeat (first | (with_reducible first | exact HB.out | apply below_alloc | apply pw_below_drewN | apply below_drew1) | exact HB.out)) hb); clear HB; have HB := n0_; clear n0_; (try clear hb); (try clear hb2); (try clear hk); (try clear hi)))
  (try simp only [Act.put, List.setIfInBounds_toArray, List.set_cons_zero, List.set_cons_succ])
  go_cut [28] (fun v28 wc => ∃ (kq : Nat) (x28_5 : Bool), v28 = .bool x28_5 ∧ Aside0 (racewaylaw4_DimacsSpaces.j0 kq a0 a1 l2 l3 t255 x28_5 = some r) ∧ Aside0 (kq ≤ k) ∧ Aside0 (Below w.heap.size w wc))
  case first =>
    have H := HC6.out
    clear HC6
    by_cases c8 : t255 = true
    · subst c8
      have H1 : (racewaylaw4_DimacsSpaces.j0 k a0 a1 l2 l3 true (decide ((l3.length : Int) > 200))) = some r := by rw [if_pos rfl] at H; exact H
      clear H
      have H := H1
      clear H1
      have H' := Aside0.mk H
      clear H
      go_wp2
      go_meet
      case rel => exact ⟨_, (decide ((l3.length : Int) > 200)), (by first | rfl | (simp; done) | (simp [*]; done)), H', ⟨by first | omega | exact Nat.le_refl _⟩, ⟨by repeat (first | (with_reducible first | exact HB.out | apply below_alloc | apply pw_below_drewN | apply below_drew1) | exact HB.out)⟩⟩
    · replace c8 := Bool.eq_false_iff.mpr c8
      subst c8
      have H1 : (racewaylaw4_DimacsSpaces.j0 k a0 a1 l2 l3 false true) = some r := by rw [if_neg (show ¬ (false = true) by decide)] at H; exact H
      clear H
      have H := H1
      clear H1
      have H' := Aside0.mk H
      clear H
      go_wp2
      go_meet
      case rel => exact ⟨_, (true), (by first | rfl | (simp; done) | (simp [*]; done)), H', ⟨by first | omega | exact Nat.le_refl _⟩, ⟨by repeat (first | (with_reducible first | exact HB.out | apply below_alloc | apply pw_below_drewN | apply below_drew1) | exact HB.out)⟩⟩
  case rest =>
    clear HC6
    try clear c2
    try clear p2
    try clear c3
    try clear c6
    try clear c7
    try clear c8
    obtain ⟨kq, x28_5, rfl, HA, HJ5, HB⟩ := hcut
    cases kq with
    | zero => exact absurd HA.out (by simp [racewaylaw4_DimacsSpaces.j0])
    | succ kj5 =>
      ·
        have H := HA.out
        clear HA
        simp only [racewaylaw4_DimacsSpaces.j0] at H
        by_cases c9 : x28_5 = true
        · subst c9
          have H1 : (some t255) = some r := by rw [if_pos rfl] at H; exact H
          clear H
          have H := H1
          clear H1
          obtain rfl := Option.some.inj H
          go_wp2
          go_ret
          exact ⟨by first | rfl | (simp [errW_none, errW_some] <;> rfl) | (simp [*, errW_none, errW_some] <;> rfl), by repeat (first | (with_reducible first | exact HB.out | apply below_alloc | apply pw_below_drewN | apply below_drew1) | exact HB.out)⟩
        · replace c9 := Bool.eq_false_iff.mpr c9
          subst c9
          have H1 : ((racewaylaw4_made.f kj5 a0 a1 l2).bind fun bt256 => ((dimacs_Print.f bt256.1 bt256.2.1 bt256.2.2.1 bt256.2.2.2).bind fun bt263 => (if bt263.2 = 0 then (racewaylaw4_DimacsSpaces.l0 kj5 l3 bt263.1 (([(⟨#[32]⟩ : ByteArray), (⟨#[9]⟩ : ByteArray), (⟨#[32, 32]⟩ : ByteArray), (⟨#[32, 13, 32]⟩ : ByteArray), (⟨#[9, 9, 32, 48]⟩ : ByteArray), (⟨#[32, 48, 48]⟩ : ByteArray)] : List ByteArray)) (⟨#[]⟩ : ByteArray) 0 0 bt256.1 bt256.2.1 bt256.2.2.1 bt256.2.2.2) else (some false)))) = some r := by rw [if_neg (show ¬ (false = true) by decide)] at H; exact H
          clear H
          have H := H1
          clear H1
          replace H := Option.bind_eq_some_iff.mp H
          obtain ⟨⟨t256, t257, t258, t259⟩, A100, H⟩ := H
          replace H : ((dimacs_Print.f t256 t257 t258 t259).bind fun bt263 => (if bt263.2 = 0 then (racewaylaw4_DimacsSpaces.l0 kj5 l3 bt263.1 (([(⟨#[32]⟩ : ByteArray), (⟨#[9]⟩ : ByteArray), (⟨#[32, 32]⟩ : ByteArray), (⟨#[32, 13, 32]⟩ : ByteArray), (⟨#[9, 9, 32, 48]⟩ : ByteArray), (⟨#[32, 48, 48]⟩ : ByteArray)] : List ByteArray)) (⟨#[]⟩ : ByteArray) 0 0 t256 t257 t258 t259) else (some false))) = some r := H
          have A10 := Aside0.mk A100
          clear A100
          replace H := Option.bind_eq_some_iff.mp H
          obtain ⟨⟨t263, t264⟩, A110, H⟩ := H
          replace H : (if t264 = 0 then (racewaylaw4_DimacsSpaces.l0 kj5 l3 t263 (([(⟨#[32]⟩ : ByteArray), (⟨#[9]⟩ : ByteArray), (⟨#[32, 32]⟩ : ByteArray), (⟨#[32, 13, 32]⟩ : ByteArray), (⟨#[9, 9, 32, 48]⟩ : ByteArray), (⟨#[32, 48, 48]⟩ : ByteArray)] : List ByteArray)) (⟨#[]⟩ : ByteArray) 0 0 t256 t257 t258 t259) else (some false)) = some r := H
          have A11 := Aside0.mk A110
          clear A110
          by_cases c12 : t264 = 0
          · rw [if_pos c12] at H
            have c12b0 : (t264 == 0) = true := beq_iff_eq.mpr c12
            have c12b1 : (t264 != 0) = false := bne_eq_false_iff_eq.mpr c12
            clear c12
            obtain ⟨y265, hy265⟩ : ∃ y_ : List ByteArray, y_ = (([(⟨#[32]⟩ : ByteArray), (⟨#[9]⟩ : ByteArray), (⟨#[32, 32]⟩ : ByteArray), (⟨#[32, 13, 32]⟩ : ByteArray), (⟨#[9, 9, 32, 48]⟩ : ByteArray), (⟨#[32, 48, 48]⟩ : ByteArray)] : List ByteArray)) := ⟨_, rfl⟩
            replace H : (racewaylaw4_DimacsSpaces.l0 kj5 l3 t263 y265 (⟨#[]⟩ : ByteArray) 0 0 t256 t257 t258 t259) = some r := by first | (rw [hy265]; with_reducible exact H) | (have H2_ := (Option.bind_some _ _).symm.trans H; rw [hy265]; with_reducible exact H2_) | (have H2_ := (Option.bind_some _ _).symm.trans H; with_reducible exact H2_) | with_reducible exact H | (rw [hy265]; exact H) | exact H
            have Ny265 := Aside0.mk hy265
            clear hy265
            have H' := Aside0.mk H
            clear H
            go_wp2_with (first | ((with_reducible refine gate_callee (f := 10) rfl ?_); refine goesL_ (some 33) rfl rfl Tryz.func10 (by kernel_rfl) rfl #[.int .i64 a0, .int .i64 a1, .slice A2 l2.length c2] rfl (by (try simp only [List.map_toArray, List.map_cons, List.map_nil]); first | done | rfl | (simp only [List.length_drop, List.length_take]; rfl)) ?_; (with_reducible refine (racewaylaw4_made.calls kj5 a0 a1 _ _ l2 t256 t257 t258 t259 _ ?side1 ?side2 A10.out).mono ?_); (case side1 => repeat (first | exact (Kd.C_below HR2.out HB.out) | (with_reducible refine Kd.C_alloc ?_ _) | (with_reducible refine Kd.C_drewN ?_ _) | (with_reducible refine Kd.C_drew ?_))); (case side2 => exact HC2.out); rintro e w13 ⟨v260, rfl, ho0, hb⟩; refine ⟨_, rfl, ?_⟩; have n0_ := Aside0.mk (Kd.R_lower ho0 (below_size (by repeat (first | (with_reducible first | exact HB.out | apply below_alloc | apply pw_below_drewN | apply below_drew1) | exact HB.out)))); have n1_ := Aside0.mk (below_step (by repeat (first | (with_reducible first | exact HB.out | apply below_alloc | apply pw_below_drewN | apply below_drew1) | exact HB.out)) hb); clear HB; have HO261 := n0_; have HB := n1_; clear n0_ n1_; (try clear hb); (try clear hb2); (try clear hk); (try clear hi); (try clear ho0)) | ((with_reducible refine gate_dst (N := 10) rfl ?_); (try (refine gate_guard (by rfl) ?_; dsimp only)); refine box_event ?hg (N := 10) ?hd (cs := #[.int .i64 0, .int .i64 0, .int .i64 0, .slice none 0 0]) (t := 24) ?hr ?_; (case hd => rfl); (case hg => rfl); (case hr => first | (go_simp; done) | (go_simp; rfl)); intro gb262 hg w14 hbox hb; have n0_ := Aside0.mk (Kd.R_below (by (with_reducible repeat (first | apply Kd.R_alloc | apply Kd.R_drewN | apply Kd.R_drew)); exact HO261.out) hb); have n1_ := Aside0.mk (below_step (by repeat (first | (with_reducible first | exact HB.out | apply below_alloc | apply pw_below_drewN | apply below_drew1) | exact HB.out)) hb); have n2_ := Aside0.mk (hbox); have n3_ := Aside0.mk ((by rw [hg]; exact (below_size (by repeat (first | (with_reducible first | exact HB.out | apply below_alloc | apply pw_below_drewN | apply below_drew1) | exact HB.out))) : w.heap.size ≤ gb262)); have n4_ := Aside0.mk ((by rw [hg]; exact (below_size (by repeat (first | (with_reducible first | exact HB.out | apply below_alloc | apply pw_below_drewN | apply below_drew1) | exact HB.out))) : w.heap.size ≤ gb262)); clear HO261; clear HB; have HO261 := n0_; have HB := n1_; have BK262 := n2_; have GW262 := n3_; have GE262 := n4_; clear n0_ n1_ n2_ n3_ n4_; clear hb hbox hg; have hcz15_0 : w14.cell? ⟨gb262, 0, none⟩ = some (.int .i64 0) := (blk_cell BK262.out 0).trans rfl; have hcz15_1 : w14.cell? ⟨gb262, 1, none⟩ = some (.int .i64 0) := (blk_cell BK262.out 1).trans rfl; have hcz15_2 : w14.cell? ⟨gb262, 2, none⟩ = some (.int .i64 0) := (blk_cell BK262.out 2).trans rfl; have hcz15_3 : w14.cell? ⟨gb262, 3, none⟩ = some (.slice none 0 0) := (blk_cell BK262.out 3).trans rfl; have hfz15_0 := blk_frozen BK262.out 0; have hfz15_1 := blk_frozen BK262.out 1; have hfz15_2 := blk_frozen BK262.out 2; have hfz15_3 := blk_frozen BK262.out 3; obtain ⟨Ao16, co16, eo16⟩ := Kd.R_slice HO261.out; subst eo16) | ((with_reducible refine gate_callee (f := 8) rfl ?_); refine goesL_ (some 36) rfl rfl Tryz.func8 (by kernel_rfl) rfl #[.agg #[.int .i64 t256, .int .i64 t257, .int .i64 t258, .slice Ao16 t259.length co16]] rfl (by (try simp only [List.map_toArray, List.map_cons, List.map_nil]); first | done | rfl | (simp only [List.length_drop, List.length_take]; rfl)) ?_; (with_reducible refine (dimacs_Print.calls t256 t257 t258 _ _ t259 t263 t264 _ ?side1 ?side2 A11.out (LaidG.below hG (by repeat (first | (with_reducible first | exact HB.out | apply below_alloc | apply pw_below_drewN | apply below_drew1 | refine below_set ?_ GE262.out) | exact HB.out)))).mono ?_); (case side1 => refine (Kd.R_reads' (e := 44) (base := w.heap.size) (ok := fun k_ => True) (n := t259.length) (c := co16) ?_).2.2; exact (by (with_reducible repeat (first | apply Kd.R_alloc | apply Kd.R_drewN | apply Kd.R_drew)); exact (Kd.R_mono (Kd.R_far (p := ⟨gb262, 3, none⟩) (Kd.R_far (p := ⟨gb262, 2, none⟩) (Kd.R_far (p := ⟨gb262, 1, none⟩) (Kd.R_far (p := ⟨gb262, 0, none⟩) (Kd.R_types HO261.out BK262.out (by decide)) (fun _ hk => hk.2) (.int .i64 t256)) (fun _ hk => hk.2) (.int .i64 t257)) (fun _ hk => hk.2) (.int .i64 t258)) (fun _ hk => hk.2) (.slice Ao16 t259.length co16)) (fun _ h_ => h_.1)))); (case side2 => exact (Kd.R_reads' HO261.out).2.1); rintro e w17 ⟨rfl, hb⟩; refine ⟨_, rfl, ?_⟩; have n0_ := Aside0.mk (Kd.R_below (by (with_reducible repeat (first | apply Kd.R_alloc | apply Kd.R_drewN | apply Kd.R_drew)); exact (Kd.R_mono (Kd.R_far (p := ⟨gb262, 3, none⟩) (Kd.R_far (p := ⟨gb262, 2, none⟩) (Kd.R_far (p := ⟨gb262, 1, none⟩) (Kd.R_far (p := ⟨gb262, 0, none⟩) (Kd.R_types HO261.out BK262.out (by decide)) (fun _ hk => hk.2) (.int .i64 t256)) (fun _ hk => hk.2) (.int .i64 t257)) (fun _ hk => hk.2) (.int .i64 t258)) (fun _ hk => hk.2) (.slice Ao16 t259.length co16)) (fun _ h_ => h_.1))) hb); have n1_ := Aside0.mk (blk_below (g := gb262) (o := .cells #[.int .i64 t256, .int .i64 t257, .int .i64 t258, .slice Ao16 t259.length co16] 24 (0, 0)) (by (with_reducible repeat (first | refine blk_drewN ?_ _ | refine blk_drew ?_ | refine blk_alloc ?_ _)); refine blk_put (cs := #[.int .i64 t256, .int .i64 t257, .int .i64 t258, .slice none 0 0]) ?_ 3 _ rfl; (with_reducible repeat (first | refine blk_drewN ?_ _ | refine blk_drew ?_ | refine blk_alloc ?_ _)); refine blk_put (cs := #[.int .i64 t256, .int .i64 t257, .int .i64 0, .slice none 0 0]) ?_ 2 _ rfl; (with_reducible repeat (first | refine blk_drewN ?_ _ | refine blk_drew ?_ | refine blk_alloc ?_ _)); refine blk_put (cs := #[.int .i64 t256, .int .i64 0, .int .i64 0, .slice none 0 0]) ?_ 1 _ rfl; (with_reducible repeat (first | refine blk_drewN ?_ _ | refine blk_drew ?_ | refine blk_alloc ?_ _)); refine blk_put (cs := #[.int .i64 0, .int .i64 0, .int .i64 0, .slice none 0 0]) ?_ 0 _ rfl; (with_reducible repeat (first | refine blk_drewN ?_ _ | refine blk_drew ?_ | refine blk_alloc ?_ _)); exact BK262.out) hb); have n2_ := Aside0.mk (below_step (by repeat (first | (with_reducible first | exact HB.out | apply below_alloc | apply pw_below_drewN | apply below_drew1 | refine below_set ?_ GE262.out) | exact HB.out)) hb); clear HO261; clear BK262; clear HB; have HO261 := n0_; have BK262 := n1_; have HB := n2_; clear n0_ n1_ n2_; (try clear hb); (try clear hb2); (try clear hk); (try clear hi)) | ((with_reducible refine gate_dst (N := 41) rfl ?_); (try (refine gate_guard (by rfl) ?_; dsimp only)); refine Kd.R_lit Kd.string _ 9 ?hg (N := 41) ?hd (xs := ([(⟨#[32]⟩ : ByteArray), (⟨#[9]⟩ : ByteArray), (⟨#[32, 32]⟩ : ByteArray), (⟨#[32, 13, 32]⟩ : ByteArray), (⟨#[9, 9, 32, 48]⟩ : ByteArray), (⟨#[32, 48, 48]⟩ : ByteArray)] : List ByteArray)) (inner := [.string (⟨#[32]⟩ : ByteArray), .string (⟨#[9]⟩ : ByteArray), .string (⟨#[32, 32]⟩ : ByteArray), .string (⟨#[32, 13, 32]⟩ : ByteArray), .string (⟨#[9, 9, 32, 48]⟩ : ByteArray), .string (⟨#[32, 48, 48]⟩ : ByteArray)]) (ok := fun _ => True) (okp := fun _ => True) ?hr ?hp (fun _ hk => hk) trivial (Below.refl _ _) (Nat.le_refl _) (by simp) ?_; (case hd => rfl); (case hg => rfl); (case hr => first | (go_simp; done) | (go_simp; rfl)); (case hp => exact (Reps.one (show Kd.M Kd.string _ _ _ (⟨#[32]⟩ : ByteArray) [.string (⟨#[32]⟩ : ByteArray)] from rfl) (Reps.one (show Kd.M Kd.string _ _ _ (⟨#[9]⟩ : ByteArray) [.string (⟨#[9]⟩ : ByteArray)] from rfl) (Reps.one (show Kd.M Kd.string _ _ _ (⟨#[32, 32]⟩ : ByteArray) [.string (⟨#[32, 32]⟩ : ByteArray)] from rfl) (Reps.one (show Kd.M Kd.string _ _ _ (⟨#[32, 13, 32]⟩ : ByteArray) [.string (⟨#[32, 13, 32]⟩ : ByteArray)] from rfl) (Reps.one (show Kd.M Kd.string _ _ _ (⟨#[9, 9, 32, 48]⟩ : ByteArray) [.string (⟨#[9, 9, 32, 48]⟩ : ByteArray)] from rfl) (Reps.one (show Kd.M Kd.string _ _ _ (⟨#[32, 48, 48]⟩ : ByteArray) [.string (⟨#[32, 48, 48]⟩ : ByteArray)] from rfl) (Reps.none _ _)))))))); intro v266 w18 ho19 hb hg_ hnew_; clear hg_ hnew_; (first | rw [← Ny265.out] at ho19 | (simp only [Int.reduceToNat] at ho19; rw [← Ny265.out] at ho19)); have n0_ := Aside0.mk (Kd.R_below (by (with_reducible repeat (first | apply Kd.R_alloc | apply Kd.R_drewN | apply Kd.R_drew)); exact HO261.out) hb); have n1_ := Aside0.mk (Kd.R_lower ho19 (below_size (by repeat (first | (with_reducible first | exact HB.out | apply below_alloc | apply pw_below_drewN | apply below_drew1 | refine below_set ?_ GE262.out) | exact HB.out)))); have n2_ := Aside0.mk (blk_below (g := gb262) (o := .cells #[.int .i64 t256, .int .i64 t257, .int .i64 t258, .slice Ao16 t259.length co16] 24 (0, 0)) (by (with_reducible repeat (first | refine blk_drewN ?_ _ | refine blk_drew ?_ | refine blk_alloc ?_ _)); exact BK262.out) hb); have n3_ := Aside0.mk (below_step (by repeat (first | (with_reducible first | exact HB.out | apply below_alloc | apply pw_below_drewN | apply below_drew1 | refine below_set ?_ GE262.out) | exact HB.out)) hb); clear HO261; clear BK262; clear HB; have HO261 := n0_; have HO267 := n1_; have BK262 := n2_; have HB := n3_; clear n0_ n1_ n2_ n3_; clear hb ho19))
            go_loopg [14, 15, 16] kj5 (fun kq v14 v15 v16 w' => ∃ (x14_2 : ByteArray) (x15_2 : Int) (x16_2 : Int), v14 = .string x14_2 ∧ v15 = .int .i64 x15_2 ∧ v16 = .int .i64 x16_2 ∧ Aside0 (racewaylaw4_DimacsSpaces.l0 kq l3 t263 y265 x14_2 x15_2 x16_2 t256 t257 t258 t259 = some r) ∧ Aside0 (kq ≤ kj5) ∧ Aside0 (Kd.R Kd.string 9 w' w.heap.size (fun _ => True) v266 y265) ∧ Aside0 (Kd.R k44 44 w' w.heap.size (fun _ => True) (.slice Ao16 t259.length co16) t259) ∧ Aside0 (w'.heap[gb262]? = some (.cells #[.int .i64 t256, .int .i64 t257, .int .i64 t258, (.slice Ao16 t259.length co16)] 24 (0, 0))) ∧ Aside0 (Below w.heap.size w w'))
            case atStart => exact ⟨((⟨#[]⟩ : ByteArray)), (0), (0), (by first | rfl | (simp; done) | (simp [*]; done)), (by first | rfl | (simp; done) | (simp [*]; done)), (by first | rfl | (simp; done) | (simp [*]; done)), H', ⟨Nat.le_refl _⟩, ⟨by (with_reducible repeat (first | apply Kd.R_alloc | apply Kd.R_drewN | apply Kd.R_drew)); exact HO267.out⟩, ⟨by (with_reducible repeat (first | apply Kd.R_alloc | apply Kd.R_drewN | apply Kd.R_drew)); exact HO261.out⟩, ⟨by (with_reducible repeat (first | refine blk_drewN ?_ _ | refine blk_drew ?_ | refine blk_alloc ?_ _)); exact BK262.out⟩, ⟨by repeat (first | (with_reducible first | exact HB.out | apply below_alloc | apply pw_below_drewN | apply below_drew1 | refine below_set ?_ GE262.out) | exact HB.out)⟩⟩
            case round =>
              clear H'
              try clear c1
              try clear c2
              try clear p2
              try clear c3
              try clear c6
              try clear c7
              try clear c8
              try clear c9
              try clear c10
              try clear c12
              try clear c12b0
              try clear c12b1
              try clear hcz15_0
              try clear hcz15_1
              try clear hcz15_2
              try clear hcz15_3
              try clear hfz15_0
              try clear hfz15_1
              try clear hfz15_2
              try clear hfz15_3
              try clear p2
              obtain ⟨x14_2, x15_2, x16_2, rfl, rfl, rfl, HA, HK2, HO_13, HO_263003, BK262, HB⟩ := hrel
              cases gk with
              | zero => exact absurd HA.out (by simp [racewaylaw4_DimacsSpaces.l0])
              | succ k2 =>
                as_aux_lemma =>
                  have H := HA.out
                  clear HA
                  simp only [racewaylaw4_DimacsSpaces.l0] at H
                  by_cases c20 : x16_2 < (t263.size : Int)
                  · rw [if_pos c20] at H
                    have c20b0 : decide (x16_2 < (t263.size : Int)) = true := decide_eq_true c20
                    clear c20
                    have HC21 := Aside0.mk H
                    clear H
                    go_upto_region 14 with (fail)
                    go_cut [57] (fun v57 wc => ∃ (kq : Nat) (x57_20 : Bool), v57 = .bool x57_20 ∧ Aside0 (racewaylaw4_DimacsSpaces.j2 kq l3 t263 y265 x14_2 x15_2 x16_2 x57_20 t256 t257 t258 t259 = some r) ∧ Aside0 (kq ≤ k2) ∧ Aside0 (Kd.R Kd.string 9 wc w.heap.size (fun _ => True) v266 y265) ∧ Aside0 (Kd.R k44 44 wc w.heap.size (fun _ => True) (.slice Ao16 t259.length co16) t259) ∧ Aside0 (wc.heap[gb262]? = some (.cells #[.int .i64 t256, .int .i64 t257, .int .i64 t258, (.slice Ao16 t259.length co16)] 24 (0, 0))) ∧ Aside0 (Below w.heap.size w wc))
                    case first =>
                      have H := HC21.out
                      clear HC21
                      by_cases c22 : 0 ≤ x16_2
                      · rw [if_pos c22] at H
                        have c22b0 : decide (0 ≤ x16_2) = true := decide_eq_true c22
                        clear c22
                        (first | rw [c22b0] | (simp only [i64_w, i32_w]; rw [c22b0]) | skip)
                        by_cases c24 : (bt t263 x16_2) = 32
                        · rw [if_pos c24] at H
                          have c24b0 : ((bt t263 x16_2) == 32) = true := beq_iff_eq.mpr c24
                          have c24b1 : ((bt t263 x16_2) != 32) = false := bne_eq_false_iff_eq.mpr c24
                          clear c24
                          have H' := Aside0.mk H
                          clear H
                          have p23 : 0 ≤ (x16_2 : Int) := of_decide_eq_true (by first | (with_reducible assumption) | assumption)
                          have q23 : x16_2 < (t263.size : Int) := of_decide_eq_true (by first | (with_reducible assumption) | assumption)
                          have hx23 := bt_at t263 x16_2
                          replace p23 := eq_true p23
                          replace q23 := eq_true q23
                          go_wp2
                          go_meet
                          case rel => exact ⟨_, (decide (x15_2 < (l3.length : Int))), (by first | rfl | (simp; done) | (simp [*]; done)), H', ⟨by have := HJ5.out; have := HK2.out; first | omega | exact Nat.le_refl _⟩, ⟨by (with_reducible repeat (first | apply Kd.R_alloc | apply Kd.R_drewN | apply Kd.R_drew)); exact HO_13.out⟩, ⟨by (with_reducible repeat (first | apply Kd.R_alloc | apply Kd.R_drewN | apply Kd.R_drew)); exact HO_263003.out⟩, ⟨by (with_reducible repeat (first | refine blk_drewN ?_ _ | refine blk_drew ?_ | refine blk_alloc ?_ _)); exact BK262.out⟩, ⟨by repeat (first | (with_reducible first | exact HB.out | apply below_alloc | apply pw_below_drewN | apply below_drew1 | refine below_set ?_ GE262.out) | exact HB.out)⟩⟩
                        · rw [if_neg c24] at H
                          have c24b0 : ((bt t263 x16_2) == 32) = false := beq_eq_false_iff_ne.mpr c24
                          have c24b1 : ((bt t263 x16_2) != 32) = true := bne_iff_ne.mpr c24
                          have H' := Aside0.mk H
                          clear H
                          have p23 : 0 ≤ (x16_2 : Int) := of_decide_eq_true (by first | (with_reducible assumption) | assumption)
                          have q23 : x16_2 < (t263.size : Int) := of_decide_eq_true (by first | (with_reducible assumption) | assumption)
                          have hx23 := bt_at t263 x16_2
                          replace p23 := eq_true p23
                          replace q23 := eq_true q23
                          go_wp2
                          go_meet
                          case rel => exact ⟨_, (false), (by first | rfl | (simp; done) | (simp [*]; done)), H', ⟨by have := HJ5.out; have := HK2.out; first | omega | exact Nat.le_refl _⟩, ⟨by (with_reducible repeat (first | apply Kd.R_alloc | apply Kd.R_drewN | apply Kd.R_drew)); exact HO_13.out⟩, ⟨by (with_reducible repeat (first | apply Kd.R_alloc | apply Kd.R_drewN | apply Kd.R_drew)); exact HO_263003.out⟩, ⟨by (with_reducible repeat (first | refine blk_drewN ?_ _ | refine blk_drew ?_ | refine blk_alloc ?_ _)); exact BK262.out⟩, ⟨by repeat (first | (with_reducible first | exact HB.out | apply below_alloc | apply pw_below_drewN | apply below_drew1 | refine below_set ?_ GE262.out) | exact HB.out)⟩⟩
                      · rw [if_neg c22] at H
                        exact absurd H (by simp)
                    case rest =>
                      clear HC21
                      try clear c1
                      try clear c2
                      try clear p2
                      try clear q2
                      try clear hx2
                      try clear c3
                      try clear c6
                      try clear c7
                      try clear c8
                      try clear c9
                      try clear c10
                      try clear c12
                      try clear c12b0
                      try clear c12b1
                      try clear c20
                      try clear c20b0
                      try clear c22
                      try clear c22b0
                      try clear p23
                      try clear q23
                      try clear hx23
                      try clear c24
                      try clear c24b0
                      try clear c24b1
                      try clear hcz15_0
                      try clear hcz15_1
                      try clear hcz15_2
                      try clear hcz15_3
                      try clear hfz15_0
                      try clear hfz15_1
                      try clear hfz15_2
                      try clear hfz15_3
                      try clear p2
                      try clear p23
                      try clear q23
                      obtain ⟨kq, x57_20, rfl, HA, HJ20, HO_13, HO_263003, BK262, HB⟩ := hcut
                      cases kq with
                      | zero => exact absurd HA.out (by simp [racewaylaw4_DimacsSpaces.j2])
                      | succ kj20 =>
                        as_aux_lemma =>
                          have H := HA.out
                          clear HA
                          simp only [racewaylaw4_DimacsSpaces.j2] at H
                          by_cases c25 : x57_20 = true
                          · subst c25
                            have H1 : (if 0 ≤ x15_2 then (if x15_2 < (l3.length : Int) then ((racewaylaw4_pick.f (rd l3 x15_2) 6).bind fun t279 => (if 0 ≤ t279 then (if t279 < (y265.length : Int) then (if (wrap64 (x16_2 + 1)) < (t263.size : Int) then (if 0 ≤ (wrap64 (x16_2 + 1)) then (if (bt t263 (wrap64 (x16_2 + 1))) < 48 then (racewaylaw4_DimacsSpaces.j3 kj20 l3 t263 y265 x14_2 x15_2 x16_2 (rdOf ByteArray.empty y265 t279) true t256 t257 t258 t259) else (racewaylaw4_DimacsSpaces.j3 kj20 l3 t263 y265 x14_2 x15_2 x16_2 (rdOf ByteArray.empty y265 t279) (decide ((bt t263 (wrap64 (x16_2 + 1))) > 57)) t256 t257 t258 t259)) else (none)) else (racewaylaw4_DimacsSpaces.j3 kj20 l3 t263 y265 x14_2 x15_2 x16_2 (rdOf ByteArray.empty y265 t279) false t256 t257 t258 t259)) else (none)) else (none))) else (none)) else (none)) = some r := by rw [if_pos rfl] at H; exact H
                            clear H
                            have H := H1
                            clear H1
                            by_cases c26 : 0 ≤ x15_2
                            · rw [if_pos c26] at H
                              have c26b0 : decide (0 ≤ x15_2) = true := decide_eq_true c26
                              clear c26
                              by_cases c27 : x15_2 < (l3.length : Int)
                              · rw [if_pos c27] at H
                                have c27b0 : decide (x15_2 < (l3.length : Int)) = true := decide_eq_true c27
                                clear c27
                                replace H := Option.bind_eq_some_iff.mp H
                                obtain ⟨t279, A280, H⟩ := H
                                replace H : (if 0 ≤ t279 then (if t279 < (y265.length : Int) then (if (wrap64 (x16_2 + 1)) < (t263.size : Int) then (if 0 ≤ (wrap64 (x16_2 + 1)) then (if (bt t263 (wrap64 (x16_2 + 1))) < 48 then (racewaylaw4_DimacsSpaces.j3 kj20 l3 t263 y265 x14_2 x15_2 x16_2 (rdOf ByteArray.empty y265 t279) true t256 t257 t258 t259) else (racewaylaw4_DimacsSpaces.j3 kj20 l3 t263 y265 x14_2 x15_2 x16_2 (rdOf ByteArray.empty y265 t279) (decide ((bt t263 (wrap64 (x16_2 + 1))) > 57)) t256 t257 t258 t259)) else (none)) else (racewaylaw4_DimacsSpaces.j3 kj20 l3 t263 y265 x14_2 x15_2 x16_2 (rdOf ByteArray.empty y265 t279) false t256 t257 t258 t259)) else (none)) else (none)) = some r := H
                                have A28 := Aside0.mk A280
                                clear A280
                                by_cases c29 : 0 ≤ t279
                                · rw [if_pos c29] at H
                                  have c29b0 : decide (0 ≤ t279) = true := decide_eq_true c29
                                  clear c29
                                  by_cases c30 : t279 < (y265.length : Int)
                                  · rw [if_pos c30] at H
                                    have c30b0 : decide (t279 < (y265.length : Int)) = true := decide_eq_true c30
                                    clear c30
                                    have HC31 := Aside0.mk H
                                    clear H
                                    have p278 : 0 ≤ (x15_2 : Int) := of_decide_eq_true (by first | (with_reducible assumption) | assumption)
                                    have q278 : x15_2 < (l3.length : Int) := of_decide_eq_true (by first | (with_reducible assumption) | assumption)
                                    obtain ⟨ad278, e278, hx278_0⟩ := Kd.at_int HR3.out x15_2 p278 q278
                                    cases e278
                                    replace hx278_0 := (HB.out.cell (World.block_lt_of_cell? w _ hx278_0)).trans hx278_0
                                    replace p278 := eq_true p278
                                    replace q278 := eq_true q278
                                    go_upto_region 16 with (first | ((with_reducible refine gate_callee (f := 12) rfl ?_); refine goesL_ (some 63) rfl rfl Tryz.func12 (by kernel_rfl) rfl #[.int .i64 (rd l3 x15_2), .int .i64 6] rfl (by (try simp only [List.map_toArray, List.map_cons, List.map_nil]); first | done | rfl | (simp only [List.length_drop, List.length_take]; rfl)) ?_; (with_reducible refine (racewaylaw4_pick.calls (rd l3 x15_2) 6 t279 _ A28.out).mono ?_); rintro e w' ⟨rfl, ⟨nd, rfl⟩⟩; refine ⟨_, rfl, ?_⟩; obtain ⟨Ao32, co32, eo32⟩ := Kd.R_slice HO_13.out; subst eo32; have p280 : 0 ≤ (t279 : Int) := of_decide_eq_true (by first | (with_reducible assumption) | assumption); have q280 : t279 < (y265.length : Int) := of_decide_eq_true (by first | (with_reducible assumption) | assumption); obtain ⟨ad280, e280, hx280_0⟩ := Kd.at_string (Kd.R_reads' HO_13.out).2.2 t279 p280 q280; cases e280; replace p280 := eq_true p280; replace q280 := eq_true q280))
                                    (try simp only [Act.put, List.setIfInBounds_toArray, List.set_cons_zero, List.set_cons_succ])
                                    go_cut [84] (fun v84 wc => ∃ (kq : Nat) (x84_30 : Bool), v84 = .bool x84_30 ∧ Aside0 (racewaylaw4_DimacsSpaces.j3 kq l3 t263 y265 x14_2 x15_2 x16_2 (rdOf ByteArray.empty y265 t279) x84_30 t256 t257 t258 t259 = some r) ∧ Aside0 (kq ≤ kj20) ∧ Aside0 (Kd.R Kd.string 9 wc w.heap.size (fun _ => True) (.slice (some ad280) y265.length co32) y265) ∧ Aside0 (Kd.R k44 44 wc w.heap.size (fun _ => True) (.slice Ao16 t259.length co16) t259) ∧ Aside0 (wc.heap[gb262]? = some (.cells #[.int .i64 t256, .int .i64 t257, .int .i64 t258, (.slice Ao16 t259.length co16)] 24 (0, 0))) ∧ Aside0 (Below w.heap.size w wc))
                                    case first =>
                                      have H := HC31.out
                                      clear HC31
                                      by_cases c33 : (wrap64 (x16_2 + 1)) < (t263.size : Int)
                                      · rw [if_pos c33] at H
                                        have c33b0 : decide ((wrap64 (x16_2 + 1)) < (t263.size : Int)) = true := decide_eq_true c33
                                        clear c33
                                        (first | rw [c33b0] | (simp only [i64_w, i32_w]; rw [c33b0]) | skip)
                                        obtain ⟨ji34, hji34⟩ : ∃ j_ : Int, (wrap64 (x16_2 + 1)) = j_ := ⟨_, rfl⟩
                                        replace H : (if 0 ≤ (ji34) then (if (bt t263 (ji34)) < 48 then (racewaylaw4_DimacsSpaces.j3 kj20 l3 t263 y265 x14_2 x15_2 x16_2 (rdOf ByteArray.empty y265 t279) true t256 t257 t258 t259) else (racewaylaw4_DimacsSpaces.j3 kj20 l3 t263 y265 x14_2 x15_2 x16_2 (rdOf ByteArray.empty y265 t279) (decide ((bt t263 (ji34)) > 57)) t256 t257 t258 t259)) else (none)) = some r := by first | (rw [hji34] at H; exact H) | (simp only [hji34] at H ⊢; exact H)
                                        (try rw [hji34] at c33b0)
                                        have hji34w : (IntKind.i64.wrap (x16_2 + 1)) = ji34 := (i64_w _).trans hji34
                                        by_cases c35 : 0 ≤ (ji34)
                                        · rw [if_pos c35] at H
                                          have c35b0 : decide (0 ≤ (ji34)) = true := decide_eq_true c35
                                          clear c35
                                          by_cases c37 : (bt t263 (ji34)) < 48
                                          · rw [if_pos c37] at H
                                            have c37b0 : decide ((bt t263 (ji34)) < 48) = true := decide_eq_true c37
                                            clear c37
                                            have H' := Aside0.mk H
                                            clear H
                                            have p36 : 0 ≤ ((ji34) : Int) := of_decide_eq_true (by first | (with_reducible assumption) | assumption)
                                            have q36 : (ji34) < (t263.size : Int) := of_decide_eq_true (by first | (with_reducible assumption) | assumption)
                                            have hx36 := bt_at t263 (ji34)
                                            replace p36 := eq_true p36
                                            replace q36 := eq_true q36
                                            go_wp2
                                            go_meet
                                            case rel => exact ⟨_, (true), (by first | rfl | (simp; done) | (simp [*]; done)), H', ⟨by have := HJ5.out; have := HK2.out; have := HJ20.out; first | omega | exact Nat.le_refl _⟩, ⟨by (with_reducible repeat (first | apply Kd.R_alloc | apply Kd.R_drewN | apply Kd.R_drew)); exact HO_13.out⟩, ⟨by (with_reducible repeat (first | apply Kd.R_alloc | apply Kd.R_drewN | apply Kd.R_drew)); exact HO_263003.out⟩, ⟨by (with_reducible repeat (first | refine blk_drewN ?_ _ | refine blk_drew ?_ | refine blk_alloc ?_ _)); exact BK262.out⟩, ⟨by repeat (first | (with_reducible first | exact HB.out | apply below_alloc | apply pw_below_drewN | apply below_drew1 | refine below_set ?_ GE262.out) | exact HB.out)⟩⟩
                                          · rw [if_neg c37] at H
                                            have c37b0 : decide ((bt t263 (ji34)) < 48) = false := decide_eq_false c37
                                            clear c37
                                            have H' := Aside0.mk H
                                            clear H
                                            have p36 : 0 ≤ ((ji34) : Int) := of_decide_eq_true (by first | (with_reducible assumption) | assumption)
                                            have q36 : (ji34) < (t263.size : Int) := of_decide_eq_true (by first | (with_reducible assumption) | assumption)
                                            have hx36 := bt_at t263 (ji34)
                                            replace p36 := eq_true p36
                                            replace q36 := eq_true q36
                                            have p38 : 0 ≤ ((ji34) : Int) := of_decide_eq_true (by first | (with_reducible assumption) | assumption)
                                            have q38 : (ji34) < (t263.size : Int) := of_decide_eq_true (by first | (with_reducible assumption) | assumption)
                                            have hx38 := bt_at t263 (ji34)
                                            replace p38 := eq_true p38
                                            replace q38 := eq_true q38
                                            go_wp2
                                            go_meet
                                            case rel => exact ⟨_, (decide ((bt t263 (ji34)) > 57)), (by first | rfl | (simp; done) | (simp only [← hji34] <;> (first | rfl | simp)) | (simp [*]; done)), H', ⟨by have := HJ5.out; have := HK2.out; have := HJ20.out; first | omega | exact Nat.le_refl _⟩, ⟨by (with_reducible repeat (first | apply Kd.R_alloc | apply Kd.R_drewN | apply Kd.R_drew)); exact HO_13.out⟩, ⟨by (with_reducible repeat (first | apply Kd.R_alloc | apply Kd.R_drewN | apply Kd.R_drew)); exact HO_263003.out⟩, ⟨by (with_reducible repeat (first | refine blk_drewN ?_ _ | refine blk_drew ?_ | refine blk_alloc ?_ _)); exact BK262.out⟩, ⟨by repeat (first | (with_reducible first | exact HB.out | apply below_alloc | apply pw_below_drewN | apply below_drew1 | refine below_set ?_ GE262.out) | exact HB.out)⟩⟩
                                        · rw [if_neg c35] at H
                                          exact absurd H (by simp)
                                      · rw [if_neg c33] at H
                                        have c33b0 : decide ((wrap64 (x16_2 + 1)) < (t263.size : Int)) = false := decide_eq_false c33
                                        clear c33
                                        (first | rw [c33b0] | (simp only [i64_w, i32_w]; rw [c33b0]) | skip)
                                        have H' := Aside0.mk H
                                        clear H
                                        go_wp2
                                        go_meet
                                        case rel => exact ⟨_, (false), (by first | rfl | (simp; done) | (simp [*]; done)), H', ⟨by have := HJ5.out; have := HK2.out; have := HJ20.out; first | omega | exact Nat.le_refl _⟩, ⟨by (with_reducible repeat (first | apply Kd.R_alloc | apply Kd.R_drewN | apply Kd.R_drew)); exact HO_13.out⟩, ⟨by (with_reducible repeat (first | apply Kd.R_alloc | apply Kd.R_drewN | apply Kd.R_drew)); exact HO_263003.out⟩, ⟨by (with_reducible repeat (first | refine blk_drewN ?_ _ | refine blk_drew ?_ | refine blk_alloc ?_ _)); exact BK262.out⟩, ⟨by repeat (first | (with_reducible first | exact HB.out | apply below_alloc | apply pw_below_drewN | apply below_drew1 | refine below_set ?_ GE262.out) | exact HB.out)⟩⟩
                                    case rest =>
                                      clear HC31
                                      try clear c1
                                      try clear c2
                                      try clear p2
                                      try clear q2
                                      try clear hx2
                                      try clear c3
                                      try clear p3
                                      try clear q3
                                      try clear hx3
                                      try clear c6
                                      try clear p6
                                      try clear c7
                                      try clear c8
                                      try clear c9
                                      try clear c10
                                      try clear c12
                                      try clear c12b0
                                      try clear c12b1
                                      try clear c20
                                      try clear c20b0
                                      try clear c22
                                      try clear c22b0
                                      try clear p23
                                      try clear q23
                                      try clear hx23
                                      try clear c24
                                      try clear c24b0
                                      try clear c24b1
                                      try clear c25
                                      try clear c26
                                      try clear c26b0
                                      try clear c27
                                      try clear c27b0
                                      try clear p27
                                      try clear q27
                                      try clear hx27
                                      try clear p28
                                      try clear q28
                                      try clear hx28
                                      try clear c29
                                      try clear c29b0
                                      try clear c30
                                      try clear c30b0
                                      try clear c33
                                      try clear c33b0
                                      try clear c35
                                      try clear c35b0
                                      try clear p36
                                      try clear q36
                                      try clear hx36
                                      try clear c37
                                      try clear c37b0
                                      try clear p38
                                      try clear q38
                                      try clear hx38
                                      try clear hcz15_0
                                      try clear hcz15_1
                                      try clear hcz15_2
                                      try clear hcz15_3
                                      try clear hfz15_0
                                      try clear hfz15_1
                                      try clear hfz15_2
                                      try clear hfz15_3
                                      try clear hx278_0
                                      try clear hx280_0
                                      try clear p2
                                      try clear p23
                                      try clear p278
                                      try clear p280
                                      try clear p36
                                      try clear p38
                                      try clear q2
                                      try clear q23
                                      try clear q278
                                      try clear q280
                                      try clear q36
                                      try clear q38
                                      obtain ⟨kq, x84_30, rfl, HA, HJ30, HO_13, HO_263003, BK262, HB⟩ := hcut
                                      cases kq with
                                      | zero => exact absurd HA.out (by simp [racewaylaw4_DimacsSpaces.j3])
                                      | succ kj30 =>
                                        as_aux_lemma =>
                                          have H := HA.out
                                          clear HA
                                          simp only [racewaylaw4_DimacsSpaces.j3] at H
                                          by_cases c39 : x84_30 = true
                                          · subst c39
                                            have H1 : (if 0 ≤ x15_2 then (if x15_2 < (l3.length : Int) then ((racewaylaw4_pick.f (rd l3 x15_2) 4).bind fun t282 => (if 0 ≤ t282 then (if t282 < (y265.length : Int) then (if x14_2.size + (rdOf ByteArray.empty y265 t282).size ≤ 9223372036854775807 then (racewaylaw4_DimacsSpaces.l0 kj30 l3 t263 y265 (x14_2 ++ (rdOf ByteArray.empty y265 t282)) (wrap64 (x15_2 + 1)) (wrap64 (x16_2 + 1)) t256 t257 t258 t259) else (none)) else (none)) else (none))) else (none)) else (none)) = some r := by rw [if_pos rfl] at H; exact H
                                            clear H
                                            have H := H1
                                            clear H1
                                            by_cases c40 : 0 ≤ x15_2
                                            · rw [if_pos c40] at H
                                              have c40b0 : decide (0 ≤ x15_2) = true := decide_eq_true c40
                                              clear c40
                                              by_cases c41 : x15_2 < (l3.length : Int)
                                              · rw [if_pos c41] at H
                                                have c41b0 : decide (x15_2 < (l3.length : Int)) = true := decide_eq_true c41
                                                clear c41
                                                replace H := Option.bind_eq_some_iff.mp H
                                                obtain ⟨t282, A420, H⟩ := H
                                                replace H : (if 0 ≤ t282 then (if t282 < (y265.length : Int) then (if x14_2.size + (rdOf ByteArray.empty y265 t282).size ≤ 9223372036854775807 then (racewaylaw4_DimacsSpaces.l0 kj30 l3 t263 y265 (x14_2 ++ (rdOf ByteArray.empty y265 t282)) (wrap64 (x15_2 + 1)) (wrap64 (x16_2 + 1)) t256 t257 t258 t259) else (none)) else (none)) else (none)) = some r := H
                                                have A42 := Aside0.mk A420
                                                clear A420
                                                by_cases c43 : 0 ≤ t282
                                                · rw [if_pos c43] at H
                                                  have c43b0 : decide (0 ≤ t282) = true := decide_eq_true c43
                                                  clear c43
                                                  by_cases c44 : t282 < (y265.length : Int)
                                                  · rw [if_pos c44] at H
                                                    have c44b0 : decide (t282 < (y265.length : Int)) = true := decide_eq_true c44
                                                    clear c44
                                                    by_cases c45 : x14_2.size + (rdOf ByteArray.empty y265 t282).size ≤ 9223372036854775807
                                                    · rw [if_pos c45] at H
                                                      have c45b0 := eq_true c45
                                                      have c45b1 : decide (x14_2.size + (rdOf ByteArray.empty y265 t282).size ≤ 9223372036854775807) = true := decide_eq_true c45
                                                      try have c45b2 : (9223372036854775807 < x14_2.size + (rdOf ByteArray.empty y265 t282).size) = False := eq_false (Nat.not_lt.2 c45)
                                                      have H' := Aside0.mk H
                                                      clear H
                                                      have p281 : 0 ≤ (x15_2 : Int) := of_decide_eq_true (by first | (with_reducible assumption) | assumption)
                                                      have q281 : x15_2 < (l3.length : Int) := of_decide_eq_true (by first | (with_reducible assumption) | assumption)
                                                      obtain ⟨ad281, e281, hx281_0⟩ := Kd.at_int HR3.out x15_2 p281 q281
                                                      obtain rfl : ad278 = ad281 := (by injection e281)
                                                      replace hx281_0 := (HB.out.cell (World.block_lt_of_cell? w _ hx281_0)).trans hx281_0
                                                      replace p281 := eq_true p281
                                                      replace q281 := eq_true q281
                                                      go_wp2_with (first | ((with_reducible refine gate_callee (f := 12) rfl ?_); refine goesL_ (some 90) rfl rfl Tryz.func12 (by kernel_rfl) rfl #[.int .i64 (rd l3 x15_2), .int .i64 4] rfl (by (try simp only [List.map_toArray, List.map_cons, List.map_nil]); first | done | rfl | (simp only [List.length_drop, List.length_take]; rfl)) ?_; (with_reducible refine (racewaylaw4_pick.calls (rd l3 x15_2) 4 t282 _ A42.out).mono ?_); rintro e w' ⟨rfl, ⟨nd, rfl⟩⟩; refine ⟨_, rfl, ?_⟩; have p283 : 0 ≤ (t282 : Int) := of_decide_eq_true (by first | (with_reducible assumption) | assumption); have q283 : t282 < (y265.length : Int) := of_decide_eq_true (by first | (with_reducible assumption) | assumption); obtain ⟨ad283, e283, hx283_0⟩ := Kd.at_string (Kd.R_reads' HO_13.out).2.2 t282 p283 q283; obtain rfl : ad280 = ad283 := (by injection e283); replace p283 := eq_true p283; replace q283 := eq_true q283))
                                                      go_roundg kj30
                                                      case measure => have := HJ5.out; have := HK2.out; have := HJ20.out; have := HJ30.out; omega
                                                      case rel => exact ⟨(x14_2 ++ (rdOf ByteArray.empty y265 t282)), (wrap64 (x15_2 + 1)), (wrap64 (x16_2 + 1)), (by first | rfl | (simp; done) | (simp [*]; done)), (by first | rfl | (simp; done) | (simp [*]; done)), (by first | rfl | (simp; done) | (simp [*]; done)), H', ⟨by have := HJ5.out; have := HK2.out; have := HJ20.out; have := HJ30.out; omega⟩, ⟨by (with_reducible repeat (first | apply Kd.R_alloc | apply Kd.R_drewN | apply Kd.R_drew)); exact HO_13.out⟩, ⟨by (with_reducible repeat (first | apply Kd.R_alloc | apply Kd.R_drewN | apply Kd.R_drew)); exact HO_263003.out⟩, ⟨by (with_reducible repeat (first | refine blk_drewN ?_ _ | refine blk_drew ?_ | refine blk_alloc ?_ _)); exact BK262.out⟩, ⟨by repeat (first | (with_reducible first | exact HB.out | apply below_alloc | apply pw_below_drewN | apply below_drew1 | refine below_set ?_ GE262.out) | exact HB.out)⟩⟩
                                                    · rw [if_neg c45] at H
                                                      exact absurd H (by simp)
                                                  · rw [if_neg c44] at H
                                                    exact absurd H (by simp)
                                                · rw [if_neg c43] at H
                                                  exact absurd H (by simp)
                                              · rw [if_neg c41] at H
                                                exact absurd H (by simp)
                                            · rw [if_neg c40] at H
                                              exact absurd H (by simp)
                                          · replace c39 := Bool.eq_false_iff.mpr c39
                                            subst c39
                                            have H1 : (if x14_2.size + (rdOf ByteArray.empty y265 t279).size ≤ 9223372036854775807 then (racewaylaw4_DimacsSpaces.l0 kj30 l3 t263 y265 (x14_2 ++ (rdOf ByteArray.empty y265 t279)) (wrap64 (x15_2 + 1)) (wrap64 (x16_2 + 1)) t256 t257 t258 t259) else (none)) = some r := by rw [if_neg (show ¬ (false = true) by decide)] at H; exact H
                                            clear H
                                            have H := H1
                                            clear H1
                                            by_cases c46 : x14_2.size + (rdOf ByteArray.empty y265 t279).size ≤ 9223372036854775807
                                            · rw [if_pos c46] at H
                                              have c46b0 := eq_true c46
                                              have c46b1 : decide (x14_2.size + (rdOf ByteArray.empty y265 t279).size ≤ 9223372036854775807) = true := decide_eq_true c46
                                              try have c46b2 : (9223372036854775807 < x14_2.size + (rdOf ByteArray.empty y265 t279).size) = False := eq_false (Nat.not_lt.2 c46)
                                              have H' := Aside0.mk H
                                              clear H
                                              go_wp2
                                              go_roundg kj30
                                              case measure => have := HJ5.out; have := HK2.out; have := HJ20.out; have := HJ30.out; omega
                                              case rel => exact ⟨(x14_2 ++ (rdOf ByteArray.empty y265 t279)), (wrap64 (x15_2 + 1)), (wrap64 (x16_2 + 1)), (by first | rfl | (simp; done) | (simp [*]; done)), (by first | rfl | (simp; done) | (simp [*]; done)), (by first | rfl | (simp; done) | (simp [*]; done)), H', ⟨by have := HJ5.out; have := HK2.out; have := HJ20.out; have := HJ30.out; omega⟩, ⟨by (with_reducible repeat (first | apply Kd.R_alloc | apply Kd.R_drewN | apply Kd.R_drew)); exact HO_13.out⟩, ⟨by (with_reducible repeat (first | apply Kd.R_alloc | apply Kd.R_drewN | apply Kd.R_drew)); exact HO_263003.out⟩, ⟨by (with_reducible repeat (first | refine blk_drewN ?_ _ | refine blk_drew ?_ | refine blk_alloc ?_ _)); exact BK262.out⟩, ⟨by repeat (first | (with_reducible first | exact HB.out | apply below_alloc | apply pw_below_drewN | apply below_drew1 | refine below_set ?_ GE262.out) | exact HB.out)⟩⟩
                                            · rw [if_neg c46] at H
                                              exact absurd H (by simp)
                                  · rw [if_neg c30] at H
                                    exact absurd H (by simp)
                                · rw [if_neg c29] at H
                                  exact absurd H (by simp)
                              · rw [if_neg c27] at H
                                exact absurd H (by simp)
                            · rw [if_neg c26] at H
                              exact absurd H (by simp)
                          · replace c25 := Bool.eq_false_iff.mpr c25
                            subst c25
                            have H1 : (if 0 ≤ x16_2 then (if x16_2 ≤ (wrap64 (x16_2 + 1)) then (if (wrap64 (x16_2 + 1)) ≤ (t263.size : Int) then (if x14_2.size + (t263.extract (x16_2 : Int).toNat ((wrap64 (x16_2 + 1)) : Int).toNat).size ≤ 9223372036854775807 then (if x16_2 < (t263.size : Int) then (if (bt t263 x16_2) = 10 then (if x15_2 < (l3.length : Int) then (if 0 ≤ x15_2 then ((racewaylaw4_pick.f (rd l3 x15_2) 3).bind fun t285 => (if t285 = 0 then (if (x14_2 ++ (t263.extract (x16_2 : Int).toNat ((wrap64 (x16_2 + 1)) : Int).toNat)).size + 14 ≤ 9223372036854775807 then (racewaylaw4_DimacsSpaces.l0 kj20 l3 t263 y265 ((x14_2 ++ (t263.extract (x16_2 : Int).toNat ((wrap64 (x16_2 + 1)) : Int).toNat)) ++ (⟨#[99, 32, 112, 32, 109, 97, 120, 32, 57, 32, 57, 10, 9, 10]⟩ : ByteArray)) x15_2 (wrap64 (x16_2 + 1)) t256 t257 t258 t259) else (none)) else (racewaylaw4_DimacsSpaces.l0 kj20 l3 t263 y265 (x14_2 ++ (t263.extract (x16_2 : Int).toNat ((wrap64 (x16_2 + 1)) : Int).toNat)) x15_2 (wrap64 (x16_2 + 1)) t256 t257 t258 t259))) else (none)) else (racewaylaw4_DimacsSpaces.l0 kj20 l3 t263 y265 (x14_2 ++ (t263.extract (x16_2 : Int).toNat ((wrap64 (x16_2 + 1)) : Int).toNat)) x15_2 (wrap64 (x16_2 + 1)) t256 t257 t258 t259)) else (racewaylaw4_DimacsSpaces.l0 kj20 l3 t263 y265 (x14_2 ++ (t263.extract (x16_2 : Int).toNat ((wrap64 (x16_2 + 1)) : Int).toNat)) x15_2 (wrap64 (x16_2 + 1)) t256 t257 t258 t259)) else (none)) else (none)) else (none)) else (none)) else (none)) = some r := by rw [if_neg (show ¬ (false = true) by decide)] at H; exact H
                            clear H
                            have H := H1
                            clear H1
                            by_cases c47 : 0 ≤ x16_2
                            · rw [if_pos c47] at H
                              have c47b0 := eq_true c47
                              have c47b1 : decide (0 ≤ x16_2) = true := decide_eq_true c47
                              clear c47
                              by_cases c48 : x16_2 ≤ (wrap64 (x16_2 + 1))
                              · rw [if_pos c48] at H
                                have c48b0 := eq_true c48
                                have c48b1 : decide (x16_2 ≤ (wrap64 (x16_2 + 1))) = true := decide_eq_true c48
                                by_cases c49 : (wrap64 (x16_2 + 1)) ≤ (t263.size : Int)
                                · rw [if_pos c49] at H
                                  have c49b0 := eq_true c49
                                  have c49b1 : decide ((wrap64 (x16_2 + 1)) ≤ (t263.size : Int)) = true := decide_eq_true c49
                                  by_cases c50 : x14_2.size + (t263.extract (x16_2 : Int).toNat ((wrap64 (x16_2 + 1)) : Int).toNat).size ≤ 9223372036854775807
                                  · rw [if_pos c50] at H
                                    have c50b0 := eq_true c50
                                    have c50b1 : decide (x14_2.size + (t263.extract (x16_2 : Int).toNat ((wrap64 (x16_2 + 1)) : Int).toNat).size ≤ 9223372036854775807) = true := decide_eq_true c50
                                    try have c50b2 : (9223372036854775807 < x14_2.size + (t263.extract (x16_2 : Int).toNat ((wrap64 (x16_2 + 1)) : Int).toNat).size) = False := eq_false (Nat.not_lt.2 c50)
                                    by_cases c51 : x16_2 < (t263.size : Int)
                                    · rw [if_pos c51] at H
                                      have c51b0 : decide (x16_2 < (t263.size : Int)) = true := decide_eq_true c51
                                      clear c51
                                      by_cases c53 : (bt t263 x16_2) = 10
                                      · rw [if_pos c53] at H
                                        have c53b0 : ((bt t263 x16_2) == 10) = true := beq_iff_eq.mpr c53
                                        have c53b1 : ((bt t263 x16_2) != 10) = false := bne_eq_false_iff_eq.mpr c53
                                        clear c53
                                        by_cases c54 : x15_2 < (l3.length : Int)
                                        · rw [if_pos c54] at H
                                          have c54b0 : decide (x15_2 < (l3.length : Int)) = true := decide_eq_true c54
                                          clear c54
                                          by_cases c55 : 0 ≤ x15_2
                                          · rw [if_pos c55] at H
                                            have c55b0 : decide (0 ≤ x15_2) = true := decide_eq_true c55
                                            clear c55
                                            replace H := Option.bind_eq_some_iff.mp H
                                            obtain ⟨t285, A560, H⟩ := H
                                            replace H : (if t285 = 0 then (if (x14_2 ++ (t263.extract (x16_2 : Int).toNat ((wrap64 (x16_2 + 1)) : Int).toNat)).size + 14 ≤ 9223372036854775807 then (racewaylaw4_DimacsSpaces.l0 kj20 l3 t263 y265 ((x14_2 ++ (t263.extract (x16_2 : Int).toNat ((wrap64 (x16_2 + 1)) : Int).toNat)) ++ (⟨#[99, 32, 112, 32, 109, 97, 120, 32, 57, 32, 57, 10, 9, 10]⟩ : ByteArray)) x15_2 (wrap64 (x16_2 + 1)) t256 t257 t258 t259) else (none)) else (racewaylaw4_DimacsSpaces.l0 kj20 l3 t263 y265 (x14_2 ++ (t263.extract (x16_2 : Int).toNat ((wrap64 (x16_2 + 1)) : Int).toNat)) x15_2 (wrap64 (x16_2 + 1)) t256 t257 t258 t259)) = some r := H
                                            have A56 := Aside0.mk A560
                                            clear A560
                                            by_cases c57 : t285 = 0
                                            · rw [if_pos c57] at H
                                              have c57b0 : (t285 == 0) = true := beq_iff_eq.mpr c57
                                              have c57b1 : (t285 != 0) = false := bne_eq_false_iff_eq.mpr c57
                                              clear c57
                                              by_cases c58 : (x14_2 ++ (t263.extract (x16_2 : Int).toNat ((wrap64 (x16_2 + 1)) : Int).toNat)).size + 14 ≤ 9223372036854775807
                                              · rw [if_pos c58] at H
                                                have c58x : (9223372036854775807 < x14_2.size + ((wrap64 (x16_2 + 1)).toNat - x16_2.toNat) + 14) = False := by have hz := c58; rw [ByteArray.size_append, ByteArray.size_extract] at hz; have hw : (wrap64 (x16_2 + 1)) ≤ (t263.size : Int) := of_decide_eq_true (by assumption); exact eq_false (by omega)
                                                have c58b0 := eq_true c58
                                                have c58b1 : decide ((x14_2 ++ (t263.extract (x16_2 : Int).toNat ((wrap64 (x16_2 + 1)) : Int).toNat)).size + 14 ≤ 9223372036854775807) = true := decide_eq_true c58
                                                try have c58b2 : (9223372036854775807 < (x14_2 ++ (t263.extract (x16_2 : Int).toNat ((wrap64 (x16_2 + 1)) : Int).toNat)).size + 14) = False := eq_false (Nat.not_lt.2 c58)
                                                (try (have c58b3 := c58; simp only [ByteArray.size_append] at c58b3; have c58b4 := eq_true c58b3)); (try (have c58b5 := c58; simp only [ByteArray.size_append, sz_mk_, List.size_toArray, List.length_cons, List.length_nil, Nat.zero_add, Nat.reduceAdd] at c58b5; have c58b6 := eq_true c58b5; have c58b7 := eq_false (Nat.not_lt.2 c58b5)))
                                                have H' := Aside0.mk H
                                                clear H
                                                have p52 : 0 ≤ (x16_2 : Int) := of_decide_eq_true (by first | (with_reducible assumption) | assumption)
                                                have q52 : x16_2 < (t263.size : Int) := of_decide_eq_true (by first | (with_reducible assumption) | assumption)
                                                have hx52 := bt_at t263 x16_2
                                                replace p52 := eq_true p52
                                                replace q52 := eq_true q52
                                                have p284 : 0 ≤ (x15_2 : Int) := of_decide_eq_true (by first | (with_reducible assumption) | assumption)
                                                have q284 : x15_2 < (l3.length : Int) := of_decide_eq_true (by first | (with_reducible assumption) | assumption)
                                                obtain ⟨ad284, e284, hx284_0⟩ := Kd.at_int HR3.out x15_2 p284 q284
                                                cases e284
                                                replace hx284_0 := (HB.out.cell (World.block_lt_of_cell? w _ hx284_0)).trans hx284_0
                                                replace p284 := eq_true p284
                                                replace q284 := eq_true q284
                                                go_wp2_with (first | (go_at_call 12; (with_reducible refine (racewaylaw4_pick.calls (rd l3 x15_2) 3 t285 _ A56.out).mono ?_); rintro e w' ⟨rfl, ⟨nd, rfl⟩⟩))
                                                go_roundg kj20
                                                case measure => have := HJ5.out; have := HK2.out; have := HJ20.out; omega
                                                case rel => exact ⟨((x14_2 ++ (t263.extract (x16_2 : Int).toNat ((wrap64 (x16_2 + 1)) : Int).toNat)) ++ (⟨#[99, 32, 112, 32, 109, 97, 120, 32, 57, 32, 57, 10, 9, 10]⟩ : ByteArray)), (x15_2), (wrap64 (x16_2 + 1)), (by first | rfl | (simp; done) | (simp [*]; done)), (by first | rfl | (simp; done) | (simp [*]; done)), (by first | rfl | (simp; done) | (simp [*]; done)), H', ⟨by have := HJ5.out; have := HK2.out; have := HJ20.out; omega⟩, ⟨by (with_reducible repeat (first | apply Kd.R_alloc | apply Kd.R_drewN | apply Kd.R_drew)); exact HO_13.out⟩, ⟨by (with_reducible repeat (first | apply Kd.R_alloc | apply Kd.R_drewN | apply Kd.R_drew)); exact HO_263003.out⟩, ⟨by (with_reducible repeat (first | refine blk_drewN ?_ _ | refine blk_drew ?_ | refine blk_alloc ?_ _)); exact BK262.out⟩, ⟨by repeat (first | (with_reducible first | exact HB.out | apply below_alloc | apply pw_below_drewN | apply below_drew1 | refine below_set ?_ GE262.out) | exact HB.out)⟩⟩
                                              · rw [if_neg c58] at H
                                                exact absurd H (by simp)
                                            · rw [if_neg c57] at H
                                              have c57b0 : (t285 == 0) = false := beq_eq_false_iff_ne.mpr c57
                                              have c57b1 : (t285 != 0) = true := bne_iff_ne.mpr c57
                                              have H' := Aside0.mk H
                                              clear H
                                              have p52 : 0 ≤ (x16_2 : Int) := of_decide_eq_true (by first | (with_reducible assumption) | assumption)
                                              have q52 : x16_2 < (t263.size : Int) := of_decide_eq_true (by first | (with_reducible assumption) | assumption)
                                              have hx52 := bt_at t263 x16_2
                                              replace p52 := eq_true p52
                                              replace q52 := eq_true q52
                                              have p284 : 0 ≤ (x15_2 : Int) := of_decide_eq_true (by first | (with_reducible assumption) | assumption)
                                              have q284 : x15_2 < (l3.length : Int) := of_decide_eq_true (by first | (with_reducible assumption) | assumption)
                                              obtain ⟨ad284, e284, hx284_0⟩ := Kd.at_int HR3.out x15_2 p284 q284
                                              cases e284
                                              replace hx284_0 := (HB.out.cell (World.block_lt_of_cell? w _ hx284_0)).trans hx284_0
                                              replace p284 := eq_true p284
                                              replace q284 := eq_true q284
                                              go_wp2_with (first | (go_at_call 12; (with_reducible refine (racewaylaw4_pick.calls (rd l3 x15_2) 3 t285 _ A56.out).mono ?_); rintro e w' ⟨rfl, ⟨nd, rfl⟩⟩))
                                              go_roundg kj20
                                              case measure => have := HJ5.out; have := HK2.out; have := HJ20.out; omega
                                              case rel => exact ⟨(x14_2 ++ (t263.extract (x16_2 : Int).toNat ((wrap64 (x16_2 + 1)) : Int).toNat)), (x15_2), (wrap64 (x16_2 + 1)), (by first | rfl | (simp; done) | (simp [*]; done)), (by first | rfl | (simp; done) | (simp [*]; done)), (by first | rfl | (simp; done) | (simp [*]; done)), H', ⟨by have := HJ5.out; have := HK2.out; have := HJ20.out; omega⟩, ⟨by (with_reducible repeat (first | apply Kd.R_alloc | apply Kd.R_drewN | apply Kd.R_drew)); exact HO_13.out⟩, ⟨by (with_reducible repeat (first | apply Kd.R_alloc | apply Kd.R_drewN | apply Kd.R_drew)); exact HO_263003.out⟩, ⟨by (with_reducible repeat (first | refine blk_drewN ?_ _ | refine blk_drew ?_ | refine blk_alloc ?_ _)); exact BK262.out⟩, ⟨by repeat (first | (with_reducible first | exact HB.out | apply below_alloc | apply pw_below_drewN | apply below_drew1 | refine below_set ?_ GE262.out) | exact HB.out)⟩⟩
                                          · rw [if_neg c55] at H
                                            exact absurd H (by simp)
                                        · rw [if_neg c54] at H
                                          have c54b0 : decide (x15_2 < (l3.length : Int)) = false := decide_eq_false c54
                                          clear c54
                                          have H' := Aside0.mk H
                                          clear H
                                          have p52 : 0 ≤ (x16_2 : Int) := of_decide_eq_true (by first | (with_reducible assumption) | assumption)
                                          have q52 : x16_2 < (t263.size : Int) := of_decide_eq_true (by first | (with_reducible assumption) | assumption)
                                          have hx52 := bt_at t263 x16_2
                                          replace p52 := eq_true p52
                                          replace q52 := eq_true q52
                                          go_wp2
                                          go_roundg kj20
                                          case measure => have := HJ5.out; have := HK2.out; have := HJ20.out; omega
                                          case rel => exact ⟨(x14_2 ++ (t263.extract (x16_2 : Int).toNat ((wrap64 (x16_2 + 1)) : Int).toNat)), (x15_2), (wrap64 (x16_2 + 1)), (by first | rfl | (simp; done) | (simp [*]; done)), (by first | rfl | (simp; done) | (simp [*]; done)), (by first | rfl | (simp; done) | (simp [*]; done)), H', ⟨by have := HJ5.out; have := HK2.out; have := HJ20.out; omega⟩, ⟨by (with_reducible repeat (first | apply Kd.R_alloc | apply Kd.R_drewN | apply Kd.R_drew)); exact HO_13.out⟩, ⟨by (with_reducible repeat (first | apply Kd.R_alloc | apply Kd.R_drewN | apply Kd.R_drew)); exact HO_263003.out⟩, ⟨by (with_reducible repeat (first | refine blk_drewN ?_ _ | refine blk_drew ?_ | refine blk_alloc ?_ _)); exact BK262.out⟩, ⟨by repeat (first | (with_reducible first | exact HB.out | apply below_alloc | apply pw_below_drewN | apply below_drew1 | refine below_set ?_ GE262.out) | exact HB.out)⟩⟩
                                      · rw [if_neg c53] at H
                                        have c53b0 : ((bt t263 x16_2) == 10) = false := beq_eq_false_iff_ne.mpr c53
                                        have c53b1 : ((bt t263 x16_2) != 10) = true := bne_iff_ne.mpr c53
                                        have H' := Aside0.mk H
                                        clear H
                                        have p52 : 0 ≤ (x16_2 : Int) := of_decide_eq_true (by first | (with_reducible assumption) | assumption)
                                        have q52 : x16_2 < (t263.size : Int) := of_decide_eq_true (by first | (with_reducible assumption) | assumption)
                                        have hx52 := bt_at t263 x16_2
                                        replace p52 := eq_true p52
                                        replace q52 := eq_true q52
                                        go_wp2
                                        go_roundg kj20
                                        case measure => have := HJ5.out; have := HK2.out; have := HJ20.out; omega
                                        case rel => exact ⟨(x14_2 ++ (t263.extract (x16_2 : Int).toNat ((wrap64 (x16_2 + 1)) : Int).toNat)), (x15_2), (wrap64 (x16_2 + 1)), (by first | rfl | (simp; done) | (simp [*]; done)), (by first | rfl | (simp; done) | (simp [*]; done)), (by first | rfl | (simp; done) | (simp [*]; done)), H', ⟨by have := HJ5.out; have := HK2.out; have := HJ20.out; omega⟩, ⟨by (with_reducible repeat (first | apply Kd.R_alloc | apply Kd.R_drewN | apply Kd.R_drew)); exact HO_13.out⟩, ⟨by (with_reducible repeat (first | apply Kd.R_alloc | apply Kd.R_drewN | apply Kd.R_drew)); exact HO_263003.out⟩, ⟨by (with_reducible repeat (first | refine blk_drewN ?_ _ | refine blk_drew ?_ | refine blk_alloc ?_ _)); exact BK262.out⟩, ⟨by repeat (first | (with_reducible first | exact HB.out | apply below_alloc | apply pw_below_drewN | apply below_drew1 | refine below_set ?_ GE262.out) | exact HB.out)⟩⟩
                                    · rw [if_neg c51] at H
                                      exact absurd H (by simp)
                                  · rw [if_neg c50] at H
                                    exact absurd H (by simp)
                                · rw [if_neg c49] at H
                                  exact absurd H (by simp)
                              · rw [if_neg c48] at H
                                exact absurd H (by simp)
                            · rw [if_neg c47] at H
                              exact absurd H (by simp)
                  · rw [if_neg c20] at H
                    have c20b0 : decide (x16_2 < (t263.size : Int)) = false := decide_eq_false c20
                    clear c20
                    replace H := Option.bind_eq_some_iff.mp H
                    obtain ⟨⟨t268, t269, t270, t271, t274, t275⟩, A590, H⟩ := H
                    replace H : (if t275 = 0 then (if t274 = 0 then ((net_Same.f t268 t269 t270 t271 t256 t257 t258 t259).bind fun t277 => (some t277)) else (some false)) else (some false)) = some r := H
                    have A59 := Aside0.mk A590
                    clear A590
                    by_cases c60 : t275 = 0
                    · rw [if_pos c60] at H
                      have c60b0 : (t275 == 0) = true := beq_iff_eq.mpr c60
                      have c60b1 : (t275 != 0) = false := bne_eq_false_iff_eq.mpr c60
                      clear c60
                      by_cases c61 : t274 = 0
                      · rw [if_pos c61] at H
                        have c61b0 : (t274 == 0) = true := beq_iff_eq.mpr c61
                        have c61b1 : (t274 != 0) = false := bne_eq_false_iff_eq.mpr c61
                        clear c61
                        replace H := Option.bind_eq_some_iff.mp H
                        obtain ⟨t277, A620, H⟩ := H
                        replace H : (some t277) = some r := H
                        have A62 := Aside0.mk A620
                        clear A620
                        obtain rfl := Option.some.inj H
                        go_wp2_with (first | ((with_reducible refine gate_callee (f := 13) rfl ?_); refine goesL_ (some 127) rfl rfl Tryz.func13 (by kernel_rfl) rfl #[.string x14_2] rfl (by (try simp only [List.map_toArray, List.map_cons, List.map_nil]); first | done | rfl | (simp only [List.length_drop, List.length_take]; rfl)) ?_; (with_reducible refine (dimacs_Parse.calls x14_2 t268 t269 t270 t271 t274 t275 _ A59.out (LaidG.below hG (by repeat (first | (with_reducible first | exact HB.out | apply below_alloc | apply pw_below_drewN | apply below_drew1 | refine below_set ?_ GE262.out) | exact HB.out)))).mono ?_); rintro e w63 ⟨v272, rfl, ho0, hb⟩; refine ⟨_, rfl, ?_⟩; have n0_ := Aside0.mk (Kd.R_below (by (with_reducible repeat (first | apply Kd.R_alloc | apply Kd.R_drewN | apply Kd.R_drew)); exact HO_13.out) hb); have n1_ := Aside0.mk (Kd.R_elder' (by (with_reducible repeat (first | apply Kd.R_alloc | apply Kd.R_drewN | apply Kd.R_drew)); exact HO_263003.out) (Kd.R_base ho0) hb); have n2_ := Aside0.mk (Kd.R_lower (Kd.R_new' ho0 (Kd.R_lt (by (with_reducible repeat (first | apply Kd.R_alloc | apply Kd.R_drewN | apply Kd.R_drew)); exact HO_263003.out))) (below_size (by repeat (first | (with_reducible first | exact HB.out | apply below_alloc | apply pw_below_drewN | apply below_drew1 | refine below_set ?_ GE262.out) | exact HB.out)))); have n3_ := Aside0.mk (blk_below (g := gb262) (o := .cells #[.int .i64 t256, .int .i64 t257, .int .i64 t258, .slice Ao16 t259.length co16] 24 (0, 0)) (by (with_reducible repeat (first | refine blk_drewN ?_ _ | refine blk_drew ?_ | refine blk_alloc ?_ _)); exact BK262.out) hb); have n4_ := Aside0.mk (below_step (by repeat (first | (with_reducible first | exact HB.out | apply below_alloc | apply pw_below_drewN | apply below_drew1 | refine below_set ?_ GE262.out) | exact HB.out)) hb); clear HO_13; clear HO_263003; clear BK262; clear HB; have HO_13 := n0_; have HO_263003 := n1_; have HO273 := n2_; have BK262 := n3_; have HB := n4_; clear n0_ n1_ n2_ n3_ n4_; (try clear hb); (try clear hb2); (try clear hk); (try clear hi); (try clear ho0)) | ((with_reducible refine gate_dst (N := 18) rfl ?_); (try (refine gate_guard (by rfl) ?_; dsimp only)); refine box_event ?hg (N := 18) ?hd (cs := #[.int .i64 0, .int .i64 0, .int .i64 0, .slice none 0 0]) (t := 24) ?hr ?_; (case hd => rfl); (case hg => rfl); (case hr => first | (go_simp; done) | (go_simp; rfl)); intro gb276 hg w64 hbox hb; have n0_ := Aside0.mk (Kd.R_below (by (with_reducible repeat (first | apply Kd.R_alloc | apply Kd.R_drewN | apply Kd.R_drew)); exact HO_13.out) hb); have n1_ := Aside0.mk (Kd.R_below (by (with_reducible repeat (first | apply Kd.R_alloc | apply Kd.R_drewN | apply Kd.R_drew)); exact HO_263003.out) hb); have n2_ := Aside0.mk (Kd.R_below (by (with_reducible repeat (first | apply Kd.R_alloc | apply Kd.R_drewN | apply Kd.R_drew)); exact HO273.out) hb); have n3_ := Aside0.mk (blk_below (g := gb262) (o := .cells #[.int .i64 t256, .int .i64 t257, .int .i64 t258, .slice Ao16 t259.length co16] 24 (0, 0)) (by (with_reducible repeat (first | refine blk_drewN ?_ _ | refine blk_drew ?_ | refine blk_alloc ?_ _)); exact BK262.out) hb); have n4_ := Aside0.mk (below_step (by repeat (first | (with_reducible first | exact HB.out | apply below_alloc | apply pw_below_drewN | apply below_drew1 | refine below_set ?_ GE262.out) | exact HB.out)) hb); have n5_ := Aside0.mk (hbox); have n6_ := Aside0.mk ((by rw [hg]; exact (below_size (by repeat (first | (with_reducible first | exact HB.out | apply below_alloc | apply pw_below_drewN | apply below_drew1 | refine below_set ?_ GE262.out) | exact HB.out))) : w.heap.size ≤ gb276)); have n7_ := Aside0.mk ((by rw [hg]; exact (below_size (by repeat (first | (with_reducible first | exact HB.out | apply below_alloc | apply pw_below_drewN | apply below_drew1 | refine below_set ?_ GE262.out) | exact HB.out))) : w.heap.size ≤ gb276)); have n8_ := Aside0.mk ((by rw [hg]; exact Nat.ne_of_lt (blk_lt (g := gb262) (o := .cells #[.int .i64 t256, .int .i64 t257, .int .i64 t258, .slice Ao16 t259.length co16] 24 (0, 0)) (by (with_reducible repeat (first | refine blk_drewN ?_ _ | refine blk_drew ?_ | refine blk_alloc ?_ _)); exact BK262.out)) : gb262 ≠ gb276)); have n9_ := Aside0.mk ((by rw [hg]; exact Nat.ne_of_gt (blk_lt (g := gb262) (o := .cells #[.int .i64 t256, .int .i64 t257, .int .i64 t258, .slice Ao16 t259.length co16] 24 (0, 0)) (by (with_reducible repeat (first | refine blk_drewN ?_ _ | refine blk_drew ?_ | refine blk_alloc ?_ _)); exact BK262.out)) : gb276 ≠ gb262)); clear HO_13; clear HO_263003; clear HO273; clear BK262; clear HB; have HO_13 := n0_; have HO_263003 := n1_; have HO273 := n2_; have BK262 := n3_; have HB := n4_; have BK276 := n5_; have GW276 := n6_; have GE276 := n7_; have NB262_276 := n8_; have NB276_262 := n9_; clear n0_ n1_ n2_ n3_ n4_ n5_ n6_ n7_ n8_ n9_; clear hb hbox hg; have hnb65 := NB276_262.out; have hnc65 := NB262_276.out; have hcz66_0 : w64.cell? ⟨gb276, 0, none⟩ = some (.int .i64 0) := (blk_cell BK276.out 0).trans rfl; have hcz66_1 : w64.cell? ⟨gb276, 1, none⟩ = some (.int .i64 0) := (blk_cell BK276.out 1).trans rfl; have hcz66_2 : w64.cell? ⟨gb276, 2, none⟩ = some (.int .i64 0) := (blk_cell BK276.out 2).trans rfl; have hcz66_3 : w64.cell? ⟨gb276, 3, none⟩ = some (.slice none 0 0) := (blk_cell BK276.out 3).trans rfl; have hfz66_0 := blk_frozen BK276.out 0; have hfz66_1 := blk_frozen BK276.out 1; have hfz66_2 := blk_frozen BK276.out 2; have hfz66_3 := blk_frozen BK276.out 3; obtain ⟨Ao67, co67, eo67⟩ := Kd.R_slice HO273.out; subst eo67; have hcz68_0 : w64.cell? ⟨gb262, 0, none⟩ = some (.int .i64 t256) := (blk_cell BK262.out 0).trans rfl; have hcz68_1 : w64.cell? ⟨gb262, 1, none⟩ = some (.int .i64 t257) := (blk_cell BK262.out 1).trans rfl; have hcz68_2 : w64.cell? ⟨gb262, 2, none⟩ = some (.int .i64 t258) := (blk_cell BK262.out 2).trans rfl; have hcz68_3 : w64.cell? ⟨gb262, 3, none⟩ = some (.slice Ao16 t259.length co16) := (blk_cell BK262.out 3).trans rfl; have hfz68_0 := blk_frozen BK262.out 0; have hfz68_1 := blk_frozen BK262.out 1; have hfz68_2 := blk_frozen BK262.out 2; have hfz68_3 := blk_frozen BK262.out 3) | (go_at_call 15; (with_reducible refine (net_Same.calls t268 t269 t270 _ _ t271 t256 t257 t258 _ _ t259 t277 _ ?side1 ?side2 ?side3 ?side4 A62.out).mono ?_); (case side1 => refine (Kd.R_reads' (e := 44) (base := w.heap.size) (ok := fun k_ => (True ∧ some k_ ≠ (.slice Ao16 t259.length co16 : Value).ownBlock)) (n := t271.length) (c := co67) ?_).2.2; exact (by (with_reducible repeat (first | apply Kd.R_alloc | apply Kd.R_drewN | apply Kd.R_drew)); exact (Kd.R_mono (Kd.R_far (p := ⟨gb276, 3, none⟩) (Kd.R_far (p := ⟨gb276, 2, none⟩) (Kd.R_far (p := ⟨gb276, 1, none⟩) (Kd.R_far (p := ⟨gb276, 0, none⟩) (Kd.R_types HO273.out BK276.out (by decide)) (fun _ hk => hk.2) (.int .i64 t268)) (fun _ hk => hk.2) (.int .i64 t269)) (fun _ hk => hk.2) (.int .i64 t270)) (fun _ hk => hk.2) (.slice Ao67 t271.length co67)) (fun _ h_ => h_.1)))); (case side2 => exact (Kd.R_reads' HO273.out).2.1); (case side3 => refine (Kd.R_reads' (e := 44) (base := w.heap.size) (ok := fun k_ => (True ∧ some k_ ≠ (.slice Ao67 t271.length co67 : Value).ownBlock)) (n := t259.length) (c := co16) ?_).2.2; exact (by (with_reducible repeat (first | apply Kd.R_alloc | apply Kd.R_drewN | apply Kd.R_drew)); exact (Kd.R_mono (Kd.R_far (p := ⟨gb276, 3, none⟩) (Kd.R_far (p := ⟨gb276, 2, none⟩) (Kd.R_far (p := ⟨gb276, 1, none⟩) (Kd.R_far (p := ⟨gb276, 0, none⟩) (Kd.R_types HO_263003.out BK276.out (by decide)) (fun _ hk => hk.2) (.int .i64 t268)) (fun _ hk => hk.2) (.int .i64 t269)) (fun _ hk => hk.2) (.int .i64 t270)) (fun _ hk => hk.2) (.slice Ao67 t271.length co67)) (fun _ h_ => h_.1)))); (case side4 => exact (Kd.R_reads' HO_263003.out).2.1); rintro e w69 ⟨rfl, hb⟩; have n0_ := Aside0.mk (Kd.R_below (by (with_reducible repeat (first | apply Kd.R_alloc | apply Kd.R_drewN | apply Kd.R_drew)); exact (Kd.R_mono (Kd.R_far (p := ⟨gb276, 3, none⟩) (Kd.R_far (p := ⟨gb276, 2, none⟩) (Kd.R_far (p := ⟨gb276, 1, none⟩) (Kd.R_far (p := ⟨gb276, 0, none⟩) (Kd.R_types HO_13.out BK276.out (by decide)) (fun _ hk => hk.2) (.int .i64 t268)) (fun _ hk => hk.2) (.int .i64 t269)) (fun _ hk => hk.2) (.int .i64 t270)) (fun _ hk => hk.2) (.slice Ao67 t271.length co67)) (fun _ h_ => h_.1))) hb); have n1_ := Aside0.mk (Kd.R_below (by (with_reducible repeat (first | apply Kd.R_alloc | apply Kd.R_drewN | apply Kd.R_drew)); exact (Kd.R_mono (Kd.R_far (p := ⟨gb276, 3, none⟩) (Kd.R_far (p := ⟨gb276, 2, none⟩) (Kd.R_far (p := ⟨gb276, 1, none⟩) (Kd.R_far (p := ⟨gb276, 0, none⟩) (Kd.R_types HO_263003.out BK276.out (by decide)) (fun _ hk => hk.2) (.int .i64 t268)) (fun _ hk => hk.2) (.int .i64 t269)) (fun _ hk => hk.2) (.int .i64 t270)) (fun _ hk => hk.2) (.slice Ao67 t271.length co67)) (fun _ h_ => h_.1))) hb); have n2_ := Aside0.mk (Kd.R_below (by (with_reducible repeat (first | apply Kd.R_alloc | apply Kd.R_drewN | apply Kd.R_drew)); exact (Kd.R_mono (Kd.R_far (p := ⟨gb276, 3, none⟩) (Kd.R_far (p := ⟨gb276, 2, none⟩) (Kd.R_far (p := ⟨gb276, 1, none⟩) (Kd.R_far (p := ⟨gb276, 0, none⟩) (Kd.R_types HO273.out BK276.out (by decide)) (fun _ hk => hk.2) (.int .i64 t268)) (fun _ hk => hk.2) (.int .i64 t269)) (fun _ hk => hk.2) (.int .i64 t270)) (fun _ hk => hk.2) (.slice Ao67 t271.length co67)) (fun _ h_ => h_.1))) hb); have n3_ := Aside0.mk (blk_below (g := gb262) (o := .cells #[.int .i64 t256, .int .i64 t257, .int .i64 t258, .slice Ao16 t259.length co16] 24 (0, 0)) (by (with_reducible repeat (first | refine blk_drewN ?_ _ | refine blk_drew ?_ | refine blk_alloc ?_ _)); refine blk_far ?_ NB262_276.out _; (with_reducible repeat (first | refine blk_drewN ?_ _ | refine blk_drew ?_ | refine blk_alloc ?_ _)); refine blk_far ?_ NB262_276.out _; (with_reducible repeat (first | refine blk_drewN ?_ _ | refine blk_drew ?_ | refine blk_alloc ?_ _)); refine blk_far ?_ NB262_276.out _; (with_reducible repeat (first | refine blk_drewN ?_ _ | refine blk_drew ?_ | refine blk_alloc ?_ _)); refine blk_far ?_ NB262_276.out _; (with_reducible repeat (first | refine blk_drewN ?_ _ | refine blk_drew ?_ | refine blk_alloc ?_ _)); exact BK262.out) hb); have n4_ := Aside0.mk (blk_below (g := gb276) (o := .cells #[.int .i64 t268, .int .i64 t269, .int .i64 t270, .slice Ao67 t271.length co67] 24 (0, 0)) (by (with_reducible repeat (first | refine blk_drewN ?_ _ | refine blk_drew ?_ | refine blk_alloc ?_ _)); refine blk_put (cs := #[.int .i64 t268, .int .i64 t269, .int .i64 t270, .slice none 0 0]) ?_ 3 _ rfl; (with_reducible repeat (first | refine blk_drewN ?_ _ | refine blk_drew ?_ | refine blk_alloc ?_ _)); refine blk_put (cs := #[.int .i64 t268, .int .i64 t269, .int .i64 0, .slice none 0 0]) ?_ 2 _ rfl; (with_reducible repeat (first | refine blk_drewN ?_ _ | refine blk_drew ?_ | refine blk_alloc ?_ _)); refine blk_put (cs := #[.int .i64 t268, .int .i64 0, .int .i64 0, .slice none 0 0]) ?_ 1 _ rfl; (with_reducible repeat (first | refine blk_drewN ?_ _ | refine blk_drew ?_ | refine blk_alloc ?_ _)); refine blk_put (cs := #[.int .i64 0, .int .i64 0, .int .i64 0, .slice none 0 0]) ?_ 0 _ rfl; (with_reducible repeat (first | refine blk_drewN ?_ _ | refine blk_drew ?_ | refine blk_alloc ?_ _)); exact BK276.out) hb); have n5_ := Aside0.mk (below_step (by repeat (first | (with_reducible first | exact HB.out | apply below_alloc | apply pw_below_drewN | apply below_drew1 | refine below_set ?_ GE262.out | refine below_set ?_ GE276.out) | exact HB.out)) hb); clear HO_13; clear HO_263003; clear HO273; clear BK262; clear BK276; clear HB; have HO_13 := n0_; have HO_263003 := n1_; have HO273 := n2_; have BK262 := n3_; have BK276 := n4_; have HB := n5_; clear n0_ n1_ n2_ n3_ n4_ n5_; (try clear hb); (try clear hb2); (try clear hk); (try clear hi)))
                        go_ret
                        exact ⟨by first | rfl | (simp [errW_none, errW_some] <;> rfl) | (simp [*, errW_none, errW_some] <;> rfl), by repeat (first | (with_reducible first | exact HB.out | apply below_alloc | apply pw_below_drewN | apply below_drew1 | refine below_set ?_ GE262.out | refine below_set ?_ GE276.out) | exact HB.out)⟩
                      · rw [if_neg c61] at H
                        have c61b0 : (t274 == 0) = false := beq_eq_false_iff_ne.mpr c61
                        have c61b1 : (t274 != 0) = true := bne_iff_ne.mpr c61
                        obtain rfl := Option.some.inj H
                        go_wp2_with (first | ((with_reducible refine gate_callee (f := 13) rfl ?_); refine goesL_ (some 127) rfl rfl Tryz.func13 (by kernel_rfl) rfl #[.string x14_2] rfl (by (try simp only [List.map_toArray, List.map_cons, List.map_nil]); first | done | rfl | (simp only [List.length_drop, List.length_take]; rfl)) ?_; (with_reducible refine (dimacs_Parse.calls x14_2 t268 t269 t270 t271 t274 t275 _ A59.out (LaidG.below hG (by repeat (first | (with_reducible first | exact HB.out | apply below_alloc | apply pw_below_drewN | apply below_drew1 | refine below_set ?_ GE262.out) | exact HB.out)))).mono ?_); rintro e w70 ⟨v272, rfl, ho0, hb⟩; refine ⟨_, rfl, ?_⟩; have n0_ := Aside0.mk (Kd.R_below (by (with_reducible repeat (first | apply Kd.R_alloc | apply Kd.R_drewN | apply Kd.R_drew)); exact HO_13.out) hb); have n1_ := Aside0.mk (Kd.R_elder' (by (with_reducible repeat (first | apply Kd.R_alloc | apply Kd.R_drewN | apply Kd.R_drew)); exact HO_263003.out) (Kd.R_base ho0) hb); have n2_ := Aside0.mk (Kd.R_lower (Kd.R_new' ho0 (Kd.R_lt (by (with_reducible repeat (first | apply Kd.R_alloc | apply Kd.R_drewN | apply Kd.R_drew)); exact HO_263003.out))) (below_size (by repeat (first | (with_reducible first | exact HB.out | apply below_alloc | apply pw_below_drewN | apply below_drew1 | refine below_set ?_ GE262.out) | exact HB.out)))); have n3_ := Aside0.mk (blk_below (g := gb262) (o := .cells #[.int .i64 t256, .int .i64 t257, .int .i64 t258, .slice Ao16 t259.length co16] 24 (0, 0)) (by (with_reducible repeat (first | refine blk_drewN ?_ _ | refine blk_drew ?_ | refine blk_alloc ?_ _)); exact BK262.out) hb); have n4_ := Aside0.mk (below_step (by repeat (first | (with_reducible first | exact HB.out | apply below_alloc | apply pw_below_drewN | apply below_drew1 | refine below_set ?_ GE262.out) | exact HB.out)) hb); clear HO_13; clear HO_263003; clear BK262; clear HB; have HO_13 := n0_; have HO_263003 := n1_; have HO273 := n2_; have BK262 := n3_; have HB := n4_; clear n0_ n1_ n2_ n3_ n4_; (try clear hb); (try clear hb2); (try clear hk); (try clear hi); (try clear ho0)) | ((with_reducible refine gate_dst (N := 18) rfl ?_); (try (refine gate_guard (by rfl) ?_; dsimp only)); refine box_event ?hg (N := 18) ?hd (cs := #[.int .i64 0, .int .i64 0, .int .i64 0, .slice none 0 0]) (t := 24) ?hr ?_; (case hd => rfl); (case hg => rfl); (case hr => first | (go_simp; done) | (go_simp; rfl)); intro gb276 hg w71 hbox hb; have n0_ := Aside0.mk (Kd.R_below (by (with_reducible repeat (first | apply Kd.R_alloc | apply Kd.R_drewN | apply Kd.R_drew)); exact HO_13.out) hb); have n1_ := Aside0.mk (Kd.R_below (by (with_reducible repeat (first | apply Kd.R_alloc | apply Kd.R_drewN | apply Kd.R_drew)); exact HO_263003.out) hb); have n2_ := Aside0.mk (Kd.R_below (by (with_reducible repeat (first | apply Kd.R_alloc | apply Kd.R_drewN | apply Kd.R_drew)); exact HO273.out) hb); have n3_ := Aside0.mk (blk_below (g := gb262) (o := .cells #[.int .i64 t256, .int .i64 t257, .int .i64 t258, .slice Ao16 t259.length co16] 24 (0, 0)) (by (with_reducible repeat (first | refine blk_drewN ?_ _ | refine blk_drew ?_ | refine blk_alloc ?_ _)); exact BK262.out) hb); have n4_ := Aside0.mk (below_step (by repeat (first | (with_reducible first | exact HB.out | apply below_alloc | apply pw_below_drewN | apply below_drew1 | refine below_set ?_ GE262.out) | exact HB.out)) hb); have n5_ := Aside0.mk (hbox); have n6_ := Aside0.mk ((by rw [hg]; exact (below_size (by repeat (first | (with_reducible first | exact HB.out | apply below_alloc | apply pw_below_drewN | apply below_drew1 | refine below_set ?_ GE262.out) | exact HB.out))) : w.heap.size ≤ gb276)); have n7_ := Aside0.mk ((by rw [hg]; exact (below_size (by repeat (first | (with_reducible first | exact HB.out | apply below_alloc | apply pw_below_drewN | apply below_drew1 | refine below_set ?_ GE262.out) | exact HB.out))) : w.heap.size ≤ gb276)); have n8_ := Aside0.mk ((by rw [hg]; exact Nat.ne_of_lt (blk_lt (g := gb262) (o := .cells #[.int .i64 t256, .int .i64 t257, .int .i64 t258, .slice Ao16 t259.length co16] 24 (0, 0)) (by (with_reducible repeat (first | refine blk_drewN ?_ _ | refine blk_drew ?_ | refine blk_alloc ?_ _)); exact BK262.out)) : gb262 ≠ gb276)); have n9_ := Aside0.mk ((by rw [hg]; exact Nat.ne_of_gt (blk_lt (g := gb262) (o := .cells #[.int .i64 t256, .int .i64 t257, .int .i64 t258, .slice Ao16 t259.length co16] 24 (0, 0)) (by (with_reducible repeat (first | refine blk_drewN ?_ _ | refine blk_drew ?_ | refine blk_alloc ?_ _)); exact BK262.out)) : gb276 ≠ gb262)); clear HO_13; clear HO_263003; clear HO273; clear BK262; clear HB; have HO_13 := n0_; have HO_263003 := n1_; have HO273 := n2_; have BK262 := n3_; have HB := n4_; have BK276 := n5_; have GW276 := n6_; have GE276 := n7_; have NB262_276 := n8_; have NB276_262 := n9_; clear n0_ n1_ n2_ n3_ n4_ n5_ n6_ n7_ n8_ n9_; clear hb hbox hg; have hnb72 := NB276_262.out; have hnc72 := NB262_276.out; have hcz73_0 : w71.cell? ⟨gb276, 0, none⟩ = some (.int .i64 0) := (blk_cell BK276.out 0).trans rfl; have hcz73_1 : w71.cell? ⟨gb276, 1, none⟩ = some (.int .i64 0) := (blk_cell BK276.out 1).trans rfl; have hcz73_2 : w71.cell? ⟨gb276, 2, none⟩ = some (.int .i64 0) := (blk_cell BK276.out 2).trans rfl; have hcz73_3 : w71.cell? ⟨gb276, 3, none⟩ = some (.slice none 0 0) := (blk_cell BK276.out 3).trans rfl; have hfz73_0 := blk_frozen BK276.out 0; have hfz73_1 := blk_frozen BK276.out 1; have hfz73_2 := blk_frozen BK276.out 2; have hfz73_3 := blk_frozen BK276.out 3; obtain ⟨Ao74, co74, eo74⟩ := Kd.R_slice HO273.out; subst eo74))
                        go_ret
                        exact ⟨by first | rfl | (simp [errW_none, errW_some] <;> rfl) | (simp [*, errW_none, errW_some] <;> rfl), by repeat (first | (with_reducible first | exact HB.out | apply below_alloc | apply pw_below_drewN | apply below_drew1 | refine below_set ?_ GE262.out | refine below_set ?_ GE276.out) | exact HB.out)⟩
                    · rw [if_neg c60] at H
                      have c60b0 : (t275 == 0) = false := beq_eq_false_iff_ne.mpr c60
                      have c60b1 : (t275 != 0) = true := bne_iff_ne.mpr c60
                      obtain rfl := Option.some.inj H
                      go_wp2_with (first | ((with_reducible refine gate_callee (f := 13) rfl ?_); refine goesL_ (some 127) rfl rfl Tryz.func13 (by kernel_rfl) rfl #[.string x14_2] rfl (by (try simp only [List.map_toArray, List.map_cons, List.map_nil]); first | done | rfl | (simp only [List.length_drop, List.length_take]; rfl)) ?_; (with_reducible refine (dimacs_Parse.calls x14_2 t268 t269 t270 t271 t274 t275 _ A59.out (LaidG.below hG (by repeat (first | (with_reducible first | exact HB.out | apply below_alloc | apply pw_below_drewN | apply below_drew1 | refine below_set ?_ GE262.out) | exact HB.out)))).mono ?_); rintro e w75 ⟨v272, rfl, ho0, hb⟩; refine ⟨_, rfl, ?_⟩; have n0_ := Aside0.mk (Kd.R_below (by (with_reducible repeat (first | apply Kd.R_alloc | apply Kd.R_drewN | apply Kd.R_drew)); exact HO_13.out) hb); have n1_ := Aside0.mk (Kd.R_elder' (by (with_reducible repeat (first | apply Kd.R_alloc | apply Kd.R_drewN | apply Kd.R_drew)); exact HO_263003.out) (Kd.R_base ho0) hb); have n2_ := Aside0.mk (Kd.R_lower (Kd.R_new' ho0 (Kd.R_lt (by (with_reducible repeat (first | apply Kd.R_alloc | apply Kd.R_drewN | apply Kd.R_drew)); exact HO_263003.out))) (below_size (by repeat (first | (with_reducible first | exact HB.out | apply below_alloc | apply pw_below_drewN | apply below_drew1 | refine below_set ?_ GE262.out) | exact HB.out)))); have n3_ := Aside0.mk (blk_below (g := gb262) (o := .cells #[.int .i64 t256, .int .i64 t257, .int .i64 t258, .slice Ao16 t259.length co16] 24 (0, 0)) (by (with_reducible repeat (first | refine blk_drewN ?_ _ | refine blk_drew ?_ | refine blk_alloc ?_ _)); exact BK262.out) hb); have n4_ := Aside0.mk (below_step (by repeat (first | (with_reducible first | exact HB.out | apply below_alloc | apply pw_below_drewN | apply below_drew1 | refine below_set ?_ GE262.out) | exact HB.out)) hb); clear HO_13; clear HO_263003; clear BK262; clear HB; have HO_13 := n0_; have HO_263003 := n1_; have HO273 := n2_; have BK262 := n3_; have HB := n4_; clear n0_ n1_ n2_ n3_ n4_; (try clear hb); (try clear hb2); (try clear hk); (try clear hi); (try clear ho0)) | ((with_reducible refine gate_dst (N := 18) rfl ?_); (try (refine gate_guard (by rfl) ?_; dsimp only)); refine box_event ?hg (N := 18) ?hd (cs := #[.int .i64 0, .int .i64 0, .int .i64 0, .slice none 0 0]) (t := 24) ?hr ?_; (case hd => rfl); (case hg => rfl); (case hr => first | (go_simp; done) | (go_simp; rfl)); intro gb276 hg w76 hbox hb; have n0_ := Aside0.mk (Kd.R_below (by (with_reducible repeat (first | apply Kd.R_alloc | apply Kd.R_drewN | apply Kd.R_drew)); exact HO_13.out) hb); have n1_ := Aside0.mk (Kd.R_below (by (with_reducible repeat (first | apply Kd.R_alloc | apply Kd.R_drewN | apply Kd.R_drew)); exact HO_263003.out) hb); have n2_ := Aside0.mk (Kd.R_below (by (with_reducible repeat (first | apply Kd.R_alloc | apply Kd.R_drewN | apply Kd.R_drew)); exact HO273.out) hb); have n3_ := Aside0.mk (blk_below (g := gb262) (o := .cells #[.int .i64 t256, .int .i64 t257, .int .i64 t258, .slice Ao16 t259.length co16] 24 (0, 0)) (by (with_reducible repeat (first | refine blk_drewN ?_ _ | refine blk_drew ?_ | refine blk_alloc ?_ _)); exact BK262.out) hb); have n4_ := Aside0.mk (below_step (by repeat (first | (with_reducible first | exact HB.out | apply below_alloc | apply pw_below_drewN | apply below_drew1 | refine below_set ?_ GE262.out) | exact HB.out)) hb); have n5_ := Aside0.mk (hbox); have n6_ := Aside0.mk ((by rw [hg]; exact (below_size (by repeat (first | (with_reducible first | exact HB.out | apply below_alloc | apply pw_below_drewN | apply below_drew1 | refine below_set ?_ GE262.out) | exact HB.out))) : w.heap.size ≤ gb276)); have n7_ := Aside0.mk ((by rw [hg]; exact (below_size (by repeat (first | (with_reducible first | exact HB.out | apply below_alloc | apply pw_below_drewN | apply below_drew1 | refine below_set ?_ GE262.out) | exact HB.out))) : w.heap.size ≤ gb276)); have n8_ := Aside0.mk ((by rw [hg]; exact Nat.ne_of_lt (blk_lt (g := gb262) (o := .cells #[.int .i64 t256, .int .i64 t257, .int .i64 t258, .slice Ao16 t259.length co16] 24 (0, 0)) (by (with_reducible repeat (first | refine blk_drewN ?_ _ | refine blk_drew ?_ | refine blk_alloc ?_ _)); exact BK262.out)) : gb262 ≠ gb276)); have n9_ := Aside0.mk ((by rw [hg]; exact Nat.ne_of_gt (blk_lt (g := gb262) (o := .cells #[.int .i64 t256, .int .i64 t257, .int .i64 t258, .slice Ao16 t259.length co16] 24 (0, 0)) (by (with_reducible repeat (first | refine blk_drewN ?_ _ | refine blk_drew ?_ | refine blk_alloc ?_ _)); exact BK262.out)) : gb276 ≠ gb262)); clear HO_13; clear HO_263003; clear HO273; clear BK262; clear HB; have HO_13 := n0_; have HO_263003 := n1_; have HO273 := n2_; have BK262 := n3_; have HB := n4_; have BK276 := n5_; have GW276 := n6_; have GE276 := n7_; have NB262_276 := n8_; have NB276_262 := n9_; clear n0_ n1_ n2_ n3_ n4_ n5_ n6_ n7_ n8_ n9_; clear hb hbox hg; have hnb77 := NB276_262.out; have hnc77 := NB262_276.out; have hcz78_0 : w76.cell? ⟨gb276, 0, none⟩ = some (.int .i64 0) := (blk_cell BK276.out 0).trans rfl; have hcz78_1 : w76.cell? ⟨gb276, 1, none⟩ = some (.int .i64 0) := (blk_cell BK276.out 1).trans rfl; have hcz78_2 : w76.cell? ⟨gb276, 2, none⟩ = some (.int .i64 0) := (blk_cell BK276.out 2).trans rfl; have hcz78_3 : w76.cell? ⟨gb276, 3, none⟩ = some (.slice none 0 0) := (blk_cell BK276.out 3).trans rfl; have hfz78_0 := blk_frozen BK276.out 0; have hfz78_1 := blk_frozen BK276.out 1; have hfz78_2 := blk_frozen BK276.out 2; have hfz78_3 := blk_frozen BK276.out 3; obtain ⟨Ao79, co79, eo79⟩ := Kd.R_slice HO273.out; subst eo79))
                      go_ret
                      exact ⟨by first | rfl | (simp [errW_none, errW_some] <;> rfl) | (simp [*, errW_none, errW_some] <;> rfl), by repeat (first | (with_reducible first | exact HB.out | apply below_alloc | apply pw_below_drewN | apply below_drew1 | refine below_set ?_ GE262.out | refine below_set ?_ GE276.out) | exact HB.out)⟩
          · rw [if_neg c12] at H
            have c12b0 : (t264 == 0) = false := beq_eq_false_iff_ne.mpr c12
            have c12b1 : (t264 != 0) = true := bne_iff_ne.mpr c12
            obtain rfl := Option.some.inj H
            go_wp2_with (first | ((with_reducible refine gate_callee (f := 10) rfl ?_); refine goesL_ (some 33) rfl rfl Tryz.func10 (by kernel_rfl) rfl #[.int .i64 a0, .int .i64 a1, .slice A2 l2.length c2] rfl (by (try simp only [List.map_toArray, List.map_cons, List.map_nil]); first | done | rfl | (simp only [List.length_drop, List.length_take]; rfl)) ?_; (with_reducible refine (racewaylaw4_made.calls kj5 a0 a1 _ _ l2 t256 t257 t258 t259 _ ?side1 ?side2 A10.out).mono ?_); (case side1 => repeat (first | exact (Kd.C_below HR2.out HB.out) | (with_reducible refine Kd.C_alloc ?_ _) | (with_reducible refine Kd.C_drewN ?_ _) | (with_reducible refine Kd.C_drew ?_))); (case side2 => exact HC2.out); rintro e w80 ⟨v260, rfl, ho0, hb⟩; refine ⟨_, rfl, ?_⟩; have n0_ := Aside0.mk (Kd.R_lower ho0 (below_size (by repeat (first | (with_reducible first | exact HB.out | apply below_alloc | apply pw_below_drewN | apply below_drew1) | exact HB.out)))); have n1_ := Aside0.mk (below_step (by repeat (first | (with_reducible first | exact HB.out | apply below_alloc | apply pw_below_drewN | apply below_drew1) | exact HB.out)) hb); clear HB; have HO261 := n0_; have HB := n1_; clear n0_ n1_; (try clear hb); (try clear hb2); (try clear hk); (try clear hi); (try clear ho0)) | ((with_reducible refine gate_dst (N := 10) rfl ?_); (try (refine gate_guard (by rfl) ?_; dsimp only)); refine box_event ?hg (N := 10) ?hd (cs := #[.int .i64 0, .int .i64 0, .int .i64 0, .slice none 0 0]) (t := 24) ?hr ?_; (case hd => rfl); (case hg => rfl); (case hr => first | (go_simp; done) | (go_simp; rfl)); intro gb262 hg w81 hbox hb; have n0_ := Aside0.mk (Kd.R_below (by (with_reducible repeat (first | apply Kd.R_alloc | apply Kd.R_drewN | apply Kd.R_drew)); exact HO261.out) hb); have n1_ := Aside0.mk (below_step (by repeat (first | (with_reducible first | exact HB.out | apply below_alloc | apply pw_below_drewN | apply below_drew1) | exact HB.out)) hb); have n2_ := Aside0.mk (hbox); have n3_ := Aside0.mk ((by rw [hg]; exact (below_size (by repeat (first | (with_reducible first | exact HB.out | apply below_alloc | apply pw_below_drewN | apply below_drew1) | exact HB.out))) : w.heap.size ≤ gb262)); have n4_ := Aside0.mk ((by rw [hg]; exact (below_size (by repeat (first | (with_reducible first | exact HB.out | apply below_alloc | apply pw_below_drewN | apply below_drew1) | exact HB.out))) : w.heap.size ≤ gb262)); clear HO261; clear HB; have HO261 := n0_; have HB := n1_; have BK262 := n2_; have GW262 := n3_; have GE262 := n4_; clear n0_ n1_ n2_ n3_ n4_; clear hb hbox hg; have hcz82_0 : w81.cell? ⟨gb262, 0, none⟩ = some (.int .i64 0) := (blk_cell BK262.out 0).trans rfl; have hcz82_1 : w81.cell? ⟨gb262, 1, none⟩ = some (.int .i64 0) := (blk_cell BK262.out 1).trans rfl; have hcz82_2 : w81.cell? ⟨gb262, 2, none⟩ = some (.int .i64 0) := (blk_cell BK262.out 2).trans rfl; have hcz82_3 : w81.cell? ⟨gb262, 3, none⟩ = some (.slice none 0 0) := (blk_cell BK262.out 3).trans rfl; have hfz82_0 := blk_frozen BK262.out 0; have hfz82_1 := blk_frozen BK262.out 1; have hfz82_2 := blk_frozen BK262.out 2; have hfz82_3 := blk_frozen BK262.out 3; obtain ⟨Ao83, co83, eo83⟩ := Kd.R_slice HO261.out; subst eo83) | ((with_reducible refine gate_callee (f := 8) rfl ?_); refine goesL_ (some 36) rfl rfl Tryz.func8 (by kernel_rfl) rfl #[.agg #[.int .i64 t256, .int .i64 t257, .int .i64 t258, .slice Ao83 t259.length co83]] rfl (by (try simp only [List.map_toArray, List.map_cons, List.map_nil]); first | done | rfl | (simp only [List.length_drop, List.length_take]; rfl)) ?_; (with_reducible refine (dimacs_Print.calls t256 t257 t258 _ _ t259 t263 t264 _ ?side1 ?side2 A11.out (LaidG.below hG (by repeat (first | (with_reducible first | exact HB.out | apply below_alloc | apply pw_below_drewN | apply below_drew1 | refine below_set ?_ GE262.out) | exact HB.out)))).mono ?_); (case side1 => refine (Kd.R_reads' (e := 44) (base := w.heap.size) (ok := fun k_ => True) (n := t259.length) (c := co83) ?_).2.2; exact (by (with_reducible repeat (first | apply Kd.R_alloc | apply Kd.R_drewN | apply Kd.R_drew)); exact (Kd.R_mono (Kd.R_far (p := ⟨gb262, 3, none⟩) (Kd.R_far (p := ⟨gb262, 2, none⟩) (Kd.R_far (p := ⟨gb262, 1, none⟩) (Kd.R_far (p := ⟨gb262, 0, none⟩) (Kd.R_types HO261.out BK262.out (by decide)) (fun _ hk => hk.2) (.int .i64 t256)) (fun _ hk => hk.2) (.int .i64 t257)) (fun _ hk => hk.2) (.int .i64 t258)) (fun _ hk => hk.2) (.slice Ao83 t259.length co83)) (fun _ h_ => h_.1)))); (case side2 => exact (Kd.R_reads' HO261.out).2.1); rintro e w84 ⟨rfl, hb⟩; refine ⟨_, rfl, ?_⟩; have n0_ := Aside0.mk (Kd.R_below (by (with_reducible repeat (first | apply Kd.R_alloc | apply Kd.R_drewN | apply Kd.R_drew)); exact (Kd.R_mono (Kd.R_far (p := ⟨gb262, 3, none⟩) (Kd.R_far (p := ⟨gb262, 2, none⟩) (Kd.R_far (p := ⟨gb262, 1, none⟩) (Kd.R_far (p := ⟨gb262, 0, none⟩) (Kd.R_types HO261.out BK262.out (by decide)) (fun _ hk => hk.2) (.int .i64 t256)) (fun _ hk => hk.2) (.int .i64 t257)) (fun _ hk => hk.2) (.int .i64 t258)) (fun _ hk => hk.2) (.slice Ao83 t259.length co83)) (fun _ h_ => h_.1))) hb); have n1_ := Aside0.mk (blk_below (g := gb262) (o := .cells #[.int .i64 t256, .int .i64 t257, .int .i64 t258, .slice Ao83 t259.length co83] 24 (0, 0)) (by (with_reducible repeat (first | refine blk_drewN ?_ _ | refine blk_drew ?_ | refine blk_alloc ?_ _)); refine blk_put (cs := #[.int .i64 t256, .int .i64 t257, .int .i64 t258, .slice none 0 0]) ?_ 3 _ rfl; (with_reducible repeat (first | refine blk_drewN ?_ _ | refine blk_drew ?_ | refine blk_alloc ?_ _)); refine blk_put (cs := #[.int .i64 t256, .int .i64 t257, .int .i64 0, .slice none 0 0]) ?_ 2 _ rfl; (with_reducible repeat (first | refine blk_drewN ?_ _ | refine blk_drew ?_ | refine blk_alloc ?_ _)); refine blk_put (cs := #[.int .i64 t256, .int .i64 0, .int .i64 0, .slice none 0 0]) ?_ 1 _ rfl; (with_reducible repeat (first | refine blk_drewN ?_ _ | refine blk_drew ?_ | refine blk_alloc ?_ _)); refine blk_put (cs := #[.int .i64 0, .int .i64 0, .int .i64 0, .slice none 0 0]) ?_ 0 _ rfl; (with_reducible repeat (first | refine blk_drewN ?_ _ | refine blk_drew ?_ | refine blk_alloc ?_ _)); exact BK262.out) hb); have n2_ := Aside0.mk (below_step (by repeat (first | (with_reducible first | exact HB.out | apply below_alloc | apply pw_below_drewN | apply below_drew1 | refine below_set ?_ GE262.out) | exact HB.out)) hb); clear HO261; clear BK262; clear HB; have HO261 := n0_; have BK262 := n1_; have HB := n2_; clear n0_ n1_ n2_; (try clear hb); (try clear hb2); (try clear hk); (try clear hi)))
            go_ret
            exact ⟨by first | rfl | (simp [errW_none, errW_some] <;> rfl) | (simp [*, errW_none, errW_some] <;> rfl), by repeat (first | (with_reducible first | exact HB.out | apply below_alloc | apply pw_below_drewN | apply below_drew1 | refine below_set ?_ GE262.out) | exact HB.out)⟩

end Go.Proofs.YtgpeppnbgfdaaaaGreatDoor.R
