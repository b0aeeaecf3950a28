/- Functions of the program as plain Lean functions, and that their calls come to these: written by a program of this session. Conditions: what each theorem asks. -/
import Derived.Test.YtgpeppnbgfdaaaaGreatDoorRx0
import Derived.Test.YtgpeppnbgfdaaaaGreatDoorRx2
import Derived.Test.YtgpeppnbgfdaaaaGreatDoorText
import Derived.Test.YtgpeppnbgfdaaaaGreatDoorPrn
namespace Go.Proofs.YtgpeppnbgfdaaaaGreatDoor.R
open Go.RowKit Go.Proofs.YtgpeppnbgfdaaaaGreatDoor.H Go.Proofs.YtgpeppnbgfdaaaaGreatDoorW.PrintWords Go.Proofs.YtgpeppnbgfdaaaaGreatDoorW.PrintLast Go.Proofs.YtgpeppnbgfdaaaaGreatDoorW.PrintMore
attribute [local go_sem] max2_int min2_int max_two min_two max_three min_three max_four min_four   -- for this text's walks alone
set_option linter.unusedVariables false
private theorem sz_mk_ (a : Array UInt8) : (ByteArray.mk a).size = a.size := rfl
set_option linter.unusedSimpArgs false

/-! ### racewaylaw4_DimacsBack: function 5 -/
mutual
def racewaylaw4_DimacsBack.j0 : Nat → ByteArray → ByteArray → Bool → Bool → Int → Int → Int → List (S44) → Option (Bool)
  | 0, _, _, _, _, _, _, _, _ => none
  | k + 1, x1, x2, x7, x44, x112000, x112001, x112002, x112003 => if x44 = true then (some x7) else ((dimacs_Print.f x112000 x112001 x112002 x112003).bind fun bt113 => ((net_Check.f x112000 x112001 x112002 x112003).bind fun t115 => (if ((bt113.2 == 0) != (t115 == 0)) = true then (some false) else (if bt113.2 = 0 then (racewaylaw4_DimacsBack.l0 k x1 x2 bt113.1 0 x112000 x112001 x112002 x112003) else (racewaylaw4_DimacsBack.j3 k x1)))))
def racewaylaw4_DimacsBack.j3 : Nat → ByteArray → Option (Bool)
  | 0, _ => none
  | k + 1, x1 => (dimacs_Parse.f x1).bind fun bt140 => (if bt140.2.2.2.2.2 = 0 then ((dimacs_Print.f bt140.1 bt140.2.1 bt140.2.2.1 bt140.2.2.2.1).bind fun bt152 => ((dimacs_Parse.f bt152.1).bind fun bt154 => ((net_Check.f bt140.1 bt140.2.1 bt140.2.2.1 bt140.2.2.2.1).bind fun t163 => (if t163 = 0 then (if bt152.2 = 0 then (if bt154.2.2.2.2.2 = 0 then ((net_Same.f bt140.1 bt140.2.1 bt140.2.2.1 bt140.2.2.2.1 bt154.1 bt154.2.1 bt154.2.2.1 bt154.2.2.2.1).bind fun t164 => (if t164 = true then (some (bt140.2.2.2.2.1 == 0)) else (some false))) else (some false)) else (some false)) else (some false))))) else (if bt140.2.2.2.2.1 ≥ 1 then ((text_Lines.f x1).bind fun t149 => (if bt140.2.2.2.2.1 ≤ (wrap64 ((t149.length : Int) + 1)) then (if (bt140.2.2.2.1.length : Int) = 0 then (some (bt140.1 == 0)) else (some false)) else (some false))) else (some false)))
def racewaylaw4_DimacsBack.l0 : Nat → ByteArray → ByteArray → ByteArray → Int → Int → Int → Int → List (S44) → Option (Bool)
  | 0, _, _, _, _, _, _, _, _ => none
  | k + 1, x1, x2, x8, x10, x112000, x112001, x112002, x112003 => if x10 < (x2.size : Int) then (if 0 ≤ x10 then (if (bt x2 x10) = 10 then (some true) else (racewaylaw4_DimacsBack.l0 k x1 x2 x8 (wrap64 (x10 + 1)) x112000 x112001 x112002 x112003)) else (none)) else ((text_Lines.f x8).bind fun t116 => (if 2 + x2.size ≤ 9223372036854775807 then (if ((⟨#[99, 32]⟩ : ByteArray) ++ x2).size + 1 ≤ 9223372036854775807 then (racewaylaw4_DimacsBack.l1 k x1 x2 x8 t116 (((⟨#[99, 32]⟩ : ByteArray) ++ x2) ++ (⟨#[10]⟩ : ByteArray)) 0 x112000 x112001 x112002 x112003) else (none)) else (none)))
def racewaylaw4_DimacsBack.l1 : Nat → ByteArray → ByteArray → ByteArray → List ByteArray → ByteArray → Int → Int → Int → Int → List (S44) → Option (Bool)
  | 0, _, _, _, _, _, _, _, _, _, _ => none
  | k + 1, x1, x2, x8, x11, x12, x13, x112000, x112001, x112002, x112003 => if x13 < (x11.length : Int) then (if x12.size + 1 ≤ 9223372036854775807 then (if 0 ≤ x13 then (if (x12 ++ (⟨#[32]⟩ : ByteArray)).size + (rdOf ByteArray.empty x11 x13).size ≤ 9223372036854775807 then (if ((x12 ++ (⟨#[32]⟩ : ByteArray)) ++ (rdOf ByteArray.empty x11 x13)).size + 5 ≤ 9223372036854775807 then (if (((x12 ++ (⟨#[32]⟩ : ByteArray)) ++ (rdOf ByteArray.empty x11 x13)) ++ (⟨#[9, 10, 10, 99, 32]⟩ : ByteArray)).size + x2.size ≤ 9223372036854775807 then (if ((((x12 ++ (⟨#[32]⟩ : ByteArray)) ++ (rdOf ByteArray.empty x11 x13)) ++ (⟨#[9, 10, 10, 99, 32]⟩ : ByteArray)) ++ x2).size + 1 ≤ 9223372036854775807 then (racewaylaw4_DimacsBack.l1 k x1 x2 x8 x11 (((((x12 ++ (⟨#[32]⟩ : ByteArray)) ++ (rdOf ByteArray.empty x11 x13)) ++ (⟨#[9, 10, 10, 99, 32]⟩ : ByteArray)) ++ x2) ++ (⟨#[10]⟩ : ByteArray)) (wrap64 (x13 + 1)) x112000 x112001 x112002 x112003) else (none)) else (none)) else (none)) else (none)) else (none)) else (none)) else ((dimacs_Parse.f x8).bind fun bt120 => ((dimacs_Parse.f x12).bind fun bt129 => (if bt120.2.2.2.2.2 = 0 then (if bt120.2.2.2.2.1 = 0 then ((net_Same.f bt120.1 bt120.2.1 bt120.2.2.1 bt120.2.2.2.1 x112000 x112001 x112002 x112003).bind fun t138 => (if t138 = true then (if bt129.2.2.2.2.2 = 0 then (if bt129.2.2.2.2.1 = 0 then ((net_Same.f bt129.1 bt129.2.1 bt129.2.2.1 bt129.2.2.2.1 x112000 x112001 x112002 x112003).bind fun t139 => (if t139 = true then (racewaylaw4_DimacsBack.j3 k x1) else (some false))) else (some false)) else (some false)) else (some false))) else (some false)) else (some false))))
end
def racewaylaw4_DimacsBack.f (k : Nat) (a0_0 : Int) (a0_1 : Int) (a0_2 : Int) (l0_3 : List (S44)) (a1 : ByteArray) (a2 : ByteArray) : Option (Bool) := (racewaylaw4_shown.f).bind fun t112 => (if t112 = true then (if (l0_3.length : Int) > 300 then (racewaylaw4_DimacsBack.j0 k a1 a2 t112 true a0_0 a0_1 a0_2 l0_3) else (racewaylaw4_DimacsBack.j0 k a1 a2 t112 (decide ((wrap64 ((a1.size : Int) + (a2.size : Int))) > 3000)) a0_0 a0_1 a0_2 l0_3)) else (racewaylaw4_DimacsBack.j0 k a1 a2 t112 true a0_0 a0_1 a0_2 l0_3))
theorem racewaylaw4_DimacsBack.mono_l : ∀ k, (∀ y0 y1 y2 y3 y4 y5 y6 y7, LeO (racewaylaw4_DimacsBack.j0 k y0 y1 y2 y3 y4 y5 y6 y7) (racewaylaw4_DimacsBack.j0 (k + 1) y0 y1 y2 y3 y4 y5 y6 y7)) ∧ (∀ y0, LeO (racewaylaw4_DimacsBack.j3 k y0) (racewaylaw4_DimacsBack.j3 (k + 1) y0)) ∧ (∀ y0 y1 y2 y3 y4 y5 y6 y7, LeO (racewaylaw4_DimacsBack.l0 k y0 y1 y2 y3 y4 y5 y6 y7) (racewaylaw4_DimacsBack.l0 (k + 1) y0 y1 y2 y3 y4 y5 y6 y7)) ∧ (∀ y0 y1 y2 y3 y4 y5 y6 y7 y8 y9, LeO (racewaylaw4_DimacsBack.l1 k y0 y1 y2 y3 y4 y5 y6 y7 y8 y9) (racewaylaw4_DimacsBack.l1 (k + 1) y0 y1 y2 y3 y4 y5 y6 y7 y8 y9))
  | 0 => ⟨fun _ _ _ _ _ _ _ _ r h => by simp [racewaylaw4_DimacsBack.j0] at h, fun _ r h => by simp [racewaylaw4_DimacsBack.j3] at h, fun _ _ _ _ _ _ _ _ r h => by simp [racewaylaw4_DimacsBack.l0] at h, fun _ _ _ _ _ _ _ _ _ _ r h => by simp [racewaylaw4_DimacsBack.l1] at h⟩
  | k + 1 => by
    obtain ⟨ih0, ih1, ih2, ih3⟩ := racewaylaw4_DimacsBack.mono_l k
    refine ⟨?_, ?_, ?_, ?_⟩
    · intro y0 y1 y2 y3 y4 y5 y6 y7
      unfold racewaylaw4_DimacsBack.j0
      repeat' first
      | (with_reducible exact ih0 _ _ _ _ _ _ _ _)
      | (with_reducible exact ih1 _)
      | (with_reducible exact ih2 _ _ _ _ _ _ _ _)
      | (with_reducible exact ih3 _ _ _ _ _ _ _ _ _ _)
      | (with_reducible exact LeO.refl _)
      | (with_reducible exact LeO.none _)
      | (with_reducible refine LeO.ite ?_ ?_)
      | (with_reducible refine LeO.bind ?_ (fun _ => ?_))
      | exact ih0 _ _ _ _ _ _ _ _
      | exact ih1 _
      | exact ih2 _ _ _ _ _ _ _ _
      | exact ih3 _ _ _ _ _ _ _ _ _ _
      | exact LeO.none _
      | refine LeO.ite ?_ ?_
      | refine LeO.bind ?_ (fun _ => ?_)
    · intro y0
      unfold racewaylaw4_DimacsBack.j3
      repeat' first
      | (with_reducible exact ih0 _ _ _ _ _ _ _ _)
      | (with_reducible exact ih1 _)
      | (with_reducible exact ih2 _ _ _ _ _ _ _ _)
      | (with_reducible exact ih3 _ _ _ _ _ _ _ _ _ _)
      | (with_reducible exact LeO.refl _)
      | (with_reducible exact LeO.none _)
      | (with_reducible refine LeO.ite ?_ ?_)
      | (with_reducible refine LeO.bind ?_ (fun _ => ?_))
      | exact ih0 _ _ _ _ _ _ _ _
      | exact ih1 _
      | exact ih2 _ _ _ _ _ _ _ _
      | exact ih3 _ _ _ _ _ _ _ _ _ _
      | exact LeO.none _
      | refine LeO.ite ?_ ?_
      | refine LeO.bind ?_ (fun _ => ?_)
    · intro y0 y1 y2 y3 y4 y5 y6 y7
      unfold racewaylaw4_DimacsBack.l0
      repeat' first
      | (with_reducible exact ih0 _ _ _ _ _ _ _ _)
      | (with_reducible exact ih1 _)
      | (with_reducible exact ih2 _ _ _ _ _ _ _ _)
      | (with_reducible exact ih3 _ _ _ _ _ _ _ _ _ _)
      | (with_reducible exact LeO.refl _)
      | (with_reducible exact LeO.none _)
      | (with_reducible refine LeO.ite ?_ ?_)
      | (with_reducible refine LeO.bind ?_ (fun _ => ?_))
      | exact ih0 _ _ _ _ _ _ _ _
      | exact ih1 _
      | exact ih2 _ _ _ _ _ _ _ _
      | exact ih3 _ _ _ _ _ _ _ _ _ _
      | exact LeO.none _
      | refine LeO.ite ?_ ?_
      | refine LeO.bind ?_ (fun _ => ?_)
    · intro y0 y1 y2 y3 y4 y5 y6 y7 y8 y9
      unfold racewaylaw4_DimacsBack.l1
      repeat' first
      | (with_reducible exact ih0 _ _ _ _ _ _ _ _)
      | (with_reducible exact ih1 _)
      | (with_reducible exact ih2 _ _ _ _ _ _ _ _)
      | (with_reducible exact ih3 _ _ _ _ _ _ _ _ _ _)
      | (with_reducible exact LeO.refl _)
      | (with_reducible exact LeO.none _)
      | (with_reducible refine LeO.ite ?_ ?_)
      | (with_reducible refine LeO.bind ?_ (fun _ => ?_))
      | exact ih0 _ _ _ _ _ _ _ _
      | exact ih1 _
      | exact ih2 _ _ _ _ _ _ _ _
      | exact ih3 _ _ _ _ _ _ _ _ _ _
      | exact LeO.none _
      | refine LeO.ite ?_ ?_
      | refine LeO.bind ?_ (fun _ => ?_)
theorem racewaylaw4_DimacsBack.mono : ∀ a0 a1 a2 a3 a4 a5 k, LeO (racewaylaw4_DimacsBack.f k a0 a1 a2 a3 a4 a5) (racewaylaw4_DimacsBack.f (k + 1) a0 a1 a2 a3 a4 a5) := by
  intro a0 a1 a2 a3 a4 a5 k
  obtain ⟨ih0, ih1, ih2, ih3⟩ := racewaylaw4_DimacsBack.mono_l k
  unfold racewaylaw4_DimacsBack.f
  repeat' first
      | (with_reducible exact ih0 _ _ _ _ _ _ _ _)
      | (with_reducible exact ih1 _)
      | (with_reducible exact ih2 _ _ _ _ _ _ _ _)
      | (with_reducible exact ih3 _ _ _ _ _ _ _ _ _ _)
      | (with_reducible exact LeO.refl _)
      | (with_reducible exact LeO.none _)
      | (with_reducible refine LeO.ite ?_ ?_)
      | (with_reducible refine LeO.bind ?_ (fun _ => ?_))
      | exact ih0 _ _ _ _ _ _ _ _
      | exact ih1 _
      | exact ih2 _ _ _ _ _ _ _ _
      | exact ih3 _ _ _ _ _ _ _ _ _ _
      | exact LeO.none _
      | refine LeO.ite ?_ ?_
      | refine LeO.bind ?_ (fun _ => ?_)
set_option maxHeartbeats 8000000 in
set_option maxRecDepth 100000 in
theorem racewaylaw4_DimacsBack.calls (k : Nat) (a0_0 : Int) (a0_1 : Int) (a0_2 : Int) (A0_3 : Option Addr) (c0_3 : Nat) (l0_3 : List (S44)) (a1 : ByteArray) (a2 : ByteArray) (r : Bool) (w : World) (hr0_3 : Kd.C k44 w A0_3 l0_3.length l0_3) (hc0_3 : l0_3.length ≤ c0_3) (h : racewaylaw4_DimacsBack.f k a0_0 a0_1 a0_2 l0_3 a1 a2 = some r) (hG : LaidG w) (hrt : r = true) :
    Calls Tryz.prog 5 #[.agg #[.int .i64 a0_0, .int .i64 a0_1, .int .i64 a0_2, .slice A0_3 l0_3.length c0_3], .string a1, .string a2] w fun e w' => e = .returned (.bool r) ∧ Below w.heap.size w w' := by
  have HRT := Aside0.mk hrt
  clear hrt
  have hu24 := Tryz.underlying24
  have HR0_3 := Aside0.mk hr0_3
  have HC0_3 := Aside0.mk hc0_3
  clear hr0_3 hc0_3
  have HB := Aside0.mk (Below.refl w.heap.size w)
  have H : ((racewaylaw4_shown.f).bind fun t112 => (if t112 = true then (if (l0_3.length : Int) > 300 then (racewaylaw4_DimacsBack.j0 k a1 a2 t112 true a0_0 a0_1 a0_2 l0_3) else (racewaylaw4_DimacsBack.j0 k a1 a2 t112 (decide ((wrap64 ((a1.size : Int) + (a2.size : Int))) > 3000)) a0_0 a0_1 a0_2 l0_3)) else (racewaylaw4_DimacsBack.j0 k a1 a2 t112 true a0_0 a0_1 a0_2 l0_3))) = some r := h
  clear h
  replace H := Option.bind_eq_some_iff.mp H
  obtain ⟨t112, A40, H⟩ := H
  replace H : (if t112 = true then (if (l0_3.length : Int) > 300 then (racewaylaw4_DimacsBack.j0 k a1 a2 t112 true a0_0 a0_1 a0_2 l0_3) else (racewaylaw4_DimacsBack.j0 k a1 a2 t112 (decide ((wrap64 ((a1.size : Int) + (a2.size : Int))) > 3000)) a0_0 a0_1 a0_2 l0_3)) else (racewaylaw4_DimacsBack.j0 k a1 a2 t112 true a0_0 a0_1 a0_2 l0_3)) = some r := H
  have A4 := Aside0.mk A40
  clear A40
  have HC5 := Aside0.mk H
  clear H
  go_enter Tryz.func5, Tryz.ntmps5
  go_upto_region 2 with (first | ((with_reducible refine gate_dst (N := 3) rfl ?_); (try (refine gate_guard (by rfl) ?_; dsimp only)); refine box_event ?hg (N := 3) ?hd (cs := #[.int .i64 a0_0, .int .i64 a0_1, .int .i64 a0_2, .slice A0_3 l0_3.length c0_3]) (t := 24) ?hr ?_; (case hd => rfl); (case hg => rfl); (case hr => first | (go_simp; done) | (go_simp; rfl)); intro gb111 hg w6 hbox hb; have n0_ := Aside0.mk (below_step (by repeat (first | (with_reducible first | exact HB.out | apply below_alloc | apply pw_below_drewN | apply below_drew1) | exact HB.out)) hb); have n1_ := Aside0.mk (hbox); have n2_ := Aside0.mk ((by rw [hg]; exact (below_size (by repeat (first | (with_reducible first | exact HB.out | apply below_alloc | apply pw_below_drewN | apply below_drew1) | exact HB.out))) : w.heap.size ≤ gb111)); have n3_ := Aside0.mk ((by rw [hg]; exact (below_size (by repeat (first | (with_reducible first | exact HB.out | apply below_alloc | apply pw_below_drewN | apply below_drew1) | exact HB.out))) : w.heap.size ≤ gb111)); clear HB; have HB := n0_; have BK111 := n1_; have GW111 := n2_; have GE111 := n3_; clear n0_ n1_ n2_ n3_; clear hb hbox hg) | ((with_reducible refine gate_callee (f := 7) rfl ?_); refine goesL_ (some 28) rfl rfl Tryz.func7 (by kernel_rfl) rfl #[] rfl (by (try simp only [List.map_toArray, List.map_cons, List.map_nil]); first | done | rfl | (simp only [List.length_drop, List.length_take]; rfl)) ?_; (with_reducible refine (racewaylaw4_shown.calls  t112 _ A4.out (LaidG.below hG (by repeat (first | (with_reducible first | exact HB.out | apply below_alloc | apply pw_below_drewN | apply below_drew1 | refine below_set ?_ GE111.out) | exact HB.out)))).mono ?_); rintro e w7 ⟨rfl, hb⟩; refine ⟨_, rfl, ?_⟩; have n0_ := Aside0.mk (blk_below (g := gb111) (o := .cells #[.int .i64 a0_0, .int .i64 a0_1, .int .i64 a0_2, .slice A0_3 l0_3.length c0_3] 24 (0, 0)) (by (with_reducible repeat (first | refine blk_drewN ?_ _ | refine blk_drew ?_ | refine blk_alloc ?_ _)); exact BK111.out) hb); have n1_ := Aside0.mk (below_step (by repeat (first | (with_reducible first | exact HB.out | apply below_alloc | apply pw_below_drewN | apply below_drew1 | refine below_set ?_ GE111.out) | exact HB.out)) hb); clear BK111; clear HB; have BK111 := n0_; have HB := n1_; clear n0_ n1_; (try clear hb); (try clear hb2); (try clear hk); (try clear hi)))
  (try simp only [Act.put, List.setIfInBounds_toArray, List.set_cons_zero, List.set_cons_succ])
  go_cut [44] (fun v44 wc => ∃ (kq : Nat) (x44_4 : Bool), v44 = .bool x44_4 ∧ Aside0 (racewaylaw4_DimacsBack.j0 kq a1 a2 t112 x44_4 a0_0 a0_1 a0_2 l0_3 = some r) ∧ Aside0 (kq ≤ k) ∧ Aside0 (wc.heap[gb111]? = some (.cells #[.int .i64 a0_0, .int .i64 a0_1, .int .i64 a0_2, (.slice A0_3 l0_3.length c0_3)] 24 (0, 0))) ∧ Aside0 (Below w.heap.size w wc))
  case first =>
    have H := HC5.out
    clear HC5
    by_cases c8 : t112 = true
    · subst c8
      have H1 : (if (l0_3.length : Int) > 300 then (racewaylaw4_DimacsBack.j0 k a1 a2 true true a0_0 a0_1 a0_2 l0_3) else (racewaylaw4_DimacsBack.j0 k a1 a2 true (decide ((wrap64 ((a1.size : Int) + (a2.size : Int))) > 3000)) a0_0 a0_1 a0_2 l0_3)) = some r := by rw [if_pos rfl] at H; exact H
      clear H
      have H := H1
      clear H1
      by_cases c9 : (l0_3.length : Int) > 300
      · rw [if_pos c9] at H
        have c9b0 : decide (300 < (l0_3.length : Int)) = true := decide_eq_true c9
        have c9b1 : decide (300 < l0_3.length) = true := decide_eq_true (by omega)
        clear c9
        (first | rw [c9b0] | (simp only [i64_w, i32_w]; rw [c9b0]) | skip)
        have H' := Aside0.mk H
        clear H
        have hcz10_0 : w7.cell? ⟨gb111, 0, none⟩ = some (.int .i64 a0_0) := (blk_cell BK111.out 0).trans rfl
        have hcz10_1 : w7.cell? ⟨gb111, 1, none⟩ = some (.int .i64 a0_1) := (blk_cell BK111.out 1).trans rfl
        have hcz10_2 : w7.cell? ⟨gb111, 2, none⟩ = some (.int .i64 a0_2) := (blk_cell BK111.out 2).trans rfl
        have hcz10_3 : w7.cell? ⟨gb111, 3, none⟩ = some (.slice A0_3 l0_3.length c0_3) := (blk_cell BK111.out 3).trans rfl
        have hfz10_0 := blk_frozen BK111.out 0
        have hfz10_1 := blk_frozen BK111.out 1
        have hfz10_2 := blk_frozen BK111.out 2
        have hfz10_3 := blk_frozen BK111.out 3
        go_wp2
        go_meet
        case rel => exact ⟨_, (true), (by first | rfl | (simp; done) | (simp [*]; done)), H', ⟨by first | omega | exact Nat.le_refl _⟩, ⟨by (with_reducible repeat (first | refine blk_drewN ?_ _ | refine blk_drew ?_ | refine blk_alloc ?_ _)); exact BK111.out⟩, ⟨by repeat (first | (with_reducible first | exact HB.out | apply below_alloc | apply pw_below_drewN | apply below_drew1 | refine below_set ?_ GE111.out) | exact HB.out)⟩⟩
      · rw [if_neg c9] at H
        have c9b0 : decide (300 < (l0_3.length : Int)) = false := decide_eq_false c9
        have c9b1 : decide (300 < l0_3.length) = false := decide_eq_false (by omega)
        clear c9
        (first | rw [c9b0] | (simp only [i64_w, i32_w]; rw [c9b0]) | skip)
        have H' := Aside0.mk H
        clear H
        have hcz11_0 : w7.cell? ⟨gb111, 0, none⟩ = some (.int .i64 a0_0) := (blk_cell BK111.out 0).trans rfl
        have hcz11_1 : w7.cell? ⟨gb111, 1, none⟩ = some (.int .i64 a0_1) := (blk_cell BK111.out 1).trans rfl
        have hcz11_2 : w7.cell? ⟨gb111, 2, none⟩ = some (.int .i64 a0_2) := (blk_cell BK111.out 2).trans rfl
        have hcz11_3 : w7.cell? ⟨gb111, 3, none⟩ = some (.slice A0_3 l0_3.length c0_3) := (blk_cell BK111.out 3).trans rfl
        have hfz11_0 := blk_frozen BK111.out 0
        have hfz11_1 := blk_frozen BK111.out 1
        have hfz11_2 := blk_frozen BK111.out 2
        have hfz11_3 := blk_frozen BK111.out 3
        go_wp2
        go_meet
        case rel => exact ⟨_, (decide ((wrap64 ((a1.size : Int) + (a2.size : Int))) > 3000)), (by first | rfl | (simp; done) | (simp [*]; done)), H', ⟨by first | omega | exact Nat.le_refl _⟩, ⟨by (with_reducible repeat (first | refine blk_drewN ?_ _ | refine blk_drew ?_ | refine blk_alloc ?_ _)); exact BK111.out⟩, ⟨by repeat (first | (with_reducible first | exact HB.out | apply below_alloc | apply pw_below_drewN | apply below_drew1 | refine below_set ?_ GE111.out) | exact HB.out)⟩⟩
    · replace c8 := Bool.eq_false_iff.mpr c8
      subst c8
      have H1 : (racewaylaw4_DimacsBack.j0 k a1 a2 false true a0_0 a0_1 a0_2 l0_3) = some r := by rw [if_neg (show ¬ (false = true) by decide)] at H; exact H
      clear H
      have H := H1
      clear H1
      have H' := Aside0.mk H
      clear H
      go_wp2
      go_meet
      case rel => exact ⟨_, (true), (by first | rfl | (simp; done) | (simp [*]; done)), H', ⟨by first | omega | exact Nat.le_refl _⟩, ⟨by (with_reducible repeat (first | refine blk_drewN ?_ _ | refine blk_drew ?_ | refine blk_alloc ?_ _)); exact BK111.out⟩, ⟨by repeat (first | (with_reducible first | exact HB.out | apply below_alloc | apply pw_below_drewN | apply below_drew1 | refine below_set ?_ GE111.out) | exact HB.out)⟩⟩
  case rest =>
    clear HC5
    try clear p2
    try clear c5
    try clear p6
    try clear c7
    try clear c8
    try clear c9
    try clear c9b0
    try clear c9b1
    try clear hcz10_0
    try clear hcz10_1
    try clear hcz10_2
    try clear hcz10_3
    try clear hcz11_0
    try clear hcz11_1
    try clear hcz11_2
    try clear hcz11_3
    try clear hfz10_0
    try clear hfz10_1
    try clear hfz10_2
    try clear hfz10_3
    try clear hfz11_0
    try clear hfz11_1
    try clear hfz11_2
    try clear hfz11_3
    obtain ⟨kq, x44_4, rfl, HA, HJ4, BK111, HB⟩ := hcut
    cases kq with
    | zero => exact absurd HA.out (by simp [racewaylaw4_DimacsBack.j0])
    | succ kj4 =>
      ·
        have H := HA.out
        clear HA
        simp only [racewaylaw4_DimacsBack.j0] at H
        by_cases c12 : x44_4 = true
        · subst c12
          have H1 : (some t112) = some r := by rw [if_pos rfl] at H; exact H
          clear H
          have H := H1
          clear H1
          obtain rfl := Option.some.inj H
          go_wp2
          go_ret
          exact ⟨by first | rfl | (simp [errW_none, errW_some] <;> rfl) | (simp [*, errW_none, errW_some] <;> rfl), by repeat (first | (with_reducible first | exact HB.out | apply below_alloc | apply pw_below_drewN | apply below_drew1 | refine below_set ?_ GE111.out) | exact HB.out)⟩
        · replace c12 := Bool.eq_false_iff.mpr c12
          subst c12
          have H1 : ((dimacs_Print.f a0_0 a0_1 a0_2 l0_3).bind fun bt113 => ((net_Check.f a0_0 a0_1 a0_2 l0_3).bind fun t115 => (if ((bt113.2 == 0) != (t115 == 0)) = true then (some false) else (if bt113.2 = 0 then (racewaylaw4_DimacsBack.l0 kj4 a1 a2 bt113.1 0 a0_0 a0_1 a0_2 l0_3) else (racewaylaw4_DimacsBack.j3 kj4 a1))))) = some r := by rw [if_neg (show ¬ (false = true) by decide)] at H; exact H
          clear H
          have H := H1
          clear H1
          replace H := Option.bind_eq_some_iff.mp H
          obtain ⟨⟨t113, t114⟩, A130, H⟩ := H
          replace H : ((net_Check.f a0_0 a0_1 a0_2 l0_3).bind fun t115 => (if ((t114 == 0) != (t115 == 0)) = true then (some false) else (if t114 = 0 then (racewaylaw4_DimacsBack.l0 kj4 a1 a2 t113 0 a0_0 a0_1 a0_2 l0_3) else (racewaylaw4_DimacsBack.j3 kj4 a1)))) = some r := H
          have A13 := Aside0.mk A130
          clear A130
          replace H := Option.bind_eq_some_iff.mp H
          obtain ⟨t115, A140, H⟩ := H
          replace H : (if ((t114 == 0) != (t115 == 0)) = true then (some false) else (if t114 = 0 then (racewaylaw4_DimacsBack.l0 kj4 a1 a2 t113 0 a0_0 a0_1 a0_2 l0_3) else (racewaylaw4_DimacsBack.j3 kj4 a1))) = some r := H
          have A14 := Aside0.mk A140
          clear A140
          by_cases c15 : ((t114 == 0) != (t115 == 0)) = true
          · rw [if_pos c15] at H
            have c15b0 : ((t114 == 0) != (t115 == 0)) = true := c15
            (try (have c15b1 : decide ((t114 == 0) = (t115 == 0)) = false := by simpa using c15))
            (try (have c15b2 : ((t114 == 0) == (t115 == 0)) = false := by simpa using c15))
            (try (have c15b3 : ¬ ((t114 == 0) = (t115 == 0)) := by simpa using c15))
            clear c15
            obtain rfl := Option.some.inj H
            have hcz16_0 : wc.cell? ⟨gb111, 0, none⟩ = some (.int .i64 a0_0) := (blk_cell BK111.out 0).trans rfl
            have hcz16_1 : wc.cell? ⟨gb111, 1, none⟩ = some (.int .i64 a0_1) := (blk_cell BK111.out 1).trans rfl
            have hcz16_2 : wc.cell? ⟨gb111, 2, none⟩ = some (.int .i64 a0_2) := (blk_cell BK111.out 2).trans rfl
            have hcz16_3 : wc.cell? ⟨gb111, 3, none⟩ = some (.slice A0_3 l0_3.length c0_3) := (blk_cell BK111.out 3).trans rfl
            have hfz16_0 := blk_frozen BK111.out 0
            have hfz16_1 := blk_frozen BK111.out 1
            have hfz16_2 := blk_frozen BK111.out 2
            have hfz16_3 := blk_frozen BK111.out 3
            go_wp2_with (first | ((with_reducible refine gate_callee (f := 8) rfl ?_); refine goesL_ (some 48) rfl rfl Tryz.func8 (by kernel_rfl) rfl #[.agg #[.int .i64 a0_0, .int .i64 a0_1, .int .i64 a0_2, .slice A0_3 l0_3.length c0_3]] rfl (by (try simp only [List.map_toArray, List.map_cons, List.map_nil]); first | done | rfl | (simp only [List.length_drop, List.length_take]; rfl)) ?_; (with_reducible refine (dimacs_Print.calls a0_0 a0_1 a0_2 _ _ l0_3 t113 t114 _ ?side1 ?side2 A13.out (LaidG.below hG (by repeat (first | (with_reducible first | exact HB.out | apply below_alloc | apply pw_below_drewN | apply below_drew1 | refine below_set ?_ GE111.out) | exact HB.out)))).mono ?_); (case side1 => repeat (first | exact (Kd.C_below HR0_3.out HB.out) | (with_reducible refine Kd.C_alloc ?_ _) | (with_reducible refine Kd.C_drewN ?_ _) | (with_reducible refine Kd.C_drew ?_))); (case side2 => exact HC0_3.out); rintro e w17 ⟨rfl, hb⟩; refine ⟨_, rfl, ?_⟩; have n0_ := Aside0.mk (blk_below (g := gb111) (o := .cells #[.int .i64 a0_0, .int .i64 a0_1, .int .i64 a0_2, .slice A0_3 l0_3.length c0_3] 24 (0, 0)) (by (with_reducible repeat (first | refine blk_drewN ?_ _ | refine blk_drew ?_ | refine blk_alloc ?_ _)); exact BK111.out) hb); have n1_ := Aside0.mk (below_step (by repeat (first | (with_reducible first | exact HB.out | apply below_alloc | apply pw_below_drewN | apply below_drew1 | refine below_set ?_ GE111.out) | exact HB.out)) hb); clear BK111; clear HB; have BK111 := n0_; have HB := n1_; clear n0_ n1_; (try clear hb); (try clear hb2); (try clear hk); (try clear hi); have hcz18_0 : w17.cell? ⟨gb111, 0, none⟩ = some (.int .i64 a0_0) := (blk_cell BK111.out 0).trans rfl; have hcz18_1 : w17.cell? ⟨gb111, 1, none⟩ = some (.int .i64 a0_1) := (blk_cell BK111.out 1).trans rfl; have hcz18_2 : w17.cell? ⟨gb111, 2, none⟩ = some (.int .i64 a0_2) := (blk_cell BK111.out 2).trans rfl; have hcz18_3 : w17.cell? ⟨gb111, 3, none⟩ = some (.slice A0_3 l0_3.length c0_3) := (blk_cell BK111.out 3).trans rfl; have hfz18_0 := blk_frozen BK111.out 0; have hfz18_1 := blk_frozen BK111.out 1; have hfz18_2 := blk_frozen BK111.out 2; have hfz18_3 := blk_frozen BK111.out 3) | ((with_reducible refine gate_callee (f := 14) rfl ?_); refine goesL_ (some 54) rfl rfl Tryz.func14 (by kernel_rfl) rfl #[.agg #[.int .i64 a0_0, .int .i64 a0_1, .int .i64 a0_2, .slice A0_3 l0_3.length c0_3]] rfl (by (try simp only [List.map_toArray, List.map_cons, List.map_nil]); first | done | rfl | (simp only [List.length_drop, List.length_take]; rfl)) ?_; (with_reducible refine (net_Check.calls a0_0 a0_1 a0_2 _ _ l0_3 t115 _ ?side1 ?side2 A14.out).mono ?_); (case side1 => repeat (first | exact (Kd.C_below HR0_3.out HB.out) | (with_reducible refine Kd.C_alloc ?_ _) | (with_reducible refine Kd.C_drewN ?_ _) | (with_reducible refine Kd.C_drew ?_))); (case side2 => exact HC0_3.out); rintro e w19 ⟨rfl, hb⟩; refine ⟨_, rfl, ?_⟩; have n0_ := Aside0.mk (blk_below (g := gb111) (o := .cells #[.int .i64 a0_0, .int .i64 a0_1, .int .i64 a0_2, .slice A0_3 l0_3.length c0_3] 24 (0, 0)) (by (with_reducible repeat (first | refine blk_drewN ?_ _ | refine blk_drew ?_ | refine blk_alloc ?_ _)); exact BK111.out) hb); have n1_ := Aside0.mk (below_step (by repeat (first | (with_reducible first | exact HB.out | apply below_alloc | apply pw_below_drewN | apply below_drew1 | refine below_set ?_ GE111.out) | exact HB.out)) hb); clear BK111; clear HB; have BK111 := n0_; have HB := n1_; clear n0_ n1_; (try clear hb); (try clear hb2); (try clear hk); (try clear hi)))
            go_ret
            exact ⟨by first | rfl | (simp [errW_none, errW_some] <;> rfl) | (simp [*, errW_none, errW_some] <;> rfl), by repeat (first | (with_reducible first | exact HB.out | apply below_alloc | apply pw_below_drewN | apply below_drew1 | refine below_set ?_ GE111.out) | exact HB.out)⟩
          · rw [if_neg c15] at H
            have c15b0 : ((t114 == 0) != (t115 == 0)) = false := by simpa using c15
            (try (have c15b1 : decide ((t114 == 0) = (t115 == 0)) = true := by simpa using c15))
            (try (have c15b2 : ((t114 == 0) == (t115 == 0)) = true := by simpa using c15))
            clear c15
            have HC20 := Aside0.mk H
            clear H
            have hcz21_0 : wc.cell? ⟨gb111, 0, none⟩ = some (.int .i64 a0_0) := (blk_cell BK111.out 0).trans rfl
            have hcz21_1 : wc.cell? ⟨gb111, 1, none⟩ = some (.int .i64 a0_1) := (blk_cell BK111.out 1).trans rfl
            have hcz21_2 : wc.cell? ⟨gb111, 2, none⟩ = some (.int .i64 a0_2) := (blk_cell BK111.out 2).trans rfl
            have hcz21_3 : wc.cell? ⟨gb111, 3, none⟩ = some (.slice A0_3 l0_3.length c0_3) := (blk_cell BK111.out 3).trans rfl
            have hfz21_0 := blk_frozen BK111.out 0
            have hfz21_1 := blk_frozen BK111.out 1
            have hfz21_2 := blk_frozen BK111.out 2
            have hfz21_3 := blk_frozen BK111.out 3
            go_upto_if 58 with (first | ((with_reducible refine gate_callee (f := 8) rfl ?_); refine goesL_ (some 48) rfl rfl Tryz.func8 (by kernel_rfl) rfl #[.agg #[.int .i64 a0_0, .int .i64 a0_1, .int .i64 a0_2, .slice A0_3 l0_3.length c0_3]] rfl (by (try simp only [List.map_toArray, List.map_cons, List.map_nil]); first | done | rfl | (simp only [List.length_drop, List.length_take]; rfl)) ?_; (with_reducible refine (dimacs_Print.calls a0_0 a0_1 a0_2 _ _ l0_3 t113 t114 _ ?side1 ?side2 A13.out (LaidG.below hG (by repeat (first | (with_reducible first | exact HB.out | apply below_alloc | apply pw_below_drewN | apply below_drew1 | refine below_set ?_ GE111.out) | exact HB.out)))).mono ?_); (case side1 => repeat (first | exact (Kd.C_below HR0_3.out HB.out) | (with_reducible refine Kd.C_alloc ?_ _) | (with_reducible refine Kd.C_drewN ?_ _) | (with_reducible refine Kd.C_drew ?_))); (case side2 => exact HC0_3.out); rintro e w22 ⟨rfl, hb⟩; refine ⟨_, rfl, ?_⟩; have n0_ := Aside0.mk (blk_below (g := gb111) (o := .cells #[.int .i64 a0_0, .int .i64 a0_1, .int .i64 a0_2, .slice A0_3 l0_3.length c0_3] 24 (0, 0)) (by (with_reducible repeat (first | refine blk_drewN ?_ _ | refine blk_drew ?_ | refine blk_alloc ?_ _)); exact BK111.out) hb); have n1_ := Aside0.mk (below_step (by repeat (first | (with_reducible first | exact HB.out | apply below_alloc | apply pw_below_drewN | apply below_drew1 | refine below_set ?_ GE111.out) | exact HB.out)) hb); clear BK111; clear HB; have BK111 := n0_; have HB := n1_; clear n0_ n1_; (try clear hb); (try clear hb2); (try clear hk); (try clear hi); have hcz23_0 : w22.cell? ⟨gb111, 0, none⟩ = some (.int .i64 a0_0) := (blk_cell BK111.out 0).trans rfl; have hcz23_1 : w22.cell? ⟨gb111, 1, none⟩ = some (.int .i64 a0_1) := (blk_cell BK111.out 1).trans rfl; have hcz23_2 : w22.cell? ⟨gb111, 2, none⟩ = some (.int .i64 a0_2) := (blk_cell BK111.out 2).trans rfl; have hcz23_3 : w22.cell? ⟨gb111, 3, none⟩ = some (.slice A0_3 l0_3.length c0_3) := (blk_cell BK111.out 3).trans rfl; have hfz23_0 := blk_frozen BK111.out 0; have hfz23_1 := blk_frozen BK111.out 1; have hfz23_2 := blk_frozen BK111.out 2; have hfz23_3 := blk_frozen BK111.out 3) | ((with_reducible refine gate_callee (f := 14) rfl ?_); refine goesL_ (some 54) rfl rfl Tryz.func14 (by kernel_rfl) rfl #[.agg #[.int .i64 a0_0, .int .i64 a0_1, .int .i64 a0_2, .slice A0_3 l0_3.length c0_3]] rfl (by (try simp only [List.map_toArray, List.map_cons, List.map_nil]); first | done | rfl | (simp only [List.length_drop, List.length_take]; rfl)) ?_; (with_reducible refine (net_Check.calls a0_0 a0_1 a0_2 _ _ l0_3 t115 _ ?side1 ?side2 A14.out).mono ?_); (case side1 => repeat (first | exact (Kd.C_below HR0_3.out HB.out) | (with_reducible refine Kd.C_alloc ?_ _) | (with_reducible refine Kd.C_drewN ?_ _) | (with_reducible refine Kd.C_drew ?_))); (case side2 => exact HC0_3.out); rintro e w24 ⟨rfl, hb⟩; refine ⟨_, rfl, ?_⟩; have n0_ := Aside0.mk (blk_below (g := gb111) (o := .cells #[.int .i64 a0_0, .int .i64 a0_1, .int .i64 a0_2, .slice A0_3 l0_3.length c0_3] 24 (0, 0)) (by (with_reducible repeat (first | refine blk_drewN ?_ _ | refine blk_drew ?_ | refine blk_alloc ?_ _)); exact BK111.out) hb); have n1_ := Aside0.mk (below_step (by repeat (first | (with_reducible first | exact HB.out | apply below_alloc | apply pw_below_drewN | apply below_drew1 | refine below_set ?_ GE111.out) | exact HB.out)) hb); clear BK111; clear HB; have BK111 := n0_; have HB := n1_; clear n0_ n1_; (try clear hb); (try clear hb2); (try clear hk); (try clear hi)))
            (try simp only [Act.put, List.setIfInBounds_toArray, List.set_cons_zero, List.set_cons_succ])
            go_cut [] (fun wc => ∃ (kq : Nat), Aside0 (racewaylaw4_DimacsBack.j3 kq a1 = some r) ∧ Aside0 (kq ≤ kj4) ∧ Aside0 (wc.heap[gb111]? = some (.cells #[.int .i64 a0_0, .int .i64 a0_1, .int .i64 a0_2, (.slice A0_3 l0_3.length c0_3)] 24 (0, 0))) ∧ Aside0 (Below w.heap.size w wc))
            case first =>
              have H := HC20.out
              clear HC20
              by_cases c25 : t114 = 0
              · rw [if_pos c25] at H
                have c25b0 : (t114 == 0) = true := beq_iff_eq.mpr c25
                have c25b1 : (t114 != 0) = false := bne_eq_false_iff_eq.mpr c25
                (try (have c25d0 := c15b0; simp only [c25b0] at c25d0; simp at c25d0))
                (try (have c25d1 := c15b2; simp only [c25b0] at c25d1; simp at c25d1))
                clear c25
                (first | rw [c25b0] | (simp only [i64_w, i32_w]; rw [c25b0]) | skip)
                have H' := Aside0.mk H
                clear H
                go_wp2
                go_loopg [10] kj4 (fun kq v10 w' => ∃ (x10_2 : Int), v10 = .int .i64 x10_2 ∧ Aside0 (racewaylaw4_DimacsBack.l0 kq a1 a2 t113 x10_2 a0_0 a0_1 a0_2 l0_3 = some r) ∧ Aside0 (kq ≤ kj4) ∧ Aside0 (w'.heap[gb111]? = some (.cells #[.int .i64 a0_0, .int .i64 a0_1, .int .i64 a0_2, (.slice A0_3 l0_3.length c0_3)] 24 (0, 0))) ∧ Aside0 (Below w.heap.size w w'))
                case atStart => exact ⟨(0), (by first | rfl | (simp; done) | (simp [*]; done)), H', ⟨Nat.le_refl _⟩, ⟨by (with_reducible repeat (first | refine blk_drewN ?_ _ | refine blk_drew ?_ | refine blk_alloc ?_ _)); exact BK111.out⟩, ⟨by repeat (first | (with_reducible first | exact HB.out | apply below_alloc | apply pw_below_drewN | apply below_drew1 | refine below_set ?_ GE111.out) | exact HB.out)⟩⟩
                case round =>
                  clear H'
                  try clear c1
                  try clear c2
                  try clear p2
                  try clear c5
                  try clear p6
                  try clear c7
                  try clear c8
                  try clear c9
                  try clear c9b0
                  try clear c9b1
                  try clear c12
                  try clear c14
                  try clear c15
                  try clear c15b0
                  try clear c15b1
                  try clear c15b2
                  try clear c25
                  try clear c25b0
                  try clear c25b1
                  try clear hcz10_0
                  try clear hcz10_1
                  try clear hcz10_2
                  try clear hcz10_3
                  try clear hcz11_0
                  try clear hcz11_1
                  try clear hcz11_2
                  try clear hcz11_3
                  try clear hcz16_0
                  try clear hcz16_1
                  try clear hcz16_2
                  try clear hcz16_3
                  try clear hcz18_0
                  try clear hcz18_1
                  try clear hcz18_2
                  try clear hcz18_3
                  try clear hcz21_0
                  try clear hcz21_1
                  try clear hcz21_2
                  try clear hcz21_3
                  try clear hcz23_0
                  try clear hcz23_1
                  try clear hcz23_2
                  try clear hcz23_3
                  try clear hfz10_0
                  try clear hfz10_1
                  try clear hfz10_2
                  try clear hfz10_3
                  try clear hfz11_0
                  try clear hfz11_1
                  try clear hfz11_2
                  try clear hfz11_3
                  try clear hfz16_0
                  try clear hfz16_1
                  try clear hfz16_2
                  try clear hfz16_3
                  try clear hfz18_0
                  try clear hfz18_1
                  try clear hfz18_2
                  try clear hfz18_3
                  try clear hfz21_0
                  try clear hfz21_1
                  try clear hfz21_2
                  try clear hfz21_3
                  try clear hfz23_0
                  try clear hfz23_1
                  try clear hfz23_2
                  try clear hfz23_3
                  try clear p2
                  try clear p6
                  obtain ⟨x10_2, rfl, HA, HK2, BK111, HB⟩ := hrel
                  cases gk with
                  | zero => exact absurd HA.out (by simp [racewaylaw4_DimacsBack.l0])
                  | succ k2 =>
                    as_aux_lemma =>
                      have H := HA.out
                      clear HA
                      simp only [racewaylaw4_DimacsBack.l0] at H
                      by_cases c26 : x10_2 < (a2.size : Int)
                      · rw [if_pos c26] at H
                        have c26b0 : decide (x10_2 < (a2.size : Int)) = true := decide_eq_true c26
                        clear c26
                        by_cases c27 : 0 ≤ x10_2
                        · rw [if_pos c27] at H
                          have c27b0 : decide (0 ≤ x10_2) = true := decide_eq_true c27
                          clear c27
                          by_cases c29 : (bt a2 x10_2) = 10
                          · rw [if_pos c29] at H
                            have c29b0 : ((bt a2 x10_2) == 10) = true := beq_iff_eq.mpr c29
                            have c29b1 : ((bt a2 x10_2) != 10) = false := bne_eq_false_iff_eq.mpr c29
                            clear c29
                            obtain rfl := Option.some.inj H
                            have p28 : 0 ≤ (x10_2 : Int) := of_decide_eq_true (by first | (with_reducible assumption) | assumption)
                            have q28 : x10_2 < (a2.size : Int) := of_decide_eq_true (by first | (with_reducible assumption) | assumption)
                            have hx28 := bt_at a2 x10_2
                            replace p28 := eq_true p28
                            replace q28 := eq_true q28
                            go_wp2
                            go_ret
                            exact ⟨by first | rfl | (simp [errW_none, errW_some] <;> rfl) | (simp [*, errW_none, errW_some] <;> rfl), by repeat (first | (with_reducible first | exact HB.out | apply below_alloc | apply pw_below_drewN | apply below_drew1 | refine below_set ?_ GE111.out) | exact HB.out)⟩
                          · rw [if_neg c29] at H
                            have c29b0 : ((bt a2 x10_2) == 10) = false := beq_eq_false_iff_ne.mpr c29
                            have c29b1 : ((bt a2 x10_2) != 10) = true := bne_iff_ne.mpr c29
                            have H' := Aside0.mk H
                            clear H
                            have p28 : 0 ≤ (x10_2 : Int) := of_decide_eq_true (by first | (with_reducible assumption) | assumption)
                            have q28 : x10_2 < (a2.size : Int) := of_decide_eq_true (by first | (with_reducible assumption) | assumption)
                            have hx28 := bt_at a2 x10_2
                            replace p28 := eq_true p28
                            replace q28 := eq_true q28
                            go_wp2
                            go_roundg k2
                            case measure => have := HJ4.out; have := HK2.out; omega
                            case rel => exact ⟨(wrap64 (x10_2 + 1)), (by first | rfl | (simp; done) | (simp [*]; done)), H', ⟨by have := HJ4.out; have := HK2.out; omega⟩, ⟨by (with_reducible repeat (first | refine blk_drewN ?_ _ | refine blk_drew ?_ | refine blk_alloc ?_ _)); exact BK111.out⟩, ⟨by repeat (first | (with_reducible first | exact HB.out | apply below_alloc | apply pw_below_drewN | apply below_drew1 | refine below_set ?_ GE111.out) | exact HB.out)⟩⟩
                        · rw [if_neg c27] at H
                          exact absurd H (by simp)
                      · rw [if_neg c26] at H
                        have c26b0 : decide (x10_2 < (a2.size : Int)) = false := decide_eq_false c26
                        clear c26
                        replace H := Option.bind_eq_some_iff.mp H
                        obtain ⟨t116, A300, H⟩ := H
                        replace H : (if 2 + a2.size ≤ 9223372036854775807 then (if ((⟨#[99, 32]⟩ : ByteArray) ++ a2).size + 1 ≤ 9223372036854775807 then (racewaylaw4_DimacsBack.l1 k2 a1 a2 t113 t116 (((⟨#[99, 32]⟩ : ByteArray) ++ a2) ++ (⟨#[10]⟩ : ByteArray)) 0 a0_0 a0_1 a0_2 l0_3) else (none)) else (none)) = some r := H
                        have A30 := Aside0.mk A300
                        clear A300
                        by_cases c31 : 2 + a2.size ≤ 9223372036854775807
                        · rw [if_pos c31] at H
                          have c31b0 := eq_true c31
                          have c31b1 : decide (2 + a2.size ≤ 9223372036854775807) = true := decide_eq_true c31
                          try have c31b2 : (9223372036854775807 < 2 + a2.size) = False := eq_false (Nat.not_lt.2 c31)
                          by_cases c32 : ((⟨#[99, 32]⟩ : ByteArray) ++ a2).size + 1 ≤ 9223372036854775807
                          · rw [if_pos c32] at H
                            have c32b0 := eq_true c32
                            have c32b1 : decide (((⟨#[99, 32]⟩ : ByteArray) ++ a2).size + 1 ≤ 9223372036854775807) = true := decide_eq_true c32
                            try have c32b2 : (9223372036854775807 < ((⟨#[99, 32]⟩ : ByteArray) ++ a2).size + 1) = False := eq_false (Nat.not_lt.2 c32)
                            (try (have c32b3 := c32; simp only [ByteArray.size_append] at c32b3; have c32b4 := eq_true c32b3)); (try (have c32b5 := c32; simp only [ByteArray.size_append, sz_mk_, List.size_toArray, List.length_cons, List.length_nil, Nat.zero_add, Nat.reduceAdd] at c32b5; have c32b6 := eq_true c32b5; have c32b7 := eq_false (Nat.not_lt.2 c32b5)))
                            (try (have c32b5 : (9223372036854775807 < 2 + a2.size + 1) = False := eq_false (Nat.not_lt.2 c32b3); have c32b6 : (2 + a2.size + 1 ≤ 9223372036854775807) = True := eq_true c32b3))
                            have H' := Aside0.mk H
                            clear H
                            go_wp2_with (first | ((with_reducible refine gate_callee (f := 11) rfl ?_); refine goesL_ (some 70) rfl rfl Tryz.func11 (by kernel_rfl) rfl #[.string t113] rfl (by (try simp only [List.map_toArray, List.map_cons, List.map_nil]); first | done | rfl | (simp only [List.length_drop, List.length_take]; rfl)) ?_; (with_reducible refine (text_Lines.calls t113 t116 _ A30.out (LaidG.below hG (by repeat (first | (with_reducible first | exact HB.out | apply below_alloc | apply pw_below_drewN | apply below_drew1 | refine below_set ?_ GE111.out) | exact HB.out)))).mono ?_); rintro e w33 ⟨v117, rfl, ho0, hb⟩; refine ⟨_, rfl, ?_⟩; have n0_ := Aside0.mk (Kd.R_lower ho0 (below_size (by repeat (first | (with_reducible first | exact HB.out | apply below_alloc | apply pw_below_drewN | apply below_drew1 | refine below_set ?_ GE111.out) | exact HB.out)))); have n1_ := Aside0.mk (blk_below (g := gb111) (o := .cells #[.int .i64 a0_0, .int .i64 a0_1, .int .i64 a0_2, .slice A0_3 l0_3.length c0_3] 24 (0, 0)) (by (with_reducible repeat (first | refine blk_drewN ?_ _ | refine blk_drew ?_ | refine blk_alloc ?_ _)); exact BK111.out) hb); have n2_ := Aside0.mk (below_step (by repeat (first | (with_reducible first | exact HB.out | apply below_alloc | apply pw_below_drewN | apply below_drew1 | refine below_set ?_ GE111.out) | exact HB.out)) hb); clear BK111; clear HB; have HO118 := n0_; have BK111 := n1_; have HB := n2_; clear n0_ n1_ n2_; (try clear hb); (try clear hb2); (try clear hk); (try clear hi); (try clear ho0)))
                            go_loopg [12, 13] k2 (fun kq v12 v13 w' => ∃ (x12_3 : ByteArray) (x13_3 : Int), v12 = .string x12_3 ∧ v13 = .int .i64 x13_3 ∧ Aside0 (racewaylaw4_DimacsBack.l1 kq a1 a2 t113 t116 x12_3 x13_3 a0_0 a0_1 a0_2 l0_3 = some r) ∧ Aside0 (kq ≤ k2) ∧ Aside0 (Kd.R Kd.string 9 w' w.heap.size (fun _ => True) v117 t116) ∧ Aside0 (w'.heap[gb111]? = some (.cells #[.int .i64 a0_0, .int .i64 a0_1, .int .i64 a0_2, (.slice A0_3 l0_3.length c0_3)] 24 (0, 0))) ∧ Aside0 (Below w.heap.size w w'))
                            case atStart => exact ⟨(((⟨#[99, 32]⟩ : ByteArray) ++ a2) ++ (⟨#[10]⟩ : ByteArray)), (0), (by first | rfl | (simp; done) | (simp [*]; done)), (by first | rfl | (simp; done) | (simp [*]; done)), H', ⟨Nat.le_refl _⟩, ⟨by (with_reducible repeat (first | apply Kd.R_alloc | apply Kd.R_drewN | apply Kd.R_drew)); exact HO118.out⟩, ⟨by (with_reducible repeat (first | refine blk_drewN ?_ _ | refine blk_drew ?_ | refine blk_alloc ?_ _)); exact BK111.out⟩, ⟨by repeat (first | (with_reducible first | exact HB.out | apply below_alloc | apply pw_below_drewN | apply below_drew1 | refine below_set ?_ GE111.out) | exact HB.out)⟩⟩
                            case round =>
                              clear H'
                              try clear c1
                              try clear c2
                              try clear p2
                              try clear q2
                              try clear hx2
                              try clear c3
                              try clear c5
                              try clear p6
                              try clear c7
                              try clear c8
                              try clear c9
                              try clear c9b0
                              try clear c9b1
                              try clear c11
                              try clear c12
                              try clear c14
                              try clear c15
                              try clear c15b0
                              try clear c15b1
                              try clear c15b2
                              try clear c25
                              try clear c25b0
                              try clear c25b1
                              try clear c26
                              try clear c26b0
                              try clear c27
                              try clear c27b0
                              try clear p28
                              try clear q28
                              try clear hx28
                              try clear c29
                              try clear c29b0
                              try clear c29b1
                              try clear c31
                              try clear c31b0
                              try clear c31b1
                              try clear c31b2
                              try clear c32
                              try clear c32b0
                              try clear c32b1
                              try clear c32b2
                              try clear hcz10_0
                              try clear hcz10_1
                              try clear hcz10_2
                              try clear hcz10_3
                              try clear hcz11_0
                              try clear hcz11_1
                              try clear hcz11_2
                              try clear hcz11_3
                              try clear hcz16_0
                              try clear hcz16_1
                              try clear hcz16_2
                              try clear hcz16_3
                              try clear hcz18_0
                              try clear hcz18_1
                              try clear hcz18_2
                              try clear hcz18_3
                              try clear hcz21_0
                              try clear hcz21_1
                              try clear hcz21_2
                              try clear hcz21_3
                              try clear hcz23_0
                              try clear hcz23_1
                              try clear hcz23_2
                              try clear hcz23_3
                              try clear hfz10_0
                              try clear hfz10_1
                              try clear hfz10_2
                              try clear hfz10_3
                              try clear hfz11_0
                              try clear hfz11_1
                              try clear hfz11_2
                              try clear hfz11_3
                              try clear hfz16_0
                              try clear hfz16_1
                              try clear hfz16_2
                              try clear hfz16_3
                              try clear hfz18_0
                              try clear hfz18_1
                              try clear hfz18_2
                              try clear hfz18_3
                              try clear hfz21_0
                              try clear hfz21_1
                              try clear hfz21_2
                              try clear hfz21_3
                              try clear hfz23_0
                              try clear hfz23_1
                              try clear hfz23_2
                              try clear hfz23_3
                              try clear p2
                              try clear p28
                              try clear p6
                              try clear q28
                              obtain ⟨x12_3, x13_3, rfl, rfl, HA, HK3, HO_11, BK111, HB⟩ := hrel
                              cases gk with
                              | zero => exact absurd HA.out (by simp [racewaylaw4_DimacsBack.l1])
                              | succ k3 =>
                                as_aux_lemma =>
                                  have H := HA.out
                                  clear HA
                                  simp only [racewaylaw4_DimacsBack.l1] at H
                                  by_cases c34 : x13_3 < (t116.length : Int)
                                  · rw [if_pos c34] at H
                                    have c34b0 : decide (x13_3 < (t116.length : Int)) = true := decide_eq_true c34
                                    clear c34
                                    by_cases c35 : x12_3.size + 1 ≤ 9223372036854775807
                                    · rw [if_pos c35] at H
                                      have c35b0 := eq_true c35
                                      have c35b1 : decide (x12_3.size + 1 ≤ 9223372036854775807) = true := decide_eq_true c35
                                      try have c35b2 : (9223372036854775807 < x12_3.size + 1) = False := eq_false (Nat.not_lt.2 c35)
                                      by_cases c36 : 0 ≤ x13_3
                                      · rw [if_pos c36] at H
                                        have c36b0 : decide (0 ≤ x13_3) = true := decide_eq_true c36
                                        clear c36
                                        by_cases c37 : (x12_3 ++ (⟨#[32]⟩ : ByteArray)).size + (rdOf ByteArray.empty t116 x13_3).size ≤ 9223372036854775807
                                        · rw [if_pos c37] at H
                                          have c37b0 := eq_true c37
                                          have c37b1 : decide ((x12_3 ++ (⟨#[32]⟩ : ByteArray)).size + (rdOf ByteArray.empty t116 x13_3).size ≤ 9223372036854775807) = true := decide_eq_true c37
                                          try have c37b2 : (9223372036854775807 < (x12_3 ++ (⟨#[32]⟩ : ByteArray)).size + (rdOf ByteArray.empty t116 x13_3).size) = False := eq_false (Nat.not_lt.2 c37)
                                          (try (have c37b3 := c37; simp only [ByteArray.size_append] at c37b3; have c37b4 := eq_true c37b3)); (try (have c37b5 := c37; simp only [ByteArray.size_append, sz_mk_, List.size_toArray, List.length_cons, List.length_nil, Nat.zero_add, Nat.reduceAdd] at c37b5; have c37b6 := eq_true c37b5; have c37b7 := eq_false (Nat.not_lt.2 c37b5)))
                                          (try (have c37b5 : (9223372036854775807 < x12_3.size + 1 + (rdOf ByteArray.empty t116 x13_3).size) = False := eq_false (Nat.not_lt.2 c37b3); have c37b6 : (x12_3.size + 1 + (rdOf ByteArray.empty t116 x13_3).size ≤ 9223372036854775807) = True := eq_true c37b3))
                                          by_cases c38 : ((x12_3 ++ (⟨#[32]⟩ : ByteArray)) ++ (rdOf ByteArray.empty t116 x13_3)).size + 5 ≤ 9223372036854775807
                                          · rw [if_pos c38] at H
                                            have c38b0 := eq_true c38
                                            have c38b1 : decide (((x12_3 ++ (⟨#[32]⟩ : ByteArray)) ++ (rdOf ByteArray.empty t116 x13_3)).size + 5 ≤ 9223372036854775807) = true := decide_eq_true c38
                                            try have c38b2 : (9223372036854775807 < ((x12_3 ++ (⟨#[32]⟩ : ByteArray)) ++ (rdOf ByteArray.empty t116 x13_3)).size + 5) = False := eq_false (Nat.not_lt.2 c38)
                                            (try (have c38b3 := c38; simp only [ByteArray.size_append] at c38b3; have c38b4 := eq_true c38b3)); (try (have c38b5 := c38; simp only [ByteArray.size_append, sz_mk_, List.size_toArray, List.length_cons, List.length_nil, Nat.zero_add, Nat.reduceAdd] at c38b5; have c38b6 := eq_true c38b5; have c38b7 := eq_false (Nat.not_lt.2 c38b5)))
                                            by_cases c39 : (((x12_3 ++ (⟨#[32]⟩ : ByteArray)) ++ (rdOf ByteArray.empty t116 x13_3)) ++ (⟨#[9, 10, 10, 99, 32]⟩ : ByteArray)).size + a2.size ≤ 9223372036854775807
                                            · rw [if_pos c39] at H
                                              have c39b0 := eq_true c39
                                              have c39b1 : decide ((((x12_3 ++ (⟨#[32]⟩ : ByteArray)) ++ (rdOf ByteArray.empty t116 x13_3)) ++ (⟨#[9, 10, 10, 99, 32]⟩ : ByteArray)).size + a2.size ≤ 9223372036854775807) = true := decide_eq_true c39
                                              try have c39b2 : (9223372036854775807 < (((x12_3 ++ (⟨#[32]⟩ : ByteArray)) ++ (rdOf ByteArray.empty t116 x13_3)) ++ (⟨#[9, 10, 10, 99, 32]⟩ : ByteArray)).size + a2.size) = False := eq_false (Nat.not_lt.2 c39)
                                              (try (have c39b3 := c39; simp only [ByteArray.size_append] at c39b3; have c39b4 := eq_true c39b3)); (try (have c39b5 := c39; simp only [ByteArray.size_append, sz_mk_, List.size_toArray, List.length_cons, List.length_nil, Nat.zero_add, Nat.reduceAdd] at c39b5; have c39b6 := eq_true c39b5; have c39b7 := eq_false (Nat.not_lt.2 c39b5)))
                                              by_cases c40 : ((((x12_3 ++ (⟨#[32]⟩ : ByteArray)) ++ (rdOf ByteArray.empty t116 x13_3)) ++ (⟨#[9, 10, 10, 99, 32]⟩ : ByteArray)) ++ a2).size + 1 ≤ 9223372036854775807
                                              · rw [if_pos c40] at H
                                                have c40b0 := eq_true c40
                                                have c40b1 : decide (((((x12_3 ++ (⟨#[32]⟩ : ByteArray)) ++ (rdOf ByteArray.empty t116 x13_3)) ++ (⟨#[9, 10, 10, 99, 32]⟩ : ByteArray)) ++ a2).size + 1 ≤ 9223372036854775807) = true := decide_eq_true c40
                                                try have c40b2 : (9223372036854775807 < ((((x12_3 ++ (⟨#[32]⟩ : ByteArray)) ++ (rdOf ByteArray.empty t116 x13_3)) ++ (⟨#[9, 10, 10, 99, 32]⟩ : ByteArray)) ++ a2).size + 1) = False := eq_false (Nat.not_lt.2 c40)
                                                (try (have c40b3 := c40; simp only [ByteArray.size_append] at c40b3; have c40b4 := eq_true c40b3)); (try (have c40b5 := c40; simp only [ByteArray.size_append, sz_mk_, List.size_toArray, List.length_cons, List.length_nil, Nat.zero_add, Nat.reduceAdd] at c40b5; have c40b6 := eq_true c40b5; have c40b7 := eq_false (Nat.not_lt.2 c40b5)))
                                                have H' := Aside0.mk H
                                                clear H
                                                obtain ⟨Ao41, co41, eo41⟩ := Kd.R_slice HO_11.out
                                                subst eo41
                                                have p119 : 0 ≤ (x13_3 : Int) := of_decide_eq_true (by first | (with_reducible assumption) | assumption)
                                                have q119 : x13_3 < (t116.length : Int) := of_decide_eq_true (by first | (with_reducible assumption) | assumption)
                                                obtain ⟨ad119, e119, hx119_0⟩ := Kd.at_string (Kd.R_reads' HO_11.out).2.2 x13_3 p119 q119
                                                cases e119
                                                replace p119 := eq_true p119
                                                replace q119 := eq_true q119
                                                go_wp2
                                                go_roundg k3
                                                case measure => have := HJ4.out; have := HK2.out; have := HK3.out; omega
                                                case rel => exact ⟨(((((x12_3 ++ (⟨#[32]⟩ : ByteArray)) ++ (rdOf ByteArray.empty t116 x13_3)) ++ (⟨#[9, 10, 10, 99, 32]⟩ : ByteArray)) ++ a2) ++ (⟨#[10]⟩ : ByteArray)), (wrap64 (x13_3 + 1)), (by first | rfl | (simp; done) | (simp [*]; done)), (by first | rfl | (simp; done) | (simp [*]; done)), H', ⟨by have := HJ4.out; have := HK2.out; have := HK3.out; omega⟩, ⟨by (with_reducible repeat (first | apply Kd.R_alloc | apply Kd.R_drewN | apply Kd.R_drew)); exact HO_11.out⟩, ⟨by (with_reducible repeat (first | refine blk_drewN ?_ _ | refine blk_drew ?_ | refine blk_alloc ?_ _)); exact BK111.out⟩, ⟨by repeat (first | (with_reducible first | exact HB.out | apply below_alloc | apply pw_below_drewN | apply below_drew1 | refine below_set ?_ GE111.out) | exact HB.out)⟩⟩
                                              · rw [if_neg c40] at H
                                                exact absurd H (by simp)
                                            · rw [if_neg c39] at H
                                              exact absurd H (by simp)
                                          · rw [if_neg c38] at H
                                            exact absurd H (by simp)
                                        · rw [if_neg c37] at H
                                          exact absurd H (by simp)
                                      · rw [if_neg c36] at H
                                        exact absurd H (by simp)
                                    · rw [if_neg c35] at H
                                      exact absurd H (by simp)
                                  · rw [if_neg c34] at H
                                    have c34b0 : decide (x13_3 < (t116.length : Int)) = false := decide_eq_false c34
                                    clear c34
                                    replace H := Option.bind_eq_some_iff.mp H
                                    obtain ⟨⟨t120, t121, t122, t123, t126, t127⟩, A420, H⟩ := H
                                    replace H : ((dimacs_Parse.f x12_3).bind fun bt129 => (if t127 = 0 then (if t126 = 0 then ((net_Same.f t120 t121 t122 t123 a0_0 a0_1 a0_2 l0_3).bind fun t138 => (if t138 = true then (if bt129.2.2.2.2.2 = 0 then (if bt129.2.2.2.2.1 = 0 then ((net_Same.f bt129.1 bt129.2.1 bt129.2.2.1 bt129.2.2.2.1 a0_0 a0_1 a0_2 l0_3).bind fun t139 => (if t139 = true then (racewaylaw4_DimacsBack.j3 k3 a1) else (some false))) else (some false)) else (some false)) else (some false))) else (some false)) else (some false))) = some r := H
                                    have A42 := Aside0.mk A420
                                    clear A420
                                    replace H := Option.bind_eq_some_iff.mp H
                                    obtain ⟨⟨t129, t130, t131, t132, t135, t136⟩, A430, H⟩ := H
                                    replace H : (if t127 = 0 then (if t126 = 0 then ((net_Same.f t120 t121 t122 t123 a0_0 a0_1 a0_2 l0_3).bind fun t138 => (if t138 = true then (if t136 = 0 then (if t135 = 0 then ((net_Same.f t129 t130 t131 t132 a0_0 a0_1 a0_2 l0_3).bind fun t139 => (if t139 = true then (racewaylaw4_DimacsBack.j3 k3 a1) else (some false))) else (some false)) else (some false)) else (some false))) else (some false)) else (some false)) = some r := H
                                    have A43 := Aside0.mk A430
                                    clear A430
                                    by_cases c44 : t127 = 0
                                    · rw [if_pos c44] at H
                                      have c44b0 : (t127 == 0) = true := beq_iff_eq.mpr c44
                                      have c44b1 : (t127 != 0) = false := bne_eq_false_iff_eq.mpr c44
                                      clear c44
                                      by_cases c45 : t126 = 0
                                      · rw [if_pos c45] at H
                                        have c45b0 : (t126 == 0) = true := beq_iff_eq.mpr c45
                                        have c45b1 : (t126 != 0) = false := bne_eq_false_iff_eq.mpr c45
                                        clear c45
                                        replace H := Option.bind_eq_some_iff.mp H
                                        obtain ⟨t138, A460, H⟩ := H
                                        replace H : (if t138 = true then (if t136 = 0 then (if t135 = 0 then ((net_Same.f t129 t130 t131 t132 a0_0 a0_1 a0_2 l0_3).bind fun t139 => (if t139 = true then (racewaylaw4_DimacsBack.j3 k3 a1) else (some false))) else (some false)) else (some false)) else (some false)) = some r := H
                                        have A46 := Aside0.mk A460
                                        clear A460
                                        by_cases c47 : t138 = true
                                        · subst c47
                                          have H1 : (if t136 = 0 then (if t135 = 0 then ((net_Same.f t129 t130 t131 t132 a0_0 a0_1 a0_2 l0_3).bind fun t139 => (if t139 = true then (racewaylaw4_DimacsBack.j3 k3 a1) else (some false))) else (some false)) else (some false)) = some r := by rw [if_pos rfl] at H; exact H
                                          clear H
                                          have H := H1
                                          clear H1
                                          by_cases c48 : t136 = 0
                                          · rw [if_pos c48] at H
                                            have c48b0 : (t136 == 0) = true := beq_iff_eq.mpr c48
                                            have c48b1 : (t136 != 0) = false := bne_eq_false_iff_eq.mpr c48
                                            clear c48
                                            by_cases c49 : t135 = 0
                                            · rw [if_pos c49] at H
                                              have c49b0 : (t135 == 0) = true := beq_iff_eq.mpr c49
                                              have c49b1 : (t135 != 0) = false := bne_eq_false_iff_eq.mpr c49
                                              clear c49
                                              replace H := Option.bind_eq_some_iff.mp H
                                              obtain ⟨t139, A500, H⟩ := H
                                              replace H : (if t139 = true then (racewaylaw4_DimacsBack.j3 k3 a1) else (some false)) = some r := H
                                              have A50 := Aside0.mk A500
                                              clear A500
                                              by_cases c51 : t139 = true
                                              · subst c51
                                                have H1 : (racewaylaw4_DimacsBack.j3 k3 a1) = some r := by rw [if_pos rfl] at H; exact H
                                                clear H
                                                have H := H1
                                                clear H1
                                                have H' := Aside0.mk H
                                                clear H
                                                obtain ⟨Ao52, co52, eo52⟩ := Kd.R_slice HO_11.out
                                                subst eo52
                                                go_wp2_with (first | ((with_reducible refine gate_callee (f := 13) rfl ?_); refine goesL_ (some 93) rfl rfl Tryz.func13 (by kernel_rfl) rfl #[.string t113] rfl (by (try simp only [List.map_toArray, List.map_cons, List.map_nil]); first | done | rfl | (simp only [List.length_drop, List.length_take]; rfl)) ?_; (with_reducible refine (dimacs_Parse.calls t113 t120 t121 t122 t123 t126 t127 _ A42.out (LaidG.below hG (by repeat (first | (with_reducible first | exact HB.out | apply below_alloc | apply pw_below_drewN | apply below_drew1 | refine below_set ?_ GE111.out) | exact HB.out)))).mono ?_); rintro e w53 ⟨v124, rfl, ho0, hb⟩; refine ⟨_, rfl, ?_⟩; have n0_ := Aside0.mk (Kd.R_below (by (with_reducible repeat (first | apply Kd.R_alloc | apply Kd.R_drewN | apply Kd.R_drew)); exact HO_11.out) hb); have n1_ := Aside0.mk (Kd.R_lower ho0 (below_size (by repeat (first | (with_reducible first | exact HB.out | apply below_alloc | apply pw_below_drewN | apply below_drew1 | refine below_set ?_ GE111.out) | exact HB.out)))); have n2_ := Aside0.mk (blk_below (g := gb111) (o := .cells #[.int .i64 a0_0, .int .i64 a0_1, .int .i64 a0_2, .slice A0_3 l0_3.length c0_3] 24 (0, 0)) (by (with_reducible repeat (first | refine blk_drewN ?_ _ | refine blk_drew ?_ | refine blk_alloc ?_ _)); exact BK111.out) hb); have n3_ := Aside0.mk (below_step (by repeat (first | (with_reducible first | exact HB.out | apply below_alloc | apply pw_below_drewN | apply below_drew1 | refine below_set ?_ GE111.out) | exact HB.out)) hb); clear HO_11; clear BK111; clear HB; have HO_11 := n0_; have HO125 := n1_; have BK111 := n2_; have HB := n3_; clear n0_ n1_ n2_ n3_; (try clear hb); (try clear hb2); (try clear hk); (try clear hi); (try clear ho0)) | ((with_reducible refine gate_dst (N := 14) rfl ?_); (try (refine gate_guard (by rfl) ?_; dsimp only)); refine box_event ?hg (N := 14) ?hd (cs := #[.int .i64 0, .int .i64 0, .int .i64 0, .slice none 0 0]) (t := 24) ?hr ?_; (case hd => rfl); (case hg => rfl); (case hr => first | (go_simp; done) | (go_simp; rfl)); intro gb128 hg w54 hbox hb; have n0_ := Aside0.mk (Kd.R_below (by (with_reducible repeat (first | apply Kd.R_alloc | apply Kd.R_drewN | apply Kd.R_drew)); exact HO_11.out) hb); have n1_ := Aside0.mk (Kd.R_below (by (with_reducible repeat (first | apply Kd.R_alloc | apply Kd.R_drewN | apply Kd.R_drew)); exact HO125.out) hb); have n2_ := Aside0.mk (blk_below (g := gb111) (o := .cells #[.int .i64 a0_0, .int .i64 a0_1, .int .i64 a0_2, .slice A0_3 l0_3.length c0_3] 24 (0, 0)) (by (with_reducible repeat (first | refine blk_drewN ?_ _ | refine blk_drew ?_ | refine blk_alloc ?_ _)); exact BK111.out) hb); have n3_ := Aside0.mk (below_step (by repeat (first | (with_reducible first | exact HB.out | apply below_alloc | apply pw_below_drewN | apply below_drew1 | refine below_set ?_ GE111.out) | exact HB.out)) hb); have n4_ := Aside0.mk (hbox); have n5_ := Aside0.mk ((by rw [hg]; exact (below_size (by repeat (first | (with_reducible first | exact HB.out | apply below_alloc | apply pw_below_drewN | apply below_drew1 | refine below_set ?_ GE111.out) | exact HB.out))) : w.heap.size ≤ gb128)); have n6_ := Aside0.mk ((by rw [hg]; exact (below_size (by repeat (first | (with_reducible first | exact HB.out | apply below_alloc | apply pw_below_drewN | apply below_drew1 | refine below_set ?_ GE111.out) | exact HB.out))) : w.heap.size ≤ gb128)); have n7_ := Aside0.mk ((by rw [hg]; exact Nat.ne_of_lt (blk_lt (g := gb111) (o := .cells #[.int .i64 a0_0, .int .i64 a0_1, .int .i64 a0_2, .slice A0_3 l0_3.length c0_3] 24 (0, 0)) (by (with_reducible repeat (first | refine blk_drewN ?_ _ | refine blk_drew ?_ | refine blk_alloc ?_ _)); exact BK111.out)) : gb111 ≠ gb128)); have n8_ := Aside0.mk ((by rw [hg]; exact Nat.ne_of_gt (blk_lt (g := gb111) (o := .cells #[.int .i64 a0_0, .int .i64 a0_1, .int .i64 a0_2, .slice A0_3 l0_3.length c0_3] 24 (0, 0)) (by (with_reducible repeat (first | refine blk_drewN ?_ _ | refine blk_drew ?_ | refine blk_alloc ?_ _)); exact BK111.out)) : gb128 ≠ gb111)); clear HO_11; clear HO125; clear BK111; clear HB; have HO_11 := n0_; have HO125 := n1_; have BK111 := n2_; have HB := n3_; have BK128 := n4_; have GW128 := n5_; have GE128 := n6_; have NB111_128 := n7_; have NB128_111 := n8_; clear n0_ n1_ n2_ n3_ n4_ n5_ n6_ n7_ n8_; clear hb hbox hg; have hnb55 := NB128_111.out; have hnc55 := NB111_128.out; have hcz56_0 : w54.cell? ⟨gb128, 0, none⟩ = some (.int .i64 0) := (blk_cell BK128.out 0).trans rfl; have hcz56_1 : w54.cell? ⟨gb128, 1, none⟩ = some (.int .i64 0) := (blk_cell BK128.out 1).trans rfl; have hcz56_2 : w54.cell? ⟨gb128, 2, none⟩ = some (.int .i64 0) := (blk_cell BK128.out 2).trans rfl; have hcz56_3 : w54.cell? ⟨gb128, 3, none⟩ = some (.slice none 0 0) := (blk_cell BK128.out 3).trans rfl; have hfz56_0 := blk_frozen BK128.out 0; have hfz56_1 := blk_frozen BK128.out 1; have hfz56_2 := blk_frozen BK128.out 2; have hfz56_3 := blk_frozen BK128.out 3; obtain ⟨Ao57, co57, eo57⟩ := Kd.R_slice HO125.out; subst eo57) | ((with_reducible refine gate_callee (f := 13) rfl ?_); refine goesL_ (some 99) rfl rfl Tryz.func13 (by kernel_rfl) rfl #[.string x12_3] rfl (by (try simp only [List.map_toArray, List.map_cons, List.map_nil]); first | done | rfl | (simp only [List.length_drop, List.length_take]; rfl)) ?_; (with_reducible refine (dimacs_Parse.calls x12_3 t129 t130 t131 t132 t135 t136 _ A43.out (LaidG.below hG (by repeat (first | (with_reducible first | exact HB.out | apply below_alloc | apply pw_below_drewN | apply below_drew1 | refine below_set ?_ GE111.out | refine below_set ?_ GE128.out) | exact HB.out)))).mono ?_); rintro e w58 ⟨v133, rfl, ho0, hb⟩; refine ⟨_, rfl, ?_⟩; have n0_ := Aside0.mk (Kd.R_below (by (with_reducible repeat (first | apply Kd.R_alloc | apply Kd.R_drewN | apply Kd.R_drew)); exact (Kd.R_mono (Kd.R_far (p := ⟨gb128, 3, none⟩) (Kd.R_far (p := ⟨gb128, 2, none⟩) (Kd.R_far (p := ⟨gb128, 1, none⟩) (Kd.R_far (p := ⟨gb128, 0, none⟩) (Kd.R_types HO_11.out BK128.out (by decide)) (fun _ hk => hk.2) (.int .i64 t120)) (fun _ hk => hk.2) (.int .i64 t121)) (fun _ hk => hk.2) (.int .i64 t122)) (fun _ hk => hk.2) (.slice Ao57 t123.length co57)) (fun _ h_ => h_.1))) hb); have n1_ := Aside0.mk (Kd.R_elder' (by (with_reducible repeat (first | apply Kd.R_alloc | apply Kd.R_drewN | apply Kd.R_drew)); exact (Kd.R_mono (Kd.R_far (p := ⟨gb128, 3, none⟩) (Kd.R_far (p := ⟨gb128, 2, none⟩) (Kd.R_far (p := ⟨gb128, 1, none⟩) (Kd.R_far (p := ⟨gb128, 0, none⟩) (Kd.R_types HO125.out BK128.out (by decide)) (fun _ hk => hk.2) (.int .i64 t120)) (fun _ hk => hk.2) (.int .i64 t121)) (fun _ hk => hk.2) (.int .i64 t122)) (fun _ hk => hk.2) (.slice Ao57 t123.length co57)) (fun _ h_ => h_.1))) (Kd.R_base ho0) hb); have n2_ := Aside0.mk (Kd.R_lower (Kd.R_new' ho0 (Kd.R_lt (by (with_reducible repeat (first | apply Kd.R_alloc | apply Kd.R_drewN | apply Kd.R_drew)); exact (Kd.R_mono (Kd.R_far (p := ⟨gb128, 3, none⟩) (Kd.R_far (p := ⟨gb128, 2, none⟩) (Kd.R_far (p := ⟨gb128, 1, none⟩) (Kd.R_far (p := ⟨gb128, 0, none⟩) (Kd.R_types HO125.out BK128.out (by decide)) (fun _ hk => hk.2) (.int .i64 t120)) (fun _ hk => hk.2) (.int .i64 t121)) (fun _ hk => hk.2) (.int .i64 t122)) (fun _ hk => hk.2) (.slice Ao57 t123.length co57)) (fun _ h_ => h_.1))))) (below_size (by repeat (first | (with_reducible first | exact HB.out | apply below_alloc | apply pw_below_drewN | apply below_drew1 | refine below_set ?_ GE111.out | refine below_set ?_ GE128.out) | exact HB.out)))); have n3_ := Aside0.mk (blk_below (g := gb111) (o := .cells #[.int .i64 a0_0, .int .i64 a0_1, .int .i64 a0_2, .slice A0_3 l0_3.length c0_3] 24 (0, 0)) (by (with_reducible repeat (first | refine blk_drewN ?_ _ | refine blk_drew ?_ | refine blk_alloc ?_ _)); refine blk_far ?_ NB111_128.out _; (with_reducible repeat (first | refine blk_drewN ?_ _ | refine blk_drew ?_ | refine blk_alloc ?_ _)); refine blk_far ?_ NB111_128.out _; (with_reducible repeat (first | refine blk_drewN ?_ _ | refine blk_drew ?_ | refine blk_alloc ?_ _)); refine blk_far ?_ NB111_128.out _; (with_reducible repeat (first | refine blk_drewN ?_ _ | refine blk_drew ?_ | refine blk_alloc ?_ _)); refine blk_far ?_ NB111_128.out _; (with_reducible repeat (first | refine blk_drewN ?_ _ | refine blk_drew ?_ | refine blk_alloc ?_ _)); exact BK111.out) hb); have n4_ := Aside0.mk (blk_below (g := gb128) (o := .cells #[.int .i64 t120, .int .i64 t121, .int .i64 t122, .slice Ao57 t123.length co57] 24 (0, 0)) (by (with_reducible repeat (first | refine blk_drewN ?_ _ | refine blk_drew ?_ | refine blk_alloc ?_ _)); refine blk_put (cs := #[.int .i64 t120, .int .i64 t121, .int .i64 t122, .slice none 0 0]) ?_ 3 _ rfl; (with_reducible repeat (first | refine blk_drewN ?_ _ | refine blk_drew ?_ | refine blk_alloc ?_ _)); refine blk_put (cs := #[.int .i64 t120, .int .i64 t121, .int .i64 0, .slice none 0 0]) ?_ 2 _ rfl; (with_reducible repeat (first | refine blk_drewN ?_ _ | refine blk_drew ?_ | refine blk_alloc ?_ _)); refine blk_put (cs := #[.int .i64 t120, .int .i64 0, .int .i64 0, .slice none 0 0]) ?_ 1 _ rfl; (with_reducible repeat (first | refine blk_drewN ?_ _ | refine blk_drew ?_ | refine blk_alloc ?_ _)); refine blk_put (cs := #[.int .i64 0, .int .i64 0, .int .i64 0, .slice none 0 0]) ?_ 0 _ rfl; (with_reducible repeat (first | refine blk_drewN ?_ _ | refine blk_drew ?_ | refine blk_alloc ?_ _)); exact BK128.out) hb); have n5_ := Aside0.mk (below_step (by repeat (first | (with_reducible first | exact HB.out | apply below_alloc | apply pw_below_drewN | apply below_drew1 | refine below_set ?_ GE111.out | refine below_set ?_ GE128.out) | exact HB.out)) hb); clear HO_11; clear HO125; clear BK111; clear BK128; clear HB; have HO_11 := n0_; have HO125 := n1_; have HO134 := n2_; have BK111 := n3_; have BK128 := n4_; have HB := n5_; clear n0_ n1_ n2_ n3_ n4_ n5_; (try clear hb); (try clear hb2); (try clear hk); (try clear hi); (try clear ho0)) | ((with_reducible refine gate_dst (N := 17) rfl ?_); (try (refine gate_guard (by rfl) ?_; dsimp only)); refine box_event ?hg (N := 17) ?hd (cs := #[.int .i64 0, .int .i64 0, .int .i64 0, .slice none 0 0]) (t := 24) ?hr ?_; (case hd => rfl); (case hg => rfl); (case hr => first | (go_simp; done) | (go_simp; rfl)); intro gb137 hg w59 hbox hb; have n0_ := Aside0.mk (Kd.R_below (by (with_reducible repeat (first | apply Kd.R_alloc | apply Kd.R_drewN | apply Kd.R_drew)); exact HO_11.out) hb); have n1_ := Aside0.mk (Kd.R_below (by (with_reducible repeat (first | apply Kd.R_alloc | apply Kd.R_drewN | apply Kd.R_drew)); exact HO125.out) hb); have n2_ := Aside0.mk (Kd.R_below (by (with_reducible repeat (first | apply Kd.R_alloc | apply Kd.R_drewN | apply Kd.R_drew)); exact HO134.out) hb); have n3_ := Aside0.mk (blk_below (g := gb111) (o := .cells #[.int .i64 a0_0, .int .i64 a0_1, .int .i64 a0_2, .slice A0_3 l0_3.length c0_3] 24 (0, 0)) (by (with_reducible repeat (first | refine blk_drewN ?_ _ | refine blk_drew ?_ | refine blk_alloc ?_ _)); exact BK111.out) hb); have n4_ := Aside0.mk (blk_below (g := gb128) (o := .cells #[.int .i64 t120, .int .i64 t121, .int .i64 t122, .slice Ao57 t123.length co57] 24 (0, 0)) (by (with_reducible repeat (first | refine blk_drewN ?_ _ | refine blk_drew ?_ | refine blk_alloc ?_ _)); exact BK128.out) hb); have n5_ := Aside0.mk (below_step (by repeat (first | (with_reducible first | exact HB.out | apply below_alloc | apply pw_below_drewN | apply below_drew1 | refine below_set ?_ GE111.out | refine below_set ?_ GE128.out) | exact HB.out)) hb); have n6_ := Aside0.mk (hbox); have n7_ := Aside0.mk ((by rw [hg]; exact (below_size (by repeat (first | (with_reducible first | exact HB.out | apply below_alloc | apply pw_below_drewN | apply below_drew1 | refine below_set ?_ GE111.out | refine below_set ?_ GE128.out) | exact HB.out))) : w.heap.size ≤ gb137)); have n8_ := Aside0.mk ((by rw [hg]; exact (below_size (by repeat (first | (with_reducible first | exact HB.out | apply below_alloc | apply pw_below_drewN | apply below_drew1 | refine below_set ?_ GE111.out | refine below_set ?_ GE128.out) | exact HB.out))) : w.heap.size ≤ gb137)); have n9_ := Aside0.mk ((by rw [hg]; exact Nat.ne_of_lt (blk_lt (g := gb111) (o := .cells #[.int .i64 a0_0, .int .i64 a0_1, .int .i64 a0_2, .slice A0_3 l0_3.length c0_3] 24 (0, 0)) (by (with_reducible repeat (first | refine blk_drewN ?_ _ | refine blk_drew ?_ | refine blk_alloc ?_ _)); exact BK111.out)) : gb111 ≠ gb137)); have n10_ := Aside0.mk ((by rw [hg]; exact Nat.ne_of_gt (blk_lt (g := gb111) (o := .cells #[.int .i64 a0_0, .int .i64 a0_1, .int .i64 a0_2, .slice A0_3 l0_3.length c0_3] 24 (0, 0)) (by (with_reducible repeat (first | refine blk_drewN ?_ _ | refine blk_drew ?_ | refine blk_alloc ?_ _)); exact BK111.out)) : gb137 ≠ gb111)); have n11_ := Aside0.mk ((by rw [hg]; exact Nat.ne_of_lt (blk_lt (g := gb128) (o := .cells #[.int .i64 t120, .int .i64 t121, .int .i64 t122, .slice Ao57 t123.length co57] 24 (0, 0)) (by (with_reducible repeat (first | refine blk_drewN ?_ _ | refine blk_drew ?_ | refine blk_alloc ?_ _)); exact BK128.out)) : gb128 ≠ gb137)); have n12_ := Aside0.mk ((by rw [hg]; exact Nat.ne_of_gt (blk_lt (g := gb128) (o := .cells #[.int .i64 t120, .int .i64 t121, .int .i64 t122, .slice Ao57 t123.length co57] 24 (0, 0)) (by (with_reducible repeat (first | refine blk_drewN ?_ _ | refine blk_drew ?_ | refine blk_alloc ?_ _)); exact BK128.out)) : gb137 ≠ gb128)); clear HO_11; clear HO125; clear HO134; clear BK111; clear BK128; clear HB; have HO_11 := n0_; have HO125 := n1_; have HO134 := n2_; have BK111 := n3_; have BK128 := n4_; have HB := n5_; have BK137 := n6_; have GW137 := n7_; have GE137 := n8_; have NB111_137 := n9_; have NB137_111 := n10_; have NB128_137 := n11_; have NB137_128 := n12_; clear n0_ n1_ n2_ n3_ n4_ n5_ n6_ n7_ n8_ n9_ n10_ n11_ n12_; clear hb hbox hg; have hnb60 := NB137_111.out; have hnc60 := NB111_137.out; have hnb61 := NB137_128.out; have hnc61 := NB128_137.out; have hcz62_0 : w59.cell? ⟨gb137, 0, none⟩ = some (.int .i64 0) := (blk_cell BK137.out 0).trans rfl; have hcz62_1 : w59.cell? ⟨gb137, 1, none⟩ = some (.int .i64 0) := (blk_cell BK137.out 1).trans rfl; have hcz62_2 : w59.cell? ⟨gb137, 2, none⟩ = some (.int .i64 0) := (blk_cell BK137.out 2).trans rfl; have hcz62_3 : w59.cell? ⟨gb137, 3, none⟩ = some (.slice none 0 0) := (blk_cell BK137.out 3).trans rfl; have hfz62_0 := blk_frozen BK137.out 0; have hfz62_1 := blk_frozen BK137.out 1; have hfz62_2 := blk_frozen BK137.out 2; have hfz62_3 := blk_frozen BK137.out 3; obtain ⟨Ao63, co63, eo63⟩ := Kd.R_slice HO134.out; subst eo63; have hcz64_0 : w59.cell? ⟨gb128, 0, none⟩ = some (.int .i64 t120) := (blk_cell BK128.out 0).trans rfl; have hcz64_1 : w59.cell? ⟨gb128, 1, none⟩ = some (.int .i64 t121) := (blk_cell BK128.out 1).trans rfl; have hcz64_2 : w59.cell? ⟨gb128, 2, none⟩ = some (.int .i64 t122) := (blk_cell BK128.out 2).trans rfl; have hcz64_3 : w59.cell? ⟨gb128, 3, none⟩ = some (.slice Ao57 t123.length co57) := (blk_cell BK128.out 3).trans rfl; have hfz64_0 := blk_frozen BK128.out 0; have hfz64_1 := blk_frozen BK128.out 1; have hfz64_2 := blk_frozen BK128.out 2; have hfz64_3 := blk_frozen BK128.out 3; have hcz65_0 : w59.cell? ⟨gb111, 0, none⟩ = some (.int .i64 a0_0) := (blk_cell BK111.out 0).trans rfl; have hcz65_1 : w59.cell? ⟨gb111, 1, none⟩ = some (.int .i64 a0_1) := (blk_cell BK111.out 1).trans rfl; have hcz65_2 : w59.cell? ⟨gb111, 2, none⟩ = some (.int .i64 a0_2) := (blk_cell BK111.out 2).trans rfl; have hcz65_3 : w59.cell? ⟨gb111, 3, none⟩ = some (.slice A0_3 l0_3.length c0_3) := (blk_cell BK111.out 3).trans rfl; have hfz65_0 := blk_frozen BK111.out 0; have hfz65_1 := blk_frozen BK111.out 1; have hfz65_2 := blk_frozen BK111.out 2; have hfz65_3 := blk_frozen BK111.out 3) | (go_at_call 15; (with_reducible refine (net_Same.calls t120 t121 t122 _ _ t123 a0_0 a0_1 a0_2 _ _ l0_3 true _ ?side1 ?side2 ?side3 ?side4 A46.out).mono ?_); (case side1 => refine (Kd.R_reads' (e := 44) (base := w.heap.size) (ok := fun k_ => (True ∧ some k_ ≠ (.slice Ao63 t132.length co63 : Value).ownBlock)) (n := t123.length) (c := co57) ?_).2.2; exact (by (with_reducible repeat (first | apply Kd.R_alloc | apply Kd.R_drewN | apply Kd.R_drew)); exact (Kd.R_mono (Kd.R_far (p := ⟨gb137, 3, none⟩) (Kd.R_far (p := ⟨gb137, 2, none⟩) (Kd.R_far (p := ⟨gb137, 1, none⟩) (Kd.R_far (p := ⟨gb137, 0, none⟩) (Kd.R_types HO125.out BK137.out (by decide)) (fun _ hk => hk.2) (.int .i64 t129)) (fun _ hk => hk.2) (.int .i64 t130)) (fun _ hk => hk.2) (.int .i64 t131)) (fun _ hk => hk.2) (.slice Ao63 t132.length co63)) (fun _ h_ => h_.1)))); (case side2 => exact (Kd.R_reads' HO125.out).2.1); (case side3 => exact Kd.C_below HR0_3.out (by repeat (first | (with_reducible first | exact HB.out | apply below_alloc | apply pw_below_drewN | apply below_drew1 | refine below_set ?_ GE111.out | refine below_set ?_ GE128.out | refine below_set ?_ GE137.out) | exact HB.out))); (case side4 => exact HC0_3.out); rintro e w66 ⟨rfl, hb⟩; have n0_ := Aside0.mk (Kd.R_below (by (with_reducible repeat (first | apply Kd.R_alloc | apply Kd.R_drewN | apply Kd.R_drew)); exact (Kd.R_mono (Kd.R_far (p := ⟨gb137, 3, none⟩) (Kd.R_far (p := ⟨gb137, 2, none⟩) (Kd.R_far (p := ⟨gb137, 1, none⟩) (Kd.R_far (p := ⟨gb137, 0, none⟩) (Kd.R_types HO_11.out BK137.out (by decide)) (fun _ hk => hk.2) (.int .i64 t129)) (fun _ hk => hk.2) (.int .i64 t130)) (fun _ hk => hk.2) (.int .i64 t131)) (fun _ hk => hk.2) (.slice Ao63 t132.length co63)) (fun _ h_ => h_.1))) hb); have n1_ := Aside0.mk (Kd.R_below (by (with_reducible repeat (first | apply Kd.R_alloc | apply Kd.R_drewN | apply Kd.R_drew)); exact (Kd.R_mono (Kd.R_far (p := ⟨gb137, 3, none⟩) (Kd.R_far (p := ⟨gb137, 2, none⟩) (Kd.R_far (p := ⟨gb137, 1, none⟩) (Kd.R_far (p := ⟨gb137, 0, none⟩) (Kd.R_types HO125.out BK137.out (by decide)) (fun _ hk => hk.2) (.int .i64 t129)) (fun _ hk => hk.2) (.int .i64 t130)) (fun _ hk => hk.2) (.int .i64 t131)) (fun _ hk => hk.2) (.slice Ao63 t132.length co63)) (fun _ h_ => h_.1))) hb); have n2_ := Aside0.mk (Kd.R_below (by (with_reducible repeat (first | apply Kd.R_alloc | apply Kd.R_drewN | apply Kd.R_drew)); exact (Kd.R_mono (Kd.R_far (p := ⟨gb137, 3, none⟩) (Kd.R_far (p := ⟨gb137, 2, none⟩) (Kd.R_far (p := ⟨gb137, 1, none⟩) (Kd.R_far (p := ⟨gb137, 0, none⟩) (Kd.R_types HO134.out BK137.out (by decide)) (fun _ hk => hk.2) (.int .i64 t129)) (fun _ hk => hk.2) (.int .i64 t130)) (fun _ hk => hk.2) (.int .i64 t131)) (fun _ hk => hk.2) (.slice Ao63 t132.length co63)) (fun _ h_ => h_.1))) hb); have n3_ := Aside0.mk (blk_below (g := gb111) (o := .cells #[.int .i64 a0_0, .int .i64 a0_1, .int .i64 a0_2, .slice A0_3 l0_3.length c0_3] 24 (0, 0)) (by (with_reducible repeat (first | refine blk_drewN ?_ _ | refine blk_drew ?_ | refine blk_alloc ?_ _)); refine blk_far ?_ NB111_137.out _; (with_reducible repeat (first | refine blk_drewN ?_ _ | refine blk_drew ?_ | refine blk_alloc ?_ _)); refine blk_far ?_ NB111_137.out _; (with_reducible repeat (first | refine blk_drewN ?_ _ | refine blk_drew ?_ | refine blk_alloc ?_ _)); refine blk_far ?_ NB111_137.out _; (with_reducible repeat (first | refine blk_drewN ?_ _ | refine blk_drew ?_ | refine blk_alloc ?_ _)); refine blk_far ?_ NB111_137.out _; (with_reducible repeat (first | refine blk_drewN ?_ _ | refine blk_drew ?_ | refine blk_alloc ?_ _)); exact BK111.out) hb); have n4_ := Aside0.mk (blk_below (g := gb128) (o := .cells #[.int .i64 t120, .int .i64 t121, .int .i64 t122, .slice Ao57 t123.length co57] 24 (0, 0)) (by (with_reducible repeat (first | refine blk_drewN ?_ _ | refine blk_drew ?_ | refine blk_alloc ?_ _)); refine blk_far ?_ NB128_137.out _; (with_reducible repeat (first | refine blk_drewN ?_ _ | refine blk_drew ?_ | refine blk_alloc ?_ _)); refine blk_far ?_ NB128_137.out _; (with_reducible repeat (first | refine blk_drewN ?_ _ | refine blk_drew ?_ | refine blk_alloc ?_ _)); refine blk_far ?_ NB128_137.out _; (with_reducible repeat (first | refine blk_drewN ?_ _ | refine blk_drew ?_ | refine blk_alloc ?_ _)); refine blk_far ?_ NB128_137.out _; (with_reducible repeat (first | refine blk_drewN ?_ _ | refine blk_drew ?_ | refine blk_alloc ?_ _)); exact BK128.out) hb); have n5_ := Aside0.mk (blk_below (g := gb137) (o := .cells #[.int .i64 t129, .int .i64 t130, .int .i64 t131, .slice Ao63 t132.length co63] 24 (0, 0)) (by (with_reducible repeat (first | refine blk_drewN ?_ _ | refine blk_drew ?_ | refine blk_alloc ?_ _)); refine blk_put (cs := #[.int .i64 t129, .int .i64 t130, .int .i64 t131, .slice none 0 0]) ?_ 3 _ rfl; (with_reducible repeat (first | refine blk_drewN ?_ _ | refine blk_drew ?_ | refine blk_alloc ?_ _)); refine blk_put (cs := #[.int .i64 t129, .int .i64 t130, .int .i64 0, .slice none 0 0]) ?_ 2 _ rfl; (with_reducible repeat (first | refine blk_drewN ?_ _ | refine blk_drew ?_ | refine blk_alloc ?_ _)); refine blk_put (cs := #[.int .i64 t129, .int .i64 0, .int .i64 0, .slice none 0 0]) ?_ 1 _ rfl; (with_reducible repeat (first | refine blk_drewN ?_ _ | refine blk_drew ?_ | refine blk_alloc ?_ _)); refine blk_put (cs := #[.int .i64 0, .int .i64 0, .int .i64 0, .slice none 0 0]) ?_ 0 _ rfl; (with_reducible repeat (first | refine blk_drewN ?_ _ | refine blk_drew ?_ | refine blk_alloc ?_ _)); exact BK137.out) hb); have n6_ := Aside0.mk (below_step (by repeat (first | (with_reducible first | exact HB.out | apply below_alloc | apply pw_below_drewN | apply below_drew1 | refine below_set ?_ GE111.out | refine below_set ?_ GE128.out | refine below_set ?_ GE137.out) | exact HB.out)) hb); clear HO_11; clear HO125; clear HO134; clear BK111; clear BK128; clear BK137; clear HB; have HO_11 := n0_; have HO125 := n1_; have HO134 := n2_; have BK111 := n3_; have BK128 := n4_; have BK137 := n5_; have HB := n6_; clear n0_ n1_ n2_ n3_ n4_ n5_ n6_; (try clear hb); (try clear hb2); (try clear hk); (try clear hi); have hcz67_0 : w66.cell? ⟨gb137, 0, none⟩ = some (.int .i64 t129) := (blk_cell BK137.out 0).trans rfl; have hcz67_1 : w66.cell? ⟨gb137, 1, none⟩ = some (.int .i64 t130) := (blk_cell BK137.out 1).trans rfl; have hcz67_2 : w66.cell? ⟨gb137, 2, none⟩ = some (.int .i64 t131) := (blk_cell BK137.out 2).trans rfl; have hcz67_3 : w66.cell? ⟨gb137, 3, none⟩ = some (.slice Ao63 t132.length co63) := (blk_cell BK137.out 3).trans rfl; have hfz67_0 := blk_frozen BK137.out 0; have hfz67_1 := blk_frozen BK137.out 1; have hfz67_2 := blk_frozen BK137.out 2; have hfz67_3 := blk_frozen BK137.out 3; have hcz68_0 : w66.cell? ⟨gb111, 0, none⟩ = some (.int .i64 a0_0) := (blk_cell BK111.out 0).trans rfl; have hcz68_1 : w66.cell? ⟨gb111, 1, none⟩ = some (.int .i64 a0_1) := (blk_cell BK111.out 1).trans rfl; have hcz68_2 : w66.cell? ⟨gb111, 2, none⟩ = some (.int .i64 a0_2) := (blk_cell BK111.out 2).trans rfl; have hcz68_3 : w66.cell? ⟨gb111, 3, none⟩ = some (.slice A0_3 l0_3.length c0_3) := (blk_cell BK111.out 3).trans rfl; have hfz68_0 := blk_frozen BK111.out 0; have hfz68_1 := blk_frozen BK111.out 1; have hfz68_2 := blk_frozen BK111.out 2; have hfz68_3 := blk_frozen BK111.out 3) | (go_at_call 15; (with_reducible refine (net_Same.calls t129 t130 t131 _ _ t132 a0_0 a0_1 a0_2 _ _ l0_3 true _ ?side1 ?side2 ?side3 ?side4 A50.out).mono ?_); (case side1 => repeat (first | exact (Kd.R_reads' HO134.out).2.2 | (with_reducible refine Kd.C_alloc ?_ _) | (with_reducible refine Kd.C_drewN ?_ _) | (with_reducible refine Kd.C_drew ?_))); (case side2 => exact (Kd.R_reads' HO134.out).2.1); (case side3 => repeat (first | exact (Kd.C_below HR0_3.out HB.out) | (with_reducible refine Kd.C_alloc ?_ _) | (with_reducible refine Kd.C_drewN ?_ _) | (with_reducible refine Kd.C_drew ?_))); (case side4 => exact HC0_3.out); rintro e w69 ⟨rfl, hb⟩; have n0_ := Aside0.mk (Kd.R_below (by (with_reducible repeat (first | apply Kd.R_alloc | apply Kd.R_drewN | apply Kd.R_drew)); exact HO_11.out) hb); have n1_ := Aside0.mk (Kd.R_below (by (with_reducible repeat (first | apply Kd.R_alloc | apply Kd.R_drewN | apply Kd.R_drew)); exact HO125.out) hb); have n2_ := Aside0.mk (Kd.R_below (by (with_reducible repeat (first | apply Kd.R_alloc | apply Kd.R_drewN | apply Kd.R_drew)); exact HO134.out) hb); have n3_ := Aside0.mk (blk_below (g := gb111) (o := .cells #[.int .i64 a0_0, .int .i64 a0_1, .int .i64 a0_2, .slice A0_3 l0_3.length c0_3] 24 (0, 0)) (by (with_reducible repeat (first | refine blk_drewN ?_ _ | refine blk_drew ?_ | refine blk_alloc ?_ _)); exact BK111.out) hb); have n4_ := Aside0.mk (blk_below (g := gb128) (o := .cells #[.int .i64 t120, .int .i64 t121, .int .i64 t122, .slice Ao57 t123.length co57] 24 (0, 0)) (by (with_reducible repeat (first | refine blk_drewN ?_ _ | refine blk_drew ?_ | refine blk_alloc ?_ _)); exact BK128.out) hb); have n5_ := Aside0.mk (blk_below (g := gb137) (o := .cells #[.int .i64 t129, .int .i64 t130, .int .i64 t131, .slice Ao63 t132.length co63] 24 (0, 0)) (by (with_reducible repeat (first | refine blk_drewN ?_ _ | refine blk_drew ?_ | refine blk_alloc ?_ _)); exact BK137.out) hb); have n6_ := Aside0.mk (below_step (by repeat (first | (with_reducible first | exact HB.out | apply below_alloc | apply pw_below_drewN | apply below_drew1 | refine below_set ?_ GE111.out | refine below_set ?_ GE128.out | refine below_set ?_ GE137.out) | exact HB.out)) hb); clear HO_11; clear HO125; clear HO134; clear BK111; clear BK128; clear BK137; clear HB; have HO_11 := n0_; have HO125 := n1_; have HO134 := n2_; have BK111 := n3_; have BK128 := n4_; have BK137 := n5_; have HB := n6_; clear n0_ n1_ n2_ n3_ n4_ n5_ n6_; (try clear hb); (try clear hb2); (try clear hk); (try clear hi)))
                                                go_meet
                                                case rel => exact ⟨_, H', ⟨by have := HJ4.out; have := HK2.out; have := HK3.out; first | omega | exact Nat.le_refl _⟩, ⟨by (with_reducible repeat (first | refine blk_drewN ?_ _ | refine blk_drew ?_ | refine blk_alloc ?_ _)); exact BK111.out⟩, ⟨by repeat (first | (with_reducible first | exact HB.out | apply below_alloc | apply pw_below_drewN | apply below_drew1 | refine below_set ?_ GE111.out | refine below_set ?_ GE128.out | refine below_set ?_ GE137.out) | exact HB.out)⟩⟩
                                              · replace c51 := Bool.eq_false_iff.mpr c51
                                                subst c51
                                                have H1 : (some false) = some r := by rw [if_neg (show ¬ (false = true) by decide)] at H; exact H
                                                clear H
                                                have H := H1
                                                clear H1
                                                exact absurd ((Option.some.inj H).trans HRT.out) (by decide)
                                            · rw [if_neg c49] at H
                                              have c49b0 : (t135 == 0) = false := beq_eq_false_iff_ne.mpr c49
                                              have c49b1 : (t135 != 0) = true := bne_iff_ne.mpr c49
                                              exact absurd ((Option.some.inj H).trans HRT.out) (by decide)
                                          · rw [if_neg c48] at H
                                            have c48b0 : (t136 == 0) = false := beq_eq_false_iff_ne.mpr c48
                                            have c48b1 : (t136 != 0) = true := bne_iff_ne.mpr c48
                                            exact absurd ((Option.some.inj H).trans HRT.out) (by decide)
                                        · replace c47 := Bool.eq_false_iff.mpr c47
                                          subst c47
                                          have H1 : (some false) = some r := by rw [if_neg (show ¬ (false = true) by decide)] at H; exact H
                                          clear H
                                          have H := H1
                                          clear H1
                                          exact absurd ((Option.some.inj H).trans HRT.out) (by decide)
                                      · rw [if_neg c45] at H
                                        have c45b0 : (t126 == 0) = false := beq_eq_false_iff_ne.mpr c45
                                        have c45b1 : (t126 != 0) = true := bne_iff_ne.mpr c45
                                        exact absurd ((Option.some.inj H).trans HRT.out) (by decide)
                                    · rw [if_neg c44] at H
                                      have c44b0 : (t127 == 0) = false := beq_eq_false_iff_ne.mpr c44
                                      have c44b1 : (t127 != 0) = true := bne_iff_ne.mpr c44
                                      exact absurd ((Option.some.inj H).trans HRT.out) (by decide)
                          · rw [if_neg c32] at H
                            exact absurd H (by simp)
                        · rw [if_neg c31] at H
                          exact absurd H (by simp)
              · rw [if_neg c25] at H
                have c25b0 : (t114 == 0) = false := beq_eq_false_iff_ne.mpr c25
                have c25b1 : (t114 != 0) = true := bne_iff_ne.mpr c25
                (try (have c25d0 := c15b0; simp only [c25b0] at c25d0; simp at c25d0))
                (try (have c25d1 := c15b2; simp only [c25b0] at c25d1; simp at c25d1))
                (first | rw [c25b0] | (simp only [i64_w, i32_w]; rw [c25b0]) | skip)
                have H' := Aside0.mk H
                clear H
                go_wp2
                go_meet
                case rel => exact ⟨_, H', ⟨by have := HJ4.out; first | omega | exact Nat.le_refl _⟩, ⟨by (with_reducible repeat (first | refine blk_drewN ?_ _ | refine blk_drew ?_ | refine blk_alloc ?_ _)); exact BK111.out⟩, ⟨by repeat (first | (with_reducible first | exact HB.out | apply below_alloc | apply pw_below_drewN | apply below_drew1 | refine below_set ?_ GE111.out) | exact HB.out)⟩⟩
            case rest =>
              clear HC20
              try clear c1
              try clear p1
              try clear q1
              try clear hx1
              try clear c2
              try clear p2
              try clear q2
              try clear hx2
              try clear c3
              try clear c4
              try clear c5
              try clear c6
              try clear p6
              try clear c7
              try clear c8
              try clear c9
              try clear c9b0
              try clear c9b1
              try clear c10
              try clear c11
              try clear p11
              try clear q11
              try clear hx11
              try clear c12
              try clear c13
              try clear c14
              try clear c15
              try clear c15b0
              try clear c15b1
              try clear c15b2
              try clear c25
              try clear c25b0
              try clear c25b1
              try clear c26
              try clear c26b0
              try clear c27
              try clear c27b0
              try clear p28
              try clear q28
              try clear hx28
              try clear c29
              try clear c29b0
              try clear c29b1
              try clear c31
              try clear c31b0
              try clear c31b1
              try clear c31b2
              try clear c32
              try clear c32b0
              try clear c32b1
              try clear c32b2
              try clear c34
              try clear c34b0
              try clear c35
              try clear c35b0
              try clear c35b1
              try clear c35b2
              try clear c36
              try clear c36b0
              try clear c37
              try clear c37b0
              try clear c37b1
              try clear c37b2
              try clear c38
              try clear c38b0
              try clear c38b1
              try clear c38b2
              try clear c39
              try clear c39b0
              try clear c39b1
              try clear c39b2
              try clear c40
              try clear c40b0
              try clear c40b1
              try clear c40b2
              try clear c44
              try clear c44b0
              try clear c44b1
              try clear c45
              try clear c45b0
              try clear c45b1
              try clear c47
              try clear c48
              try clear c48b0
              try clear c48b1
              try clear c49
              try clear c49b0
              try clear c49b1
              try clear c51
              try clear c55
              try clear c60
              try clear c61
              try clear p64
              try clear c73
              try clear c78
              try clear c79
              try clear c91
              try clear c96
              try clear c97
              try clear c106
              try clear c111
              try clear c112
              try clear p119
              try clear q119
              try clear hx119
              try clear c121
              try clear c126
              try clear c127
              try clear c136
              try clear c141
              try clear c142
              try clear c148
              try clear c153
              try clear c154
              try clear hcz100_0
              try clear hcz100_1
              try clear hcz100_2
              try clear hcz100_3
              try clear hcz101_0
              try clear hcz101_1
              try clear hcz101_2
              try clear hcz101_3
              try clear hcz107_0
              try clear hcz107_1
              try clear hcz107_2
              try clear hcz107_3
              try clear hcz10_0
              try clear hcz10_1
              try clear hcz10_2
              try clear hcz10_3
              try clear hcz113_0
              try clear hcz113_1
              try clear hcz113_2
              try clear hcz113_3
              try clear hcz115_0
              try clear hcz115_1
              try clear hcz115_2
              try clear hcz115_3
              try clear hcz116_0
              try clear hcz116_1
              try clear hcz116_2
              try clear hcz116_3
              try clear hcz11_0
              try clear hcz11_1
              try clear hcz11_2
              try clear hcz11_3
              try clear hcz122_0
              try clear hcz122_1
              try clear hcz122_2
              try clear hcz122_3
              try clear hcz128_0
              try clear hcz128_1
              try clear hcz128_2
              try clear hcz128_3
              try clear hcz130_0
              try clear hcz130_1
              try clear hcz130_2
              try clear hcz130_3
              try clear hcz131_0
              try clear hcz131_1
              try clear hcz131_2
              try clear hcz131_3
              try clear hcz137_0
              try clear hcz137_1
              try clear hcz137_2
              try clear hcz137_3
              try clear hcz143_0
              try clear hcz143_1
              try clear hcz143_2
              try clear hcz143_3
              try clear hcz149_0
              try clear hcz149_1
              try clear hcz149_2
              try clear hcz149_3
              try clear hcz155_0
              try clear hcz155_1
              try clear hcz155_2
              try clear hcz155_3
              try clear hcz16_0
              try clear hcz16_1
              try clear hcz16_2
              try clear hcz16_3
              try clear hcz18_0
              try clear hcz18_1
              try clear hcz18_2
              try clear hcz18_3
              try clear hcz21_0
              try clear hcz21_1
              try clear hcz21_2
              try clear hcz21_3
              try clear hcz23_0
              try clear hcz23_1
              try clear hcz23_2
              try clear hcz23_3
              try clear hcz56_0
              try clear hcz56_1
              try clear hcz56_2
              try clear hcz56_3
              try clear hcz62_0
              try clear hcz62_1
              try clear hcz62_2
              try clear hcz62_3
              try clear hcz64_0
              try clear hcz64_1
              try clear hcz64_2
              try clear hcz64_3
              try clear hcz65_0
              try clear hcz65_1
              try clear hcz65_2
              try clear hcz65_3
              try clear hcz67_0
              try clear hcz67_1
              try clear hcz67_2
              try clear hcz67_3
              try clear hcz68_0
              try clear hcz68_1
              try clear hcz68_2
              try clear hcz68_3
              try clear hcz74_0
              try clear hcz74_1
              try clear hcz74_2
              try clear hcz74_3
              try clear hcz80_0
              try clear hcz80_1
              try clear hcz80_2
              try clear hcz80_3
              try clear hcz82_0
              try clear hcz82_1
              try clear hcz82_2
              try clear hcz82_3
              try clear hcz83_0
              try clear hcz83_1
              try clear hcz83_2
              try clear hcz83_3
              try clear hcz85_0
              try clear hcz85_1
              try clear hcz85_2
              try clear hcz85_3
              try clear hcz86_0
              try clear hcz86_1
              try clear hcz86_2
              try clear hcz86_3
              try clear hcz92_0
              try clear hcz92_1
              try clear hcz92_2
              try clear hcz92_3
              try clear hcz98_0
              try clear hcz98_1
              try clear hcz98_2
              try clear hcz98_3
              try clear hfz100_0
              try clear hfz100_1
              try clear hfz100_2
              try clear hfz100_3
              try clear hfz101_0
              try clear hfz101_1
              try clear hfz101_2
              try clear hfz101_3
              try clear hfz107_0
              try clear hfz107_1
              try clear hfz107_2
              try clear hfz107_3
              try clear hfz10_0
              try clear hfz10_1
              try clear hfz10_2
              try clear hfz10_3
              try clear hfz113_0
              try clear hfz113_1
              try clear hfz113_2
              try clear hfz113_3
              try clear hfz115_0
              try clear hfz115_1
              try clear hfz115_2
              try clear hfz115_3
              try clear hfz116_0
              try clear hfz116_1
              try clear hfz116_2
              try clear hfz116_3
              try clear hfz11_0
              try clear hfz11_1
              try clear hfz11_2
              try clear hfz11_3
              try clear hfz122_0
              try clear hfz122_1
              try clear hfz122_2
              try clear hfz122_3
              try clear hfz128_0
              try clear hfz128_1
              try clear hfz128_2
              try clear hfz128_3
              try clear hfz130_0
              try clear hfz130_1
              try clear hfz130_2
              try clear hfz130_3
              try clear hfz131_0
              try clear hfz131_1
              try clear hfz131_2
              try clear hfz131_3
              try clear hfz137_0
              try clear hfz137_1
              try clear hfz137_2
              try clear hfz137_3
              try clear hfz143_0
              try clear hfz143_1
              try clear hfz143_2
              try clear hfz143_3
              try clear hfz149_0
              try clear hfz149_1
              try clear hfz149_2
              try clear hfz149_3
              try clear hfz155_0
              try clear hfz155_1
              try clear hfz155_2
              try clear hfz155_3
              try clear hfz16_0
              try clear hfz16_1
              try clear hfz16_2
              try clear hfz16_3
              try clear hfz18_0
              try clear hfz18_1
              try clear hfz18_2
              try clear hfz18_3
              try clear hfz21_0
              try clear hfz21_1
              try clear hfz21_2
              try clear hfz21_3
              try clear hfz23_0
              try clear hfz23_1
              try clear hfz23_2
              try clear hfz23_3
              try clear hfz56_0
              try clear hfz56_1
              try clear hfz56_2
              try clear hfz56_3
              try clear hfz62_0
              try clear hfz62_1
              try clear hfz62_2
              try clear hfz62_3
              try clear hfz64_0
              try clear hfz64_1
              try clear hfz64_2
              try clear hfz64_3
              try clear hfz65_0
              try clear hfz65_1
              try clear hfz65_2
              try clear hfz65_3
              try clear hfz67_0
              try clear hfz67_1
              try clear hfz67_2
              try clear hfz67_3
              try clear hfz68_0
              try clear hfz68_1
              try clear hfz68_2
              try clear hfz68_3
              try clear hfz74_0
              try clear hfz74_1
              try clear hfz74_2
              try clear hfz74_3
              try clear hfz80_0
              try clear hfz80_1
              try clear hfz80_2
              try clear hfz80_3
              try clear hfz82_0
              try clear hfz82_1
              try clear hfz82_2
              try clear hfz82_3
              try clear hfz83_0
              try clear hfz83_1
              try clear hfz83_2
              try clear hfz83_3
              try clear hfz85_0
              try clear hfz85_1
              try clear hfz85_2
              try clear hfz85_3
              try clear hfz86_0
              try clear hfz86_1
              try clear hfz86_2
              try clear hfz86_3
              try clear hfz92_0
              try clear hfz92_1
              try clear hfz92_2
              try clear hfz92_3
              try clear hfz98_0
              try clear hfz98_1
              try clear hfz98_2
              try clear hfz98_3
              try clear hx119_0
              try clear p119
              try clear p2
              try clear p28
              try clear p6
              try clear q119
              try clear q2
              try clear q28
              obtain ⟨kq, HA, HJ19, BK111, HB⟩ := hcut
              cases kq with
              | zero => exact absurd HA.out (by simp [racewaylaw4_DimacsBack.j3])
              | succ kj19 =>
                as_aux_lemma =>
                  have H := HA.out
                  clear HA
                  simp only [racewaylaw4_DimacsBack.j3] at H
                  replace H := Option.bind_eq_some_iff.mp H
                  obtain ⟨⟨t140, t141, t142, t143, t146, t147⟩, A1570, H⟩ := H
                  replace H : (if t147 = 0 then ((dimacs_Print.f t140 t141 t142 t143).bind fun bt152 => ((dimacs_Parse.f bt152.1).bind fun bt154 => ((net_Check.f t140 t141 t142 t143).bind fun t163 => (if t163 = 0 then (if bt152.2 = 0 then (if bt154.2.2.2.2.2 = 0 then ((net_Same.f t140 t141 t142 t143 bt154.1 bt154.2.1 bt154.2.2.1 bt154.2.2.2.1).bind fun t164 => (if t164 = true then (some (t146 == 0)) else (some false))) else (some false)) else (some false)) else (some false))))) else (if t146 ≥ 1 then ((text_Lines.f a1).bind fun t149 => (if t146 ≤ (wrap64 ((t149.length : Int) + 1)) then (if (t143.length : Int) = 0 then (some (t140 == 0)) else (some false)) else (some false))) else (some false))) = some r := H
                  have A157 := Aside0.mk A1570
                  clear A1570
                  by_cases c158 : t147 = 0
                  · rw [if_pos c158] at H
                    have c158b0 : (t147 == 0) = true := beq_iff_eq.mpr c158
                    have c158b1 : (t147 != 0) = false := bne_eq_false_iff_eq.mpr c158
                    clear c158
                    replace H := Option.bind_eq_some_iff.mp H
                    obtain ⟨⟨t152, t153⟩, A1590, H⟩ := H
                    replace H : ((dimacs_Parse.f t152).bind fun bt154 => ((net_Check.f t140 t141 t142 t143).bind fun t163 => (if t163 = 0 then (if t153 = 0 then (if bt154.2.2.2.2.2 = 0 then ((net_Same.f t140 t141 t142 t143 bt154.1 bt154.2.1 bt154.2.2.1 bt154.2.2.2.1).bind fun t164 => (if t164 = true then (some (t146 == 0)) else (some false))) else (some false)) else (some false)) else (some false)))) = some r := H
                    have A159 := Aside0.mk A1590
                    clear A1590
                    replace H := Option.bind_eq_some_iff.mp H
                    obtain ⟨⟨t154, t155, t156, t157, t160, t161⟩, A1600, H⟩ := H
                    replace H : ((net_Check.f t140 t141 t142 t143).bind fun t163 => (if t163 = 0 then (if t153 = 0 then (if t161 = 0 then ((net_Same.f t140 t141 t142 t143 t154 t155 t156 t157).bind fun t164 => (if t164 = true then (some (t146 == 0)) else (some false))) else (some false)) else (some false)) else (some false))) = some r := H
                    have A160 := Aside0.mk A1600
                    clear A1600
                    replace H := Option.bind_eq_some_iff.mp H
                    obtain ⟨t163, A1610, H⟩ := H
                    replace H : (if t163 = 0 then (if t153 = 0 then (if t161 = 0 then ((net_Same.f t140 t141 t142 t143 t154 t155 t156 t157).bind fun t164 => (if t164 = true then (some (t146 == 0)) else (some false))) else (some false)) else (some false)) else (some false)) = some r := H
                    have A161 := Aside0.mk A1610
                    clear A1610
                    by_cases c162 : t163 = 0
                    · rw [if_pos c162] at H
                      have c162b0 : (t163 == 0) = true := beq_iff_eq.mpr c162
                      have c162b1 : (t163 != 0) = false := bne_eq_false_iff_eq.mpr c162
                      clear c162
                      by_cases c163 : t153 = 0
                      · rw [if_pos c163] at H
                        have c163b0 : (t153 == 0) = true := beq_iff_eq.mpr c163
                        have c163b1 : (t153 != 0) = false := bne_eq_false_iff_eq.mpr c163
                        clear c163
                        by_cases c164 : t161 = 0
                        · rw [if_pos c164] at H
                          have c164b0 : (t161 == 0) = true := beq_iff_eq.mpr c164
                          have c164b1 : (t161 != 0) = false := bne_eq_false_iff_eq.mpr c164
                          clear c164
                          replace H := Option.bind_eq_some_iff.mp H
                          obtain ⟨t164, A1650, H⟩ := H
                          replace H : (if t164 = true then (some (t146 == 0)) else (some false)) = some r := H
                          have A165 := Aside0.mk A1650
                          clear A1650
                          by_cases c166 : t164 = true
                          · subst c166
                            have H1 : (some (t146 == 0)) = some r := by rw [if_pos rfl] at H; exact H
                            clear H
                            have H := H1
                            clear H1
                            obtain rfl := Option.some.inj H
                            go_wp2_with (first | ((with_reducible refine gate_callee (f := 13) rfl ?_); refine goesL_ (some 131) rfl rfl Tryz.func13 (by kernel_rfl) rfl #[.string a1] rfl (by (try simp only [List.map_toArray, List.map_cons, List.map_nil]); first | done | rfl | (simp only [List.length_drop, List.length_take]; rfl)) ?_; (with_reducible refine (dimacs_Parse.calls a1 t140 t141 t142 t143 t146 t147 _ A157.out (LaidG.below hG (by repeat (first | (with_reducible first | exact HB.out | apply below_alloc | apply pw_below_drewN | apply below_drew1 | refine below_set ?_ GE111.out) | exact HB.out)))).mono ?_); rintro e w167 ⟨v144, rfl, ho0, hb⟩; refine ⟨_, rfl, ?_⟩; have n0_ := Aside0.mk (Kd.R_lower ho0 (below_size (by repeat (first | (with_reducible first | exact HB.out | apply below_alloc | apply pw_below_drewN | apply below_drew1 | refine below_set ?_ GE111.out) | exact HB.out)))); have n1_ := Aside0.mk (blk_below (g := gb111) (o := .cells #[.int .i64 a0_0, .int .i64 a0_1, .int .i64 a0_2, .slice A0_3 l0_3.length c0_3] 24 (0, 0)) (by (with_reducible repeat (first | refine blk_drewN ?_ _ | refine blk_drew ?_ | refine blk_alloc ?_ _)); exact BK111.out) hb); have n2_ := Aside0.mk (below_step (by repeat (first | (with_reducible first | exact HB.out | apply below_alloc | apply pw_below_drewN | apply below_drew1 | refine below_set ?_ GE111.out) | exact HB.out)) hb); clear BK111; clear HB; have HO145 := n0_; have BK111 := n1_; have HB := n2_; clear n0_ n1_ n2_; (try clear hb); (try clear hb2); (try clear hk); (try clear hi); (try clear ho0)) | ((with_reducible refine gate_dst (N := 20) rfl ?_); (try (refine gate_guard (by rfl) ?_; dsimp only)); refine box_event ?hg (N := 20) ?hd (cs := #[.int .i64 0, .int .i64 0, .int .i64 0, .slice none 0 0]) (t := 24) ?hr ?_; (case hd => rfl); (case hg => rfl); (case hr => first | (go_simp; done) | (go_simp; rfl)); intro gb148 hg w168 hbox hb; have n0_ := Aside0.mk (Kd.R_below (by (with_reducible repeat (first | apply Kd.R_alloc | apply Kd.R_drewN | apply Kd.R_drew)); exact HO145.out) hb); have n1_ := Aside0.mk (blk_below (g := gb111) (o := .cells #[.int .i64 a0_0, .int .i64 a0_1, .int .i64 a0_2, .slice A0_3 l0_3.length c0_3] 24 (0, 0)) (by (with_reducible repeat (first | refine blk_drewN ?_ _ | refine blk_drew ?_ | refine blk_alloc ?_ _)); exact BK111.out) hb); have n2_ := Aside0.mk (below_step (by repeat (first | (with_reducible first | exact HB.out | apply below_alloc | apply pw_below_drewN | apply below_drew1 | refine below_set ?_ GE111.out) | exact HB.out)) hb); have n3_ := Aside0.mk (hbox); have n4_ := Aside0.mk ((by rw [hg]; exact (below_size (by repeat (first | (with_reducible first | exact HB.out | apply below_alloc | apply pw_below_drewN | apply below_drew1 | refine below_set ?_ GE111.out) | exact HB.out))) : w.heap.size ≤ gb148)); have n5_ := Aside0.mk ((by rw [hg]; exact (below_size (by repeat (first | (with_reducible first | exact HB.out | apply below_alloc | apply pw_below_drewN | apply below_drew1 | refine below_set ?_ GE111.out) | exact HB.out))) : w.heap.size ≤ gb148)); have n6_ := Aside0.mk ((by rw [hg]; exact Nat.ne_of_lt (blk_lt (g := gb111) (o := .cells #[.int .i64 a0_0, .int .i64 a0_1, .int .i64 a0_2, .slice A0_3 l0_3.length c0_3] 24 (0, 0)) (by (with_reducible repeat (first | refine blk_drewN ?_ _ | refine blk_drew ?_ | refine blk_alloc ?_ _)); exact BK111.out)) : gb111 ≠ gb148)); have n7_ := Aside0.mk ((by rw [hg]; exact Nat.ne_of_gt (blk_lt (g := gb111) (o := .cells #[.int .i64 a0_0, .int .i64 a0_1, .int .i64 a0_2, .slice A0_3 l0_3.length c0_3] 24 (0, 0)) (by (with_reducible repeat (first | refine blk_drewN ?_ _ | refine blk_drew ?_ | refine blk_alloc ?_ _)); exact BK111.out)) : gb148 ≠ gb111)); clear HO145; clear BK111; clear HB; have HO145 := n0_; have BK111 := n1_; have HB := n2_; have BK148 := n3_; have GW148 := n4_; have GE148 := n5_; have NB111_148 := n6_; have NB148_111 := n7_; clear n0_ n1_ n2_ n3_ n4_ n5_ n6_ n7_; clear hb hbox hg; have hnb169 := NB148_111.out; have hnc169 := NB111_148.out; have hcz170_0 : w168.cell? ⟨gb148, 0, none⟩ = some (.int .i64 0) := (blk_cell BK148.out 0).trans rfl; have hcz170_1 : w168.cell? ⟨gb148, 1, none⟩ = some (.int .i64 0) := (blk_cell BK148.out 1).trans rfl; have hcz170_2 : w168.cell? ⟨gb148, 2, none⟩ = some (.int .i64 0) := (blk_cell BK148.out 2).trans rfl; have hcz170_3 : w168.cell? ⟨gb148, 3, none⟩ = some (.slice none 0 0) := (blk_cell BK148.out 3).trans rfl; have hfz170_0 := blk_frozen BK148.out 0; have hfz170_1 := blk_frozen BK148.out 1; have hfz170_2 := blk_frozen BK148.out 2; have hfz170_3 := blk_frozen BK148.out 3; obtain ⟨Ao171, co171, eo171⟩ := Kd.R_slice HO145.out; subst eo171) | ((with_reducible refine gate_callee (f := 8) rfl ?_); refine goesL_ (some 160) rfl rfl Tryz.func8 (by kernel_rfl) rfl #[.agg #[.int .i64 t140, .int .i64 t141, .int .i64 t142, .slice Ao171 t143.length co171]] rfl (by (try simp only [List.map_toArray, List.map_cons, List.map_nil]); first | done | rfl | (simp only [List.length_drop, List.length_take]; rfl)) ?_; (with_reducible refine (dimacs_Print.calls t140 t141 t142 _ _ t143 t152 t153 _ ?side1 ?side2 A159.out (LaidG.below hG (by repeat (first | (with_reducible first | exact HB.out | apply below_alloc | apply pw_below_drewN | apply below_drew1 | refine below_set ?_ GE111.out | refine below_set ?_ GE148.out) | exact HB.out)))).mono ?_); (case side1 => refine (Kd.R_reads' (e := 44) (base := w.heap.size) (ok := fun k_ => True) (n := t143.length) (c := co171) ?_).2.2; exact (by (with_reducible repeat (first | apply Kd.R_alloc | apply Kd.R_drewN | apply Kd.R_drew)); exact (Kd.R_mono (Kd.R_far (p := ⟨gb148, 3, none⟩) (Kd.R_far (p := ⟨gb148, 2, none⟩) (Kd.R_far (p := ⟨gb148, 1, none⟩) (Kd.R_far (p := ⟨gb148, 0, none⟩) (Kd.R_types HO145.out BK148.out (by decide)) (fun _ hk => hk.2) (.int .i64 t140)) (fun _ hk => hk.2) (.int .i64 t141)) (fun _ hk => hk.2) (.int .i64 t142)) (fun _ hk => hk.2) (.slice Ao171 t143.length co171)) (fun _ h_ => h_.1)))); (case side2 => exact (Kd.R_reads' HO145.out).2.1); rintro e w172 ⟨rfl, hb⟩; refine ⟨_, rfl, ?_⟩; have n0_ := Aside0.mk (Kd.R_below (by (with_reducible repeat (first | apply Kd.R_alloc | apply Kd.R_drewN | apply Kd.R_drew)); exact (Kd.R_mono (Kd.R_far (p := ⟨gb148, 3, none⟩) (Kd.R_far (p := ⟨gb148, 2, none⟩) (Kd.R_far (p := ⟨gb148, 1, none⟩) (Kd.R_far (p := ⟨gb148, 0, none⟩) (Kd.R_types HO145.out BK148.out (by decide)) (fun _ hk => hk.2) (.int .i64 t140)) (fun _ hk => hk.2) (.int .i64 t141)) (fun _ hk => hk.2) (.int .i64 t142)) (fun _ hk => hk.2) (.slice Ao171 t143.length co171)) (fun _ h_ => h_.1))) hb); have n1_ := Aside0.mk (blk_below (g := gb111) (o := .cells #[.int .i64 a0_0, .int .i64 a0_1, .int .i64 a0_2, .slice A0_3 l0_3.length c0_3] 24 (0, 0)) (by (with_reducible repeat (first | refine blk_drewN ?_ _ | refine blk_drew ?_ | refine blk_alloc ?_ _)); refine blk_far ?_ NB111_148.out _; (with_reducible repeat (first | refine blk_drewN ?_ _ | refine blk_drew ?_ | refine blk_alloc ?_ _)); refine blk_far ?_ NB111_148.out _; (with_reducible repeat (first | refine blk_drewN ?_ _ | refine blk_drew ?_ | refine blk_alloc ?_ _)); refine blk_far ?_ NB111_148.out _; (with_reducible repeat (first | refine blk_drewN ?_ _ | refine blk_drew ?_ | refine blk_alloc ?_ _)); refine blk_far ?_ NB111_148.out _; (with_reducible repeat (first | refine blk_drewN ?_ _ | refine blk_drew ?_ | refine blk_alloc ?_ _)); exact BK111.out) hb); have n2_ := Aside0.mk (blk_below (g := gb148) (o := .cells #[.int .i64 t140, .int .i64 t141, .int .i64 t142, .slice Ao171 t143.length co171] 24 (0, 0)) (by (with_reducible repeat (first | refine blk_drewN ?_ _ | refine blk_drew ?_ | refine blk_alloc ?_ _)); refine blk_put (cs := #[.int .i64 t140, .int .i64 t141, .int .i64 t142, .slice none 0 0]) ?_ 3 _ rfl; (with_reducible repeat (first | refine blk_drewN ?_ _ | refine blk_drew ?_ | refine blk_alloc ?_ _)); refine blk_put (cs := #[.int .i64 t140, .int .i64 t141, .int .i64 0, .slice none 0 0]) ?_ 2 _ rfl; (with_reducible repeat (first | refine blk_drewN ?_ _ | refine blk_drew ?_ | refine blk_alloc ?_ _)); refine blk_put (cs := #[.int .i64 t140, .int .i64 0, .int .i64 0, .slice none 0 0]) ?_ 1 _ rfl; (with_reducible repeat (first | refine blk_drewN ?_ _ | refine blk_drew ?_ | refine blk_alloc ?_ _)); refine blk_put (cs := #[.int .i64 0, .int .i64 0, .int .i64 0, .slice none 0 0]) ?_ 0 _ rfl; (with_reducible repeat (first | refine blk_drewN ?_ _ | refine blk_drew ?_ | refine blk_alloc ?_ _)); exact BK148.out) hb); have n3_ := Aside0.mk (below_step (by repeat (first | (with_reducible first | exact HB.out | apply below_alloc | apply pw_below_drewN | apply below_drew1 | refine below_set ?_ GE111.out | refine below_set ?_ GE148.out) | exact HB.out)) hb); clear HO145; clear BK111; clear BK148; clear HB; have HO145 := n0_; have BK111 := n1_; have BK148 := n2_; have HB := n3_; clear n0_ n1_ n2_ n3_; (try clear hb); (try clear hb2); (try clear hk); (try clear hi)) | ((with_reducible refine gate_callee (f := 13) rfl ?_); refine goesL_ (some 165) rfl rfl Tryz.func13 (by kernel_rfl) rfl #[.string t152] rfl (by (try simp only [List.map_toArray, List.map_cons, List.map_nil]); first | done | rfl | (simp only [List.length_drop, List.length_take]; rfl)) ?_; (with_reducible refine (dimacs_Parse.calls t152 t154 t155 t156 t157 t160 t161 _ A160.out (LaidG.below hG (by repeat (first | (with_reducible first | exact HB.out | apply below_alloc | apply pw_below_drewN | apply below_drew1 | refine below_set ?_ GE111.out | refine below_set ?_ GE148.out) | exact HB.out)))).mono ?_); rintro e w173 ⟨v158, rfl, ho0, hb⟩; refine ⟨_, rfl, ?_⟩; have n0_ := Aside0.mk (Kd.R_elder' (by (with_reducible repeat (first | apply Kd.R_alloc | apply Kd.R_drewN | apply Kd.R_drew)); exact HO145.out) (Kd.R_base ho0) hb); have n1_ := Aside0.mk (Kd.R_lower (Kd.R_new' ho0 (Kd.R_lt (by (with_reducible repeat (first | apply Kd.R_alloc | apply Kd.R_drewN | apply Kd.R_drew)); exact HO145.out))) (below_size (by repeat (first | (with_reducible first | exact HB.out | apply below_alloc | apply pw_below_drewN | apply below_drew1 | refine below_set ?_ GE111.out | refine below_set ?_ GE148.out) | exact HB.out)))); have n2_ := Aside0.mk (blk_below (g := gb111) (o := .cells #[.int .i64 a0_0, .int .i64 a0_1, .int .i64 a0_2, .slice A0_3 l0_3.length c0_3] 24 (0, 0)) (by (with_reducible repeat (first | refine blk_drewN ?_ _ | refine blk_drew ?_ | refine blk_alloc ?_ _)); exact BK111.out) hb); have n3_ := Aside0.mk (blk_below (g := gb148) (o := .cells #[.int .i64 t140, .int .i64 t141, .int .i64 t142, .slice Ao171 t143.length co171] 24 (0, 0)) (by (with_reducible repeat (first | refine blk_drewN ?_ _ | refine blk_drew ?_ | refine blk_alloc ?_ _)); exact BK148.out) hb); have n4_ := Aside0.mk (below_step (by repeat (first | (with_reducible first | exact HB.out | apply below_alloc | apply pw_below_drewN | apply below_drew1 | refine below_set ?_ GE111.out | refine below_set ?_ GE148.out) | exact HB.out)) hb); clear HO145; clear BK111; clear BK148; clear HB; have HO145 := n0_; have HO159 := n1_; have BK111 := n2_; have BK148 := n3_; have HB := n4_; clear n0_ n1_ n2_ n3_ n4_; (try clear hb); (try clear hb2); (try clear hk); (try clear hi); (try clear ho0)) | ((with_reducible refine gate_dst (N := 25) rfl ?_); (try (refine gate_guard (by rfl) ?_; dsimp only)); refine box_event ?hg (N := 25) ?hd (cs := #[.int .i64 0, .int .i64 0, .int .i64 0, .slice none 0 0]) (t := 24) ?hr ?_; (case hd => rfl); (case hg => rfl); (case hr => first | (go_simp; done) | (go_simp; rfl)); intro gb162 hg w174 hbox hb; have n0_ := Aside0.mk (Kd.R_below (by (with_reducible repeat (first | apply Kd.R_alloc | apply Kd.R_drewN | apply Kd.R_drew)); exact HO145.out) hb); have n1_ := Aside0.mk (Kd.R_below (by (with_reducible repeat (first | apply Kd.R_alloc | apply Kd.R_drewN | apply Kd.R_drew)); exact HO159.out) hb); have n2_ := Aside0.mk (blk_below (g := gb111) (o := .cells #[.int .i64 a0_0, .int .i64 a0_1, .int .i64 a0_2, .slice A0_3 l0_3.length c0_3] 24 (0, 0)) (by (with_reducible repeat (first | refine blk_drewN ?_ _ | refine blk_drew ?_ | refine blk_alloc ?_ _)); exact BK111.out) hb); have n3_ := Aside0.mk (blk_below (g := gb148) (o := .cells #[.int .i64 t140, .int .i64 t141, .int .i64 t142, .slice Ao171 t143.length co171] 24 (0, 0)) (by (with_reducible repeat (first | refine blk_drewN ?_ _ | refine blk_drew ?_ | refine blk_alloc ?_ _)); exact BK148.out) hb); have n4_ := Aside0.mk (below_step (by repeat (first | (with_reducible first | exact HB.out | apply below_alloc | apply pw_below_drewN | apply below_drew1 | refine below_set ?_ GE111.out | refine below_set ?_ GE148.out) | exact HB.out)) hb); have n5_ := Aside0.mk (hbox); have n6_ := Aside0.mk ((by rw [hg]; exact (below_size (by repeat (first | (with_reducible first | exact HB.out | apply below_alloc | apply pw_below_drewN | apply below_drew1 | refine below_set ?_ GE111.out | refine below_set ?_ GE148.out) | exact HB.out))) : w.heap.size ≤ gb162)); have n7_ := Aside0.mk ((by rw [hg]; exact (below_size (by repeat (first | (with_reducible first | exact HB.out | apply below_alloc | apply pw_below_drewN | apply below_drew1 | refine below_set ?_ GE111.out | refine below_set ?_ GE148.out) | exact HB.out))) : w.heap.size ≤ gb162)); have n8_ := Aside0.mk ((by rw [hg]; exact Nat.ne_of_lt (blk_lt (g := gb111) (o := .cells #[.int .i64 a0_0, .int .i64 a0_1, .int .i64 a0_2, .slice A0_3 l0_3.length c0_3] 24 (0, 0)) (by (with_reducible repeat (first | refine blk_drewN ?_ _ | refine blk_drew ?_ | refine blk_alloc ?_ _)); exact BK111.out)) : gb111 ≠ gb162)); have n9_ := Aside0.mk ((by rw [hg]; exact Nat.ne_of_gt (blk_lt (g := gb111) (o := .cells #[.int .i64 a0_0, .int .i64 a0_1, .int .i64 a0_2, .slice A0_3 l0_3.length c0_3] 24 (0, 0)) (by (with_reducible repeat (first | refine blk_drewN ?_ _ | refine blk_drew ?_ | refine blk_alloc ?_ _)); exact BK111.out)) : gb162 ≠ gb111)); have n10_ := Aside0.mk ((by rw [hg]; exact Nat.ne_of_lt (blk_lt (g := gb148) (o := .cells #[.int .i64 t140, .int .i64 t141, .int .i64 t142, .slice Ao171 t143.length co171] 24 (0, 0)) (by (with_reducible repeat (first | refine blk_drewN ?_ _ | refine blk_drew ?_ | refine blk_alloc ?_ _)); exact BK148.out)) : gb148 ≠ gb162)); have n11_ := Aside0.mk ((by rw [hg]; exact Nat.ne_of_gt (blk_lt (g := gb148) (o := .cells #[.int .i64 t140, .int .i64 t141, .int .i64 t142, .slice Ao171 t143.length co171] 24 (0, 0)) (by (with_reducible repeat (first | refine blk_drewN ?_ _ | refine blk_drew ?_ | refine blk_alloc ?_ _)); exact BK148.out)) : gb162 ≠ gb148)); clear HO145; clear HO159; clear BK111; clear BK148; clear HB; have HO145 := n0_; have HO159 := n1_; have BK111 := n2_; have BK148 := n3_; have HB := n4_; have BK162 := n5_; have GW162 := n6_; have GE162 := n7_; have NB111_162 := n8_; have NB162_111 := n9_; have NB148_162 := n10_; have NB162_148 := n11_; clear n0_ n1_ n2_ n3_ n4_ n5_ n6_ n7_ n8_ n9_ n10_ n11_; clear hb hbox hg; have hnb175 := NB162_111.out; have hnc175 := NB111_162.out; have hnb176 := NB162_148.out; have hnc176 := NB148_162.out; have hcz177_0 : w174.cell? ⟨gb162, 0, none⟩ = some (.int .i64 0) := (blk_cell BK162.out 0).trans rfl; have hcz177_1 : w174.cell? ⟨gb162, 1, none⟩ = some (.int .i64 0) := (blk_cell BK162.out 1).trans rfl; have hcz177_2 : w174.cell? ⟨gb162, 2, none⟩ = some (.int .i64 0) := (blk_cell BK162.out 2).trans rfl; have hcz177_3 : w174.cell? ⟨gb162, 3, none⟩ = some (.slice none 0 0) := (blk_cell BK162.out 3).trans rfl; have hfz177_0 := blk_frozen BK162.out 0; have hfz177_1 := blk_frozen BK162.out 1; have hfz177_2 := blk_frozen BK162.out 2; have hfz177_3 := blk_frozen BK162.out 3; obtain ⟨Ao178, co178, eo178⟩ := Kd.R_slice HO159.out; subst eo178; have hcz179_0 : w174.cell? ⟨gb148, 0, none⟩ = some (.int .i64 t140) := (blk_cell BK148.out 0).trans rfl; have hcz179_1 : w174.cell? ⟨gb148, 1, none⟩ = some (.int .i64 t141) := (blk_cell BK148.out 1).trans rfl; have hcz179_2 : w174.cell? ⟨gb148, 2, none⟩ = some (.int .i64 t142) := (blk_cell BK148.out 2).trans rfl; have hcz179_3 : w174.cell? ⟨gb148, 3, none⟩ = some (.slice Ao171 t143.length co171) := (blk_cell BK148.out 3).trans rfl; have hfz179_0 := blk_frozen BK148.out 0; have hfz179_1 := blk_frozen BK148.out 1; have hfz179_2 := blk_frozen BK148.out 2; have hfz179_3 := blk_frozen BK148.out 3) | ((with_reducible refine gate_callee (f := 14) rfl ?_); refine goesL_ (some 170) rfl rfl Tryz.func14 (by kernel_rfl) rfl #[.agg #[.int .i64 t140, .int .i64 t141, .int .i64 t142, .slice Ao171 t143.length co171]] rfl (by (try simp only [List.map_toArray, List.map_cons, List.map_nil]); first | done | rfl | (simp only [List.length_drop, List.length_take]; rfl)) ?_; (with_reducible refine (net_Check.calls t140 t141 t142 _ _ t143 t163 _ ?side1 ?side2 A161.out).mono ?_); (case side1 => refine (Kd.R_reads' (e := 44) (base := w.heap.size) (ok := fun k_ => (True ∧ some k_ ≠ (.slice Ao178 t157.length co178 : Value).ownBlock)) (n := t143.length) (c := co171) ?_).2.2; exact (by (with_reducible repeat (first | apply Kd.R_alloc | apply Kd.R_drewN | apply Kd.R_drew)); exact (Kd.R_mono (Kd.R_far (p := ⟨gb162, 3, none⟩) (Kd.R_far (p := ⟨gb162, 2, none⟩) (Kd.R_far (p := ⟨gb162, 1, none⟩) (Kd.R_far (p := ⟨gb162, 0, none⟩) (Kd.R_types HO145.out BK162.out (by decide)) (fun _ hk => hk.2) (.int .i64 t154)) (fun _ hk => hk.2) (.int .i64 t155)) (fun _ hk => hk.2) (.int .i64 t156)) (fun _ hk => hk.2) (.slice Ao178 t157.length co178)) (fun _ h_ => h_.1)))); (case side2 => exact (Kd.R_reads' HO145.out).2.1); rintro e w180 ⟨rfl, hb⟩; refine ⟨_, rfl, ?_⟩; have n0_ := Aside0.mk (Kd.R_below (by (with_reducible repeat (first | apply Kd.R_alloc | apply Kd.R_drewN | apply Kd.R_drew)); exact (Kd.R_mono (Kd.R_far (p := ⟨gb162, 3, none⟩) (Kd.R_far (p := ⟨gb162, 2, none⟩) (Kd.R_far (p := ⟨gb162, 1, none⟩) (Kd.R_far (p := ⟨gb162, 0, none⟩) (Kd.R_types HO145.out BK162.out (by decide)) (fun _ hk => hk.2) (.int .i64 t154)) (fun _ hk => hk.2) (.int .i64 t155)) (fun _ hk => hk.2) (.int .i64 t156)) (fun _ hk => hk.2) (.slice Ao178 t157.length co178)) (fun _ h_ => h_.1))) hb); have n1_ := Aside0.mk (Kd.R_below (by (with_reducible repeat (first | apply Kd.R_alloc | apply Kd.R_drewN | apply Kd.R_drew)); exact (Kd.R_mono (Kd.R_far (p := ⟨gb162, 3, none⟩) (Kd.R_far (p := ⟨gb162, 2, none⟩) (Kd.R_far (p := ⟨gb162, 1, none⟩) (Kd.R_far (p := ⟨gb162, 0, none⟩) (Kd.R_types HO159.out BK162.out (by decide)) (fun _ hk => hk.2) (.int .i64 t154)) (fun _ hk => hk.2) (.int .i64 t155)) (fun _ hk => hk.2) (.int .i64 t156)) (fun _ hk => hk.2) (.slice Ao178 t157.length co178)) (fun _ h_ => h_.1))) hb); have n2_ := Aside0.mk (blk_below (g := gb111) (o := .cells #[.int .i64 a0_0, .int .i64 a0_1, .int .i64 a0_2, .slice A0_3 l0_3.length c0_3] 24 (0, 0)) (by (with_reducible repeat (first | refine blk_drewN ?_ _ | refine blk_drew ?_ | refine blk_alloc ?_ _)); refine blk_far ?_ NB111_162.out _; (with_reducible repeat (first | refine blk_drewN ?_ _ | refine blk_drew ?_ | refine blk_alloc ?_ _)); refine blk_far ?_ NB111_162.out _; (with_reducible repeat (first | refine blk_drewN ?_ _ | refine blk_drew ?_ | refine blk_alloc ?_ _)); refine blk_far ?_ NB111_162.out _; (with_reducible repeat (first | refine blk_drewN ?_ _ | refine blk_drew ?_ | refine blk_alloc ?_ _)); refine blk_far ?_ NB111_162.out _; (with_reducible repeat (first | refine blk_drewN ?_ _ | refine blk_drew ?_ | refine blk_alloc ?_ _)); exact BK111.out) hb); have n3_ := Aside0.mk (blk_below (g := gb148) (o := .cells #[.int .i64 t140, .int .i64 t141, .int .i64 t142, .slice Ao171 t143.length co171] 24 (0, 0)) (by (with_reducible repeat (first | refine blk_drewN ?_ _ | refine blk_drew ?_ | refine blk_alloc ?_ _)); refine blk_far ?_ NB148_162.out _; (with_reducible repeat (first | refine blk_drewN ?_ _ | refine blk_drew ?_ | refine blk_alloc ?_ _)); refine blk_far ?_ NB148_162.out _; (with_reducible repeat (first | refine blk_drewN ?_ _ | refine blk_drew ?_ | refine blk_alloc ?_ _)); refine blk_far ?_ NB148_162.out _; (with_reducible repeat (first | refine blk_drewN ?_ _ | refine blk_drew ?_ | refine blk_alloc ?_ _)); refine blk_far ?_ NB148_162.out _; (with_reducible repeat (first | refine blk_drewN ?_ _ | refine blk_drew ?_ | refine blk_alloc ?_ _)); exact BK148.out) hb); have n4_ := Aside0.mk (blk_below (g := gb162) (o := .cells #[.int .i64 t154, .int .i64 t155, .int .i64 t156, .slice Ao178 t157.length co178] 24 (0, 0)) (by (with_reducible repeat (first | refine blk_drewN ?_ _ | refine blk_drew ?_ | refine blk_alloc ?_ _)); refine blk_put (cs := #[.int .i64 t154, .int .i64 t155, .int .i64 t156, .slice none 0 0]) ?_ 3 _ rfl; (with_reducible repeat (first | refine blk_drewN ?_ _ | refine blk_drew ?_ | refine blk_alloc ?_ _)); refine blk_put (cs := #[.int .i64 t154, .int .i64 t155, .int .i64 0, .slice none 0 0]) ?_ 2 _ rfl; (with_reducible repeat (first | refine blk_drewN ?_ _ | refine blk_drew ?_ | refine blk_alloc ?_ _)); refine blk_put (cs := #[.int .i64 t154, .int .i64 0, .int .i64 0, .slice none 0 0]) ?_ 1 _ rfl; (with_reducible repeat (first | refine blk_drewN ?_ _ | refine blk_drew ?_ | refine blk_alloc ?_ _)); refine blk_put (cs := #[.int .i64 0, .int .i64 0, .int .i64 0, .slice none 0 0]) ?_ 0 _ rfl; (with_reducible repeat (first | refine blk_drewN ?_ _ | refine blk_drew ?_ | refine blk_alloc ?_ _)); exact BK162.out) hb); have n5_ := Aside0.mk (below_step (by repeat (first | (with_reducible first | exact HB.out | apply below_alloc | apply pw_below_drewN | apply below_drew1 | refine below_set ?_ GE111.out | refine below_set ?_ GE148.out | refine below_set ?_ GE162.out) | exact HB.out)) hb); clear HO145; clear HO159; clear BK111; clear BK148; clear BK162; clear HB; have HO145 := n0_; have HO159 := n1_; have BK111 := n2_; have BK148 := n3_; have BK162 := n4_; have HB := n5_; clear n0_ n1_ n2_ n3_ n4_ n5_; (try clear hb); (try clear hb2); (try clear hk); (try clear hi); have hcz181_0 : w180.cell? ⟨gb148, 0, none⟩ = some (.int .i64 t140) := (blk_cell BK148.out 0).trans rfl; have hcz181_1 : w180.cell? ⟨gb148, 1, none⟩ = some (.int .i64 t141) := (blk_cell BK148.out 1).trans rfl; have hcz181_2 : w180.cell? ⟨gb148, 2, none⟩ = some (.int .i64 t142) := (blk_cell BK148.out 2).trans rfl; have hcz181_3 : w180.cell? ⟨gb148, 3, none⟩ = some (.slice Ao171 t143.length co171) := (blk_cell BK148.out 3).trans rfl; have hfz181_0 := blk_frozen BK148.out 0; have hfz181_1 := blk_frozen BK148.out 1; have hfz181_2 := blk_frozen BK148.out 2; have hfz181_3 := blk_frozen BK148.out 3; have hcz182_0 : w180.cell? ⟨gb162, 0, none⟩ = some (.int .i64 t154) := (blk_cell BK162.out 0).trans rfl; have hcz182_1 : w180.cell? ⟨gb162, 1, none⟩ = some (.int .i64 t155) := (blk_cell BK162.out 1).trans rfl; have hcz182_2 : w180.cell? ⟨gb162, 2, none⟩ = some (.int .i64 t156) := (blk_cell BK162.out 2).trans rfl; have hcz182_3 : w180.cell? ⟨gb162, 3, none⟩ = some (.slice Ao178 t157.length co178) := (blk_cell BK162.out 3).trans rfl; have hfz182_0 := blk_frozen BK162.out 0; have hfz182_1 := blk_frozen BK162.out 1; have hfz182_2 := blk_frozen BK162.out 2; have hfz182_3 := blk_frozen BK162.out 3) | (go_at_call 15; (with_reducible refine (net_Same.calls t140 t141 t142 _ _ t143 t154 t155 t156 _ _ t157 true _ ?side1 ?side2 ?side3 ?side4 A165.out).mono ?_); (case side1 => repeat (first | exact (Kd.R_reads' HO145.out).2.2 | (with_reducible refine Kd.C_alloc ?_ _) | (with_reducible refine Kd.C_drewN ?_ _) | (with_reducible refine Kd.C_drew ?_))); (case side2 => exact (Kd.R_reads' HO145.out).2.1); (case side3 => repeat (first | exact (Kd.R_reads' HO159.out).2.2 | (with_reducible refine Kd.C_alloc ?_ _) | (with_reducible refine Kd.C_drewN ?_ _) | (with_reducible refine Kd.C_drew ?_))); (case side4 => exact (Kd.R_reads' HO159.out).2.1); rintro e w183 ⟨rfl, hb⟩; have n0_ := Aside0.mk (Kd.R_below (by (with_reducible repeat (first | apply Kd.R_alloc | apply Kd.R_drewN | apply Kd.R_drew)); exact HO145.out) hb); have n1_ := Aside0.mk (Kd.R_below (by (with_reducible repeat (first | apply Kd.R_alloc | apply Kd.R_drewN | apply Kd.R_drew)); exact HO159.out) hb); have n2_ := Aside0.mk (blk_below (g := gb111) (o := .cells #[.int .i64 a0_0, .int .i64 a0_1, .int .i64 a0_2, .slice A0_3 l0_3.length c0_3] 24 (0, 0)) (by (with_reducible repeat (first | refine blk_drewN ?_ _ | refine blk_drew ?_ | refine blk_alloc ?_ _)); exact BK111.out) hb); have n3_ := Aside0.mk (blk_below (g := gb148) (o := .cells #[.int .i64 t140, .int .i64 t141, .int .i64 t142, .slice Ao171 t143.length co171] 24 (0, 0)) (by (with_reducible repeat (first | refine blk_drewN ?_ _ | refine blk_drew ?_ | refine blk_alloc ?_ _)); exact BK148.out) hb); have n4_ := Aside0.mk (blk_below (g := gb162) (o := .cells #[.int .i64 t154, .int .i64 t155, .int .i64 t156, .slice Ao178 t157.length co178] 24 (0, 0)) (by (with_reducible repeat (first | refine blk_drewN ?_ _ | refine blk_drew ?_ | refine blk_alloc ?_ _)); exact BK162.out) hb); have n5_ := Aside0.mk (below_step (by repeat (first | (with_reducible first | exact HB.out | apply below_alloc | apply pw_below_drewN | apply below_drew1 | refine below_set ?_ GE111.out | refine below_set ?_ GE148.out | refine below_set ?_ GE162.out) | exact HB.out)) hb); clear HO145; clear HO159; clear BK111; clear BK148; clear BK162; clear HB; have HO145 := n0_; have HO159 := n1_; have BK111 := n2_; have BK148 := n3_; have BK162 := n4_; have HB := n5_; clear n0_ n1_ n2_ n3_ n4_ n5_; (try clear hb); (try clear hb2); (try clear hk); (try clear hi)))
                            go_ret
                            exact ⟨by first | rfl | (simp [errW_none, errW_some] <;> rfl) | (simp [*, errW_none, errW_some] <;> rfl), by repeat (first | (with_reducible first | exact HB.out | apply below_alloc | apply pw_below_drewN | apply below_drew1 | refine below_set ?_ GE111.out | refine below_set ?_ GE148.out | refine below_set ?_ GE162.out) | exact HB.out)⟩
                          · replace c166 := Bool.eq_false_iff.mpr c166
                            subst c166
                            have H1 : (some false) = some r := by rw [if_neg (show ¬ (false = true) by decide)] at H; exact H
                            clear H
                            have H := H1
                            clear H1
                            exact absurd ((Option.some.inj H).trans HRT.out) (by decide)
                        · rw [if_neg c164] at H
                          have c164b0 : (t161 == 0) = false := beq_eq_false_iff_ne.mpr c164
                          have c164b1 : (t161 != 0) = true := bne_iff_ne.mpr c164
                          exact absurd ((Option.some.inj H).trans HRT.out) (by decide)
                      · rw [if_neg c163] at H
                        have c163b0 : (t153 == 0) = false := beq_eq_false_iff_ne.mpr c163
                        have c163b1 : (t153 != 0) = true := bne_iff_ne.mpr c163
                        exact absurd ((Option.some.inj H).trans HRT.out) (by decide)
                    · rw [if_neg c162] at H
                      have c162b0 : (t163 == 0) = false := beq_eq_false_iff_ne.mpr c162
                      have c162b1 : (t163 != 0) = true := bne_iff_ne.mpr c162
                      exact absurd ((Option.some.inj H).trans HRT.out) (by decide)
                  · rw [if_neg c158] at H
                    have c158b0 : (t147 == 0) = false := beq_eq_false_iff_ne.mpr c158
                    have c158b1 : (t147 != 0) = true := bne_iff_ne.mpr c158
                    by_cases c243 : t146 ≥ 1
                    · rw [if_pos c243] at H
                      have c243b0 : decide (1 ≤ t146) = true := decide_eq_true c243
                      clear c243
                      replace H := Option.bind_eq_some_iff.mp H
                      obtain ⟨t149, A2440, H⟩ := H
                      replace H : (if t146 ≤ (wrap64 ((t149.length : Int) + 1)) then (if (t143.length : Int) = 0 then (some (t140 == 0)) else (some false)) else (some false)) = some r := H
                      have A244 := Aside0.mk A2440
                      clear A2440
                      by_cases c245 : t146 ≤ (wrap64 ((t149.length : Int) + 1))
                      · rw [if_pos c245] at H
                        have c245b0 : decide (t146 ≤ (wrap64 ((t149.length : Int) + 1))) = true := decide_eq_true c245
                        clear c245
                        by_cases c246 : (t143.length : Int) = 0
                        · rw [if_pos c246] at H
                          have c246b0 : ((t143.length : Int) == 0) = true := beq_iff_eq.mpr c246
                          have c246b1 : ((t143.length : Int) != 0) = false := bne_eq_false_iff_eq.mpr c246
                          clear c246
                          obtain rfl := Option.some.inj H
                          go_wp2_with (first | ((with_reducible refine gate_callee (f := 13) rfl ?_); refine goesL_ (some 131) rfl rfl Tryz.func13 (by kernel_rfl) rfl #[.string a1] rfl (by (try simp only [List.map_toArray, List.map_cons, List.map_nil]); first | done | rfl | (simp only [List.length_drop, List.length_take]; rfl)) ?_; (with_reducible refine (dimacs_Parse.calls a1 t140 t141 t142 t143 t146 t147 _ A157.out (LaidG.below hG (by repeat (first | (with_reducible first | exact HB.out | apply below_alloc | apply pw_below_drewN | apply below_drew1 | refine below_set ?_ GE111.out) | exact HB.out)))).mono ?_); rintro e w247 ⟨v144, rfl, ho0, hb⟩; refine ⟨_, rfl, ?_⟩; have n0_ := Aside0.mk (Kd.R_lower ho0 (below_size (by repeat (first | (with_reducible first | exact HB.out | apply below_alloc | apply pw_below_drewN | apply below_drew1 | refine below_set ?_ GE111.out) | exact HB.out)))); have n1_ := Aside0.mk (blk_below (g := gb111) (o := .cells #[.int .i64 a0_0, .int .i64 a0_1, .int .i64 a0_2, .slice A0_3 l0_3.length c0_3] 24 (0, 0)) (by (with_reducible repeat (first | refine blk_drewN ?_ _ | refine blk_drew ?_ | refine blk_alloc ?_ _)); exact BK111.out) hb); have n2_ := Aside0.mk (below_step (by repeat (first | (with_reducible first | exact HB.out | apply below_alloc | apply pw_below_drewN | apply below_drew1 | refine below_set ?_ GE111.out) | exact HB.out)) hb); clear BK111; clear HB; have HO145 := n0_; have BK111 := n1_; have HB := n2_; clear n0_ n1_ n2_; (try clear hb); (try clear hb2); (try clear hk); (try clear hi); (try clear ho0)) | ((with_reducible refine gate_dst (N := 20) rfl ?_); (try (refine gate_guard (by rfl) ?_; dsimp only)); refine box_event ?hg (N := 20) ?hd (cs := #[.int .i64 0, .int .i64 0, .int .i64 0, .slice none 0 0]) (t := 24) ?hr ?_; (case hd => rfl); (case hg => rfl); (case hr => first | (go_simp; done) | (go_simp; rfl)); intro gb148 hg w248 hbox hb; have n0_ := Aside0.mk (Kd.R_below (by (with_reducible repeat (first | apply Kd.R_alloc | apply Kd.R_drewN | apply Kd.R_drew)); exact HO145.out) hb); have n1_ := Aside0.mk (blk_below (g := gb111) (o := .cells #[.int .i64 a0_0, .int .i64 a0_1, .int .i64 a0_2, .slice A0_3 l0_3.length c0_3] 24 (0, 0)) (by (with_reducible repeat (first | refine blk_drewN ?_ _ | refine blk_drew ?_ | refine blk_alloc ?_ _)); exact BK111.out) hb); have n2_ := Aside0.mk (below_step (by repeat (first | (with_reducible first | exact HB.out | apply below_alloc | apply pw_below_drewN | apply below_drew1 | refine below_set ?_ GE111.out) | exact HB.out)) hb); have n3_ := Aside0.mk (hbox); have n4_ := Aside0.mk ((by rw [hg]; exact (below_size (by repeat (first | (with_reducible first | exact HB.out | apply below_alloc | apply pw_below_drewN | apply below_drew1 | refine below_set ?_ GE111.out) | exact HB.out))) : w.heap.size ≤ gb148)); have n5_ := Aside0.mk ((by rw [hg]; exact (below_size (by repeat (first | (with_reducible first | exact HB.out | apply below_alloc | apply pw_below_drewN | apply below_drew1 | refine below_set ?_ GE111.out) | exact HB.out))) : w.heap.size ≤ gb148)); have n6_ := Aside0.mk ((by rw [hg]; exact Nat.ne_of_lt (blk_lt (g := gb111) (o := .cells #[.int .i64 a0_0, .int .i64 a0_1, .int .i64 a0_2, .slice A0_3 l0_3.length c0_3] 24 (0, 0)) (by (with_reducible repeat (first | refine blk_drewN ?_ _ | refine blk_drew ?_ | refine blk_alloc ?_ _)); exact BK111.out)) : gb111 ≠ gb148)); have n7_ := Aside0.mk ((by rw [hg]; exact Nat.ne_of_gt (blk_lt (g := gb111) (o := .cells #[.int .i64 a0_0, .int .i64 a0_1, .int .i64 a0_2, .slice A0_3 l0_3.length c0_3] 24 (0, 0)) (by (with_reducible repeat (first | refine blk_drewN ?_ _ | refine blk_drew ?_ | refine blk_alloc ?_ _)); exact BK111.out)) : gb148 ≠ gb111)); clear HO145; clear BK111; clear HB; have HO145 := n0_; have BK111 := n1_; have HB := n2_; have BK148 := n3_; have GW148 := n4_; have GE148 := n5_; have NB111_148 := n6_; have NB148_111 := n7_; clear n0_ n1_ n2_ n3_ n4_ n5_ n6_ n7_; clear hb hbox hg; have hnb249 := NB148_111.out; have hnc249 := NB111_148.out; have hcz250_0 : w248.cell? ⟨gb148, 0, none⟩ = some (.int .i64 0) := (blk_cell BK148.out 0).trans rfl; have hcz250_1 : w248.cell? ⟨gb148, 1, none⟩ = some (.int .i64 0) := (blk_cell BK148.out 1).trans rfl; have hcz250_2 : w248.cell? ⟨gb148, 2, none⟩ = some (.int .i64 0) := (blk_cell BK148.out 2).trans rfl; have hcz250_3 : w248.cell? ⟨gb148, 3, none⟩ = some (.slice none 0 0) := (blk_cell BK148.out 3).trans rfl; have hfz250_0 := blk_frozen BK148.out 0; have hfz250_1 := blk_frozen BK148.out 1; have hfz250_2 := blk_frozen BK148.out 2; have hfz250_3 := blk_frozen BK148.out 3; obtain ⟨Ao251, co251, eo251⟩ := Kd.R_slice HO145.out; subst eo251) | (go_at_call 11; (with_reducible refine (text_Lines.calls a1 t149 _ A244.out (LaidG.below hG (by repeat (first | (with_reducible first | exact HB.out | apply below_alloc | apply pw_below_drewN | apply below_drew1 | refine below_set ?_ GE111.out | refine below_set ?_ GE148.out) | exact HB.out)))).mono ?_); rintro e w252 ⟨v150, rfl, ho0, hb⟩; have n0_ := Aside0.mk (Kd.R_below (by (with_reducible repeat (first | apply Kd.R_alloc | apply Kd.R_drewN | apply Kd.R_drew)); exact (Kd.R_mono (Kd.R_far (p := ⟨gb148, 3, none⟩) (Kd.R_far (p := ⟨gb148, 2, none⟩) (Kd.R_far (p := ⟨gb148, 1, none⟩) (Kd.R_far (p := ⟨gb148, 0, none⟩) (Kd.R_types HO145.out BK148.out (by decide)) (fun _ hk => hk.2) (.int .i64 t140)) (fun _ hk => hk.2) (.int .i64 t141)) (fun _ hk => hk.2) (.int .i64 t142)) (fun _ hk => hk.2) (.slice Ao251 t143.length co251)) (fun _ h_ => h_.1))) hb); have n1_ := Aside0.mk (Kd.R_lower ho0 (below_size (by repeat (first | (with_reducible first | exact HB.out | apply below_alloc | apply pw_below_drewN | apply below_drew1 | refine below_set ?_ GE111.out | refine below_set ?_ GE148.out) | exact HB.out)))); have n2_ := Aside0.mk (blk_below (g := gb111) (o := .cells #[.int .i64 a0_0, .int .i64 a0_1, .int .i64 a0_2, .slice A0_3 l0_3.length c0_3] 24 (0, 0)) (by (with_reducible repeat (first | refine blk_drewN ?_ _ | refine blk_drew ?_ | refine blk_alloc ?_ _)); refine blk_far ?_ NB111_148.out _; (with_reducible repeat (first | refine blk_drewN ?_ _ | refine blk_drew ?_ | refine blk_alloc ?_ _)); refine blk_far ?_ NB111_148.out _; (with_reducible repeat (first | refine blk_drewN ?_ _ | refine blk_drew ?_ | refine blk_alloc ?_ _)); refine blk_far ?_ NB111_148.out _; (with_reducible repeat (first | refine blk_drewN ?_ _ | refine blk_drew ?_ | refine blk_alloc ?_ _)); refine blk_far ?_ NB111_148.out _; (with_reducible repeat (first | refine blk_drewN ?_ _ | refine blk_drew ?_ | refine blk_alloc ?_ _)); exact BK111.out) hb); have n3_ := Aside0.mk (blk_below (g := gb148) (o := .cells #[.int .i64 t140, .int .i64 t141, .int .i64 t142, .slice Ao251 t143.length co251] 24 (0, 0)) (by (with_reducible repeat (first | refine blk_drewN ?_ _ | refine blk_drew ?_ | refine blk_alloc ?_ _)); refine blk_put (cs := #[.int .i64 t140, .int .i64 t141, .int .i64 t142, .slice none 0 0]) ?_ 3 _ rfl; (with_reducible repeat (first | refine blk_drewN ?_ _ | refine blk_drew ?_ | refine blk_alloc ?_ _)); refine blk_put (cs := #[.int .i64 t140, .int .i64 t141, .int .i64 0, .slice none 0 0]) ?_ 2 _ rfl; (with_reducible repeat (first | refine blk_drewN ?_ _ | refine blk_drew ?_ | refine blk_alloc ?_ _)); refine blk_put (cs := #[.int .i64 t140, .int .i64 0, .int .i64 0, .slice none 0 0]) ?_ 1 _ rfl; (with_reducible repeat (first | refine blk_drewN ?_ _ | refine blk_drew ?_ | refine blk_alloc ?_ _)); refine blk_put (cs := #[.int .i64 0, .int .i64 0, .int .i64 0, .slice none 0 0]) ?_ 0 _ rfl; (with_reducible repeat (first | refine blk_drewN ?_ _ | refine blk_drew ?_ | refine blk_alloc ?_ _)); exact BK148.out) hb); have n4_ := Aside0.mk (below_step (by repeat (first | (with_reducible first | exact HB.out | apply below_alloc | apply pw_below_drewN | apply below_drew1 | refine below_set ?_ GE111.out | refine below_set ?_ GE148.out) | exact HB.out)) hb); clear HO145; clear BK111; clear BK148; clear HB; have HO145 := n0_; have HO151 := n1_; have BK111 := n2_; have BK148 := n3_; have HB := n4_; clear n0_ n1_ n2_ n3_ n4_; (try clear hb); (try clear hb2); (try clear hk); (try clear hi); (try clear ho0); obtain ⟨Ao253, co253, eo253⟩ := Kd.R_slice HO151.out; subst eo253; have hcz254_0 : w252.cell? ⟨gb148, 0, none⟩ = some (.int .i64 t140) := (blk_cell BK148.out 0).trans rfl; have hcz254_1 : w252.cell? ⟨gb148, 1, none⟩ = some (.int .i64 t141) := (blk_cell BK148.out 1).trans rfl; have hcz254_2 : w252.cell? ⟨gb148, 2, none⟩ = some (.int .i64 t142) := (blk_cell BK148.out 2).trans rfl; have hcz254_3 : w252.cell? ⟨gb148, 3, none⟩ = some (.slice Ao251 t143.length co251) := (blk_cell BK148.out 3).trans rfl; have hfz254_0 := blk_frozen BK148.out 0; have hfz254_1 := blk_frozen BK148.out 1; have hfz254_2 := blk_frozen BK148.out 2; have hfz254_3 := blk_frozen BK148.out 3))
                          go_ret
                          exact ⟨by first | rfl | (simp [errW_none, errW_some] <;> rfl) | (simp [*, errW_none, errW_some] <;> rfl), by repeat (first | (with_reducible first | exact HB.out | apply below_alloc | apply pw_below_drewN | apply below_drew1 | refine below_set ?_ GE111.out | refine below_set ?_ GE148.out) | exact HB.out)⟩
                        · rw [if_neg c246] at H
                          have c246b0 : ((t143.length : Int) == 0) = false := beq_eq_false_iff_ne.mpr c246
                          have c246b1 : ((t143.length : Int) != 0) = true := bne_iff_ne.mpr c246
                          have c246b2 : ¬ (t143 = []) := fun h_ => c246 (by rw [h_]; rfl)
                          exact absurd ((Option.some.inj H).trans HRT.out) (by decide)
                      · rw [if_neg c245] at H
                        have c245b0 : decide (t146 ≤ (wrap64 ((t149.length : Int) + 1))) = false := decide_eq_false c245
                        clear c245
                        exact absurd ((Option.some.inj H).trans HRT.out) (by decide)
                    · rw [if_neg c243] at H
                      have c243b0 : decide (1 ≤ t146) = false := decide_eq_false c243
                      clear c243
                      exact absurd ((Option.some.inj H).trans HRT.out) (by decide)

end Go.Proofs.YtgpeppnbgfdaaaaGreatDoor.R
