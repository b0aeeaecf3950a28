/- Functions of the program as plain Lean functions, and that their calls come to these: written by a program of this session. Conditions: what each theorem asks. -/
import Derived.Test.YtgpeppnbgfdaaaaDoorRx0
import Derived.Test.YtgpeppnbgfdaaaaDoorRx1
import Derived.Test.YtgpeppnbgfdaaaaDoorText
import Derived.Test.YtgpeppnbgfdaaaaDoorDimQ
namespace Go.Proofs.YtgpeppnbgfdaaaaDoor.R
open Go.RowKit Go.Proofs.YtgpeppnbgfdaaaaDoor.H Go.Proofs.YtgpeppnbgfdaaaaDoorW.PrintWords Go.Proofs.YtgpeppnbgfdaaaaDoorW.PrintLast Go.Proofs.YtgpeppnbgfdaaaaDoorW.PrintMore
attribute [local go_sem] max2_int min2_int max_two min_two max_three min_three max_four min_four   -- for this text's walks alone
set_option linter.unusedVariables false
set_option linter.unusedSimpArgs false

attribute [local go_sem high] eqA33
/-! ### racewaylaw4_shown: function 4 -/
def racewaylaw4_shown.f  : Option (Bool) := (dimacs_Parse.f (⟨#[112, 32, 109, 97, 120, 32, 50, 32, 49, 10, 110, 32, 49, 32, 115, 10, 110, 32, 50, 32, 116, 10, 97, 32, 49, 32, 50, 32, 53]⟩ : ByteArray)).bind fun bt101 => (if bt101.2.2.2.2.2 = 0 then (if bt101.2.2.2.2.1 = 0 then (if bt101.1 = 2 then (if bt101.2.1 = 1 then (if bt101.2.2.1 = 2 then (if (bt101.2.2.2.1.length : Int) = 1 then (if 0 < (bt101.2.2.2.1.length : Int) then (some (((rd_T33 bt101.2.2.2.1 0).f0) == 1 && (((rd_T33 bt101.2.2.2.1 0).f1) == 2 && (((rd_T33 bt101.2.2.2.1 0).f2) == 5)))) else (none)) else (some false)) else (some false)) else (some false)) else (some false)) else (some false)) else (some false))
set_option maxHeartbeats 8000000 in
set_option maxRecDepth 100000 in
theorem racewaylaw4_shown.calls  (r : Bool) (w : World) (h : racewaylaw4_shown.f  = some r) (hG : LaidG w) :
    Calls Tryd.prog 4 #[] w fun e w' => e = .returned (.bool r) ∧ Below w.heap.size w w' := by
  have hu27 := Tryd.underlying27
  have hu33 := Tryd.underlying33
  have HB := Aside0.mk (Below.refl w.heap.size w)
  have H : ((dimacs_Parse.f (⟨#[112, 32, 109, 97, 120, 32, 50, 32, 49, 10, 110, 32, 49, 32, 115, 10, 110, 32, 50, 32, 116, 10, 97, 32, 49, 32, 50, 32, 53]⟩ : ByteArray)).bind fun bt101 => (if bt101.2.2.2.2.2 = 0 then (if bt101.2.2.2.2.1 = 0 then (if bt101.1 = 2 then (if bt101.2.1 = 1 then (if bt101.2.2.1 = 2 then (if (bt101.2.2.2.1.length : Int) = 1 then (if 0 < (bt101.2.2.2.1.length : Int) then (some (((rd_T33 bt101.2.2.2.1 0).f0) == 1 && (((rd_T33 bt101.2.2.2.1 0).f1) == 2 && (((rd_T33 bt101.2.2.2.1 0).f2) == 5)))) else (none)) else (some false)) else (some false)) else (some false)) else (some false)) else (some false)) else (some false))) = some r := h
  clear h
  replace H := Option.bind_eq_some_iff.mp H
  obtain ⟨⟨t101, t102, t103, t104, t107, t108⟩, A10, H⟩ := H
  replace H : (if t108 = 0 then (if t107 = 0 then (if t101 = 2 then (if t102 = 1 then (if t103 = 2 then (if (t104.length : Int) = 1 then (if 0 < (t104.length : Int) then (some (((rd_T33 t104 0).f0) == 1 && (((rd_T33 t104 0).f1) == 2 && (((rd_T33 t104 0).f2) == 5)))) else (none)) else (some false)) else (some false)) else (some false)) else (some false)) else (some false)) else (some false)) = some r := H
  have A1 := Aside0.mk A10
  clear A10
  by_cases c2 : t108 = 0
  · rw [if_pos c2] at H
    have c2b0 : (t108 == 0) = true := beq_iff_eq.mpr c2
    have c2b1 : (t108 != 0) = false := bne_eq_false_iff_eq.mpr c2
    clear c2
    by_cases c3 : t107 = 0
    · rw [if_pos c3] at H
      have c3b0 : (t107 == 0) = true := beq_iff_eq.mpr c3
      have c3b1 : (t107 != 0) = false := bne_eq_false_iff_eq.mpr c3
      clear c3
      by_cases c4 : t101 = 2
      · rw [if_pos c4] at H
        have c4b0 : (t101 == 2) = true := beq_iff_eq.mpr c4
        have c4b1 : (t101 != 2) = false := bne_eq_false_iff_eq.mpr c4
        clear c4
        by_cases c5 : t102 = 1
        · rw [if_pos c5] at H
          have c5b0 : (t102 == 1) = true := beq_iff_eq.mpr c5
          have c5b1 : (t102 != 1) = false := bne_eq_false_iff_eq.mpr c5
          clear c5
          by_cases c6 : t103 = 2
          · rw [if_pos c6] at H
            have c6b0 : (t103 == 2) = true := beq_iff_eq.mpr c6
            have c6b1 : (t103 != 2) = false := bne_eq_false_iff_eq.mpr c6
            clear c6
            by_cases c7 : (t104.length : Int) = 1
            · rw [if_pos c7] at H
              have c7b0 : ((t104.length : Int) == 1) = true := beq_iff_eq.mpr c7
              have c7b1 : ((t104.length : Int) != 1) = false := bne_eq_false_iff_eq.mpr c7
              clear c7
              by_cases c8 : 0 < (t104.length : Int)
              · rw [if_pos c8] at H
                have c8b0 : decide (0 < (t104.length : Int)) = true := decide_eq_true c8
                have c8b1 : decide (0 < t104.length) = true := decide_eq_true (by omega)
                clear c8
                obtain rfl := Option.some.inj H
                go_enter Tryd.func4, Tryd.ntmps4
                go_wp2_with (first | ((with_reducible refine gate_callee (f := 7) rfl ?_); refine goesL_ (some 5) rfl rfl Tryd.func7 (by kernel_rfl) rfl #[.string (⟨#[112, 32, 109, 97, 120, 32, 50, 32, 49, 10, 110, 32, 49, 32, 115, 10, 110, 32, 50, 32, 116, 10, 97, 32, 49, 32, 50, 32, 53]⟩ : ByteArray)] rfl (by (try simp only [List.map_toArray, List.map_cons, List.map_nil]); first | done | rfl | (simp only [List.length_drop, List.length_take]; rfl)) ?_; (with_reducible refine (dimacs_Parse.calls (⟨#[112, 32, 109, 97, 120, 32, 50, 32, 49, 10, 110, 32, 49, 32, 115, 10, 110, 32, 50, 32, 116, 10, 97, 32, 49, 32, 50, 32, 53]⟩ : ByteArray) t101 t102 t103 t104 t107 t108 _ A1.out (LaidG.below hG (by repeat (first | (with_reducible first | exact HB.out | apply below_alloc | apply pw_below_drewN | apply below_drew1) | exact HB.out)))).mono ?_); rintro e w9 ⟨v105, rfl, ho0, hb⟩; refine ⟨_, rfl, ?_⟩; have n0_ := Aside0.mk (Kd.R_lower ho0 (below_size (by repeat (first | (with_reducible first | exact HB.out | apply below_alloc | apply pw_below_drewN | apply below_drew1) | exact HB.out)))); have n1_ := Aside0.mk (below_step (by repeat (first | (with_reducible first | exact HB.out | apply below_alloc | apply pw_below_drewN | apply below_drew1) | exact HB.out)) hb); clear HB; have HO106 := n0_; have HB := n1_; clear n0_ n1_; (try clear hb); (try clear hb2); (try clear hk); (try clear hi); (try clear ho0)) | ((with_reducible refine gate_dst (N := 1) rfl ?_); (try (refine gate_guard (by rfl) ?_; dsimp only)); refine box_event ?hg (N := 1) ?hd (cs := #[.int .i64 0, .int .i64 0, .int .i64 0, .slice none 0 0]) (t := 27) ?hr ?_; (case hd => rfl); (case hg => rfl); (case hr => first | (go_simp; done) | (go_simp; rfl)); intro gb109 hg w10 hbox hb; have n0_ := Aside0.mk (Kd.R_below (by (with_reducible repeat (first | apply Kd.R_alloc | apply Kd.R_drewN | apply Kd.R_drew)); exact HO106.out) hb); have n1_ := Aside0.mk (below_step (by repeat (first | (with_reducible first | exact HB.out | apply below_alloc | apply pw_below_drewN | apply below_drew1) | exact HB.out)) hb); have n2_ := Aside0.mk (hbox); have n3_ := Aside0.mk ((by rw [hg]; exact (below_size (by repeat (first | (with_reducible first | exact HB.out | apply below_alloc | apply pw_below_drewN | apply below_drew1) | exact HB.out))) : w.heap.size ≤ gb109)); have n4_ := Aside0.mk ((by rw [hg]; exact (below_size (by repeat (first | (with_reducible first | exact HB.out | apply below_alloc | apply pw_below_drewN | apply below_drew1) | exact HB.out))) : w.heap.size ≤ gb109)); clear HO106; clear HB; have HO106 := n0_; have HB := n1_; have BK109 := n2_; have GW109 := n3_; have GE109 := n4_; clear n0_ n1_ n2_ n3_ n4_; clear hb hbox hg; have hcz11_0 : w10.cell? ⟨gb109, 0, none⟩ = some (.int .i64 0) := (blk_cell BK109.out 0).trans rfl; have hcz11_1 : w10.cell? ⟨gb109, 1, none⟩ = some (.int .i64 0) := (blk_cell BK109.out 1).trans rfl; have hcz11_2 : w10.cell? ⟨gb109, 2, none⟩ = some (.int .i64 0) := (blk_cell BK109.out 2).trans rfl; have hcz11_3 : w10.cell? ⟨gb109, 3, none⟩ = some (.slice none 0 0) := (blk_cell BK109.out 3).trans rfl; have hfz11_0 := blk_frozen BK109.out 0; have hfz11_1 := blk_frozen BK109.out 1; have hfz11_2 := blk_frozen BK109.out 2; have hfz11_3 := blk_frozen BK109.out 3; obtain ⟨Ao12, co12, eo12⟩ := Kd.R_slice HO106.out; subst eo12; have p110 : 0 ≤ (0 : Int) := (by omega); have q110 : 0 < (t104.length : Int) := of_decide_eq_true (by first | (with_reducible assumption) | assumption); obtain ⟨ad110, e110, hx110_0, hx110_1, hx110_2⟩ := at_T33 (Kd.R_reads' HO106.out).2.2 0 p110 q110; cases e110; have qi110 : (0 < t104.length) = True := eq_true (by omega); (try rw [show ((0 : Int)).toNat = 0 from rfl] at hx110_0); (try rw [show 0 * 3 = 0 from rfl] at hx110_0); (try rw [Addr.add_zero'] at hx110_0); (try rw [show ((0 : Int)).toNat = 0 from rfl] at hx110_1); (try rw [show 0 * 3 = 0 from rfl] at hx110_1); (try rw [Addr.add_zero'] at hx110_1); (try rw [show ((0 : Int)).toNat = 0 from rfl] at hx110_2); (try rw [show 0 * 3 = 0 from rfl] at hx110_2); (try rw [Addr.add_zero'] at hx110_2); have hn110_0 : ad110.block ≠ gb109 := Kd.own_blk (Kd.R_ne HO106.out BK109.out (by decide)); have hn110_1 : ad110.block ≠ gb109 := Kd.own_blk (Kd.R_ne HO106.out BK109.out (by decide)); have hn110_2 : ad110.block ≠ gb109 := Kd.own_blk (Kd.R_ne HO106.out BK109.out (by decide)); have hn110_3 : ad110.block ≠ gb109 := Kd.own_blk (Kd.R_ne HO106.out BK109.out (by decide)); replace hx110_0 := (cell_far (p := ⟨gb109, 0, none⟩) (by first | (rw [add_block]; exact hn110_0) | (show (Addr.add _ _).block ≠ _; rw [add_block]; exact hn110_0) | exact hn110_0) (.int .i64 t101)).trans hx110_0; replace hx110_1 := (cell_far (p := ⟨gb109, 0, none⟩) (by first | (rw [add_block]; exact hn110_0) | (show (Addr.add _ _).block ≠ _; rw [add_block]; exact hn110_0) | exact hn110_0) (.int .i64 t101)).trans hx110_1; replace hx110_2 := (cell_far (p := ⟨gb109, 0, none⟩) (by first | (rw [add_block]; exact hn110_0) | (show (Addr.add _ _).block ≠ _; rw [add_block]; exact hn110_0) | exact hn110_0) (.int .i64 t101)).trans hx110_2; replace hx110_0 := (cell_far (p := ⟨gb109, 1, none⟩) (by first | (rw [add_block]; exact hn110_1) | (show (Addr.add _ _).block ≠ _; rw [add_block]; exact hn110_1) | exact hn110_1) (.int .i64 t102)).trans hx110_0; replace hx110_1 := (cell_far (p := ⟨gb109, 1, none⟩) (by first | (rw [add_block]; exact hn110_1) | (show (Addr.add _ _).block ≠ _; rw [add_block]; exact hn110_1) | exact hn110_1) (.int .i64 t102)).trans hx110_1; replace hx110_2 := (cell_far (p := ⟨gb109, 1, none⟩) (by first | (rw [add_block]; exact hn110_1) | (show (Addr.add _ _).block ≠ _; rw [add_block]; exact hn110_1) | exact hn110_1) (.int .i64 t102)).trans hx110_2; replace hx110_0 := (cell_far (p := ⟨gb109, 2, none⟩) (by first | (rw [add_block]; exact hn110_2) | (show (Addr.add _ _).block ≠ _; rw [add_block]; exact hn110_2) | exact hn110_2) (.int .i64 t103)).trans hx110_0; replace hx110_1 := (cell_far (p := ⟨gb109, 2, none⟩) (by first | (rw [add_block]; exact hn110_2) | (show (Addr.add _ _).block ≠ _; rw [add_block]; exact hn110_2) | exact hn110_2) (.int .i64 t103)).trans hx110_1; replace hx110_2 := (cell_far (p := ⟨gb109, 2, none⟩) (by first | (rw [add_block]; exact hn110_2) | (show (Addr.add _ _).block ≠ _; rw [add_block]; exact hn110_2) | exact hn110_2) (.int .i64 t103)).trans hx110_2; replace hx110_0 := (cell_far (p := ⟨gb109, 3, none⟩) (by first | (rw [add_block]; exact hn110_3) | (show (Addr.add _ _).block ≠ _; rw [add_block]; exact hn110_3) | exact hn110_3) (.slice (some ad110) t104.length co12)).trans hx110_0; replace hx110_1 := (cell_far (p := ⟨gb109, 3, none⟩) (by first | (rw [add_block]; exact hn110_3) | (show (Addr.add _ _).block ≠ _; rw [add_block]; exact hn110_3) | exact hn110_3) (.slice (some ad110) t104.length co12)).trans hx110_1; replace hx110_2 := (cell_far (p := ⟨gb109, 3, none⟩) (by first | (rw [add_block]; exact hn110_3) | (show (Addr.add _ _).block ≠ _; rw [add_block]; exact hn110_3) | exact hn110_3) (.slice (some ad110) t104.length co12)).trans hx110_2; clear hn110_0; clear hn110_1; clear hn110_2; clear hn110_3; replace p110 := eq_true p110; replace q110 := eq_true q110))
                go_ret
                exact ⟨by first | rfl | (simp [errW_none, errW_some] <;> rfl) | (simp [*, errW_none, errW_some] <;> rfl), by repeat (first | (with_reducible first | exact HB.out | apply below_alloc | apply pw_below_drewN | apply below_drew1 | refine below_set ?_ GE109.out) | exact HB.out)⟩
              · rw [if_neg c8] at H
                exact absurd H (by simp)
            · rw [if_neg c7] at H
              have c7b0 : ((t104.length : Int) == 1) = false := beq_eq_false_iff_ne.mpr c7
              have c7b1 : ((t104.length : Int) != 1) = true := bne_iff_ne.mpr c7
              obtain rfl := Option.some.inj H
              go_enter Tryd.func4, Tryd.ntmps4
              go_wp2_with (first | ((with_reducible refine gate_callee (f := 7) rfl ?_); refine goesL_ (some 5) rfl rfl Tryd.func7 (by kernel_rfl) rfl #[.string (⟨#[112, 32, 109, 97, 120, 32, 50, 32, 49, 10, 110, 32, 49, 32, 115, 10, 110, 32, 50, 32, 116, 10, 97, 32, 49, 32, 50, 32, 53]⟩ : ByteArray)] rfl (by (try simp only [List.map_toArray, List.map_cons, List.map_nil]); first | done | rfl | (simp only [List.length_drop, List.length_take]; rfl)) ?_; (with_reducible refine (dimacs_Parse.calls (⟨#[112, 32, 109, 97, 120, 32, 50, 32, 49, 10, 110, 32, 49, 32, 115, 10, 110, 32, 50, 32, 116, 10, 97, 32, 49, 32, 50, 32, 53]⟩ : ByteArray) t101 t102 t103 t104 t107 t108 _ A1.out (LaidG.below hG (by repeat (first | (with_reducible first | exact HB.out | apply below_alloc | apply pw_below_drewN | apply below_drew1) | exact HB.out)))).mono ?_); rintro e w13 ⟨v105, rfl, ho0, hb⟩; refine ⟨_, rfl, ?_⟩; have n0_ := Aside0.mk (Kd.R_lower ho0 (below_size (by repeat (first | (with_reducible first | exact HB.out | apply below_alloc | apply pw_below_drewN | apply below_drew1) | exact HB.out)))); have n1_ := Aside0.mk (below_step (by repeat (first | (with_reducible first | exact HB.out | apply below_alloc | apply pw_below_drewN | apply below_drew1) | exact HB.out)) hb); clear HB; have HO106 := n0_; have HB := n1_; clear n0_ n1_; (try clear hb); (try clear hb2); (try clear hk); (try clear hi); (try clear ho0)) | ((with_reducible refine gate_dst (N := 1) rfl ?_); (try (refine gate_guard (by rfl) ?_; dsimp only)); refine box_event ?hg (N := 1) ?hd (cs := #[.int .i64 0, .int .i64 0, .int .i64 0, .slice none 0 0]) (t := 27) ?hr ?_; (case hd => rfl); (case hg => rfl); (case hr => first | (go_simp; done) | (go_simp; rfl)); intro gb109 hg w14 hbox hb; have n0_ := Aside0.mk (Kd.R_below (by (with_reducible repeat (first | apply Kd.R_alloc | apply Kd.R_drewN | apply Kd.R_drew)); exact HO106.out) hb); have n1_ := Aside0.mk (below_step (by repeat (first | (with_reducible first | exact HB.out | apply below_alloc | apply pw_below_drewN | apply below_drew1) | exact HB.out)) hb); have n2_ := Aside0.mk (hbox); have n3_ := Aside0.mk ((by rw [hg]; exact (below_size (by repeat (first | (with_reducible first | exact HB.out | apply below_alloc | apply pw_below_drewN | apply below_drew1) | exact HB.out))) : w.heap.size ≤ gb109)); have n4_ := Aside0.mk ((by rw [hg]; exact (below_size (by repeat (first | (with_reducible first | exact HB.out | apply below_alloc | apply pw_below_drewN | apply below_drew1) | exact HB.out))) : w.heap.size ≤ gb109)); clear HO106; clear HB; have HO106 := n0_; have HB := n1_; have BK109 := n2_; have GW109 := n3_; have GE109 := n4_; clear n0_ n1_ n2_ n3_ n4_; clear hb hbox hg; have hcz15_0 : w14.cell? ⟨gb109, 0, none⟩ = some (.int .i64 0) := (blk_cell BK109.out 0).trans rfl; have hcz15_1 : w14.cell? ⟨gb109, 1, none⟩ = some (.int .i64 0) := (blk_cell BK109.out 1).trans rfl; have hcz15_2 : w14.cell? ⟨gb109, 2, none⟩ = some (.int .i64 0) := (blk_cell BK109.out 2).trans rfl; have hcz15_3 : w14.cell? ⟨gb109, 3, none⟩ = some (.slice none 0 0) := (blk_cell BK109.out 3).trans rfl; have hfz15_0 := blk_frozen BK109.out 0; have hfz15_1 := blk_frozen BK109.out 1; have hfz15_2 := blk_frozen BK109.out 2; have hfz15_3 := blk_frozen BK109.out 3; obtain ⟨Ao16, co16, eo16⟩ := Kd.R_slice HO106.out; subst eo16))
              go_ret
              exact ⟨by first | rfl | (simp [errW_none, errW_some] <;> rfl) | (simp [*, errW_none, errW_some] <;> rfl), by repeat (first | (with_reducible first | exact HB.out | apply below_alloc | apply pw_below_drewN | apply below_drew1 | refine below_set ?_ GE109.out) | exact HB.out)⟩
          · rw [if_neg c6] at H
            have c6b0 : (t103 == 2) = false := beq_eq_false_iff_ne.mpr c6
            have c6b1 : (t103 != 2) = true := bne_iff_ne.mpr c6
            obtain rfl := Option.some.inj H
            go_enter Tryd.func4, Tryd.ntmps4
            go_wp2_with (first | ((with_reducible refine gate_callee (f := 7) rfl ?_); refine goesL_ (some 5) rfl rfl Tryd.func7 (by kernel_rfl) rfl #[.string (⟨#[112, 32, 109, 97, 120, 32, 50, 32, 49, 10, 110, 32, 49, 32, 115, 10, 110, 32, 50, 32, 116, 10, 97, 32, 49, 32, 50, 32, 53]⟩ : ByteArray)] rfl (by (try simp only [List.map_toArray, List.map_cons, List.map_nil]); first | done | rfl | (simp only [List.length_drop, List.length_take]; rfl)) ?_; (with_reducible refine (dimacs_Parse.calls (⟨#[112, 32, 109, 97, 120, 32, 50, 32, 49, 10, 110, 32, 49, 32, 115, 10, 110, 32, 50, 32, 116, 10, 97, 32, 49, 32, 50, 32, 53]⟩ : ByteArray) t101 t102 t103 t104 t107 t108 _ A1.out (LaidG.below hG (by repeat (first | (with_reducible first | exact HB.out | apply below_alloc | apply pw_below_drewN | apply below_drew1) | exact HB.out)))).mono ?_); rintro e w17 ⟨v105, rfl, ho0, hb⟩; refine ⟨_, rfl, ?_⟩; have n0_ := Aside0.mk (Kd.R_lower ho0 (below_size (by repeat (first | (with_reducible first | exact HB.out | apply below_alloc | apply pw_below_drewN | apply below_drew1) | exact HB.out)))); have n1_ := Aside0.mk (below_step (by repeat (first | (with_reducible first | exact HB.out | apply below_alloc | apply pw_below_drewN | apply below_drew1) | exact HB.out)) hb); clear HB; have HO106 := n0_; have HB := n1_; clear n0_ n1_; (try clear hb); (try clear hb2); (try clear hk); (try clear hi); (try clear ho0)) | ((with_reducible refine gate_dst (N := 1) rfl ?_); (try (refine gate_guard (by rfl) ?_; dsimp only)); refine box_event ?hg (N := 1) ?hd (cs := #[.int .i64 0, .int .i64 0, .int .i64 0, .slice none 0 0]) (t := 27) ?hr ?_; (case hd => rfl); (case hg => rfl); (case hr => first | (go_simp; done) | (go_simp; rfl)); intro gb109 hg w18 hbox hb; have n0_ := Aside0.mk (Kd.R_below (by (with_reducible repeat (first | apply Kd.R_alloc | apply Kd.R_drewN | apply Kd.R_drew)); exact HO106.out) hb); have n1_ := Aside0.mk (below_step (by repeat (first | (with_reducible first | exact HB.out | apply below_alloc | apply pw_below_drewN | apply below_drew1) | exact HB.out)) hb); have n2_ := Aside0.mk (hbox); have n3_ := Aside0.mk ((by rw [hg]; exact (below_size (by repeat (first | (with_reducible first | exact HB.out | apply below_alloc | apply pw_below_drewN | apply below_drew1) | exact HB.out))) : w.heap.size ≤ gb109)); have n4_ := Aside0.mk ((by rw [hg]; exact (below_size (by repeat (first | (with_reducible first | exact HB.out | apply below_alloc | apply pw_below_drewN | apply below_drew1) | exact HB.out))) : w.heap.size ≤ gb109)); clear HO106; clear HB; have HO106 := n0_; have HB := n1_; have BK109 := n2_; have GW109 := n3_; have GE109 := n4_; clear n0_ n1_ n2_ n3_ n4_; clear hb hbox hg; have hcz19_0 : w18.cell? ⟨gb109, 0, none⟩ = some (.int .i64 0) := (blk_cell BK109.out 0).trans rfl; have hcz19_1 : w18.cell? ⟨gb109, 1, none⟩ = some (.int .i64 0) := (blk_cell BK109.out 1).trans rfl; have hcz19_2 : w18.cell? ⟨gb109, 2, none⟩ = some (.int .i64 0) := (blk_cell BK109.out 2).trans rfl; have hcz19_3 : w18.cell? ⟨gb109, 3, none⟩ = some (.slice none 0 0) := (blk_cell BK109.out 3).trans rfl; have hfz19_0 := blk_frozen BK109.out 0; have hfz19_1 := blk_frozen BK109.out 1; have hfz19_2 := blk_frozen BK109.out 2; have hfz19_3 := blk_frozen BK109.out 3; obtain ⟨Ao20, co20, eo20⟩ := Kd.R_slice HO106.out; subst eo20))
            go_ret
            exact ⟨by first | rfl | (simp [errW_none, errW_some] <;> rfl) | (simp [*, errW_none, errW_some] <;> rfl), by repeat (first | (with_reducible first | exact HB.out | apply below_alloc | apply pw_below_drewN | apply below_drew1 | refine below_set ?_ GE109.out) | exact HB.out)⟩
        · rw [if_neg c5] at H
          have c5b0 : (t102 == 1) = false := beq_eq_false_iff_ne.mpr c5
          have c5b1 : (t102 != 1) = true := bne_iff_ne.mpr c5
          obtain rfl := Option.some.inj H
          go_enter Tryd.func4, Tryd.ntmps4
          go_wp2_with (first | ((with_reducible refine gate_callee (f := 7) rfl ?_); refine goesL_ (some 5) rfl rfl Tryd.func7 (by kernel_rfl) rfl #[.string (⟨#[112, 32, 109, 97, 120, 32, 50, 32, 49, 10, 110, 32, 49, 32, 115, 10, 110, 32, 50, 32, 116, 10, 97, 32, 49, 32, 50, 32, 53]⟩ : ByteArray)] rfl (by (try simp only [List.map_toArray, List.map_cons, List.map_nil]); first | done | rfl | (simp only [List.length_drop, List.length_take]; rfl)) ?_; (with_reducible refine (dimacs_Parse.calls (⟨#[112, 32, 109, 97, 120, 32, 50, 32, 49, 10, 110, 32, 49, 32, 115, 10, 110, 32, 50, 32, 116, 10, 97, 32, 49, 32, 50, 32, 53]⟩ : ByteArray) t101 t102 t103 t104 t107 t108 _ A1.out (LaidG.below hG (by repeat (first | (with_reducible first | exact HB.out | apply below_alloc | apply pw_below_drewN | apply below_drew1) | exact HB.out)))).mono ?_); rintro e w21 ⟨v105, rfl, ho0, hb⟩; refine ⟨_, rfl, ?_⟩; have n0_ := Aside0.mk (Kd.R_lower ho0 (below_size (by repeat (first | (with_reducible first | exact HB.out | apply below_alloc | apply pw_below_drewN | apply below_drew1) | exact HB.out)))); have n1_ := Aside0.mk (below_step (by repeat (first | (with_reducible first | exact HB.out | apply below_alloc | apply pw_below_drewN | apply below_drew1) | exact HB.out)) hb); clear HB; have HO106 := n0_; have HB := n1_; clear n0_ n1_; (try clear hb); (try clear hb2); (try clear hk); (try clear hi); (try clear ho0)) | ((with_reducible refine gate_dst (N := 1) rfl ?_); (try (refine gate_guard (by rfl) ?_; dsimp only)); refine box_event ?hg (N := 1) ?hd (cs := #[.int .i64 0, .int .i64 0, .int .i64 0, .slice none 0 0]) (t := 27) ?hr ?_; (case hd => rfl); (case hg => rfl); (case hr => first | (go_simp; done) | (go_simp; rfl)); intro gb109 hg w22 hbox hb; have n0_ := Aside0.mk (Kd.R_below (by (with_reducible repeat (first | apply Kd.R_alloc | apply Kd.R_drewN | apply Kd.R_drew)); exact HO106.out) hb); have n1_ := Aside0.mk (below_step (by repeat (first | (with_reducible first | exact HB.out | apply below_alloc | apply pw_below_drewN | apply below_drew1) | exact HB.out)) hb); have n2_ := Aside0.mk (hbox); have n3_ := Aside0.mk ((by rw [hg]; exact (below_size (by repeat (first | (with_reducible first | exact HB.out | apply below_alloc | apply pw_below_drewN | apply below_drew1) | exact HB.out))) : w.heap.size ≤ gb109)); have n4_ := Aside0.mk ((by rw [hg]; exact (below_size (by repeat (first | (with_reducible first | exact HB.out | apply below_alloc | apply pw_below_drewN | apply below_drew1) | exact HB.out))) : w.heap.size ≤ gb109)); clear HO106; clear HB; have HO106 := n0_; have HB := n1_; have BK109 := n2_; have GW109 := n3_; have GE109 := n4_; clear n0_ n1_ n2_ n3_ n4_; clear hb hbox hg; have hcz23_0 : w22.cell? ⟨gb109, 0, none⟩ = some (.int .i64 0) := (blk_cell BK109.out 0).trans rfl; have hcz23_1 : w22.cell? ⟨gb109, 1, none⟩ = some (.int .i64 0) := (blk_cell BK109.out 1).trans rfl; have hcz23_2 : w22.cell? ⟨gb109, 2, none⟩ = some (.int .i64 0) := (blk_cell BK109.out 2).trans rfl; have hcz23_3 : w22.cell? ⟨gb109, 3, none⟩ = some (.slice none 0 0) := (blk_cell BK109.out 3).trans rfl; have hfz23_0 := blk_frozen BK109.out 0; have hfz23_1 := blk_frozen BK109.out 1; have hfz23_2 := blk_frozen BK109.out 2; have hfz23_3 := blk_frozen BK109.out 3; obtain ⟨Ao24, co24, eo24⟩ := Kd.R_slice HO106.out; subst eo24))
          go_ret
          exact ⟨by first | rfl | (simp [errW_none, errW_some] <;> rfl) | (simp [*, errW_none, errW_some] <;> rfl), by repeat (first | (with_reducible first | exact HB.out | apply below_alloc | apply pw_below_drewN | apply below_drew1 | refine below_set ?_ GE109.out) | exact HB.out)⟩
      · rw [if_neg c4] at H
        have c4b0 : (t101 == 2) = false := beq_eq_false_iff_ne.mpr c4
        have c4b1 : (t101 != 2) = true := bne_iff_ne.mpr c4
        obtain rfl := Option.some.inj H
        go_enter Tryd.func4, Tryd.ntmps4
        go_wp2_with (first | ((with_reducible refine gate_callee (f := 7) rfl ?_); refine goesL_ (some 5) rfl rfl Tryd.func7 (by kernel_rfl) rfl #[.string (⟨#[112, 32, 109, 97, 120, 32, 50, 32, 49, 10, 110, 32, 49, 32, 115, 10, 110, 32, 50, 32, 116, 10, 97, 32, 49, 32, 50, 32, 53]⟩ : ByteArray)] rfl (by (try simp only [List.map_toArray, List.map_cons, List.map_nil]); first | done | rfl | (simp only [List.length_drop, List.length_take]; rfl)) ?_; (with_reducible refine (dimacs_Parse.calls (⟨#[112, 32, 109, 97, 120, 32, 50, 32, 49, 10, 110, 32, 49, 32, 115, 10, 110, 32, 50, 32, 116, 10, 97, 32, 49, 32, 50, 32, 53]⟩ : ByteArray) t101 t102 t103 t104 t107 t108 _ A1.out (LaidG.below hG (by repeat (first | (with_reducible first | exact HB.out | apply below_alloc | apply pw_below_drewN | apply below_drew1) | exact HB.out)))).mono ?_); rintro e w25 ⟨v105, rfl, ho0, hb⟩; refine ⟨_, rfl, ?_⟩; have n0_ := Aside0.mk (Kd.R_lower ho0 (below_size (by repeat (first | (with_reducible first | exact HB.out | apply below_alloc | apply pw_below_drewN | apply below_drew1) | exact HB.out)))); have n1_ := Aside0.mk (below_step (by repeat (first | (with_reducible first | exact HB.out | apply below_alloc | apply pw_below_drewN | apply below_drew1) | exact HB.out)) hb); clear HB; have HO106 := n0_; have HB := n1_; clear n0_ n1_; (try clear hb); (try clear hb2); (try clear hk); (try clear hi); (try clear ho0)) | ((with_reducible refine gate_dst (N := 1) rfl ?_); (try (refine gate_guard (by rfl) ?_; dsimp only)); refine box_event ?hg (N := 1) ?hd (cs := #[.int .i64 0, .int .i64 0, .int .i64 0, .slice none 0 0]) (t := 27) ?hr ?_; (case hd => rfl); (case hg => rfl); (case hr => first | (go_simp; done) | (go_simp; rfl)); intro gb109 hg w26 hbox hb; have n0_ := Aside0.mk (Kd.R_below (by (with_reducible repeat (first | apply Kd.R_alloc | apply Kd.R_drewN | apply Kd.R_drew)); exact HO106.out) hb); have n1_ := Aside0.mk (below_step (by repeat (first | (with_reducible first | exact HB.out | apply below_alloc | apply pw_below_drewN | apply below_drew1) | exact HB.out)) hb); have n2_ := Aside0.mk (hbox); have n3_ := Aside0.mk ((by rw [hg]; exact (below_size (by repeat (first | (with_reducible first | exact HB.out | apply below_alloc | apply pw_below_drewN | apply below_drew1) | exact HB.out))) : w.heap.size ≤ gb109)); have n4_ := Aside0.mk ((by rw [hg]; exact (below_size (by repeat (first | (with_reducible first | exact HB.out | apply below_alloc | apply pw_below_drewN | apply below_drew1) | exact HB.out))) : w.heap.size ≤ gb109)); clear HO106; clear HB; have HO106 := n0_; have HB := n1_; have BK109 := n2_; have GW109 := n3_; have GE109 := n4_; clear n0_ n1_ n2_ n3_ n4_; clear hb hbox hg; have hcz27_0 : w26.cell? ⟨gb109, 0, none⟩ = some (.int .i64 0) := (blk_cell BK109.out 0).trans rfl; have hcz27_1 : w26.cell? ⟨gb109, 1, none⟩ = some (.int .i64 0) := (blk_cell BK109.out 1).trans rfl; have hcz27_2 : w26.cell? ⟨gb109, 2, none⟩ = some (.int .i64 0) := (blk_cell BK109.out 2).trans rfl; have hcz27_3 : w26.cell? ⟨gb109, 3, none⟩ = some (.slice none 0 0) := (blk_cell BK109.out 3).trans rfl; have hfz27_0 := blk_frozen BK109.out 0; have hfz27_1 := blk_frozen BK109.out 1; have hfz27_2 := blk_frozen BK109.out 2; have hfz27_3 := blk_frozen BK109.out 3; obtain ⟨Ao28, co28, eo28⟩ := Kd.R_slice HO106.out; subst eo28))
        go_ret
        exact ⟨by first | rfl | (simp [errW_none, errW_some] <;> rfl) | (simp [*, errW_none, errW_some] <;> rfl), by repeat (first | (with_reducible first | exact HB.out | apply below_alloc | apply pw_below_drewN | apply below_drew1 | refine below_set ?_ GE109.out) | exact HB.out)⟩
    · rw [if_neg c3] at H
      have c3b0 : (t107 == 0) = false := beq_eq_false_iff_ne.mpr c3
      have c3b1 : (t107 != 0) = true := bne_iff_ne.mpr c3
      obtain rfl := Option.some.inj H
      go_enter Tryd.func4, Tryd.ntmps4
      go_wp2_with (first | ((with_reducible refine gate_callee (f := 7) rfl ?_); refine goesL_ (some 5) rfl rfl Tryd.func7 (by kernel_rfl) rfl #[.string (⟨#[112, 32, 109, 97, 120, 32, 50, 32, 49, 10, 110, 32, 49, 32, 115, 10, 110, 32, 50, 32, 116, 10, 97, 32, 49, 32, 50, 32, 53]⟩ : ByteArray)] rfl (by (try simp only [List.map_toArray, List.map_cons, List.map_nil]); first | done | rfl | (simp only [List.length_drop, List.length_take]; rfl)) ?_; (with_reducible refine (dimacs_Parse.calls (⟨#[112, 32, 109, 97, 120, 32, 50, 32, 49, 10, 110, 32, 49, 32, 115, 10, 110, 32, 50, 32, 116, 10, 97, 32, 49, 32, 50, 32, 53]⟩ : ByteArray) t101 t102 t103 t104 t107 t108 _ A1.out (LaidG.below hG (by repeat (first | (with_reducible first | exact HB.out | apply below_alloc | apply pw_below_drewN | apply below_drew1) | exact HB.out)))).mono ?_); rintro e w29 ⟨v105, rfl, ho0, hb⟩; refine ⟨_, rfl, ?_⟩; have n0_ := Aside0.mk (Kd.R_lower ho0 (below_size (by repeat (first | (with_reducible first | exact HB.out | apply below_alloc | apply pw_below_drewN | apply below_drew1) | exact HB.out)))); have n1_ := Aside0.mk (below_step (by repeat (first | (with_reducible first | exact HB.out | apply below_alloc | apply pw_below_drewN | apply below_drew1) | exact HB.out)) hb); clear HB; have HO106 := n0_; have HB := n1_; clear n0_ n1_; (try clear hb); (try clear hb2); (try clear hk); (try clear hi); (try clear ho0)) | ((with_reducible refine gate_dst (N := 1) rfl ?_); (try (refine gate_guard (by rfl) ?_; dsimp only)); refine box_event ?hg (N := 1) ?hd (cs := #[.int .i64 0, .int .i64 0, .int .i64 0, .slice none 0 0]) (t := 27) ?hr ?_; (case hd => rfl); (case hg => rfl); (case hr => first | (go_simp; done) | (go_simp; rfl)); intro gb109 hg w30 hbox hb; have n0_ := Aside0.mk (Kd.R_below (by (with_reducible repeat (first | apply Kd.R_alloc | apply Kd.R_drewN | apply Kd.R_drew)); exact HO106.out) hb); have n1_ := Aside0.mk (below_step (by repeat (first | (with_reducible first | exact HB.out | apply below_alloc | apply pw_below_drewN | apply below_drew1) | exact HB.out)) hb); have n2_ := Aside0.mk (hbox); have n3_ := Aside0.mk ((by rw [hg]; exact (below_size (by repeat (first | (with_reducible first | exact HB.out | apply below_alloc | apply pw_below_drewN | apply below_drew1) | exact HB.out))) : w.heap.size ≤ gb109)); have n4_ := Aside0.mk ((by rw [hg]; exact (below_size (by repeat (first | (with_reducible first | exact HB.out | apply below_alloc | apply pw_below_drewN | apply below_drew1) | exact HB.out))) : w.heap.size ≤ gb109)); clear HO106; clear HB; have HO106 := n0_; have HB := n1_; have BK109 := n2_; have GW109 := n3_; have GE109 := n4_; clear n0_ n1_ n2_ n3_ n4_; clear hb hbox hg; have hcz31_0 : w30.cell? ⟨gb109, 0, none⟩ = some (.int .i64 0) := (blk_cell BK109.out 0).trans rfl; have hcz31_1 : w30.cell? ⟨gb109, 1, none⟩ = some (.int .i64 0) := (blk_cell BK109.out 1).trans rfl; have hcz31_2 : w30.cell? ⟨gb109, 2, none⟩ = some (.int .i64 0) := (blk_cell BK109.out 2).trans rfl; have hcz31_3 : w30.cell? ⟨gb109, 3, none⟩ = some (.slice none 0 0) := (blk_cell BK109.out 3).trans rfl; have hfz31_0 := blk_frozen BK109.out 0; have hfz31_1 := blk_frozen BK109.out 1; have hfz31_2 := blk_frozen BK109.out 2; have hfz31_3 := blk_frozen BK109.out 3; obtain ⟨Ao32, co32, eo32⟩ := Kd.R_slice HO106.out; subst eo32))
      go_ret
      exact ⟨by first | rfl | (simp [errW_none, errW_some] <;> rfl) | (simp [*, errW_none, errW_some] <;> rfl), by repeat (first | (with_reducible first | exact HB.out | apply below_alloc | apply pw_below_drewN | apply below_drew1 | refine below_set ?_ GE109.out) | exact HB.out)⟩
  · rw [if_neg c2] at H
    have c2b0 : (t108 == 0) = false := beq_eq_false_iff_ne.mpr c2
    have c2b1 : (t108 != 0) = true := bne_iff_ne.mpr c2
    obtain rfl := Option.some.inj H
    go_enter Tryd.func4, Tryd.ntmps4
    go_wp2_with (first | ((with_reducible refine gate_callee (f := 7) rfl ?_); refine goesL_ (some 5) rfl rfl Tryd.func7 (by kernel_rfl) rfl #[.string (⟨#[112, 32, 109, 97, 120, 32, 50, 32, 49, 10, 110, 32, 49, 32, 115, 10, 110, 32, 50, 32, 116, 10, 97, 32, 49, 32, 50, 32, 53]⟩ : ByteArray)] rfl (by (try simp only [List.map_toArray, List.map_cons, List.map_nil]); first | done | rfl | (simp only [List.length_drop, List.length_take]; rfl)) ?_; (with_reducible refine (dimacs_Parse.calls (⟨#[112, 32, 109, 97, 120, 32, 50, 32, 49, 10, 110, 32, 49, 32, 115, 10, 110, 32, 50, 32, 116, 10, 97, 32, 49, 32, 50, 32, 53]⟩ : ByteArray) t101 t102 t103 t104 t107 t108 _ A1.out (LaidG.below hG (by repeat (first | (with_reducible first | exact HB.out | apply below_alloc | apply pw_below_drewN | apply below_drew1) | exact HB.out)))).mono ?_); rintro e w33 ⟨v105, rfl, ho0, hb⟩; refine ⟨_, rfl, ?_⟩; have n0_ := Aside0.mk (Kd.R_lower ho0 (below_size (by repeat (first | (with_reducible first | exact HB.out | apply below_alloc | apply pw_below_drewN | apply below_drew1) | exact HB.out)))); have n1_ := Aside0.mk (below_step (by repeat (first | (with_reducible first | exact HB.out | apply below_alloc | apply pw_below_drewN | apply below_drew1) | exact HB.out)) hb); clear HB; have HO106 := n0_; have HB := n1_; clear n0_ n1_; (try clear hb); (try clear hb2); (try clear hk); (try clear hi); (try clear ho0)) | ((with_reducible refine gate_dst (N := 1) rfl ?_); (try (refine gate_guard (by rfl) ?_; dsimp only)); refine box_event ?hg (N := 1) ?hd (cs := #[.int .i64 0, .int .i64 0, .int .i64 0, .slice none 0 0]) (t := 27) ?hr ?_; (case hd => rfl); (case hg => rfl); (case hr => first | (go_simp; done) | (go_simp; rfl)); intro gb109 hg w34 hbox hb; have n0_ := Aside0.mk (Kd.R_below (by (with_reducible repeat (first | apply Kd.R_alloc | apply Kd.R_drewN | apply Kd.R_drew)); exact HO106.out) hb); have n1_ := Aside0.mk (below_step (by repeat (first | (with_reducible first | exact HB.out | apply below_alloc | apply pw_below_drewN | apply below_drew1) | exact HB.out)) hb); have n2_ := Aside0.mk (hbox); have n3_ := Aside0.mk ((by rw [hg]; exact (below_size (by repeat (first | (with_reducible first | exact HB.out | apply below_alloc | apply pw_below_drewN | apply below_drew1) | exact HB.out))) : w.heap.size ≤ gb109)); have n4_ := Aside0.mk ((by rw [hg]; exact (below_size (by repeat (first | (with_reducible first | exact HB.out | apply below_alloc | apply pw_below_drewN | apply below_drew1) | exact HB.out))) : w.heap.size ≤ gb109)); clear HO106; clear HB; have HO106 := n0_; have HB := n1_; have BK109 := n2_; have GW109 := n3_; have GE109 := n4_; clear n0_ n1_ n2_ n3_ n4_; clear hb hbox hg; have hcz35_0 : w34.cell? ⟨gb109, 0, none⟩ = some (.int .i64 0) := (blk_cell BK109.out 0).trans rfl; have hcz35_1 : w34.cell? ⟨gb109, 1, none⟩ = some (.int .i64 0) := (blk_cell BK109.out 1).trans rfl; have hcz35_2 : w34.cell? ⟨gb109, 2, none⟩ = some (.int .i64 0) := (blk_cell BK109.out 2).trans rfl; have hcz35_3 : w34.cell? ⟨gb109, 3, none⟩ = some (.slice none 0 0) := (blk_cell BK109.out 3).trans rfl; have hfz35_0 := blk_frozen BK109.out 0; have hfz35_1 := blk_frozen BK109.out 1; have hfz35_2 := blk_frozen BK109.out 2; have hfz35_3 := blk_frozen BK109.out 3; obtain ⟨Ao36, co36, eo36⟩ := Kd.R_slice HO106.out; subst eo36))
    go_ret
    exact ⟨by first | rfl | (simp [errW_none, errW_some] <;> rfl) | (simp [*, errW_none, errW_some] <;> rfl), by repeat (first | (with_reducible first | exact HB.out | apply below_alloc | apply pw_below_drewN | apply below_drew1 | refine below_set ?_ GE109.out) | exact HB.out)⟩

/-! ### racewaylaw4_pick: function 5 -/
def racewaylaw4_pick.f (a0 : Int) (a1 : Int) : Option (Int) := if a0 < 0 then (if a1 = 0 then (none) else (some (Int.tmod (wrap64 (-(wrap64 (a0 + 1)))) a1))) else (if a1 = 0 then (none) else (some (Int.tmod a0 a1)))
set_option maxHeartbeats 8000000 in
set_option maxRecDepth 100000 in
theorem racewaylaw4_pick.calls (a0 : Int) (a1 : Int) (r : Int) (w : World) (h : racewaylaw4_pick.f a0 a1 = some r) :
    Calls Tryd.prog 5 #[.int .i64 a0, .int .i64 a1] w fun e w' => e = .returned (.int .i64 r) ∧ Drawn0 w w' := by
  have H : (if a0 < 0 then (if a1 = 0 then (none) else (some (Int.tmod (wrap64 (-(wrap64 (a0 + 1)))) a1))) else (if a1 = 0 then (none) else (some (Int.tmod a0 a1)))) = some r := h
  clear h
  by_cases c3 : a0 < 0
  · rw [if_pos c3] at H
    have c3b0 : decide (a0 < 0) = true := decide_eq_true c3
    clear c3
    by_cases c4 : a1 = 0
    · rw [if_pos c4] at H
      exact absurd H (by simp)
    · rw [if_neg c4] at H
      have c4b0 : (a1 == 0) = false := beq_eq_false_iff_ne.mpr c4
      have c4b1 : (a1 != 0) = true := bne_iff_ne.mpr c4
      obtain rfl := Option.some.inj H
      go_enter Tryd.func5, Tryd.ntmps5
      go_wp2
      go_ret
      exact ⟨by first | rfl | (simp; done) | (simp [*]; done), by repeat (first | exact Drawn0.refl _ | apply Drawn0.step)⟩
  · rw [if_neg c3] at H
    have c3b0 : decide (a0 < 0) = false := decide_eq_false c3
    clear c3
    by_cases c5 : a1 = 0
    · rw [if_pos c5] at H
      exact absurd H (by simp)
    · rw [if_neg c5] at H
      have c5b0 : (a1 == 0) = false := beq_eq_false_iff_ne.mpr c5
      have c5b1 : (a1 != 0) = true := bne_iff_ne.mpr c5
      obtain rfl := Option.some.inj H
      go_enter Tryd.func5, Tryd.ntmps5
      go_wp2
      go_ret
      exact ⟨by first | rfl | (simp; done) | (simp [*]; done), by repeat (first | exact Drawn0.refl _ | apply Drawn0.step)⟩

/-! ### racewaylaw4_DimacsSums: function 3 -/
mutual
def racewaylaw4_DimacsSums.l0 : Nat → Int → Int → ByteArray → Int → Int → Int → Option (Bool)
  | 0, _, _, _, _, _, _ => none
  | k + 1, x6, x7, x8, x9, x10, x11 => if x11 < x6 then (if x8.size + 6 ≤ 9223372036854775807 then ((text_Write.f x7).bind fun t124 => (if (x8 ++ (⟨#[97, 32, 49, 32, 50, 32]⟩ : ByteArray)).size + t124.size ≤ 9223372036854775807 then (if ((x8 ++ (⟨#[97, 32, 49, 32, 50, 32]⟩ : ByteArray)) ++ t124).size + 1 ≤ 9223372036854775807 then (if (wrap64 (x9 - x7)) < 0 then (racewaylaw4_DimacsSums.j1 k x6 x7 (((x8 ++ (⟨#[97, 32, 49, 32, 50, 32]⟩ : ByteArray)) ++ t124) ++ (⟨#[10]⟩ : ByteArray)) (wrap64 (x9 - x7)) x10 x11 (x10 == 0)) else (racewaylaw4_DimacsSums.j1 k x6 x7 (((x8 ++ (⟨#[97, 32, 49, 32, 50, 32]⟩ : ByteArray)) ++ t124) ++ (⟨#[10]⟩ : ByteArray)) (wrap64 (x9 - x7)) x10 x11 false)) else (none)) else (none))) else (none)) else ((dimacs_Parse.f x8).bind fun bt115 => (if x10 = 0 then (if bt115.2.2.2.2.2 = 0 then (if bt115.2.2.2.2.1 = 0 then (some ((bt115.2.2.2.1.length : Int) == x6)) else (some false)) else (some false)) else (if bt115.2.2.2.2.2 = 7 then (if bt115.2.2.2.2.1 = x10 then (some ((bt115.2.2.2.1.length : Int) == 0)) else (some false)) else (some false))))
def racewaylaw4_DimacsSums.j1 : Nat → Int → Int → ByteArray → Int → Int → Int → Bool → Option (Bool)
  | 0, _, _, _, _, _, _, _ => none
  | k + 1, x6, x7, x8, x9, x10, x11, x49 => if x49 = true then (if x9 < 0 then (racewaylaw4_DimacsSums.l0 k x6 x7 x8 (-1) (wrap64 (4 + x11)) (wrap64 (x11 + 1))) else (racewaylaw4_DimacsSums.l0 k x6 x7 x8 x9 (wrap64 (4 + x11)) (wrap64 (x11 + 1)))) else (if x9 < 0 then (racewaylaw4_DimacsSums.l0 k x6 x7 x8 (-1) x10 (wrap64 (x11 + 1))) else (racewaylaw4_DimacsSums.l0 k x6 x7 x8 x9 x10 (wrap64 (x11 + 1))))
end
def racewaylaw4_DimacsSums.f (k : Nat) (a0 : Int) (a1 : Int) : Option (Bool) := (racewaylaw4_shown.f).bind fun t111 => (if t111 = true then ((racewaylaw4_pick.f a0 30).bind fun t112 => ((racewaylaw4_pick.f a1 30).bind fun t113 => (if (wrap64 (2 + t113)) = 0 then (none) else ((text_Write.f (wrap64 (2 + t112))).bind fun t114 => (if 8 + t114.size ≤ 9223372036854775807 then (if ((⟨#[112, 32, 109, 97, 120, 32, 50, 32]⟩ : ByteArray) ++ t114).size + 13 ≤ 9223372036854775807 then (racewaylaw4_DimacsSums.l0 k (wrap64 (2 + t112)) (wrap64 ((wrap64 (Int.tdiv 4611686018427387904 (wrap64 (2 + t113)))) + 1)) (((⟨#[112, 32, 109, 97, 120, 32, 50, 32]⟩ : ByteArray) ++ t114) ++ (⟨#[10, 110, 32, 50, 32, 115, 10, 110, 32, 49, 32, 116, 10]⟩ : ByteArray)) 4611686018427387903 0 0) else (none)) else (none)))))) else (some false))
theorem racewaylaw4_DimacsSums.mono_l : ∀ k, (∀ y0 y1 y2 y3 y4 y5, LeO (racewaylaw4_DimacsSums.l0 k y0 y1 y2 y3 y4 y5) (racewaylaw4_DimacsSums.l0 (k + 1) y0 y1 y2 y3 y4 y5)) ∧ (∀ y0 y1 y2 y3 y4 y5 y6, LeO (racewaylaw4_DimacsSums.j1 k y0 y1 y2 y3 y4 y5 y6) (racewaylaw4_DimacsSums.j1 (k + 1) y0 y1 y2 y3 y4 y5 y6))
  | 0 => ⟨fun _ _ _ _ _ _ r h => by simp [racewaylaw4_DimacsSums.l0] at h, fun _ _ _ _ _ _ _ r h => by simp [racewaylaw4_DimacsSums.j1] at h⟩
  | k + 1 => by
    obtain ⟨ih0, ih1⟩ := racewaylaw4_DimacsSums.mono_l k
    refine ⟨?_, ?_⟩
    · intro y0 y1 y2 y3 y4 y5
      unfold racewaylaw4_DimacsSums.l0
      repeat' first
      | (with_reducible exact ih0 _ _ _ _ _ _)
      | (with_reducible exact ih1 _ _ _ _ _ _ _)
      | (with_reducible exact LeO.refl _)
      | (with_reducible exact LeO.none _)
      | (with_reducible refine LeO.ite ?_ ?_)
      | (with_reducible refine LeO.bind ?_ (fun _ => ?_))
      | exact ih0 _ _ _ _ _ _
      | exact ih1 _ _ _ _ _ _ _
      | exact LeO.none _
      | refine LeO.ite ?_ ?_
      | refine LeO.bind ?_ (fun _ => ?_)
    · intro y0 y1 y2 y3 y4 y5 y6
      unfold racewaylaw4_DimacsSums.j1
      repeat' first
      | (with_reducible exact ih0 _ _ _ _ _ _)
      | (with_reducible exact ih1 _ _ _ _ _ _ _)
      | (with_reducible exact LeO.refl _)
      | (with_reducible exact LeO.none _)
      | (with_reducible refine LeO.ite ?_ ?_)
      | (with_reducible refine LeO.bind ?_ (fun _ => ?_))
      | exact ih0 _ _ _ _ _ _
      | exact ih1 _ _ _ _ _ _ _
      | exact LeO.none _
      | refine LeO.ite ?_ ?_
      | refine LeO.bind ?_ (fun _ => ?_)
theorem racewaylaw4_DimacsSums.mono : ∀ a0 a1 k, LeO (racewaylaw4_DimacsSums.f k a0 a1) (racewaylaw4_DimacsSums.f (k + 1) a0 a1) := by
  intro a0 a1 k
  obtain ⟨ih0, ih1⟩ := racewaylaw4_DimacsSums.mono_l k
  unfold racewaylaw4_DimacsSums.f
  repeat' first
      | (with_reducible exact ih0 _ _ _ _ _ _)
      | (with_reducible exact ih1 _ _ _ _ _ _ _)
      | (with_reducible exact LeO.refl _)
      | (with_reducible exact LeO.none _)
      | (with_reducible refine LeO.ite ?_ ?_)
      | (with_reducible refine LeO.bind ?_ (fun _ => ?_))
      | exact ih0 _ _ _ _ _ _
      | exact ih1 _ _ _ _ _ _ _
      | exact LeO.none _
      | refine LeO.ite ?_ ?_
      | refine LeO.bind ?_ (fun _ => ?_)
set_option maxHeartbeats 8000000 in
set_option maxRecDepth 100000 in
theorem racewaylaw4_DimacsSums.calls (k : Nat) (a0 : Int) (a1 : Int) (r : Bool) (w : World) (h : racewaylaw4_DimacsSums.f k a0 a1 = some r) (hG : LaidG w) :
    Calls Tryd.prog 3 #[.int .i64 a0, .int .i64 a1] w fun e w' => e = .returned (.bool r) ∧ Below w.heap.size w w' := by
  have hu27 := Tryd.underlying27
  have HB := Aside0.mk (Below.refl w.heap.size w)
  have H : ((racewaylaw4_shown.f).bind fun t111 => (if t111 = true then ((racewaylaw4_pick.f a0 30).bind fun t112 => ((racewaylaw4_pick.f a1 30).bind fun t113 => (if (wrap64 (2 + t113)) = 0 then (none) else ((text_Write.f (wrap64 (2 + t112))).bind fun t114 => (if 8 + t114.size ≤ 9223372036854775807 then (if ((⟨#[112, 32, 109, 97, 120, 32, 50, 32]⟩ : ByteArray) ++ t114).size + 13 ≤ 9223372036854775807 then (racewaylaw4_DimacsSums.l0 k (wrap64 (2 + t112)) (wrap64 ((wrap64 (Int.tdiv 4611686018427387904 (wrap64 (2 + t113)))) + 1)) (((⟨#[112, 32, 109, 97, 120, 32, 50, 32]⟩ : ByteArray) ++ t114) ++ (⟨#[10, 110, 32, 50, 32, 115, 10, 110, 32, 49, 32, 116, 10]⟩ : ByteArray)) 4611686018427387903 0 0) else (none)) else (none)))))) else (some false))) = some r := h
  clear h
  replace H := Option.bind_eq_some_iff.mp H
  obtain ⟨t111, A30, H⟩ := H
  replace H : (if t111 = true then ((racewaylaw4_pick.f a0 30).bind fun t112 => ((racewaylaw4_pick.f a1 30).bind fun t113 => (if (wrap64 (2 + t113)) = 0 then (none) else ((text_Write.f (wrap64 (2 + t112))).bind fun t114 => (if 8 + t114.size ≤ 9223372036854775807 then (if ((⟨#[112, 32, 109, 97, 120, 32, 50, 32]⟩ : ByteArray) ++ t114).size + 13 ≤ 9223372036854775807 then (racewaylaw4_DimacsSums.l0 k (wrap64 (2 + t112)) (wrap64 ((wrap64 (Int.tdiv 4611686018427387904 (wrap64 (2 + t113)))) + 1)) (((⟨#[112, 32, 109, 97, 120, 32, 50, 32]⟩ : ByteArray) ++ t114) ++ (⟨#[10, 110, 32, 50, 32, 115, 10, 110, 32, 49, 32, 116, 10]⟩ : ByteArray)) 4611686018427387903 0 0) else (none)) else (none)))))) else (some false)) = some r := H
  have A3 := Aside0.mk A30
  clear A30
  by_cases c4 : t111 = true
  · subst c4
    have H1 : ((racewaylaw4_pick.f a0 30).bind fun t112 => ((racewaylaw4_pick.f a1 30).bind fun t113 => (if (wrap64 (2 + t113)) = 0 then (none) else ((text_Write.f (wrap64 (2 + t112))).bind fun t114 => (if 8 + t114.size ≤ 9223372036854775807 then (if ((⟨#[112, 32, 109, 97, 120, 32, 50, 32]⟩ : ByteArray) ++ t114).size + 13 ≤ 9223372036854775807 then (racewaylaw4_DimacsSums.l0 k (wrap64 (2 + t112)) (wrap64 ((wrap64 (Int.tdiv 4611686018427387904 (wrap64 (2 + t113)))) + 1)) (((⟨#[112, 32, 109, 97, 120, 32, 50, 32]⟩ : ByteArray) ++ t114) ++ (⟨#[10, 110, 32, 50, 32, 115, 10, 110, 32, 49, 32, 116, 10]⟩ : ByteArray)) 4611686018427387903 0 0) else (none)) else (none)))))) = some r := by rw [if_pos rfl] at H; exact H
    clear H
    have H := H1
    clear H1
    replace H := Option.bind_eq_some_iff.mp H
    obtain ⟨t112, A50, H⟩ := H
    replace H : ((racewaylaw4_pick.f a1 30).bind fun t113 => (if (wrap64 (2 + t113)) = 0 then (none) else ((text_Write.f (wrap64 (2 + t112))).bind fun t114 => (if 8 + t114.size ≤ 9223372036854775807 then (if ((⟨#[112, 32, 109, 97, 120, 32, 50, 32]⟩ : ByteArray) ++ t114).size + 13 ≤ 9223372036854775807 then (racewaylaw4_DimacsSums.l0 k (wrap64 (2 + t112)) (wrap64 ((wrap64 (Int.tdiv 4611686018427387904 (wrap64 (2 + t113)))) + 1)) (((⟨#[112, 32, 109, 97, 120, 32, 50, 32]⟩ : ByteArray) ++ t114) ++ (⟨#[10, 110, 32, 50, 32, 115, 10, 110, 32, 49, 32, 116, 10]⟩ : ByteArray)) 4611686018427387903 0 0) else (none)) else (none))))) = some r := H
    have A5 := Aside0.mk A50
    clear A50
    replace H := Option.bind_eq_some_iff.mp H
    obtain ⟨t113, A60, H⟩ := H
    replace H : (if (wrap64 (2 + t113)) = 0 then (none) else ((text_Write.f (wrap64 (2 + t112))).bind fun t114 => (if 8 + t114.size ≤ 9223372036854775807 then (if ((⟨#[112, 32, 109, 97, 120, 32, 50, 32]⟩ : ByteArray) ++ t114).size + 13 ≤ 9223372036854775807 then (racewaylaw4_DimacsSums.l0 k (wrap64 (2 + t112)) (wrap64 ((wrap64 (Int.tdiv 4611686018427387904 (wrap64 (2 + t113)))) + 1)) (((⟨#[112, 32, 109, 97, 120, 32, 50, 32]⟩ : ByteArray) ++ t114) ++ (⟨#[10, 110, 32, 50, 32, 115, 10, 110, 32, 49, 32, 116, 10]⟩ : ByteArray)) 4611686018427387903 0 0) else (none)) else (none)))) = some r := H
    have A6 := Aside0.mk A60
    clear A60
    by_cases c7 : (wrap64 (2 + t113)) = 0
    · rw [if_pos c7] at H
      exact absurd H (by simp)
    · rw [if_neg c7] at H
      have c7b0 : ((wrap64 (2 + t113)) == 0) = false := beq_eq_false_iff_ne.mpr c7
      have c7b1 : ((wrap64 (2 + t113)) != 0) = true := bne_iff_ne.mpr c7
      replace H := Option.bind_eq_some_iff.mp H
      obtain ⟨t114, A80, H⟩ := H
      replace H : (if 8 + t114.size ≤ 9223372036854775807 then (if ((⟨#[112, 32, 109, 97, 120, 32, 50, 32]⟩ : ByteArray) ++ t114).size + 13 ≤ 9223372036854775807 then (racewaylaw4_DimacsSums.l0 k (wrap64 (2 + t112)) (wrap64 ((wrap64 (Int.tdiv 4611686018427387904 (wrap64 (2 + t113)))) + 1)) (((⟨#[112, 32, 109, 97, 120, 32, 50, 32]⟩ : ByteArray) ++ t114) ++ (⟨#[10, 110, 32, 50, 32, 115, 10, 110, 32, 49, 32, 116, 10]⟩ : ByteArray)) 4611686018427387903 0 0) else (none)) else (none)) = some r := H
      have A8 := Aside0.mk A80
      clear A80
      by_cases c9 : 8 + t114.size ≤ 9223372036854775807
      · rw [if_pos c9] at H
        have c9b0 := eq_true c9
        have c9b1 : decide (8 + t114.size ≤ 9223372036854775807) = true := decide_eq_true c9
        try have c9b2 : (9223372036854775807 < 8 + t114.size) = False := eq_false (Nat.not_lt.2 c9)
        by_cases c10 : ((⟨#[112, 32, 109, 97, 120, 32, 50, 32]⟩ : ByteArray) ++ t114).size + 13 ≤ 9223372036854775807
        · rw [if_pos c10] at H
          have c10b0 := eq_true c10
          have c10b1 : decide (((⟨#[112, 32, 109, 97, 120, 32, 50, 32]⟩ : ByteArray) ++ t114).size + 13 ≤ 9223372036854775807) = true := decide_eq_true c10
          try have c10b2 : (9223372036854775807 < ((⟨#[112, 32, 109, 97, 120, 32, 50, 32]⟩ : ByteArray) ++ t114).size + 13) = False := eq_false (Nat.not_lt.2 c10)
          (try (have c10b3 := c10; simp only [ByteArray.size_append] at c10b3; have c10b4 := eq_true c10b3))
          (try (have c10b5 : (9223372036854775807 < 8 + t114.size + 13) = False := eq_false (Nat.not_lt.2 c10b3); have c10b6 : (8 + t114.size + 13 ≤ 9223372036854775807) = True := eq_true c10b3))
          have H' := Aside0.mk H
          clear H
          go_enter Tryd.func3, Tryd.ntmps3
          go_wp2_with (first | ((with_reducible refine gate_callee (f := 4) rfl ?_); refine goesL_ (some 15) rfl rfl Tryd.func4 (by kernel_rfl) rfl #[] rfl (by (try simp only [List.map_toArray, List.map_cons, List.map_nil]); first | done | rfl | (simp only [List.length_drop, List.length_take]; rfl)) ?_; (with_reducible refine (racewaylaw4_shown.calls  true _ A3.out (LaidG.below hG (by repeat (first | (with_reducible first | exact HB.out | apply below_alloc | apply pw_below_drewN | apply below_drew1) | exact HB.out)))).mono ?_); rintro e w11 ⟨rfl, hb⟩; refine ⟨_, rfl, ?_⟩; have n0_ := Aside0.mk (below_step (by repeat (first | (with_reducible first | exact HB.out | apply below_alloc | apply pw_below_drewN | apply below_drew1) | exact HB.out)) hb); clear HB; have HB := n0_; clear n0_; (try clear hb); (try clear hb2); (try clear hk); (try clear hi)) | ((with_reducible refine gate_callee (f := 5) rfl ?_); refine goesL_ (some 19) rfl rfl Tryd.func5 (by kernel_rfl) rfl #[.int .i64 a0, .int .i64 30] rfl (by (try simp only [List.map_toArray, List.map_cons, List.map_nil]); first | done | rfl | (simp only [List.length_drop, List.length_take]; rfl)) ?_; (with_reducible refine (racewaylaw4_pick.calls a0 30 t112 _ A5.out).mono ?_); rintro e w' ⟨rfl, ⟨nd, rfl⟩⟩; refine ⟨_, rfl, ?_⟩) | ((with_reducible refine gate_callee (f := 5) rfl ?_); refine goesL_ (some 22) rfl rfl Tryd.func5 (by kernel_rfl) rfl #[.int .i64 a1, .int .i64 30] rfl (by (try simp only [List.map_toArray, List.map_cons, List.map_nil]); first | done | rfl | (simp only [List.length_drop, List.length_take]; rfl)) ?_; (with_reducible refine (racewaylaw4_pick.calls a1 30 t113 _ A6.out).mono ?_); rintro e w' ⟨rfl, ⟨nd, rfl⟩⟩; refine ⟨_, rfl, ?_⟩) | ((with_reducible refine gate_callee (f := 6) rfl ?_); refine goesL_ (some 27) rfl rfl Tryd.func6 (by kernel_rfl) rfl #[.int .i64 (wrap64 (2 + t112))] rfl (by (try simp only [List.map_toArray, List.map_cons, List.map_nil]); first | done | rfl | (simp only [List.length_drop, List.length_take]; rfl)) ?_; (with_reducible refine (text_Write.calls (wrap64 (2 + t112)) t114 _ A8.out (LaidG.below hG (by repeat (first | (with_reducible first | exact HB.out | apply below_alloc | apply pw_below_drewN | apply below_drew1) | exact HB.out)))).mono ?_); rintro e w12 ⟨rfl, hb⟩; refine ⟨_, rfl, ?_⟩; have n0_ := Aside0.mk (below_step (by repeat (first | (with_reducible first | exact HB.out | apply below_alloc | apply pw_below_drewN | apply below_drew1) | exact HB.out)) hb); clear HB; have HB := n0_; clear n0_; (try clear hb); (try clear hb2); (try clear hk); (try clear hi)))
          go_loopg [8, 9, 10, 11] k (fun kq v8 v9 v10 v11 w' => ∃ (x8_1 : ByteArray) (x9_1 : Int) (x10_1 : Int) (x11_1 : Int), v8 = .string x8_1 ∧ v9 = .int .i64 x9_1 ∧ v10 = .int .i64 x10_1 ∧ v11 = .int .i64 x11_1 ∧ Aside0 (racewaylaw4_DimacsSums.l0 kq (wrap64 (2 + t112)) (wrap64 ((wrap64 (Int.tdiv 4611686018427387904 (wrap64 (2 + t113)))) + 1)) x8_1 x9_1 x10_1 x11_1 = some r) ∧ Aside0 (kq ≤ k) ∧ Aside0 (Below w.heap.size w w'))
          case atStart => exact ⟨(((⟨#[112, 32, 109, 97, 120, 32, 50, 32]⟩ : ByteArray) ++ t114) ++ (⟨#[10, 110, 32, 50, 32, 115, 10, 110, 32, 49, 32, 116, 10]⟩ : ByteArray)), (4611686018427387903), (0), (0), (by first | rfl | (simp; done) | (simp [*]; done)), (by first | rfl | (simp; done) | (simp [*]; done)), (by first | rfl | (simp; done) | (simp [*]; done)), (by first | rfl | (simp; done) | (simp [*]; done)), H', ⟨Nat.le_refl _⟩, ⟨by repeat (first | (with_reducible first | exact HB.out | apply below_alloc | apply pw_below_drewN | apply below_drew1) | exact HB.out)⟩⟩
          case round =>
            clear H'
            try clear c1
            try clear p2
            try clear c3
            try clear c4
            try clear c5
            try clear c6
            try clear p6
            try clear c7
            try clear c7b0
            try clear c7b1
            try clear c9
            try clear c9b0
            try clear c9b1
            try clear c9b2
            try clear c10
            try clear c10b0
            try clear c10b1
            try clear c10b2
            obtain ⟨x8_1, x9_1, x10_1, x11_1, rfl, rfl, rfl, rfl, HA, HK1, HB⟩ := hrel
            cases gk with
            | zero => exact absurd HA.out (by simp [racewaylaw4_DimacsSums.l0])
            | succ k1 =>
              as_aux_lemma =>
                have H := HA.out
                clear HA
                simp only [racewaylaw4_DimacsSums.l0] at H
                by_cases c13 : x11_1 < (wrap64 (2 + t112))
                · rw [if_pos c13] at H
                  have c13b0 : decide (x11_1 < (wrap64 (2 + t112))) = true := decide_eq_true c13
                  clear c13
                  by_cases c14 : x8_1.size + 6 ≤ 9223372036854775807
                  · rw [if_pos c14] at H
                    have c14b0 := eq_true c14
                    have c14b1 : decide (x8_1.size + 6 ≤ 9223372036854775807) = true := decide_eq_true c14
                    try have c14b2 : (9223372036854775807 < x8_1.size + 6) = False := eq_false (Nat.not_lt.2 c14)
                    replace H := Option.bind_eq_some_iff.mp H
                    obtain ⟨t124, A150, H⟩ := H
                    replace H : (if (x8_1 ++ (⟨#[97, 32, 49, 32, 50, 32]⟩ : ByteArray)).size + t124.size ≤ 9223372036854775807 then (if ((x8_1 ++ (⟨#[97, 32, 49, 32, 50, 32]⟩ : ByteArray)) ++ t124).size + 1 ≤ 9223372036854775807 then (if (wrap64 (x9_1 - (wrap64 ((wrap64 (Int.tdiv 4611686018427387904 (wrap64 (2 + t113)))) + 1)))) < 0 then (racewaylaw4_DimacsSums.j1 k1 (wrap64 (2 + t112)) (wrap64 ((wrap64 (Int.tdiv 4611686018427387904 (wrap64 (2 + t113)))) + 1)) (((x8_1 ++ (⟨#[97, 32, 49, 32, 50, 32]⟩ : ByteArray)) ++ t124) ++ (⟨#[10]⟩ : ByteArray)) (wrap64 (x9_1 - (wrap64 ((wrap64 (Int.tdiv 4611686018427387904 (wrap64 (2 + t113)))) + 1)))) x10_1 x11_1 (x10_1 == 0)) else (racewaylaw4_DimacsSums.j1 k1 (wrap64 (2 + t112)) (wrap64 ((wrap64 (Int.tdiv 4611686018427387904 (wrap64 (2 + t113)))) + 1)) (((x8_1 ++ (⟨#[97, 32, 49, 32, 50, 32]⟩ : ByteArray)) ++ t124) ++ (⟨#[10]⟩ : ByteArray)) (wrap64 (x9_1 - (wrap64 ((wrap64 (Int.tdiv 4611686018427387904 (wrap64 (2 + t113)))) + 1)))) x10_1 x11_1 false)) else (none)) else (none)) = some r := H
                    have A15 := Aside0.mk A150
                    clear A150
                    by_cases c16 : (x8_1 ++ (⟨#[97, 32, 49, 32, 50, 32]⟩ : ByteArray)).size + t124.size ≤ 9223372036854775807
                    · rw [if_pos c16] at H
                      have c16b0 := eq_true c16
                      have c16b1 : decide ((x8_1 ++ (⟨#[97, 32, 49, 32, 50, 32]⟩ : ByteArray)).size + t124.size ≤ 9223372036854775807) = true := decide_eq_true c16
                      try have c16b2 : (9223372036854775807 < (x8_1 ++ (⟨#[97, 32, 49, 32, 50, 32]⟩ : ByteArray)).size + t124.size) = False := eq_false (Nat.not_lt.2 c16)
                      (try (have c16b3 := c16; simp only [ByteArray.size_append] at c16b3; have c16b4 := eq_true c16b3))
                      (try (have c16b5 : (9223372036854775807 < x8_1.size + 6 + t124.size) = False := eq_false (Nat.not_lt.2 c16b3); have c16b6 : (x8_1.size + 6 + t124.size ≤ 9223372036854775807) = True := eq_true c16b3))
                      by_cases c17 : ((x8_1 ++ (⟨#[97, 32, 49, 32, 50, 32]⟩ : ByteArray)) ++ t124).size + 1 ≤ 9223372036854775807
                      · rw [if_pos c17] at H
                        have c17b0 := eq_true c17
                        have c17b1 : decide (((x8_1 ++ (⟨#[97, 32, 49, 32, 50, 32]⟩ : ByteArray)) ++ t124).size + 1 ≤ 9223372036854775807) = true := decide_eq_true c17
                        try have c17b2 : (9223372036854775807 < ((x8_1 ++ (⟨#[97, 32, 49, 32, 50, 32]⟩ : ByteArray)) ++ t124).size + 1) = False := eq_false (Nat.not_lt.2 c17)
                        (try (have c17b3 := c17; simp only [ByteArray.size_append] at c17b3; have c17b4 := eq_true c17b3))
                        (try (have c17b5 : (9223372036854775807 < x8_1.size + 6 + t124.size + 1) = False := eq_false (Nat.not_lt.2 c17b3); have c17b6 : (x8_1.size + 6 + t124.size + 1 ≤ 9223372036854775807) = True := eq_true c17b3))
                        have HC18 := Aside0.mk H
                        clear H
                        go_upto_region 14 with (first | ((with_reducible refine gate_callee (f := 6) rfl ?_); refine goesL_ (some 38) rfl rfl Tryd.func6 (by kernel_rfl) rfl #[.int .i64 (wrap64 ((wrap64 (Int.tdiv 4611686018427387904 (wrap64 (2 + t113)))) + 1))] rfl (by (try simp only [List.map_toArray, List.map_cons, List.map_nil]); first | done | rfl | (simp only [List.length_drop, List.length_take]; rfl)) ?_; (with_reducible refine (text_Write.calls (wrap64 ((wrap64 (Int.tdiv 4611686018427387904 (wrap64 (2 + t113)))) + 1)) t124 _ A15.out (LaidG.below hG (by repeat (first | (with_reducible first | exact HB.out | apply below_alloc | apply pw_below_drewN | apply below_drew1) | exact HB.out)))).mono ?_); rintro e w19 ⟨rfl, hb⟩; refine ⟨_, rfl, ?_⟩; have n0_ := Aside0.mk (below_step (by repeat (first | (with_reducible first | exact HB.out | apply below_alloc | apply pw_below_drewN | apply below_drew1) | exact HB.out)) hb); clear HB; have HB := n0_; clear n0_; (try clear hb); (try clear hb2); (try clear hk); (try clear hi)))
                        (try simp only [Act.put, List.setIfInBounds_toArray, List.set_cons_zero, List.set_cons_succ])
                        go_cut [49] (fun v49 wc => ∃ (kq : Nat) (x49_17 : Bool), v49 = .bool x49_17 ∧ Aside0 (racewaylaw4_DimacsSums.j1 kq (wrap64 (2 + t112)) (wrap64 ((wrap64 (Int.tdiv 4611686018427387904 (wrap64 (2 + t113)))) + 1)) (((x8_1 ++ (⟨#[97, 32, 49, 32, 50, 32]⟩ : ByteArray)) ++ t124) ++ (⟨#[10]⟩ : ByteArray)) (wrap64 (x9_1 - (wrap64 ((wrap64 (Int.tdiv 4611686018427387904 (wrap64 (2 + t113)))) + 1)))) x10_1 x11_1 x49_17 = some r) ∧ Aside0 (kq ≤ k1) ∧ Aside0 (Below w.heap.size w wc))
                        case first =>
                          have H := HC18.out
                          clear HC18
                          by_cases c20 : (wrap64 (x9_1 - (wrap64 ((wrap64 (Int.tdiv 4611686018427387904 (wrap64 (2 + t113)))) + 1)))) < 0
                          · rw [if_pos c20] at H
                            have c20b0 : decide ((wrap64 (x9_1 - (wrap64 ((wrap64 (Int.tdiv 4611686018427387904 (wrap64 (2 + t113)))) + 1)))) < 0) = true := decide_eq_true c20
                            clear c20
                            (first | rw [c20b0] | (simp only [i64_w, i32_w]; rw [c20b0]) | skip)
                            have H' := Aside0.mk H
                            clear H
                            go_wp2
                            go_meet
                            case rel => exact ⟨_, ((x10_1 == 0)), (by first | rfl | (simp; done) | (simp [*]; done)), H', ⟨by have := HK1.out; first | omega | exact Nat.le_refl _⟩, ⟨by repeat (first | (with_reducible first | exact HB.out | apply below_alloc | apply pw_below_drewN | apply below_drew1) | exact HB.out)⟩⟩
                          · rw [if_neg c20] at H
                            have c20b0 : decide ((wrap64 (x9_1 - (wrap64 ((wrap64 (Int.tdiv 4611686018427387904 (wrap64 (2 + t113)))) + 1)))) < 0) = false := decide_eq_false c20
                            clear c20
                            (first | rw [c20b0] | (simp only [i64_w, i32_w]; rw [c20b0]) | skip)
                            have H' := Aside0.mk H
                            clear H
                            go_wp2
                            go_meet
                            case rel => exact ⟨_, (false), (by first | rfl | (simp; done) | (simp [*]; done)), H', ⟨by have := HK1.out; first | omega | exact Nat.le_refl _⟩, ⟨by repeat (first | (with_reducible first | exact HB.out | apply below_alloc | apply pw_below_drewN | apply below_drew1) | exact HB.out)⟩⟩
                        case rest =>
                          clear HC18
                          try clear c1
                          try clear c2
                          try clear p2
                          try clear c3
                          try clear c4
                          try clear c5
                          try clear c6
                          try clear p6
                          try clear c7
                          try clear c7b0
                          try clear c7b1
                          try clear c9
                          try clear c9b0
                          try clear c9b1
                          try clear c9b2
                          try clear c10
                          try clear c10b0
                          try clear c10b1
                          try clear c10b2
                          try clear c13
                          try clear c13b0
                          try clear c14
                          try clear c14b0
                          try clear c14b1
                          try clear c14b2
                          try clear c16
                          try clear c16b0
                          try clear c16b1
                          try clear c16b2
                          try clear c17
                          try clear c17b0
                          try clear c17b1
                          try clear c17b2
                          try clear c20
                          try clear c20b0
                          try clear p2
                          try clear p6
                          obtain ⟨kq, x49_17, rfl, HA, HJ17, HB⟩ := hcut
                          cases kq with
                          | zero => exact absurd HA.out (by simp [racewaylaw4_DimacsSums.j1])
                          | succ kj17 =>
                            as_aux_lemma =>
                              have H := HA.out
                              clear HA
                              simp only [racewaylaw4_DimacsSums.j1] at H
                              by_cases c21 : x49_17 = true
                              · subst c21
                                have H1 : (if (wrap64 (x9_1 - (wrap64 ((wrap64 (Int.tdiv 4611686018427387904 (wrap64 (2 + t113)))) + 1)))) < 0 then (racewaylaw4_DimacsSums.l0 kj17 (wrap64 (2 + t112)) (wrap64 ((wrap64 (Int.tdiv 4611686018427387904 (wrap64 (2 + t113)))) + 1)) (((x8_1 ++ (⟨#[97, 32, 49, 32, 50, 32]⟩ : ByteArray)) ++ t124) ++ (⟨#[10]⟩ : ByteArray)) (-1) (wrap64 (4 + x11_1)) (wrap64 (x11_1 + 1))) else (racewaylaw4_DimacsSums.l0 kj17 (wrap64 (2 + t112)) (wrap64 ((wrap64 (Int.tdiv 4611686018427387904 (wrap64 (2 + t113)))) + 1)) (((x8_1 ++ (⟨#[97, 32, 49, 32, 50, 32]⟩ : ByteArray)) ++ t124) ++ (⟨#[10]⟩ : ByteArray)) (wrap64 (x9_1 - (wrap64 ((wrap64 (Int.tdiv 4611686018427387904 (wrap64 (2 + t113)))) + 1)))) (wrap64 (4 + x11_1)) (wrap64 (x11_1 + 1)))) = some r := by rw [if_pos rfl] at H; exact H
                                clear H
                                have H := H1
                                clear H1
                                by_cases c22 : (wrap64 (x9_1 - (wrap64 ((wrap64 (Int.tdiv 4611686018427387904 (wrap64 (2 + t113)))) + 1)))) < 0
                                · rw [if_pos c22] at H
                                  have c22b0 : decide ((wrap64 (x9_1 - (wrap64 ((wrap64 (Int.tdiv 4611686018427387904 (wrap64 (2 + t113)))) + 1)))) < 0) = true := decide_eq_true c22
                                  clear c22
                                  have H' := Aside0.mk H
                                  clear H
                                  go_wp2
                                  go_roundg kj17
                                  case measure => have := HK1.out; have := HJ17.out; omega
                                  case rel => exact ⟨((((x8_1 ++ (⟨#[97, 32, 49, 32, 50, 32]⟩ : ByteArray)) ++ t124) ++ (⟨#[10]⟩ : ByteArray))), ((-1)), (wrap64 (4 + x11_1)), (wrap64 (x11_1 + 1)), (by first | rfl | (simp; done) | (simp [*]; done)), (by first | rfl | (simp; done) | (simp [*]; done)), (by first | rfl | (simp; done) | (simp [*]; done)), (by first | rfl | (simp; done) | (simp [*]; done)), H', ⟨by have := HK1.out; have := HJ17.out; omega⟩, ⟨by repeat (first | (with_reducible first | exact HB.out | apply below_alloc | apply pw_below_drewN | apply below_drew1) | exact HB.out)⟩⟩
                                · rw [if_neg c22] at H
                                  have c22b0 : decide ((wrap64 (x9_1 - (wrap64 ((wrap64 (Int.tdiv 4611686018427387904 (wrap64 (2 + t113)))) + 1)))) < 0) = false := decide_eq_false c22
                                  clear c22
                                  have H' := Aside0.mk H
                                  clear H
                                  go_wp2
                                  go_roundg kj17
                                  case measure => have := HK1.out; have := HJ17.out; omega
                                  case rel => exact ⟨((((x8_1 ++ (⟨#[97, 32, 49, 32, 50, 32]⟩ : ByteArray)) ++ t124) ++ (⟨#[10]⟩ : ByteArray))), ((wrap64 (x9_1 - (wrap64 ((wrap64 (Int.tdiv 4611686018427387904 (wrap64 (2 + t113)))) + 1))))), (wrap64 (4 + x11_1)), (wrap64 (x11_1 + 1)), (by first | rfl | (simp; done) | (simp [*]; done)), (by first | rfl | (simp; done) | (simp [*]; done)), (by first | rfl | (simp; done) | (simp [*]; done)), (by first | rfl | (simp; done) | (simp [*]; done)), H', ⟨by have := HK1.out; have := HJ17.out; omega⟩, ⟨by repeat (first | (with_reducible first | exact HB.out | apply below_alloc | apply pw_below_drewN | apply below_drew1) | exact HB.out)⟩⟩
                              · replace c21 := Bool.eq_false_iff.mpr c21
                                subst c21
                                have H1 : (if (wrap64 (x9_1 - (wrap64 ((wrap64 (Int.tdiv 4611686018427387904 (wrap64 (2 + t113)))) + 1)))) < 0 then (racewaylaw4_DimacsSums.l0 kj17 (wrap64 (2 + t112)) (wrap64 ((wrap64 (Int.tdiv 4611686018427387904 (wrap64 (2 + t113)))) + 1)) (((x8_1 ++ (⟨#[97, 32, 49, 32, 50, 32]⟩ : ByteArray)) ++ t124) ++ (⟨#[10]⟩ : ByteArray)) (-1) x10_1 (wrap64 (x11_1 + 1))) else (racewaylaw4_DimacsSums.l0 kj17 (wrap64 (2 + t112)) (wrap64 ((wrap64 (Int.tdiv 4611686018427387904 (wrap64 (2 + t113)))) + 1)) (((x8_1 ++ (⟨#[97, 32, 49, 32, 50, 32]⟩ : ByteArray)) ++ t124) ++ (⟨#[10]⟩ : ByteArray)) (wrap64 (x9_1 - (wrap64 ((wrap64 (Int.tdiv 4611686018427387904 (wrap64 (2 + t113)))) + 1)))) x10_1 (wrap64 (x11_1 + 1)))) = some r := by rw [if_neg (show ¬ (false = true) by decide)] at H; exact H
                                clear H
                                have H := H1
                                clear H1
                                by_cases c23 : (wrap64 (x9_1 - (wrap64 ((wrap64 (Int.tdiv 4611686018427387904 (wrap64 (2 + t113)))) + 1)))) < 0
                                · rw [if_pos c23] at H
                                  have c23b0 : decide ((wrap64 (x9_1 - (wrap64 ((wrap64 (Int.tdiv 4611686018427387904 (wrap64 (2 + t113)))) + 1)))) < 0) = true := decide_eq_true c23
                                  clear c23
                                  have H' := Aside0.mk H
                                  clear H
                                  go_wp2
                                  go_roundg kj17
                                  case measure => have := HK1.out; have := HJ17.out; omega
                                  case rel => exact ⟨((((x8_1 ++ (⟨#[97, 32, 49, 32, 50, 32]⟩ : ByteArray)) ++ t124) ++ (⟨#[10]⟩ : ByteArray))), ((-1)), (x10_1), (wrap64 (x11_1 + 1)), (by first | rfl | (simp; done) | (simp [*]; done)), (by first | rfl | (simp; done) | (simp [*]; done)), (by first | rfl | (simp; done) | (simp [*]; done)), (by first | rfl | (simp; done) | (simp [*]; done)), H', ⟨by have := HK1.out; have := HJ17.out; omega⟩, ⟨by repeat (first | (with_reducible first | exact HB.out | apply below_alloc | apply pw_below_drewN | apply below_drew1) | exact HB.out)⟩⟩
                                · rw [if_neg c23] at H
                                  have c23b0 : decide ((wrap64 (x9_1 - (wrap64 ((wrap64 (Int.tdiv 4611686018427387904 (wrap64 (2 + t113)))) + 1)))) < 0) = false := decide_eq_false c23
                                  clear c23
                                  have H' := Aside0.mk H
                                  clear H
                                  go_wp2
                                  go_roundg kj17
                                  case measure => have := HK1.out; have := HJ17.out; omega
                                  case rel => exact ⟨((((x8_1 ++ (⟨#[97, 32, 49, 32, 50, 32]⟩ : ByteArray)) ++ t124) ++ (⟨#[10]⟩ : ByteArray))), ((wrap64 (x9_1 - (wrap64 ((wrap64 (Int.tdiv 4611686018427387904 (wrap64 (2 + t113)))) + 1))))), (x10_1), (wrap64 (x11_1 + 1)), (by first | rfl | (simp; done) | (simp [*]; done)), (by first | rfl | (simp; done) | (simp [*]; done)), (by first | rfl | (simp; done) | (simp [*]; done)), (by first | rfl | (simp; done) | (simp [*]; done)), H', ⟨by have := HK1.out; have := HJ17.out; omega⟩, ⟨by repeat (first | (with_reducible first | exact HB.out | apply below_alloc | apply pw_below_drewN | apply below_drew1) | exact HB.out)⟩⟩
                      · rw [if_neg c17] at H
                        exact absurd H (by simp)
                    · rw [if_neg c16] at H
                      exact absurd H (by simp)
                  · rw [if_neg c14] at H
                    exact absurd H (by simp)
                · rw [if_neg c13] at H
                  have c13b0 : decide (x11_1 < (wrap64 (2 + t112))) = false := decide_eq_false c13
                  clear c13
                  replace H := Option.bind_eq_some_iff.mp H
                  obtain ⟨⟨t115, t116, t117, t118, t121, t122⟩, A240, H⟩ := H
                  replace H : (if x10_1 = 0 then (if t122 = 0 then (if t121 = 0 then (some ((t118.length : Int) == (wrap64 (2 + t112)))) else (some false)) else (some false)) else (if t122 = 7 then (if t121 = x10_1 then (some ((t118.length : Int) == 0)) else (some false)) else (some false))) = some r := H
                  have A24 := Aside0.mk A240
                  clear A240
                  by_cases c25 : x10_1 = 0
                  · rw [if_pos c25] at H
                    have c25b0 : (x10_1 == 0) = true := beq_iff_eq.mpr c25
                    have c25b1 : (x10_1 != 0) = false := bne_eq_false_iff_eq.mpr c25
                    clear c25
                    by_cases c26 : t122 = 0
                    · rw [if_pos c26] at H
                      have c26b0 : (t122 == 0) = true := beq_iff_eq.mpr c26
                      have c26b1 : (t122 != 0) = false := bne_eq_false_iff_eq.mpr c26
                      clear c26
                      by_cases c27 : t121 = 0
                      · rw [if_pos c27] at H
                        have c27b0 : (t121 == 0) = true := beq_iff_eq.mpr c27
                        have c27b1 : (t121 != 0) = false := bne_eq_false_iff_eq.mpr c27
                        clear c27
                        obtain rfl := Option.some.inj H
                        go_wp2_with (first | ((with_reducible refine gate_callee (f := 7) rfl ?_); refine goesL_ (some 56) rfl rfl Tryd.func7 (by kernel_rfl) rfl #[.string x8_1] rfl (by (try simp only [List.map_toArray, List.map_cons, List.map_nil]); first | done | rfl | (simp only [List.length_drop, List.length_take]; rfl)) ?_; (with_reducible refine (dimacs_Parse.calls x8_1 t115 t116 t117 t118 t121 t122 _ A24.out (LaidG.below hG (by repeat (first | (with_reducible first | exact HB.out | apply below_alloc | apply pw_below_drewN | apply below_drew1) | exact HB.out)))).mono ?_); rintro e w28 ⟨v119, rfl, ho0, hb⟩; refine ⟨_, rfl, ?_⟩; have n0_ := Aside0.mk (Kd.R_lower ho0 (below_size (by repeat (first | (with_reducible first | exact HB.out | apply below_alloc | apply pw_below_drewN | apply below_drew1) | exact HB.out)))); have n1_ := Aside0.mk (below_step (by repeat (first | (with_reducible first | exact HB.out | apply below_alloc | apply pw_below_drewN | apply below_drew1) | exact HB.out)) hb); clear HB; have HO120 := n0_; have HB := n1_; clear n0_ n1_; (try clear hb); (try clear hb2); (try clear hk); (try clear hi); (try clear ho0)) | ((with_reducible refine gate_dst (N := 12) rfl ?_); (try (refine gate_guard (by rfl) ?_; dsimp only)); refine box_event ?hg (N := 12) ?hd (cs := #[.int .i64 0, .int .i64 0, .int .i64 0, .slice none 0 0]) (t := 27) ?hr ?_; (case hd => rfl); (case hg => rfl); (case hr => first | (go_simp; done) | (go_simp; rfl)); intro gb123 hg w29 hbox hb; have n0_ := Aside0.mk (Kd.R_below (by (with_reducible repeat (first | apply Kd.R_alloc | apply Kd.R_drewN | apply Kd.R_drew)); exact HO120.out) hb); have n1_ := Aside0.mk (below_step (by repeat (first | (with_reducible first | exact HB.out | apply below_alloc | apply pw_below_drewN | apply below_drew1) | exact HB.out)) hb); have n2_ := Aside0.mk (hbox); have n3_ := Aside0.mk ((by rw [hg]; exact (below_size (by repeat (first | (with_reducible first | exact HB.out | apply below_alloc | apply pw_below_drewN | apply below_drew1) | exact HB.out))) : w.heap.size ≤ gb123)); have n4_ := Aside0.mk ((by rw [hg]; exact (below_size (by repeat (first | (with_reducible first | exact HB.out | apply below_alloc | apply pw_below_drewN | apply below_drew1) | exact HB.out))) : w.heap.size ≤ gb123)); clear HO120; clear HB; have HO120 := n0_; have HB := n1_; have BK123 := n2_; have GW123 := n3_; have GE123 := n4_; clear n0_ n1_ n2_ n3_ n4_; clear hb hbox hg; have hcz30_0 : w29.cell? ⟨gb123, 0, none⟩ = some (.int .i64 0) := (blk_cell BK123.out 0).trans rfl; have hcz30_1 : w29.cell? ⟨gb123, 1, none⟩ = some (.int .i64 0) := (blk_cell BK123.out 1).trans rfl; have hcz30_2 : w29.cell? ⟨gb123, 2, none⟩ = some (.int .i64 0) := (blk_cell BK123.out 2).trans rfl; have hcz30_3 : w29.cell? ⟨gb123, 3, none⟩ = some (.slice none 0 0) := (blk_cell BK123.out 3).trans rfl; have hfz30_0 := blk_frozen BK123.out 0; have hfz30_1 := blk_frozen BK123.out 1; have hfz30_2 := blk_frozen BK123.out 2; have hfz30_3 := blk_frozen BK123.out 3; obtain ⟨Ao31, co31, eo31⟩ := Kd.R_slice HO120.out; subst eo31))
                        go_ret
                        exact ⟨by first | rfl | (simp [errW_none, errW_some] <;> rfl) | (simp [*, errW_none, errW_some] <;> rfl), by repeat (first | (with_reducible first | exact HB.out | apply below_alloc | apply pw_below_drewN | apply below_drew1 | refine below_set ?_ GE123.out) | exact HB.out)⟩
                      · rw [if_neg c27] at H
                        have c27b0 : (t121 == 0) = false := beq_eq_false_iff_ne.mpr c27
                        have c27b1 : (t121 != 0) = true := bne_iff_ne.mpr c27
                        obtain rfl := Option.some.inj H
                        go_wp2_with (first | ((with_reducible refine gate_callee (f := 7) rfl ?_); refine goesL_ (some 56) rfl rfl Tryd.func7 (by kernel_rfl) rfl #[.string x8_1] rfl (by (try simp only [List.map_toArray, List.map_cons, List.map_nil]); first | done | rfl | (simp only [List.length_drop, List.length_take]; rfl)) ?_; (with_reducible refine (dimacs_Parse.calls x8_1 t115 t116 t117 t118 t121 t122 _ A24.out (LaidG.below hG (by repeat (first | (with_reducible first | exact HB.out | apply below_alloc | apply pw_below_drewN | apply below_drew1) | exact HB.out)))).mono ?_); rintro e w32 ⟨v119, rfl, ho0, hb⟩; refine ⟨_, rfl, ?_⟩; have n0_ := Aside0.mk (Kd.R_lower ho0 (below_size (by repeat (first | (with_reducible first | exact HB.out | apply below_alloc | apply pw_below_drewN | apply below_drew1) | exact HB.out)))); have n1_ := Aside0.mk (below_step (by repeat (first | (with_reducible first | exact HB.out | apply below_alloc | apply pw_below_drewN | apply below_drew1) | exact HB.out)) hb); clear HB; have HO120 := n0_; have HB := n1_; clear n0_ n1_; (try clear hb); (try clear hb2); (try clear hk); (try clear hi); (try clear ho0)) | ((with_reducible refine gate_dst (N := 12) rfl ?_); (try (refine gate_guard (by rfl) ?_; dsimp only)); refine box_event ?hg (N := 12) ?hd (cs := #[.int .i64 0, .int .i64 0, .int .i64 0, .slice none 0 0]) (t := 27) ?hr ?_; (case hd => rfl); (case hg => rfl); (case hr => first | (go_simp; done) | (go_simp; rfl)); intro gb123 hg w33 hbox hb; have n0_ := Aside0.mk (Kd.R_below (by (with_reducible repeat (first | apply Kd.R_alloc | apply Kd.R_drewN | apply Kd.R_drew)); exact HO120.out) hb); have n1_ := Aside0.mk (below_step (by repeat (first | (with_reducible first | exact HB.out | apply below_alloc | apply pw_below_drewN | apply below_drew1) | exact HB.out)) hb); have n2_ := Aside0.mk (hbox); have n3_ := Aside0.mk ((by rw [hg]; exact (below_size (by repeat (first | (with_reducible first | exact HB.out | apply below_alloc | apply pw_below_drewN | apply below_drew1) | exact HB.out))) : w.heap.size ≤ gb123)); have n4_ := Aside0.mk ((by rw [hg]; exact (below_size (by repeat (first | (with_reducible first | exact HB.out | apply below_alloc | apply pw_below_drewN | apply below_drew1) | exact HB.out))) : w.heap.size ≤ gb123)); clear HO120; clear HB; have HO120 := n0_; have HB := n1_; have BK123 := n2_; have GW123 := n3_; have GE123 := n4_; clear n0_ n1_ n2_ n3_ n4_; clear hb hbox hg; have hcz34_0 : w33.cell? ⟨gb123, 0, none⟩ = some (.int .i64 0) := (blk_cell BK123.out 0).trans rfl; have hcz34_1 : w33.cell? ⟨gb123, 1, none⟩ = some (.int .i64 0) := (blk_cell BK123.out 1).trans rfl; have hcz34_2 : w33.cell? ⟨gb123, 2, none⟩ = some (.int .i64 0) := (blk_cell BK123.out 2).trans rfl; have hcz34_3 : w33.cell? ⟨gb123, 3, none⟩ = some (.slice none 0 0) := (blk_cell BK123.out 3).trans rfl; have hfz34_0 := blk_frozen BK123.out 0; have hfz34_1 := blk_frozen BK123.out 1; have hfz34_2 := blk_frozen BK123.out 2; have hfz34_3 := blk_frozen BK123.out 3; obtain ⟨Ao35, co35, eo35⟩ := Kd.R_slice HO120.out; subst eo35))
                        go_ret
                        exact ⟨by first | rfl | (simp [errW_none, errW_some] <;> rfl) | (simp [*, errW_none, errW_some] <;> rfl), by repeat (first | (with_reducible first | exact HB.out | apply below_alloc | apply pw_below_drewN | apply below_drew1 | refine below_set ?_ GE123.out) | exact HB.out)⟩
                    · rw [if_neg c26] at H
                      have c26b0 : (t122 == 0) = false := beq_eq_false_iff_ne.mpr c26
                      have c26b1 : (t122 != 0) = true := bne_iff_ne.mpr c26
                      obtain rfl := Option.some.inj H
                      go_wp2_with (first | ((with_reducible refine gate_callee (f := 7) rfl ?_); refine goesL_ (some 56) rfl rfl Tryd.func7 (by kernel_rfl) rfl #[.string x8_1] rfl (by (try simp only [List.map_toArray, List.map_cons, List.map_nil]); first | done | rfl | (simp only [List.length_drop, List.length_take]; rfl)) ?_; (with_reducible refine (dimacs_Parse.calls x8_1 t115 t116 t117 t118 t121 t122 _ A24.out (LaidG.below hG (by repeat (first | (with_reducible first | exact HB.out | apply below_alloc | apply pw_below_drewN | apply below_drew1) | exact HB.out)))).mono ?_); rintro e w36 ⟨v119, rfl, ho0, hb⟩; refine ⟨_, rfl, ?_⟩; have n0_ := Aside0.mk (Kd.R_lower ho0 (below_size (by repeat (first | (with_reducible first | exact HB.out | apply below_alloc | apply pw_below_drewN | apply below_drew1) | exact HB.out)))); have n1_ := Aside0.mk (below_step (by repeat (first | (with_reducible first | exact HB.out | apply below_alloc | apply pw_below_drewN | apply below_drew1) | exact HB.out)) hb); clear HB; have HO120 := n0_; have HB := n1_; clear n0_ n1_; (try clear hb); (try clear hb2); (try clear hk); (try clear hi); (try clear ho0)) | ((with_reducible refine gate_dst (N := 12) rfl ?_); (try (refine gate_guard (by rfl) ?_; dsimp only)); refine box_event ?hg (N := 12) ?hd (cs := #[.int .i64 0, .int .i64 0, .int .i64 0, .slice none 0 0]) (t := 27) ?hr ?_; (case hd => rfl); (case hg => rfl); (case hr => first | (go_simp; done) | (go_simp; rfl)); intro gb123 hg w37 hbox hb; have n0_ := Aside0.mk (Kd.R_below (by (with_reducible repeat (first | apply Kd.R_alloc | apply Kd.R_drewN | apply Kd.R_drew)); exact HO120.out) hb); have n1_ := Aside0.mk (below_step (by repeat (first | (with_reducible first | exact HB.out | apply below_alloc | apply pw_below_drewN | apply below_drew1) | exact HB.out)) hb); have n2_ := Aside0.mk (hbox); have n3_ := Aside0.mk ((by rw [hg]; exact (below_size (by repeat (first | (with_reducible first | exact HB.out | apply below_alloc | apply pw_below_drewN | apply below_drew1) | exact HB.out))) : w.heap.size ≤ gb123)); have n4_ := Aside0.mk ((by rw [hg]; exact (below_size (by repeat (first | (with_reducible first | exact HB.out | apply below_alloc | apply pw_below_drewN | apply below_drew1) | exact HB.out))) : w.heap.size ≤ gb123)); clear HO120; clear HB; have HO120 := n0_; have HB := n1_; have BK123 := n2_; have GW123 := n3_; have GE123 := n4_; clear n0_ n1_ n2_ n3_ n4_; clear hb hbox hg; have hcz38_0 : w37.cell? ⟨gb123, 0, none⟩ = some (.int .i64 0) := (blk_cell BK123.out 0).trans rfl; have hcz38_1 : w37.cell? ⟨gb123, 1, none⟩ = some (.int .i64 0) := (blk_cell BK123.out 1).trans rfl; have hcz38_2 : w37.cell? ⟨gb123, 2, none⟩ = some (.int .i64 0) := (blk_cell BK123.out 2).trans rfl; have hcz38_3 : w37.cell? ⟨gb123, 3, none⟩ = some (.slice none 0 0) := (blk_cell BK123.out 3).trans rfl; have hfz38_0 := blk_frozen BK123.out 0; have hfz38_1 := blk_frozen BK123.out 1; have hfz38_2 := blk_frozen BK123.out 2; have hfz38_3 := blk_frozen BK123.out 3; obtain ⟨Ao39, co39, eo39⟩ := Kd.R_slice HO120.out; subst eo39))
                      go_ret
                      exact ⟨by first | rfl | (simp [errW_none, errW_some] <;> rfl) | (simp [*, errW_none, errW_some] <;> rfl), by repeat (first | (with_reducible first | exact HB.out | apply below_alloc | apply pw_below_drewN | apply below_drew1 | refine below_set ?_ GE123.out) | exact HB.out)⟩
                  · rw [if_neg c25] at H
                    have c25b0 : (x10_1 == 0) = false := beq_eq_false_iff_ne.mpr c25
                    have c25b1 : (x10_1 != 0) = true := bne_iff_ne.mpr c25
                    by_cases c40 : t122 = 7
                    · rw [if_pos c40] at H
                      have c40b0 : (t122 == 7) = true := beq_iff_eq.mpr c40
                      have c40b1 : (t122 != 7) = false := bne_eq_false_iff_eq.mpr c40
                      clear c40
                      by_cases c41 : t121 = x10_1
                      · rw [if_pos c41] at H
                        have c41b0 : (t121 == x10_1) = true := beq_iff_eq.mpr c41
                        have c41b1 : (t121 != x10_1) = false := bne_eq_false_iff_eq.mpr c41
                        clear c41
                        obtain rfl := Option.some.inj H
                        go_wp2_with (first | ((with_reducible refine gate_callee (f := 7) rfl ?_); refine goesL_ (some 56) rfl rfl Tryd.func7 (by kernel_rfl) rfl #[.string x8_1] rfl (by (try simp only [List.map_toArray, List.map_cons, List.map_nil]); first | done | rfl | (simp only [List.length_drop, List.length_take]; rfl)) ?_; (with_reducible refine (dimacs_Parse.calls x8_1 t115 t116 t117 t118 t121 t122 _ A24.out (LaidG.below hG (by repeat (first | (with_reducible first | exact HB.out | apply below_alloc | apply pw_below_drewN | apply below_drew1) | exact HB.out)))).mono ?_); rintro e w42 ⟨v119, rfl, ho0, hb⟩; refine ⟨_, rfl, ?_⟩; have n0_ := Aside0.mk (Kd.R_lower ho0 (below_size (by repeat (first | (with_reducible first | exact HB.out | apply below_alloc | apply pw_below_drewN | apply below_drew1) | exact HB.out)))); have n1_ := Aside0.mk (below_step (by repeat (first | (with_reducible first | exact HB.out | apply below_alloc | apply pw_below_drewN | apply below_drew1) | exact HB.out)) hb); clear HB; have HO120 := n0_; have HB := n1_; clear n0_ n1_; (try clear hb); (try clear hb2); (try clear hk); (try clear hi); (try clear ho0)) | ((with_reducible refine gate_dst (N := 12) rfl ?_); (try (refine gate_guard (by rfl) ?_; dsimp only)); refine box_event ?hg (N := 12) ?hd (cs := #[.int .i64 0, .int .i64 0, .int .i64 0, .slice none 0 0]) (t := 27) ?hr ?_; (case hd => rfl); (case hg => rfl); (case hr => first | (go_simp; done) | (go_simp; rfl)); intro gb123 hg w43 hbox hb; have n0_ := Aside0.mk (Kd.R_below (by (with_reducible repeat (first | apply Kd.R_alloc | apply Kd.R_drewN | apply Kd.R_drew)); exact HO120.out) hb); have n1_ := Aside0.mk (below_step (by repeat (first | (with_reducible first | exact HB.out | apply below_alloc | apply pw_below_drewN | apply below_drew1) | exact HB.out)) hb); have n2_ := Aside0.mk (hbox); have n3_ := Aside0.mk ((by rw [hg]; exact (below_size (by repeat (first | (with_reducible first | exact HB.out | apply below_alloc | apply pw_below_drewN | apply below_drew1) | exact HB.out))) : w.heap.size ≤ gb123)); have n4_ := Aside0.mk ((by rw [hg]; exact (below_size (by repeat (first | (with_reducible first | exact HB.out | apply below_alloc | apply pw_below_drewN | apply below_drew1) | exact HB.out))) : w.heap.size ≤ gb123)); clear HO120; clear HB; have HO120 := n0_; have HB := n1_; have BK123 := n2_; have GW123 := n3_; have GE123 := n4_; clear n0_ n1_ n2_ n3_ n4_; clear hb hbox hg; have hcz44_0 : w43.cell? ⟨gb123, 0, none⟩ = some (.int .i64 0) := (blk_cell BK123.out 0).trans rfl; have hcz44_1 : w43.cell? ⟨gb123, 1, none⟩ = some (.int .i64 0) := (blk_cell BK123.out 1).trans rfl; have hcz44_2 : w43.cell? ⟨gb123, 2, none⟩ = some (.int .i64 0) := (blk_cell BK123.out 2).trans rfl; have hcz44_3 : w43.cell? ⟨gb123, 3, none⟩ = some (.slice none 0 0) := (blk_cell BK123.out 3).trans rfl; have hfz44_0 := blk_frozen BK123.out 0; have hfz44_1 := blk_frozen BK123.out 1; have hfz44_2 := blk_frozen BK123.out 2; have hfz44_3 := blk_frozen BK123.out 3; obtain ⟨Ao45, co45, eo45⟩ := Kd.R_slice HO120.out; subst eo45))
                        go_ret
                        exact ⟨by first | rfl | (simp [errW_none, errW_some] <;> rfl) | (simp [*, errW_none, errW_some] <;> rfl), by repeat (first | (with_reducible first | exact HB.out | apply below_alloc | apply pw_below_drewN | apply below_drew1 | refine below_set ?_ GE123.out) | exact HB.out)⟩
                      · rw [if_neg c41] at H
                        have c41b0 : (t121 == x10_1) = false := beq_eq_false_iff_ne.mpr c41
                        have c41b1 : (t121 != x10_1) = true := bne_iff_ne.mpr c41
                        obtain rfl := Option.some.inj H
                        go_wp2_with (first | ((with_reducible refine gate_callee (f := 7) rfl ?_); refine goesL_ (some 56) rfl rfl Tryd.func7 (by kernel_rfl) rfl #[.string x8_1] rfl (by (try simp only [List.map_toArray, List.map_cons, List.map_nil]); first | done | rfl | (simp only [List.length_drop, List.length_take]; rfl)) ?_; (with_reducible refine (dimacs_Parse.calls x8_1 t115 t116 t117 t118 t121 t122 _ A24.out (LaidG.below hG (by repeat (first | (with_reducible first | exact HB.out | apply below_alloc | apply pw_below_drewN | apply below_drew1) | exact HB.out)))).mono ?_); rintro e w46 ⟨v119, rfl, ho0, hb⟩; refine ⟨_, rfl, ?_⟩; have n0_ := Aside0.mk (Kd.R_lower ho0 (below_size (by repeat (first | (with_reducible first | exact HB.out | apply below_alloc | apply pw_below_drewN | apply below_drew1) | exact HB.out)))); have n1_ := Aside0.mk (below_step (by repeat (first | (with_reducible first | exact HB.out | apply below_alloc | apply pw_below_drewN | apply below_drew1) | exact HB.out)) hb); clear HB; have HO120 := n0_; have HB := n1_; clear n0_ n1_; (try clear hb); (try clear hb2); (try clear hk); (try clear hi); (try clear ho0)) | ((with_reducible refine gate_dst (N := 12) rfl ?_); (try (refine gate_guard (by rfl) ?_; dsimp only)); refine box_event ?hg (N := 12) ?hd (cs := #[.int .i64 0, .int .i64 0, .int .i64 0, .slice none 0 0]) (t := 27) ?hr ?_; (case hd => rfl); (case hg => rfl); (case hr => first | (go_simp; done) | (go_simp; rfl)); intro gb123 hg w47 hbox hb; have n0_ := Aside0.mk (Kd.R_below (by (with_reducible repeat (first | apply Kd.R_alloc | apply Kd.R_drewN | apply Kd.R_drew)); exact HO120.out) hb); have n1_ := Aside0.mk (below_step (by repeat (first | (with_reducible first | exact HB.out | apply below_alloc | apply pw_below_drewN | apply below_drew1) | exact HB.out)) hb); have n2_ := Aside0.mk (hbox); have n3_ := Aside0.mk ((by rw [hg]; exact (below_size (by repeat (first | (with_reducible first | exact HB.out | apply below_alloc | apply pw_below_drewN | apply below_drew1) | exact HB.out))) : w.heap.size ≤ gb123)); have n4_ := Aside0.mk ((by rw [hg]; exact (below_size (by repeat (first | (with_reducible first | exact HB.out | apply below_alloc | apply pw_below_drewN | apply below_drew1) | exact HB.out))) : w.heap.size ≤ gb123)); clear HO120; clear HB; have HO120 := n0_; have HB := n1_; have BK123 := n2_; have GW123 := n3_; have GE123 := n4_; clear n0_ n1_ n2_ n3_ n4_; clear hb hbox hg; have hcz48_0 : w47.cell? ⟨gb123, 0, none⟩ = some (.int .i64 0) := (blk_cell BK123.out 0).trans rfl; have hcz48_1 : w47.cell? ⟨gb123, 1, none⟩ = some (.int .i64 0) := (blk_cell BK123.out 1).trans rfl; have hcz48_2 : w47.cell? ⟨gb123, 2, none⟩ = some (.int .i64 0) := (blk_cell BK123.out 2).trans rfl; have hcz48_3 : w47.cell? ⟨gb123, 3, none⟩ = some (.slice none 0 0) := (blk_cell BK123.out 3).trans rfl; have hfz48_0 := blk_frozen BK123.out 0; have hfz48_1 := blk_frozen BK123.out 1; have hfz48_2 := blk_frozen BK123.out 2; have hfz48_3 := blk_frozen BK123.out 3; obtain ⟨Ao49, co49, eo49⟩ := Kd.R_slice HO120.out; subst eo49))
                        go_ret
                        exact ⟨by first | rfl | (simp [errW_none, errW_some] <;> rfl) | (simp [*, errW_none, errW_some] <;> rfl), by repeat (first | (with_reducible first | exact HB.out | apply below_alloc | apply pw_below_drewN | apply below_drew1 | refine below_set ?_ GE123.out) | exact HB.out)⟩
                    · rw [if_neg c40] at H
                      have c40b0 : (t122 == 7) = false := beq_eq_false_iff_ne.mpr c40
                      have c40b1 : (t122 != 7) = true := bne_iff_ne.mpr c40
                      obtain rfl := Option.some.inj H
                      go_wp2_with (first | ((with_reducible refine gate_callee (f := 7) rfl ?_); refine goesL_ (some 56) rfl rfl Tryd.func7 (by kernel_rfl) rfl #[.string x8_1] rfl (by (try simp only [List.map_toArray, List.map_cons, List.map_nil]); first | done | rfl | (simp only [List.length_drop, List.length_take]; rfl)) ?_; (with_reducible refine (dimacs_Parse.calls x8_1 t115 t116 t117 t118 t121 t122 _ A24.out (LaidG.below hG (by repeat (first | (with_reducible first | exact HB.out | apply below_alloc | apply pw_below_drewN | apply below_drew1) | exact HB.out)))).mono ?_); rintro e w50 ⟨v119, rfl, ho0, hb⟩; refine ⟨_, rfl, ?_⟩; have n0_ := Aside0.mk (Kd.R_lower ho0 (below_size (by repeat (first | (with_reducible first | exact HB.out | apply below_alloc | apply pw_below_drewN | apply below_drew1) | exact HB.out)))); have n1_ := Aside0.mk (below_step (by repeat (first | (with_reducible first | exact HB.out | apply below_alloc | apply pw_below_drewN | apply below_drew1) | exact HB.out)) hb); clear HB; have HO120 := n0_; have HB := n1_; clear n0_ n1_; (try clear hb); (try clear hb2); (try clear hk); (try clear hi); (try clear ho0)) | ((with_reducible refine gate_dst (N := 12) rfl ?_); (try (refine gate_guard (by rfl) ?_; dsimp only)); refine box_event ?hg (N := 12) ?hd (cs := #[.int .i64 0, .int .i64 0, .int .i64 0, .slice none 0 0]) (t := 27) ?hr ?_; (case hd => rfl); (case hg => rfl); (case hr => first | (go_simp; done) | (go_simp; rfl)); intro gb123 hg w51 hbox hb; have n0_ := Aside0.mk (Kd.R_below (by (with_reducible repeat (first | apply Kd.R_alloc | apply Kd.R_drewN | apply Kd.R_drew)); exact HO120.out) hb); have n1_ := Aside0.mk (below_step (by repeat (first | (with_reducible first | exact HB.out | apply below_alloc | apply pw_below_drewN | apply below_drew1) | exact HB.out)) hb); have n2_ := Aside0.mk (hbox); have n3_ := Aside0.mk ((by rw [hg]; exact (below_size (by repeat (first | (with_reducible first | exact HB.out | apply below_alloc | apply pw_below_drewN | apply below_drew1) | exact HB.out))) : w.heap.size ≤ gb123)); have n4_ := Aside0.mk ((by rw [hg]; exact (below_size (by repeat (first | (with_reducible first | exact HB.out | apply below_alloc | apply pw_below_drewN | apply below_drew1) | exact HB.out))) : w.heap.size ≤ gb123)); clear HO120; clear HB; have HO120 := n0_; have HB := n1_; have BK123 := n2_; have GW123 := n3_; have GE123 := n4_; clear n0_ n1_ n2_ n3_ n4_; clear hb hbox hg; have hcz52_0 : w51.cell? ⟨gb123, 0, none⟩ = some (.int .i64 0) := (blk_cell BK123.out 0).trans rfl; have hcz52_1 : w51.cell? ⟨gb123, 1, none⟩ = some (.int .i64 0) := (blk_cell BK123.out 1).trans rfl; have hcz52_2 : w51.cell? ⟨gb123, 2, none⟩ = some (.int .i64 0) := (blk_cell BK123.out 2).trans rfl; have hcz52_3 : w51.cell? ⟨gb123, 3, none⟩ = some (.slice none 0 0) := (blk_cell BK123.out 3).trans rfl; have hfz52_0 := blk_frozen BK123.out 0; have hfz52_1 := blk_frozen BK123.out 1; have hfz52_2 := blk_frozen BK123.out 2; have hfz52_3 := blk_frozen BK123.out 3; obtain ⟨Ao53, co53, eo53⟩ := Kd.R_slice HO120.out; subst eo53))
                      go_ret
                      exact ⟨by first | rfl | (simp [errW_none, errW_some] <;> rfl) | (simp [*, errW_none, errW_some] <;> rfl), by repeat (first | (with_reducible first | exact HB.out | apply below_alloc | apply pw_below_drewN | apply below_drew1 | refine below_set ?_ GE123.out) | exact HB.out)⟩
        · rw [if_neg c10] at H
          exact absurd H (by simp)
      · rw [if_neg c9] at H
        exact absurd H (by simp)
  · replace c4 := Bool.eq_false_iff.mpr c4
    subst c4
    have H1 : (some false) = some r := by rw [if_neg (show ¬ (false = true) by decide)] at H; exact H
    clear H
    have H := H1
    clear H1
    obtain rfl := Option.some.inj H
    go_enter Tryd.func3, Tryd.ntmps3
    go_wp2_with (first | ((with_reducible refine gate_callee (f := 4) rfl ?_); refine goesL_ (some 15) rfl rfl Tryd.func4 (by kernel_rfl) rfl #[] rfl (by (try simp only [List.map_toArray, List.map_cons, List.map_nil]); first | done | rfl | (simp only [List.length_drop, List.length_take]; rfl)) ?_; (with_reducible refine (racewaylaw4_shown.calls  false _ A3.out (LaidG.below hG (by repeat (first | (with_reducible first | exact HB.out | apply below_alloc | apply pw_below_drewN | apply below_drew1) | exact HB.out)))).mono ?_); rintro e w54 ⟨rfl, hb⟩; refine ⟨_, rfl, ?_⟩; have n0_ := Aside0.mk (below_step (by repeat (first | (with_reducible first | exact HB.out | apply below_alloc | apply pw_below_drewN | apply below_drew1) | exact HB.out)) hb); clear HB; have HB := n0_; clear n0_; (try clear hb); (try clear hb2); (try clear hk); (try clear hi)))
    go_ret
    exact ⟨by first | rfl | (simp [errW_none, errW_some] <;> rfl) | (simp [*, errW_none, errW_some] <;> rfl), by repeat (first | (with_reducible first | exact HB.out | apply below_alloc | apply pw_below_drewN | apply below_drew1) | exact HB.out)⟩

/-- THE ONE PURE STATEMENT of racewaylaw4_DimacsSums: yours. -/
def racewaylaw4_DimacsSums.Pure : Prop := ∀ (a0 : Int) (a1 : Int), (Lit.int .i64 a0).wf = true → (Lit.int .i64 a1).wf = true → ∃ k, racewaylaw4_DimacsSums.f k a0 a1 = some true
theorem racewaylaw4_DimacsSums.walk (P : racewaylaw4_DimacsSums.Pure) (a0 : Int) (a1 : Int) (w : World) (w0 : (Lit.int .i64 a0).wf = true) (w1 : (Lit.int .i64 a1).wf = true) (hG : LaidG w) :
    Calls Tryd.prog 3 #[.int .i64 a0, .int .i64 a1] w fun e w' => e = .returned (.bool true) ∧ Below w.heap.size w w' := by
  obtain ⟨k, h⟩ := P a0 a1 w0 w1
  refine (racewaylaw4_DimacsSums.calls k a0 a1 true w h hG).mono ?_
  rintro e w' ⟨rfl, hd⟩
  exact ⟨rfl, hd⟩

end Go.Proofs.YtgpeppnbgfdaaaaDoor.R
