/- arc: an error. By an AI agent. -/
import Derived.Test.YtgpeppnbgfdaaaaGreatDoorDimA
namespace Go.Proofs.YtgpeppnbgfdaaaaGreatDoor.R
open Go.RowKit Go.Lib Go.Proofs.TX Go.Proofs.YtgpeppnbgfdaaaaGreatDoor.H Go.Proofs.YtgpeppnbgfdaaaaGreatDoorW.PrintWords Go.Proofs.YtgpeppnbgfdaaaaGreatDoorW.PrintLast Go.Proofs.YtgpeppnbgfdaaaaGreatDoorW.PrintMore
set_option linter.unusedVariables false
set_option linter.unusedSimpArgs false

set_option maxRecDepth 100000 in
set_option maxHeartbeats 8000000 in
theorem arcE.calls (g : Nat) (Av : Option Addr) (na cv : Nat) (A : Option Addr) (c : Nat) (ws : List ByteArray) (no so si most sum : Int) (r1 : Int) (w : World) (hr : Kd.C Kd.string w A ws.length ws) (hc : ws.length ≤ c)
    (hx : w.heap[g]? = some (.cells #[.int .i64 no, .int .i64 so, .int .i64 si, .slice Av na cv, .int .i64 most, .int .i64 sum] 62 (0, 0)))
    (h : arcF no so si most sum na ws = some (r1, none)) (hG : LaidG w) :
    Calls Tryz.prog 37 #[.pointer (some ⟨g, 0, none⟩), .slice A ws.length c] w fun e w' => e = .returned (.int .i64 r1) ∧ w'.heap[g]? = some (.cells #[.int .i64 no, .int .i64 so, .int .i64 si, .slice Av na cv, .int .i64 most, .int .i64 sum] 62 (0, 0)) ∧ Fr w w' (fun k => k = g) := by
  unfold arcF at h
  have hcz1 : w.cell? ⟨g, 1, none⟩ = some (.int .i64 so) := (blk_cell hx 1).trans rfl
  have hcz2 : w.cell? ⟨g, 2, none⟩ = some (.int .i64 si) := (blk_cell hx 2).trans rfl
  by_cases h1 : ws.length = 4
  · rw [if_pos h1] at h
    obtain ⟨x0, x1, x2, x3, rfl⟩ : ∃ x0 x1 x2 x3, ws = [x0, x1, x2, x3] := by
      match ws, h1 with
      | [x0, x1, x2, x3], _ => exact ⟨x0, x1, x2, x3, rfl⟩
    obtain ⟨ad, rfl, hcell⟩ := first_cell hr
    clear hcell
    simp only [List.drop_succ_cons, List.drop_zero] at h
    simp only [List.length_cons, List.length_nil] at hc ⊢
    have hcut : Kd.C Kd.string w (some ⟨ad.block, ad.off + 1, none⟩) 3 [x1, x2, x3] := by
      have := Kd.C_drop (m := 1) (c := c) hr (by simp) hc
      rw [if_neg (by omega)] at this
      exact this
    by_cases h1s : so = 0
    · rw [if_pos h1s] at h
      have d1 : (so == 0) = true := beq_iff_eq.mpr h1s
      clear h1s
      simp only [Option.some.injEq, Prod.mk.injEq] at h
      obtain ⟨rfl, _⟩ := h
      go_enter Tryz.func37, Tryz.ntmps37
      go_wp2
      go_ret
      exact ⟨rfl, hx, by repeat (first | (with_reducible first | apply Fr.drewN | apply Fr.drew) | (with_reducible exact Fr.refl _ _))⟩
    · rw [if_neg h1s] at h
      have d1 : (so == 0) = false := beq_eq_false_iff_ne.mpr h1s
      clear h1s
      by_cases h2 : si = 0
      · rw [if_pos h2] at h
        have d2 : (si == 0) = true := beq_iff_eq.mpr h2
        clear h2
        simp only [Option.some.injEq, Prod.mk.injEq] at h
        obtain ⟨rfl, _⟩ := h
        go_enter Tryz.func37, Tryz.ntmps37
        go_wp2
        go_ret
        exact ⟨rfl, hx, by repeat (first | (with_reducible first | apply Fr.drewN | apply Fr.drew) | (with_reducible exact Fr.refl _ _))⟩
      · rw [if_neg h2] at h
        have d2 : (si == 0) = false := beq_eq_false_iff_ne.mpr h2
        clear h2
        have hq := Option.bind_eq_some_iff.1 h
        clear h
        obtain ⟨⟨l, e0⟩, hn, h⟩ := hq
        have cN := nums.calls (some ⟨ad.block, ad.off + 1, none⟩) (c - 1) [x1, x2, x3] l e0 w (by simp) hcut (by simp; omega) hn hG
        simp only [List.length_cons, List.length_nil] at cN
        by_cases h0 : e0 = 0
        · simp only [if_pos h0] at h
          subst h0
          have hl2 := numsF_length _ _ hn
          obtain ⟨a, b, cp, rfl⟩ : ∃ a b cp, l = [a, b, cp] := by
            match l, hl2 with
            | [a, b, cp], _ => exact ⟨a, b, cp, rfl⟩
          simp only [List.getD_cons_zero, List.getD_cons_succ] at h
          clear hl2
          have hq := Option.bind_eq_some_iff.1 h
          clear h
          obtain ⟨⟨s1, e1⟩, hA, h⟩ := hq
          by_cases h3 : thereB no a = true
          · rw [if_pos h3] at h
            by_cases h4 : thereB no b = true
            · rw [if_pos h4] at h
              by_cases h5 : cp < 0
              · rw [if_pos h5] at h
                have d5 : decide (cp < 0) = true := decide_eq_true (by simpa using h5)
                clear h5
                simp only [Option.some.injEq, Prod.mk.injEq] at h
                obtain ⟨rfl, _⟩ := h
                have hn1 := Lib.hid hn
                clear hn
                go_enter Tryz.func37, Tryz.ntmps37
                go_wp2_with (first
                  | (go_at_call 48; refine cN.mono ?_; rintro e w1 ⟨v1, rfl, hR, hb⟩; have hx1 := (hb.block g (blk_lt hx)).trans hx; have hbb := Aside0.mk hb; obtain ⟨ad1, c1, rfl, hc1, hcl⟩ := ints_cells hR; have hcl0 := hcl 0 a rfl; rw [Addr.add_zero'] at hcl0; have hcl1 : w1.cell? ⟨ad1.block, ad1.off + 1, none⟩ = some (.int .i64 b) := hcl 1 b rfl; have hcl2 : w1.cell? ⟨ad1.block, ad1.off + 2, none⟩ = some (.int .i64 cp) := hcl 2 cp rfl; have hR1 := Lib.hid hR; clear hcl; simp only [List.length_cons, List.length_nil] at hc1 ⊢; have hz2 : w1.cell? ⟨g, 3, none⟩ = some (.slice Av na cv) := (blk_cell hx1 3).trans rfl; have hz4 : w1.cell? ⟨g, 4, none⟩ = some (.int .i64 most) := (blk_cell hx1 4).trans rfl; have hz5 : w1.cell? ⟨g, 5, none⟩ = some (.int .i64 sum) := (blk_cell hx1 5).trans rfl; have hf3 : w1.frozen? ⟨g, 3, none⟩ = false := blk_frozen hx1 3; have hf5 : w1.frozen? ⟨g, 5, none⟩ = false := blk_frozen hx1 5; clear hR hb)
                  | (go_at_call 49; first | (with_reducible refine (there.callsN g no a _ _ _ _ _ w1 _ hx1).mono ?_; rintro e w2 ⟨rfl, rfl⟩) | (with_reducible refine (there.callsN g no b _ _ _ _ _ w1 _ hx1).mono ?_; rintro e w2 ⟨rfl, rfl⟩))
                  | (go_quiet (exact Calls.quiet_of (addQ _ _ _ _ _ hA))))
                go_ret
                exact ⟨rfl, hx1, by repeat (first | (with_reducible first | apply Fr.drewN | apply Fr.drew) | (with_reducible exact Fr.of_below hbb.out _))⟩
              · rw [if_neg h5] at h
                have d5 : decide (cp < 0) = false := decide_eq_false (by simpa using h5)
                clear h5
                by_cases h6 : (na : Int) = most
                · rw [if_pos h6] at h
                  have d6 : ((na : Int) == most) = true := beq_iff_eq.mpr h6
                  clear h6
                  simp only [Option.some.injEq, Prod.mk.injEq] at h
                  obtain ⟨rfl, _⟩ := h
                  have hn1 := Lib.hid hn
                  clear hn
                  go_enter Tryz.func37, Tryz.ntmps37
                  go_wp2_with (first
                    | (go_at_call 48; refine cN.mono ?_; rintro e w1 ⟨v1, rfl, hR, hb⟩; have hx1 := (hb.block g (blk_lt hx)).trans hx; have hbb := Aside0.mk hb; obtain ⟨ad1, c1, rfl, hc1, hcl⟩ := ints_cells hR; have hcl0 := hcl 0 a rfl; rw [Addr.add_zero'] at hcl0; have hcl1 : w1.cell? ⟨ad1.block, ad1.off + 1, none⟩ = some (.int .i64 b) := hcl 1 b rfl; have hcl2 : w1.cell? ⟨ad1.block, ad1.off + 2, none⟩ = some (.int .i64 cp) := hcl 2 cp rfl; have hR1 := Lib.hid hR; clear hcl; simp only [List.length_cons, List.length_nil] at hc1 ⊢; have hz2 : w1.cell? ⟨g, 3, none⟩ = some (.slice Av na cv) := (blk_cell hx1 3).trans rfl; have hz4 : w1.cell? ⟨g, 4, none⟩ = some (.int .i64 most) := (blk_cell hx1 4).trans rfl; have hz5 : w1.cell? ⟨g, 5, none⟩ = some (.int .i64 sum) := (blk_cell hx1 5).trans rfl; have hf3 : w1.frozen? ⟨g, 3, none⟩ = false := blk_frozen hx1 3; have hf5 : w1.frozen? ⟨g, 5, none⟩ = false := blk_frozen hx1 5; clear hR hb)
                    | (go_at_call 49; first | (with_reducible refine (there.callsN g no a _ _ _ _ _ w1 _ hx1).mono ?_; rintro e w2 ⟨rfl, rfl⟩) | (with_reducible refine (there.callsN g no b _ _ _ _ _ w1 _ hx1).mono ?_; rintro e w2 ⟨rfl, rfl⟩))
                    | (go_quiet (exact Calls.quiet_of (addQ _ _ _ _ _ hA))))
                  go_ret
                  exact ⟨rfl, hx1, by repeat (first | (with_reducible first | apply Fr.drewN | apply Fr.drew) | (with_reducible exact Fr.of_below hbb.out _))⟩
                · rw [if_neg h6] at h
                  have d6 : ((na : Int) == most) = false := beq_eq_false_iff_ne.mpr h6
                  clear h6
                  by_cases h7 : e1 = 0
                  · rw [if_pos h7] at h
                    subst h7
                    by_cases h8 : s1 > 4611686018427387903
                    · rw [if_pos h8] at h
                      have d8 : decide (4611686018427387903 < s1) = true := decide_eq_true (by simpa using h8)
                      clear h8
                      simp only [Option.some.injEq, Prod.mk.injEq] at h
                      obtain ⟨rfl, _⟩ := h
                      have hn1 := Lib.hid hn
                      clear hn
                      go_enter Tryz.func37, Tryz.ntmps37
                      go_wp2_with (first
                        | (go_at_call 48; refine cN.mono ?_; rintro e w1 ⟨v1, rfl, hR, hb⟩; have hx1 := (hb.block g (blk_lt hx)).trans hx; have hbb := Aside0.mk hb; obtain ⟨ad1, c1, rfl, hc1, hcl⟩ := ints_cells hR; have hcl0 := hcl 0 a rfl; rw [Addr.add_zero'] at hcl0; have hcl1 : w1.cell? ⟨ad1.block, ad1.off + 1, none⟩ = some (.int .i64 b) := hcl 1 b rfl; have hcl2 : w1.cell? ⟨ad1.block, ad1.off + 2, none⟩ = some (.int .i64 cp) := hcl 2 cp rfl; have hR1 := Lib.hid hR; clear hcl; simp only [List.length_cons, List.length_nil] at hc1 ⊢; have hz2 : w1.cell? ⟨g, 3, none⟩ = some (.slice Av na cv) := (blk_cell hx1 3).trans rfl; have hz4 : w1.cell? ⟨g, 4, none⟩ = some (.int .i64 most) := (blk_cell hx1 4).trans rfl; have hz5 : w1.cell? ⟨g, 5, none⟩ = some (.int .i64 sum) := (blk_cell hx1 5).trans rfl; have hf3 : w1.frozen? ⟨g, 3, none⟩ = false := blk_frozen hx1 3; have hf5 : w1.frozen? ⟨g, 5, none⟩ = false := blk_frozen hx1 5; clear hR hb)
                        | (go_at_call 49; first | (with_reducible refine (there.callsN g no a _ _ _ _ _ w1 _ hx1).mono ?_; rintro e w2 ⟨rfl, rfl⟩) | (with_reducible refine (there.callsN g no b _ _ _ _ _ w1 _ hx1).mono ?_; rintro e w2 ⟨rfl, rfl⟩))
                        | (go_quiet (exact Calls.quiet_of (addQ _ _ _ _ _ hA))))
                      go_ret
                      exact ⟨rfl, hx1, by repeat (first | (with_reducible first | apply Fr.drewN | apply Fr.drew) | (with_reducible exact Fr.of_below hbb.out _))⟩
                    · rw [if_neg h8] at h
                      have d8 : decide (4611686018427387903 < s1) = false := decide_eq_false (by simpa using h8)
                      clear h8
                      exact absurd h (by simp)
                  · rw [if_neg h7] at h
                    have d7 : (e1 == 0) = false := beq_eq_false_iff_ne.mpr h7
                    have d7b : (e1 != 0) = true := bne_iff_ne.mpr h7
                    have d7c : ¬ e1 = 0 := h7
                    simp only [Option.some.injEq, Prod.mk.injEq] at h
                    obtain ⟨rfl, _⟩ := h
                    have hn1 := Lib.hid hn
                    clear hn
                    go_enter Tryz.func37, Tryz.ntmps37
                    go_wp2_with (first
                      | (go_at_call 48; refine cN.mono ?_; rintro e w1 ⟨v1, rfl, hR, hb⟩; have hx1 := (hb.block g (blk_lt hx)).trans hx; have hbb := Aside0.mk hb; obtain ⟨ad1, c1, rfl, hc1, hcl⟩ := ints_cells hR; have hcl0 := hcl 0 a rfl; rw [Addr.add_zero'] at hcl0; have hcl1 : w1.cell? ⟨ad1.block, ad1.off + 1, none⟩ = some (.int .i64 b) := hcl 1 b rfl; have hcl2 : w1.cell? ⟨ad1.block, ad1.off + 2, none⟩ = some (.int .i64 cp) := hcl 2 cp rfl; have hR1 := Lib.hid hR; clear hcl; simp only [List.length_cons, List.length_nil] at hc1 ⊢; have hz2 : w1.cell? ⟨g, 3, none⟩ = some (.slice Av na cv) := (blk_cell hx1 3).trans rfl; have hz4 : w1.cell? ⟨g, 4, none⟩ = some (.int .i64 most) := (blk_cell hx1 4).trans rfl; have hz5 : w1.cell? ⟨g, 5, none⟩ = some (.int .i64 sum) := (blk_cell hx1 5).trans rfl; have hf3 : w1.frozen? ⟨g, 3, none⟩ = false := blk_frozen hx1 3; have hf5 : w1.frozen? ⟨g, 5, none⟩ = false := blk_frozen hx1 5; clear hR hb)
                      | (go_at_call 49; first | (with_reducible refine (there.callsN g no a _ _ _ _ _ w1 _ hx1).mono ?_; rintro e w2 ⟨rfl, rfl⟩) | (with_reducible refine (there.callsN g no b _ _ _ _ _ w1 _ hx1).mono ?_; rintro e w2 ⟨rfl, rfl⟩))
                      | (go_quiet (exact Calls.quiet_of (addQ _ _ _ _ _ hA))))
                    go_ret
                    exact ⟨rfl, hx1, by repeat (first | (with_reducible first | apply Fr.drewN | apply Fr.drew) | (with_reducible exact Fr.of_below hbb.out _))⟩
            · rw [if_neg h4] at h
              have h4b : thereB no b = false := by simpa using h4
              clear h4
              simp only [Option.some.injEq, Prod.mk.injEq] at h
              obtain ⟨rfl, _⟩ := h
              have hn1 := Lib.hid hn
              clear hn
              go_enter Tryz.func37, Tryz.ntmps37
              go_wp2_with (first
                | (go_at_call 48; refine cN.mono ?_; rintro e w1 ⟨v1, rfl, hR, hb⟩; have hx1 := (hb.block g (blk_lt hx)).trans hx; have hbb := Aside0.mk hb; obtain ⟨ad1, c1, rfl, hc1, hcl⟩ := ints_cells hR; have hcl0 := hcl 0 a rfl; rw [Addr.add_zero'] at hcl0; have hcl1 : w1.cell? ⟨ad1.block, ad1.off + 1, none⟩ = some (.int .i64 b) := hcl 1 b rfl; have hcl2 : w1.cell? ⟨ad1.block, ad1.off + 2, none⟩ = some (.int .i64 cp) := hcl 2 cp rfl; have hR1 := Lib.hid hR; clear hcl; simp only [List.length_cons, List.length_nil] at hc1 ⊢; have hz2 : w1.cell? ⟨g, 3, none⟩ = some (.slice Av na cv) := (blk_cell hx1 3).trans rfl; have hz4 : w1.cell? ⟨g, 4, none⟩ = some (.int .i64 most) := (blk_cell hx1 4).trans rfl; have hz5 : w1.cell? ⟨g, 5, none⟩ = some (.int .i64 sum) := (blk_cell hx1 5).trans rfl; have hf3 : w1.frozen? ⟨g, 3, none⟩ = false := blk_frozen hx1 3; have hf5 : w1.frozen? ⟨g, 5, none⟩ = false := blk_frozen hx1 5; clear hR hb)
                | (go_at_call 49; first | (with_reducible refine (there.callsN g no a _ _ _ _ _ w1 _ hx1).mono ?_; rintro e w2 ⟨rfl, rfl⟩) | (with_reducible refine (there.callsN g no b _ _ _ _ _ w1 _ hx1).mono ?_; rintro e w2 ⟨rfl, rfl⟩))
                | (go_quiet (exact Calls.quiet_of (addQ _ _ _ _ _ hA))))
              go_ret
              exact ⟨rfl, hx1, by repeat (first | (with_reducible first | apply Fr.drewN | apply Fr.drew) | (with_reducible exact Fr.of_below hbb.out _))⟩
          · rw [if_neg h3] at h
            have h3b : thereB no a = false := by simpa using h3
            clear h3
            simp only [Option.some.injEq, Prod.mk.injEq] at h
            obtain ⟨rfl, _⟩ := h
            have hn1 := Lib.hid hn
            clear hn
            go_enter Tryz.func37, Tryz.ntmps37
            go_wp2_with (first
              | (go_at_call 48; refine cN.mono ?_; rintro e w1 ⟨v1, rfl, hR, hb⟩; have hx1 := (hb.block g (blk_lt hx)).trans hx; have hbb := Aside0.mk hb; obtain ⟨ad1, c1, rfl, hc1, hcl⟩ := ints_cells hR; have hcl0 := hcl 0 a rfl; rw [Addr.add_zero'] at hcl0; have hcl1 : w1.cell? ⟨ad1.block, ad1.off + 1, none⟩ = some (.int .i64 b) := hcl 1 b rfl; have hcl2 : w1.cell? ⟨ad1.block, ad1.off + 2, none⟩ = some (.int .i64 cp) := hcl 2 cp rfl; have hR1 := Lib.hid hR; clear hcl; simp only [List.length_cons, List.length_nil] at hc1 ⊢; have hz2 : w1.cell? ⟨g, 3, none⟩ = some (.slice Av na cv) := (blk_cell hx1 3).trans rfl; have hz4 : w1.cell? ⟨g, 4, none⟩ = some (.int .i64 most) := (blk_cell hx1 4).trans rfl; have hz5 : w1.cell? ⟨g, 5, none⟩ = some (.int .i64 sum) := (blk_cell hx1 5).trans rfl; have hf3 : w1.frozen? ⟨g, 3, none⟩ = false := blk_frozen hx1 3; have hf5 : w1.frozen? ⟨g, 5, none⟩ = false := blk_frozen hx1 5; clear hR hb)
              | (go_at_call 49; first | (with_reducible refine (there.callsN g no a _ _ _ _ _ w1 _ hx1).mono ?_; rintro e w2 ⟨rfl, rfl⟩) | (with_reducible refine (there.callsN g no b _ _ _ _ _ w1 _ hx1).mono ?_; rintro e w2 ⟨rfl, rfl⟩))
              | (go_quiet (exact Calls.quiet_of (addQ _ _ _ _ _ hA))))
            go_ret
            exact ⟨rfl, hx1, by repeat (first | (with_reducible first | apply Fr.drewN | apply Fr.drew) | (with_reducible exact Fr.of_below hbb.out _))⟩
        · simp only [if_neg h0] at h
          have d0 : (e0 == 0) = false := beq_eq_false_iff_ne.mpr h0
          simp only [Option.some.injEq, Prod.mk.injEq] at h
          obtain ⟨rfl, _⟩ := h
          have hn1 := Lib.hid hn
          clear hn
          go_enter Tryz.func37, Tryz.ntmps37
          go_wp2_with (first
            | (go_at_call 48; refine cN.mono ?_; rintro e w1 ⟨v1, rfl, hR, hb⟩; have hx1 := (hb.block g (blk_lt hx)).trans hx; have hbb := Aside0.mk hb;  clear hR hb)
            | (go_at_call 49; first | (with_reducible refine (there.callsN g no a _ _ _ _ _ w1 _ hx1).mono ?_; rintro e w2 ⟨rfl, rfl⟩) | (with_reducible refine (there.callsN g no b _ _ _ _ _ w1 _ hx1).mono ?_; rintro e w2 ⟨rfl, rfl⟩)))
          go_ret
          exact ⟨rfl, hx1, by repeat (first | (with_reducible first | apply Fr.drewN | apply Fr.drew) | (with_reducible exact Fr.of_below hbb.out _))⟩
  · rw [if_neg h1] at h
    simp only [Option.some.injEq, Prod.mk.injEq] at h
    obtain ⟨rfl, _⟩ := h
    have d1 : ((ws.length : Int) == 4) = false := beq_eq_false_iff_ne.mpr (by omega)
    generalize hn : ws.length = n at *
    go_enter Tryz.func37, Tryz.ntmps37
    go_wp2
    go_ret
    exact ⟨rfl, hx, by repeat (first | (with_reducible first | apply Fr.drewN | apply Fr.drew) | (with_reducible exact Fr.refl _ _))⟩

end Go.Proofs.YtgpeppnbgfdaaaaGreatDoor.R
