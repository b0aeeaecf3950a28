/- arc: an arc more. By an AI agent. -/
import Derived.Test.YtgpeppnbgfdaaaaGreatDoorDimA
namespace Go.Proofs.YtgpeppnbgfdaaaaGreatDoor.R
open Go.RowKit Go.Lib Go.Proofs.TX Go.Proofs.YtgpeppnbgfdaaaaGreatDoor.H Go.Proofs.YtgpeppnbgfdaaaaGreatDoorW.PrintWords Go.Proofs.YtgpeppnbgfdaaaaGreatDoorW.PrintLast Go.Proofs.YtgpeppnbgfdaaaaGreatDoorW.PrintMore
set_option linter.unusedVariables false
set_option linter.unusedSimpArgs false


set_option maxRecDepth 100000 in
set_option maxHeartbeats 8000000 in
theorem arcO.calls (g : Nat) (Av : Option Addr) (na cv : Nat) (base : Nat) (arcs : List S44) (A : Option Addr) (c : Nat) (ws : List ByteArray) (no so si most sum : Int) (s2 : Int) (x : S44) (w : World) (hr : Kd.C Kd.string w A ws.length ws) (hc : ws.length ≤ c)
    (hx : w.heap[g]? = some (.cells #[.int .i64 no, .int .i64 so, .int .i64 si, .slice Av na cv, .int .i64 most, .int .i64 sum] 62 (0, 0)))
    (hv : k44.R 44 w base (fun k => k ≠ g) (.slice Av na cv) arcs) (hbase : base ≤ w.heap.size) (hna : na ≤ 4294967290)
    (h : arcF no so si most sum na ws = some (0, some (s2, x))) (hG : LaidG w) :
    Calls Tryz.prog 37 #[.pointer (some ⟨g, 0, none⟩), .slice A ws.length c] w fun e w' => ∃ v', e = .returned (.int .i64 0) ∧ w'.heap[g]? = some (.cells #[.int .i64 no, .int .i64 so, .int .i64 si, v', .int .i64 most, .int .i64 s2] 62 (0, 0)) ∧ k44.R 44 w' base (fun k => k ≠ g) v' (arcs ++ [x]) ∧ Fr w w' (fun k => k = g ∨ some k = (Value.slice Av na cv).ownBlock) := by
  unfold arcF at h
  have hcz1 : w.cell? ⟨g, 1, none⟩ = some (.int .i64 so) := (blk_cell hx 1).trans rfl
  have hcz2 : w.cell? ⟨g, 2, none⟩ = some (.int .i64 si) := (blk_cell hx 2).trans rfl
  by_cases h1 : ws.length = 4
  · rw [if_pos h1] at h
    obtain ⟨x0, x1, x2, x3, rfl⟩ : ∃ x0 x1 x2 x3, ws = [x0, x1, x2, x3] := by
      match ws, h1 with
      | [x0, x1, x2, x3], _ => exact ⟨x0, x1, x2, x3, rfl⟩
    obtain ⟨ad, rfl, hcell⟩ := first_cell hr
    clear hcell
    simp only [List.drop_succ_cons, List.drop_zero] at h
    simp only [List.length_cons, List.length_nil] at hc ⊢
    have hcut : Kd.C Kd.string w (some ⟨ad.block, ad.off + 1, none⟩) 3 [x1, x2, x3] := by
      have := Kd.C_drop (m := 1) (c := c) hr (by simp) hc
      rw [if_neg (by omega)] at this
      exact this
    by_cases h1s : so = 0
    · rw [if_pos h1s] at h
      have d1 : (so == 0) = true := beq_iff_eq.mpr h1s
      clear h1s
      exact absurd h (by simp)
    · rw [if_neg h1s] at h
      have d1 : (so == 0) = false := beq_eq_false_iff_ne.mpr h1s
      clear h1s
      by_cases h2 : si = 0
      · rw [if_pos h2] at h
        have d2 : (si == 0) = true := beq_iff_eq.mpr h2
        clear h2
        exact absurd h (by simp)
      · rw [if_neg h2] at h
        have d2 : (si == 0) = false := beq_eq_false_iff_ne.mpr h2
        clear h2
        have hq := Option.bind_eq_some_iff.1 h
        clear h
        obtain ⟨⟨l, e0⟩, hn, h⟩ := hq
        have cN := nums.calls (some ⟨ad.block, ad.off + 1, none⟩) (c - 1) [x1, x2, x3] l e0 w (by simp) hcut (by simp; omega) hn hG
        simp only [List.length_cons, List.length_nil] at cN
        by_cases h0 : e0 = 0
        · simp only [if_pos h0] at h
          subst h0
          have hl2 := numsF_length _ _ hn
          obtain ⟨a, b, cp, rfl⟩ : ∃ a b cp, l = [a, b, cp] := by
            match l, hl2 with
            | [a, b, cp], _ => exact ⟨a, b, cp, rfl⟩
          simp only [List.getD_cons_zero, List.getD_cons_succ] at h
          clear hl2
          have hq := Option.bind_eq_some_iff.1 h
          clear h
          obtain ⟨⟨s1, e1⟩, hA, h⟩ := hq
          by_cases h3 : thereB no a = true
          · rw [if_pos h3] at h
            by_cases h4 : thereB no b = true
            · rw [if_pos h4] at h
              by_cases h5 : cp < 0
              · rw [if_pos h5] at h
                have d5 : decide (cp < 0) = true := decide_eq_true (by simpa using h5)
                clear h5
                exact absurd h (by simp)
              · rw [if_neg h5] at h
                have d5 : decide (cp < 0) = false := decide_eq_false (by simpa using h5)
                clear h5
                by_cases h6 : (na : Int) = most
                · rw [if_pos h6] at h
                  have d6 : ((na : Int) == most) = true := beq_iff_eq.mpr h6
                  clear h6
                  exact absurd h (by simp)
                · rw [if_neg h6] at h
                  have d6 : ((na : Int) == most) = false := beq_eq_false_iff_ne.mpr h6
                  clear h6
                  by_cases h7 : e1 = 0
                  · rw [if_pos h7] at h
                    subst h7
                    by_cases h8 : s1 > 4611686018427387903
                    · rw [if_pos h8] at h
                      have d8 : decide (4611686018427387903 < s1) = true := decide_eq_true (by simpa using h8)
                      clear h8
                      exact absurd h (by simp)
                    · rw [if_neg h8] at h
                      have d8 : decide (4611686018427387903 < s1) = false := decide_eq_false (by simpa using h8)
                      clear h8
                      simp only [Option.some.injEq, Prod.mk.injEq, true_and] at h
                      obtain ⟨rfl, rfl⟩ := h
                      have hn1 := Lib.hid hn
                      clear hn
                      go_enter Tryz.func37, Tryz.ntmps37
                      go_wp2_with (first
                        | (go_at_call 48; refine cN.mono ?_; rintro e w1 ⟨v1, rfl, hR, hb⟩; have hx1 := (hb.block g (blk_lt hx)).trans hx; have hbb := Aside0.mk hb; obtain ⟨ad1, c1, rfl, hc1, hcl⟩ := ints_cells hR; have hcl0 := hcl 0 a rfl; rw [Addr.add_zero'] at hcl0; have hcl1 : w1.cell? ⟨ad1.block, ad1.off + 1, none⟩ = some (.int .i64 b) := hcl 1 b rfl; have hcl2 : w1.cell? ⟨ad1.block, ad1.off + 2, none⟩ = some (.int .i64 cp) := hcl 2 cp rfl; have hR1 := Lib.hid hR; clear hcl; simp only [List.length_cons, List.length_nil] at hc1 ⊢; have hz2 : w1.cell? ⟨g, 3, none⟩ = some (.slice Av na cv) := (blk_cell hx1 3).trans rfl; have hz4 : w1.cell? ⟨g, 4, none⟩ = some (.int .i64 most) := (blk_cell hx1 4).trans rfl; have hz5 : w1.cell? ⟨g, 5, none⟩ = some (.int .i64 sum) := (blk_cell hx1 5).trans rfl; have hf3 : w1.frozen? ⟨g, 3, none⟩ = false := blk_frozen hx1 3; have hf5 : w1.frozen? ⟨g, 5, none⟩ = false := blk_frozen hx1 5; clear hR hb)
                        | (go_at_call 49; first | (with_reducible refine (there.callsN g no a _ _ _ _ _ w1 _ hx1).mono ?_; rintro e w2 ⟨rfl, rfl⟩) | (with_reducible refine (there.callsN g no b _ _ _ _ _ w1 _ hx1).mono ?_; rintro e w2 ⟨rfl, rfl⟩))
                        | (go_quiet (exact Calls.quiet_of (addQ _ _ _ _ _ hA)))
                        | ((with_reducible refine gate_store (t := 2) (p := 89) rfl ?_); refine cells_event (by rfl) (by rfl) (by rfl) 5 #[.int .i64 no, .int .i64 so, .int .i64 si, .slice Av na cv, .int .i64 most, .int .i64 s1] [.int .i64 s1] (by (try simp only [World.heap_drewN]); exact hx1) (by rfl) (by rfl) (by kernel_rfl) (by simp [Value.oneCell']) (by simp) (by rfl) ?_; intro w3 hx_w3 hg0; have hg_w3 := Aside0.mk hg0; clear hg0; skip))
                      have F13 : Fr w1 w3 (fun k => k = g) := Fr.grown (by repeat (first | (with_reducible apply Fr.drewN) | (with_reducible exact Fr.refl _ _))) hg_w3.out (by rintro k ⟨⟩; exact .inl rfl)
                      have F3 : Fr w w3 (fun k => k = g) := (Fr.of_below hbb.out (fun k => k = g)).then_ F13 (fun k hk => .inl hk)
                      have hne : ad1.block ≠ g := by
                        have h9 := blk_lt hx
                        have h10 := Kd.R_base hR1.out ad1.block (by simp [Value.ownBlock])
                        omega
                      have kcl0 := F13.cell hcl0 hne
                      have kcl1 := F13.cell hcl1 hne
                      have kcl2 := F13.cell hcl2 hne
                      have kz3 : w3.cell? ⟨g, 3, none⟩ = some (.slice Av na cv) := (blk_cell hx_w3 3).trans rfl
                      have kf3 : w3.frozen? ⟨g, 3, none⟩ = false := blk_frozen hx_w3 3
                      have hR3 : k44.R 44 w3 base (fun k => k ≠ g) (.slice Av na cv) arcs := F3.R hv (fun k hk e => hk e)
                      have hS3 := F3.size
                      have hlt3 := blk_lt hx_w3
                      clear hcl0 hcl1 hcl2 hz2 hz4 hz5 hf3 hf5 hx1
                      have info53 : (Tryz.prog.info? 44).map (fun i => (i.zero, i.size, i.bytes)) = some (some (.agg #[(.int .i64 0), (.int .i64 0), (.int .i64 0)]), 3, 24) := by kernel_rfl
                      have hx3d : w3.drew.heap[g]? = some (.cells #[.int .i64 no, .int .i64 so, .int .i64 si, .slice Av na cv, .int .i64 most, .int .i64 s1] 62 (0, 0)) := by rw [World.drew_is_drewN, World.heap_drewN]; exact hx_w3
                      have hneG : some g ≠ (Value.slice Av na cv).ownBlock := fun e => hv.1 g e.symm rfl
                      have hlt3d := blk_lt hx3d
                      have hltA : ad1.block < w3.drew.heap.size := World.block_lt_of_cell? w3 _ kcl0
                      have hneA : some ad1.block ≠ (Value.slice Av na cv).ownBlock := fun e => by
                        have h11 := Kd.R_lt hv _ e.symm
                        have h10 := Kd.R_base hR1.out ad1.block (by simp [Value.ownBlock])
                        omega
                      have hfresh : ∀ k, w3.drew.heap.size ≤ k → k ≠ g := fun k hk e => by have h5 : w3.heap.size ≤ k := hk; omega
                      have hR3d : k44.R 44 w3.drew base (fun k => k ≠ g) (.slice Av na cv) arcs := hR3
                      have hb3 : base ≤ w3.drew.heap.size := Nat.le_trans hbase hS3
                      have hlen : na = arcs.length := (Kd.R_reads' hR3).1
                      have hl3 : (arcs.length + 1) * 24 ≤ 140737488355328 := by omega
                      refine start_ (n := 22) (S := fun w' => w'.cell? ad1 = some (.int .i64 a) ∧ w'.cell? ⟨ad1.block, ad1.off + 1, none⟩ = some (.int .i64 b) ∧ w'.cell? ⟨ad1.block, ad1.off + 2, none⟩ = some (.int .i64 cp) ∧ w'.cell? ⟨g, 3, none⟩ = some (.slice Av na cv)) (ds := [21]) #[false, false, false, false, false, false, false, false, false, false, false, false, false, false, false, false, false, false, false, false, false, false] (by kernel_rfl) rfl rfl ⟨kcl0, kcl1, kcl2, kz3⟩ (fun hHeld => ?_)
                      refine pure_ (i := 0) (N := some 90) (v := ?_) (a' := ?_) #[true, false, false, false, false, false, false, false, false, false, false, false, false, false, false, false, false, false, false, false, false, false] rfl rfl (by kernel_rfl) (fun _ _ _ h => h) (Or.inl ⟨by rfl, ?_⟩) ?_ ?_
                      rotate_left
                      · intro w'
                        go_simp
                        with_reducible rfl
                      rotate_left
                      · simp only [Act.put, List.setIfInBounds_toArray, List.set_cons_zero, List.set_cons_succ, i64_w, i32_w]
                        rfl
                      refine pure_ (i := 1) (N := some 91) (v := ?_) (a' := ?_) #[true, true, false, false, false, false, false, false, false, false, false, false, false, false, false, false, false, false, false, false, false, false] rfl rfl (by kernel_rfl) (fun _ _ _ h => h) (Or.inl ⟨by rfl, ?_⟩) ?_ ?_
                      rotate_left
                      · intro w'
                        go_simp
                        with_reducible rfl
                      rotate_left
                      · simp only [Act.put, List.setIfInBounds_toArray, List.set_cons_zero, List.set_cons_succ, i64_w, i32_w]
                        rfl
                      refine pure_ (i := 2) (N := some 92) (v := ?_) (a' := ?_) #[true, true, true, false, false, false, false, false, false, false, false, false, false, false, false, false, false, false, false, false, false, false] rfl rfl (by kernel_rfl) (fun _ _ _ h => h) (Or.inl ⟨by rfl, ?_⟩) ?_ ?_
                      rotate_left
                      · intro w'
                        go_simp
                        with_reducible rfl
                      rotate_left
                      · simp only [Act.put, List.setIfInBounds_toArray, List.set_cons_zero, List.set_cons_succ, i64_w, i32_w]
                        rfl
                      refine pure_ (i := 3) (N := some 93) (v := ?_) (a' := ?_) #[true, true, true, true, false, false, false, false, false, false, false, false, false, false, false, false, false, false, false, false, false, false] rfl rfl (by kernel_rfl) (fun _ _ _ h => h) (Or.inl ⟨by rfl, ?_⟩) ?_ ?_
                      rotate_left
                      · intro w'
                        go_simp
                        with_reducible rfl
                      rotate_left
                      · simp only [Act.put, List.setIfInBounds_toArray, List.set_cons_zero, List.set_cons_succ, i64_w, i32_w]
                        rfl
                      refine pure_ (i := 4) (N := some 94) (v := ?_) (a' := ?_) #[true, true, true, true, true, false, false, false, false, false, false, false, false, false, false, false, false, false, false, false, false, false] rfl rfl (by kernel_rfl) (fun _ _ _ h => h) (Or.inl ⟨by rfl, ?_⟩) ?_ ?_
                      rotate_left
                      · intro w'
                        go_simp
                        with_reducible rfl
                      rotate_left
                      · simp only [Act.put, List.setIfInBounds_toArray, List.set_cons_zero, List.set_cons_succ, i64_w, i32_w]
                        rfl
                      refine pure_ (i := 6) (N := some 96) (v := ?_) (a' := ?_) #[true, true, true, true, true, false, true, false, false, false, false, false, false, false, false, false, false, false, false, false, false, false] rfl rfl (by kernel_rfl) (fun _ _ _ h => h) (Or.inl ⟨by rfl, ?_⟩) ?_ ?_
                      rotate_left
                      · intro w'
                        go_simp
                        with_reducible rfl
                      rotate_left
                      · simp only [Act.put, List.setIfInBounds_toArray, List.set_cons_zero, List.set_cons_succ, i64_w, i32_w]
                        rfl
                      refine pure_ (i := 7) (N := some 97) (v := ?_) (a' := ?_) #[true, true, true, true, true, false, true, true, false, false, false, false, false, false, false, false, false, false, false, false, false, false] rfl rfl (by kernel_rfl) (fun _ _ _ h => h) (Or.inl ⟨by rfl, ?_⟩) ?_ ?_
                      rotate_left
                      · intro w'
                        go_simp
                        with_reducible rfl
                      rotate_left
                      · simp only [Act.put, List.setIfInBounds_toArray, List.set_cons_zero, List.set_cons_succ, i64_w, i32_w]
                        rfl
                      refine pure_ (i := 9) (N := some 99) (v := ?_) (a' := ?_) #[true, true, true, true, true, false, true, true, false, true, false, false, false, false, false, false, false, false, false, false, false, false] rfl rfl (by kernel_rfl) (fun _ _ _ h => h) (Or.inl ⟨by rfl, ?_⟩) ?_ ?_
                      rotate_left
                      · intro w'
                        go_simp
                        with_reducible rfl
                      rotate_left
                      · simp only [Act.put, List.setIfInBounds_toArray, List.set_cons_zero, List.set_cons_succ, i64_w, i32_w]
                        rfl
                      refine pure_ (i := 10) (N := some 100) (v := ?_) (a' := ?_) #[true, true, true, true, true, false, true, true, false, true, true, false, false, false, false, false, false, false, false, false, false, false] rfl rfl (by kernel_rfl) (fun _ _ _ h => h) (Or.inl ⟨by rfl, ?_⟩) ?_ ?_
                      rotate_left
                      · intro w'
                        go_simp
                        with_reducible rfl
                      rotate_left
                      · simp only [Act.put, List.setIfInBounds_toArray, List.set_cons_zero, List.set_cons_succ, i64_w, i32_w]
                        rfl
                      refine pure_ (i := 12) (N := some 102) (v := ?_) (a' := ?_) #[true, true, true, true, true, false, true, true, false, true, true, false, true, false, false, false, false, false, false, false, false, false] rfl rfl (by kernel_rfl) (fun _ _ _ h => h) (Or.inl ⟨by rfl, ?_⟩) ?_ ?_
                      rotate_left
                      · intro w'
                        go_simp
                        with_reducible rfl
                      rotate_left
                      · simp only [Act.put, List.setIfInBounds_toArray, List.set_cons_zero, List.set_cons_succ, i64_w, i32_w]
                        rfl
                      refine pure_ (i := 13) (N := some 103) (v := ?_) (a' := ?_) #[true, true, true, true, true, false, true, true, false, true, true, false, true, true, false, false, false, false, false, false, false, false] rfl rfl (by kernel_rfl) (fun _ _ _ h => h) (Or.inl ⟨by rfl, ?_⟩) ?_ ?_
                      rotate_left
                      · intro w'
                        go_simp
                        with_reducible rfl
                      rotate_left
                      · simp only [Act.put, List.setIfInBounds_toArray, List.set_cons_zero, List.set_cons_succ, i64_w, i32_w]
                        rfl
                      refine take_ (i := 5) (N := some 95) (v := ?_) (a' := ?_) #[true, true, true, true, true, true, true, true, false, true, true, false, true, true, false, false, false, false, false, false, false, false] rfl rfl (by kernel_rfl) (fun _ _ _ h => h) (Or.inl ⟨by rfl, ?_⟩) hHeld ?_ ?_
                      rotate_left
                      · rintro w' ⟨s0, s1, s2, s3⟩
                        go_simp
                        with_reducible rfl
                      rotate_left
                      · simp only [Act.put, List.setIfInBounds_toArray, List.set_cons_zero, List.set_cons_succ, i64_w, i32_w]
                        rfl
                      refine take_ (i := 8) (N := some 98) (v := ?_) (a' := ?_) #[true, true, true, true, true, true, true, true, true, true, true, false, true, true, false, false, false, false, false, false, false, false] rfl rfl (by kernel_rfl) (fun _ _ _ h => h) (Or.inl ⟨by rfl, ?_⟩) hHeld ?_ ?_
                      rotate_left
                      · rintro w' ⟨s0, s1, s2, s3⟩
                        go_simp
                        with_reducible rfl
                      rotate_left
                      · simp only [Act.put, List.setIfInBounds_toArray, List.set_cons_zero, List.set_cons_succ, i64_w, i32_w]
                        rfl
                      refine take_ (i := 11) (N := some 101) (v := ?_) (a' := ?_) #[true, true, true, true, true, true, true, true, true, true, true, true, true, true, false, false, false, false, false, false, false, false] rfl rfl (by kernel_rfl) (fun _ _ _ h => h) (Or.inl ⟨by rfl, ?_⟩) hHeld ?_ ?_
                      rotate_left
                      · rintro w' ⟨s0, s1, s2, s3⟩
                        go_simp
                        with_reducible rfl
                      rotate_left
                      · simp only [Act.put, List.setIfInBounds_toArray, List.set_cons_zero, List.set_cons_succ, i64_w, i32_w]
                        rfl
                      refine take_ (i := 14) (N := some 104) (v := ?_) (a' := ?_) #[true, true, true, true, true, true, true, true, true, true, true, true, true, true, true, false, false, false, false, false, false, false] rfl rfl (by kernel_rfl) (fun _ _ _ h => h) (Or.inl ⟨by rfl, ?_⟩) hHeld ?_ ?_
                      rotate_left
                      · rintro w' ⟨s0, s1, s2, s3⟩
                        go_simp
                        with_reducible rfl
                      rotate_left
                      · simp only [Act.put, List.setIfInBounds_toArray, List.set_cons_zero, List.set_cons_succ, i64_w, i32_w]
                        rfl
                      refine pure_ (i := 15) (N := some 105) (v := ?_) (a' := ?_) #[true, true, true, true, true, true, true, true, true, true, true, true, true, true, true, true, false, false, false, false, false, false] rfl rfl (by kernel_rfl) (fun _ _ _ h => h) (Or.inl ⟨by rfl, ?_⟩) ?_ ?_
                      rotate_left
                      · intro w'
                        go_simp
                        with_reducible rfl
                      rotate_left
                      · simp only [Act.put, List.setIfInBounds_toArray, List.set_cons_zero, List.set_cons_succ, i64_w, i32_w]
                        rfl
                      refine one_ (i := 16) (N := some 106) #[true, true, true, true, true, true, true, true, true, true, true, true, true, true, true, true, true, false, false, false, false, false] rfl rfl (by kernel_rfl) (by decide) (fun K hK => ?_)
                      refine value_ (w1 := ?_) (v := ?_) (by rfl) rfl ?_ ?_
                      rotate_left 2
                      · go_simp
                        constructor
                        · rfl
                        · rfl
                      refine hK.out _ _ ⟨(pw_cell_below (below_alloc (Below.refl _ _) _) kcl0), (pw_cell_below (below_alloc (Below.refl _ _) _) kcl1), (pw_cell_below (below_alloc (Below.refl _ _) _) kcl2), (pw_cell_below (below_alloc (Below.refl _ _) _) kz3)⟩ (fun hHeld => ?_)
                      clear hK K
                      refine norm_ (a' := ?_) ?_ ?_
                      rotate_left
                      · show Act.put _ (some 106) _ = _
                        simp only [Act.put, List.setIfInBounds_toArray, List.set_cons_zero, List.set_cons_succ, i64_w, i32_w]
                        rfl
                      refine one_ (i := 17) (N := some 107) #[true, true, true, true, true, true, true, true, true, true, true, true, true, true, true, true, true, true, false, false, false, false] rfl rfl (by kernel_rfl) (by decide) (fun K hK => ?_)
                      refine Kd.R_append_step k44 (w0 := w3.drew) (W := w3.drew) base (by rfl) (.tmp 95) (.tmp 106) 22 44 (.agg #[(.int .i64 0), (.int .i64 0), (.int .i64 0)]) 24 (by rfl) Tryz.underlying22 info53 (by rfl) (by decide) (by omega) (.slice Av na cv) arcs (⟨a, b, cp⟩ : S44) [.int .i64 a, .int .i64 b, .int .i64 cp] (fun k => k ≠ g) (fun _ => False) (by first | rfl | (go_simp; done) | (go_simp; rfl)) (by first | rfl | (go_simp; done) | (go_simp; rfl)) (k44_mkM _ _ _ _) (fun _ hk => hk.elim) hfresh hR3d (Below.refl _ _) hb3 hl3 ?_
                      intro va wa hRa0 hBa0 hga0 hata
                      obtain ⟨Aw, cw, rfl⟩ := Kd.R_slice hRa0
                      simp only [List.length_append, List.length_cons, List.length_nil, Nat.zero_add] at hRa0 ⊢
                      have hxa := (hga0.block g hlt3d hneG).trans hx3d
                      have kza : wa.cell? ⟨g, 3, none⟩ = some (.slice Av na cv) := (blk_cell hxa 3).trans rfl
                      have kfa : wa.frozen? ⟨g, 3, none⟩ = false := blk_frozen hxa 3
                      have hga := Aside0.mk hga0
                      have hRa := Aside0.mk hRa0
                      have hBa := Aside0.mk hBa0
                      have hat := Aside0.mk hata
                      clear hga0 hRa0 hBa0 hata
                      refine hK.out _ _ ⟨((World.cell?_of_block (w := w3.drew) (a := ad1) (hga.out.block _ hltA hneA)).trans kcl0), ((World.cell?_of_block (w := w3.drew) (a := ⟨ad1.block, ad1.off + 1, none⟩) (hga.out.block _ hltA hneA)).trans kcl1), ((World.cell?_of_block (w := w3.drew) (a := ⟨ad1.block, ad1.off + 2, none⟩) (hga.out.block _ hltA hneA)).trans kcl2), kza⟩ (fun hHeld => ?_)
                      clear hK K
                      refine norm_ (a' := ?_) ?_ ?_
                      rotate_left
                      · show Act.put _ (some 107) _ = _
                        simp only [Act.put, List.setIfInBounds_toArray, List.set_cons_zero, List.set_cons_succ, i64_w, i32_w]
                        rfl
                      refine pure_ (i := 18) (N := some 108) (v := ?_) (a' := ?_) #[true, true, true, true, true, true, true, true, true, true, true, true, true, true, true, true, true, true, true, false, false, false] rfl rfl (by kernel_rfl) (fun _ _ _ h => h) (Or.inl ⟨by rfl, ?_⟩) ?_ ?_
                      rotate_left
                      · intro w'
                        go_simp
                        with_reducible rfl
                      rotate_left
                      · simp only [Act.put, List.setIfInBounds_toArray, List.set_cons_zero, List.set_cons_succ, i64_w, i32_w]
                        rfl
                      refine pure_ (i := 19) (N := some 109) (v := ?_) (a' := ?_) #[true, true, true, true, true, true, true, true, true, true, true, true, true, true, true, true, true, true, true, true, false, false] rfl rfl (by kernel_rfl) (fun _ _ _ h => h) (Or.inl ⟨by rfl, ?_⟩) ?_ ?_
                      rotate_left
                      · intro w'
                        go_simp
                        with_reducible rfl
                      rotate_left
                      · simp only [Act.put, List.setIfInBounds_toArray, List.set_cons_zero, List.set_cons_succ, i64_w, i32_w]
                        rfl
                      refine pure_ (i := 20) (N := some 110) (v := ?_) (a' := ?_) #[true, true, true, true, true, true, true, true, true, true, true, true, true, true, true, true, true, true, true, true, true, false] rfl rfl (by kernel_rfl) (fun _ _ _ h => h) (Or.inl ⟨by rfl, ?_⟩) ?_ ?_
                      rotate_left
                      · intro w'
                        go_simp
                        with_reducible rfl
                      rotate_left
                      · simp only [Act.put, List.setIfInBounds_toArray, List.set_cons_zero, List.set_cons_succ, i64_w, i32_w]
                        rfl
                      refine last_ (i := 21) (N := none) #[true, true, true, true, true, true, true, true, true, true, true, true, true, true, true, true, true, true, true, true, true, true] rfl rfl (by kernel_rfl) (by decide) (fun K hK => ?_)
                      refine skip_ (w1 := ?_) (by rfl) rfl ?_ ?_
                      rotate_left
                      · go_simp
                        rfl
                      refine hK.out _ _ ?_
                      clear hK K
                      refine done_ (by kernel_rfl) ?_
                      go_wp2
                      go_ret
                      refine ⟨.slice Aw (arcs.length + 1) cw, rfl, ?_, ?_, ?_⟩
                      all_goals (first
                        | exact blk_put hxa 3 _ rfl
                        | ((with_reducible repeat (first | apply Kd.R_drewN | apply Kd.R_drew)); exact Kd.R_far (p := ⟨g, 3, none⟩) hRa.out (fun k hk => hk) _)
                        | (refine Fr.then_ (F3.mono (S1 := fun k => k = g ∨ some k = (Value.slice Av na cv).ownBlock) (fun k hk => .inl hk)) (S1 := fun k => k = g ∨ some k = (Value.slice Av na cv).ownBlock) ?_ (fun k hk => .inl hk); (repeat (with_reducible first | apply Fr.drewN | apply Fr.drew)); refine Fr.set ?_ (.inl (.inl rfl)) _; exact Fr.grown (Fr.drew (Fr.refl w3 _)) hga.out (fun k hk => .inl (.inr hk.symm))))
                  · rw [if_neg h7] at h
                    have d7 : (e1 == 0) = false := beq_eq_false_iff_ne.mpr h7
                    have d7b : (e1 != 0) = true := bne_iff_ne.mpr h7
                    have d7c : ¬ e1 = 0 := h7
                    exact absurd h (by simp)
            · rw [if_neg h4] at h
              have h4b : thereB no b = false := by simpa using h4
              clear h4
              exact absurd h (by simp)
          · rw [if_neg h3] at h
            have h3b : thereB no a = false := by simpa using h3
            clear h3
            exact absurd h (by simp)
        · simp only [if_neg h0] at h
          have d0 : (e0 == 0) = false := beq_eq_false_iff_ne.mpr h0
          exact absurd h (by simp)
  · rw [if_neg h1] at h
    exact absurd h (by simp)

end Go.Proofs.YtgpeppnbgfdaaaaGreatDoor.R
