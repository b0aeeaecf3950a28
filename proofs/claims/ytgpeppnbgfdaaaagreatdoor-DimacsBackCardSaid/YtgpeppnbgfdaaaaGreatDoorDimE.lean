/-
  The contract of (*reader).end. By an AI agent.
-/
import Derived.Test.YtgpeppnbgfdaaaaGreatDoorDimP
import Derived.Deep.QuietTactic
namespace Go.Proofs.YtgpeppnbgfdaaaaGreatDoor.R
open Go.RowKit Go.Lib Go.Proofs.TX Go.Proofs.YtgpeppnbgfdaaaaGreatDoor.H Go.Proofs.YtgpeppnbgfdaaaaGreatDoorW.PrintWords Go.Proofs.YtgpeppnbgfdaaaaGreatDoorW.PrintLast Go.Proofs.YtgpeppnbgfdaaaaGreatDoorW.PrintMore
set_option linter.unusedVariables false
set_option linter.unusedSimpArgs false
def thereB (no a : Int) : Bool := decide (1 ≤ a) && decide (a ≤ no)

theorem there.calls (g : Nat) (no x : Int) (v1 v2 v3 v4 v5 : Value) (w : World) (hx : w.heap[g]? = some (.cells #[.int .i64 no, v1, v2, v3, v4, v5] 62 (0, 0))) :
    Calls Tryz.prog 49 #[.pointer (some ⟨g, 0, none⟩), .int .i64 x] w fun e w' => e = .returned (.bool (thereB no x)) ∧ w' = w := by
  have hcz : w.cell? ⟨g, 0, none⟩ = some (.int .i64 no) := (blk_cell hx 0).trans rfl
  by_cases h : 1 ≤ x
  · have d : decide (1 ≤ x) = true := decide_eq_true h
    have hT : thereB no x = decide (x ≤ no) := by unfold thereB; rw [d, Bool.true_and]
    clear h
    go_enter Tryz.func49, Tryz.ntmps49
    go_wp2
    go_ret
    exact ⟨by rw [hT]; rfl, rfl⟩
  · have d : decide (1 ≤ x) = false := decide_eq_false h
    have hT : thereB no x = false := by unfold thereB; rw [d, Bool.false_and]
    clear h
    go_enter Tryz.func49, Tryz.ntmps49
    go_wp2
    go_ret
    exact ⟨by rw [hT]; rfl, rfl⟩

theorem there.callsN (g : Nat) (no x : Int) (v1 v2 v3 v4 v5 : Value) (w : World) (n : Nat) (hx : w.heap[g]? = some (.cells #[.int .i64 no, v1, v2, v3, v4, v5] 62 (0, 0))) :
    Calls Tryz.prog 49 #[.pointer (some ⟨g, 0, none⟩), .int .i64 x] (w.drewN n) fun e w' => e = .returned (.bool (thereB no x)) ∧ w' = w.drewN n :=
  there.calls g no x v1 v2 v3 v4 v5 (w.drewN n) (by rw [World.heap_drewN]; exact hx)

/-- end's one number: error, the number. -/
def endN (no so si : Int) (x : ByteArray) (f : Int → Int × Int × Int) (bad : Int → Int × Int × Int) : Option (Int × Int × Int) :=
  (numsF [x]).bind fun q =>
    if q.2 = 0 then
      if thereB no (q.1.getD 0 0) = true then
        if q.1.getD 0 0 = so then some (bad 5)
        else if q.1.getD 0 0 = si then some (bad 5)
        else some (f (q.1.getD 0 0))
      else some (bad 4)
    else some (bad q.2)
def endF (no so si most : Int) (na : Nat) (ws : List ByteArray) : Option (Int × Int × Int) :=
  if ws.length = 3 then
    if most = -1 then some (2, so, si)
    else if na = 0 then
      if ((wAt ws 2).toList == [115]) = true then
        if so = 0 then endN no so si (wAt ws 1) (fun a => (0, a, si)) (fun e => (e, so, si)) else some (2, so, si)
      else if ((wAt ws 2).toList == [116]) = true then
        if si = 0 then endN no so si (wAt ws 1) (fun a => (0, so, a)) (fun e => (e, so, si)) else some (2, so, si)
      else some (2, so, si)
    else some (2, so, si)
  else some (2, so, si)

set_option maxRecDepth 100000 in
set_option maxHeartbeats 8000000 in
theorem end.calls (g : Nat) (Av : Option Addr) (na cv : Nat) (A : Option Addr) (c : Nat) (ws : List ByteArray) (no so si most sum : Int) (r1 r2 r3 : Int) (w : World) (hr : Kd.C Kd.string w A ws.length ws) (hc : ws.length ≤ c)
    (hx : w.heap[g]? = some (.cells #[.int .i64 no, .int .i64 so, .int .i64 si, .slice Av na cv, .int .i64 most, .int .i64 sum] 62 (0, 0)))
    (h : endF no so si most na ws = some (r1, r2, r3)) (hG : LaidG w) :
    Calls Tryz.prog 36 #[.pointer (some ⟨g, 0, none⟩), .slice A ws.length c] w fun e w' => e = .returned (.int .i64 r1) ∧ w'.heap[g]? = some (.cells #[.int .i64 no, .int .i64 r2, .int .i64 r3, .slice Av na cv, .int .i64 most, .int .i64 sum] 62 (0, 0)) ∧ Fr w w' (fun k => k = g) := by
  unfold endF at h; simp only [endN] at h
  have hcz1 : w.cell? ⟨g, 1, none⟩ = some (.int .i64 so) := (blk_cell hx 1).trans rfl
  have hcz2 : w.cell? ⟨g, 2, none⟩ = some (.int .i64 si) := (blk_cell hx 2).trans rfl
  have hcz3 : w.cell? ⟨g, 3, none⟩ = some (.slice Av na cv) := (blk_cell hx 3).trans rfl
  have hcz4 : w.cell? ⟨g, 4, none⟩ = some (.int .i64 most) := (blk_cell hx 4).trans rfl
  by_cases h1 : ws.length = 3
  · rw [if_pos h1] at h
    obtain ⟨x0, x1, x2, rfl⟩ : ∃ x0 x1 x2, ws = [x0, x1, x2] := by
      match ws, h1 with
      | [x0, x1, x2], _ => exact ⟨x0, x1, x2, rfl⟩
    obtain ⟨ad, rfl, hcell⟩ := first_cell hr
    have hcx1 : w.cell? ⟨ad.block, ad.off + 1, none⟩ = some (.string x1) := hcell 1 x1 rfl
    have hcx2 : w.cell? ⟨ad.block, ad.off + 2, none⟩ = some (.string x2) := hcell 2 x2 rfl
    clear hcell
    simp only [wAt, List.getD_cons_succ, List.getD_cons_zero] at h
    simp only [List.length_cons, List.length_nil] at hc ⊢
    by_cases h2 : most = -1
    · rw [if_pos h2] at h
      subst h2
      simp only [Option.some.injEq, Prod.mk.injEq] at h
      obtain ⟨rfl, rfl, rfl⟩ := h
      go_enter Tryz.func36, Tryz.ntmps36
      go_wp2
      go_ret
      exact ⟨rfl, hx, by repeat (first | (with_reducible first | apply Fr.drewN | apply Fr.drew) | (with_reducible exact Fr.refl _ _))⟩
    · rw [if_neg h2] at h
      have d2 : (most == -1) = false := beq_eq_false_iff_ne.mpr h2
      by_cases h3 : na = 0
      · rw [if_pos h3] at h
        subst h3
        by_cases hk : (x2.toList == [115]) = true
        · rw [if_pos hk] at h
          by_cases h4 : so = 0
          · rw [if_pos h4] at h
            subst h4
            obtain ⟨⟨l, e0⟩, hn, h⟩ := Option.bind_eq_some_iff.1 h
            have cN := nums.calls (some ⟨w.heap.size, 0, none⟩) 1 [x1] l e0 (w.alloc (.cells #[.string x1] 9)) (by simp) (C_new_str w x1 _) (by simp) hn (hG.below (below_alloc (Below.refl _ _) _))
            have hba := below_alloc (Below.refl w.heap.size w) (.cells #[.string x1] 9)
            have hxa := hba.block g (blk_lt hx)
            simp only [List.length_cons, List.length_nil] at cN
            by_cases h5 : e0 = 0
            · simp only [if_pos h5] at h
              subst h5
              have hl2 := numsF_length _ _ hn
              obtain ⟨a, rfl⟩ : ∃ a, l = [a] := by
                match l, hl2 with
                | [a], _ => exact ⟨a, rfl⟩
              simp only [List.getD_cons_zero] at h
              clear hl2
              by_cases h7 : thereB no a = true
              · rw [if_pos h7] at h
                by_cases h8 : a = 0
                · rw [if_pos h8] at h
                  have d8 : (a == 0) = true := beq_iff_eq.mpr h8
                  clear h8
                  simp only [Option.some.injEq, Prod.mk.injEq] at h
                  obtain ⟨rfl, rfl, rfl⟩ := h
                  have hn1 := Lib.hid hn
                  clear hn
                  go_enter Tryz.func36, Tryz.ntmps36
                  go_wp2_with (first
                    | (go_at_call 48; refine cN.mono ?_; rintro e w1 ⟨v1, rfl, hR, hb⟩;  have hx1 := (hb.block g (Nat.lt_of_lt_of_le (blk_lt hx) hba.size)).trans (hxa.trans hx); have hbb := Aside0.mk (hba.trans (hb.mono hba.size)); obtain ⟨ad1, c1, rfl, hc1, hcl⟩ := ints_cells hR; have hcl0 := hcl 0 a rfl; rw [Addr.add_zero'] at hcl0; have hR1 := Lib.hid hR; clear hcl; simp only [List.length_cons, List.length_nil] at hc1 ⊢; have hz1 : w1.cell? ⟨g, 1, none⟩ = some (.int .i64 0) := (blk_cell hx1 1).trans rfl; have hz2 : w1.cell? ⟨g, 2, none⟩ = some (.int .i64 si) := (blk_cell hx1 2).trans rfl; have hf1 : w1.frozen? ⟨g, 1, none⟩ = false := blk_frozen hx1 1; have hf2 : w1.frozen? ⟨g, 2, none⟩ = false := blk_frozen hx1 2; clear hR hb)
                    | (go_at_call 49; refine (there.calls g no a _ _ _ _ _ w1 hx1).mono ?_; rintro e w2 ⟨rfl, rfl⟩)
                    | (go_quiet (fail)))
                  go_ret
                  exact ⟨rfl, hx1, by repeat (first | (with_reducible first | apply Fr.drewN | apply Fr.drew) | (with_reducible exact Fr.of_below hbb.out _))⟩
                · rw [if_neg h8] at h
                  have d8 : (a == 0) = false := beq_eq_false_iff_ne.mpr h8
                  clear h8
                  by_cases h9 : a = si
                  · rw [if_pos h9] at h
                    have d9 : (a == si) = true := beq_iff_eq.mpr h9
                    clear h9
                    simp only [Option.some.injEq, Prod.mk.injEq] at h
                    obtain ⟨rfl, rfl, rfl⟩ := h
                    have hn1 := Lib.hid hn
                    clear hn
                    go_enter Tryz.func36, Tryz.ntmps36
                    go_wp2_with (first
                      | (go_at_call 48; refine cN.mono ?_; rintro e w1 ⟨v1, rfl, hR, hb⟩;  have hx1 := (hb.block g (Nat.lt_of_lt_of_le (blk_lt hx) hba.size)).trans (hxa.trans hx); have hbb := Aside0.mk (hba.trans (hb.mono hba.size)); obtain ⟨ad1, c1, rfl, hc1, hcl⟩ := ints_cells hR; have hcl0 := hcl 0 a rfl; rw [Addr.add_zero'] at hcl0; have hR1 := Lib.hid hR; clear hcl; simp only [List.length_cons, List.length_nil] at hc1 ⊢; have hz1 : w1.cell? ⟨g, 1, none⟩ = some (.int .i64 0) := (blk_cell hx1 1).trans rfl; have hz2 : w1.cell? ⟨g, 2, none⟩ = some (.int .i64 si) := (blk_cell hx1 2).trans rfl; have hf1 : w1.frozen? ⟨g, 1, none⟩ = false := blk_frozen hx1 1; have hf2 : w1.frozen? ⟨g, 2, none⟩ = false := blk_frozen hx1 2; clear hR hb)
                      | (go_at_call 49; refine (there.calls g no a _ _ _ _ _ w1 hx1).mono ?_; rintro e w2 ⟨rfl, rfl⟩)
                      | (go_quiet (fail)))
                    go_ret
                    exact ⟨rfl, hx1, by repeat (first | (with_reducible first | apply Fr.drewN | apply Fr.drew) | (with_reducible exact Fr.of_below hbb.out _))⟩
                  · rw [if_neg h9] at h
                    have d9 : (a == si) = false := beq_eq_false_iff_ne.mpr h9
                    clear h9
                    simp only [Option.some.injEq, Prod.mk.injEq] at h
                    obtain ⟨rfl, rfl, rfl⟩ := h
                    have hn1 := Lib.hid hn
                    clear hn
                    go_enter Tryz.func36, Tryz.ntmps36
                    go_wp2_with (first
                      | (go_at_call 48; refine cN.mono ?_; rintro e w1 ⟨v1, rfl, hR, hb⟩;  have hx1 := (hb.block g (Nat.lt_of_lt_of_le (blk_lt hx) hba.size)).trans (hxa.trans hx); have hbb := Aside0.mk (hba.trans (hb.mono hba.size)); obtain ⟨ad1, c1, rfl, hc1, hcl⟩ := ints_cells hR; have hcl0 := hcl 0 a rfl; rw [Addr.add_zero'] at hcl0; have hR1 := Lib.hid hR; clear hcl; simp only [List.length_cons, List.length_nil] at hc1 ⊢; have hz1 : w1.cell? ⟨g, 1, none⟩ = some (.int .i64 0) := (blk_cell hx1 1).trans rfl; have hz2 : w1.cell? ⟨g, 2, none⟩ = some (.int .i64 si) := (blk_cell hx1 2).trans rfl; have hf1 : w1.frozen? ⟨g, 1, none⟩ = false := blk_frozen hx1 1; have hf2 : w1.frozen? ⟨g, 2, none⟩ = false := blk_frozen hx1 2; clear hR hb)
                      | (go_at_call 49; refine (there.calls g no a _ _ _ _ _ w1 hx1).mono ?_; rintro e w2 ⟨rfl, rfl⟩)
                      | (go_quiet (fail)))
                    go_ret
                    refine ⟨rfl, ?_, ?_⟩
                    · exact blk_put hx1 1 _ rfl
                    · repeat (first | exact Fr.of_below hbb.out _ | apply Fr.drew | apply Fr.drewN | apply Fr.setg)
              · rw [if_neg h7] at h
                have h7b : thereB no a = false := by simpa using h7
                clear h7
                simp only [Option.some.injEq, Prod.mk.injEq] at h
                obtain ⟨rfl, rfl, rfl⟩ := h
                have hn1 := Lib.hid hn
                clear hn
                go_enter Tryz.func36, Tryz.ntmps36
                go_wp2_with (first
                  | (go_at_call 48; refine cN.mono ?_; rintro e w1 ⟨v1, rfl, hR, hb⟩;  have hx1 := (hb.block g (Nat.lt_of_lt_of_le (blk_lt hx) hba.size)).trans (hxa.trans hx); have hbb := Aside0.mk (hba.trans (hb.mono hba.size)); obtain ⟨ad1, c1, rfl, hc1, hcl⟩ := ints_cells hR; have hcl0 := hcl 0 a rfl; rw [Addr.add_zero'] at hcl0; have hR1 := Lib.hid hR; clear hcl; simp only [List.length_cons, List.length_nil] at hc1 ⊢; have hz1 : w1.cell? ⟨g, 1, none⟩ = some (.int .i64 0) := (blk_cell hx1 1).trans rfl; have hz2 : w1.cell? ⟨g, 2, none⟩ = some (.int .i64 si) := (blk_cell hx1 2).trans rfl; have hf1 : w1.frozen? ⟨g, 1, none⟩ = false := blk_frozen hx1 1; have hf2 : w1.frozen? ⟨g, 2, none⟩ = false := blk_frozen hx1 2; clear hR hb)
                  | (go_at_call 49; refine (there.calls g no a _ _ _ _ _ w1 hx1).mono ?_; rintro e w2 ⟨rfl, rfl⟩)
                  | (go_quiet (fail)))
                go_ret
                exact ⟨rfl, hx1, by repeat (first | (with_reducible first | apply Fr.drewN | apply Fr.drew) | (with_reducible exact Fr.of_below hbb.out _))⟩
            · simp only [if_neg h5] at h
              have d5 : (e0 == 0) = false := beq_eq_false_iff_ne.mpr h5
              simp only [Option.some.injEq, Prod.mk.injEq] at h
              obtain ⟨rfl, rfl, rfl⟩ := h
              have hn1 := Lib.hid hn
              clear hn
              go_enter Tryz.func36, Tryz.ntmps36
              go_wp2_with (first
                | (go_at_call 48; refine cN.mono ?_; rintro e w1 ⟨v1, rfl, hR, hb⟩;  have hx1 := (hb.block g (Nat.lt_of_lt_of_le (blk_lt hx) hba.size)).trans (hxa.trans hx); have hbb := Aside0.mk (hba.trans (hb.mono hba.size));  clear hR hb))
              go_ret
              exact ⟨rfl, hx1, by repeat (first | (with_reducible first | apply Fr.drewN | apply Fr.drew) | (with_reducible exact Fr.of_below hbb.out _))⟩
          · rw [if_neg h4] at h
            have d4 : (so == 0) = false := beq_eq_false_iff_ne.mpr h4
            simp only [Option.some.injEq, Prod.mk.injEq] at h
            obtain ⟨rfl, rfl, rfl⟩ := h
            go_enter Tryz.func36, Tryz.ntmps36
            go_wp2
            go_ret
            exact ⟨rfl, hx, by repeat (first | (with_reducible first | apply Fr.drewN | apply Fr.drew) | (with_reducible exact Fr.refl _ _))⟩
        · rw [if_neg hk] at h
          have dk : (x2.toList == [115]) = false := by simpa using hk
          by_cases hk2 : (x2.toList == [116]) = true
          · rw [if_pos hk2] at h
            by_cases h4 : si = 0
            · rw [if_pos h4] at h
              subst h4
              obtain ⟨⟨l, e0⟩, hn, h⟩ := Option.bind_eq_some_iff.1 h
              have cN := nums.calls (some ⟨w.heap.size, 0, none⟩) 1 [x1] l e0 (w.alloc (.cells #[.string x1] 9)) (by simp) (C_new_str w x1 _) (by simp) hn (hG.below (below_alloc (Below.refl _ _) _))
              have hba := below_alloc (Below.refl w.heap.size w) (.cells #[.string x1] 9)
              have hxa := hba.block g (blk_lt hx)
              simp only [List.length_cons, List.length_nil] at cN
              by_cases h5 : e0 = 0
              · simp only [if_pos h5] at h
                subst h5
                have hl2 := numsF_length _ _ hn
                obtain ⟨a, rfl⟩ : ∃ a, l = [a] := by
                  match l, hl2 with
                  | [a], _ => exact ⟨a, rfl⟩
                simp only [List.getD_cons_zero] at h
                clear hl2
                by_cases h7 : thereB no a = true
                · rw [if_pos h7] at h
                  by_cases h8 : a = so
                  · rw [if_pos h8] at h
                    have d8 : (a == so) = true := beq_iff_eq.mpr h8
                    clear h8
                    simp only [Option.some.injEq, Prod.mk.injEq] at h
                    obtain ⟨rfl, rfl, rfl⟩ := h
                    have hn1 := Lib.hid hn
                    clear hn
                    go_enter Tryz.func36, Tryz.ntmps36
                    go_wp2_with (first
                      | (go_at_call 48; refine cN.mono ?_; rintro e w1 ⟨v1, rfl, hR, hb⟩;  have hx1 := (hb.block g (Nat.lt_of_lt_of_le (blk_lt hx) hba.size)).trans (hxa.trans hx); have hbb := Aside0.mk (hba.trans (hb.mono hba.size)); obtain ⟨ad1, c1, rfl, hc1, hcl⟩ := ints_cells hR; have hcl0 := hcl 0 a rfl; rw [Addr.add_zero'] at hcl0; have hR1 := Lib.hid hR; clear hcl; simp only [List.length_cons, List.length_nil] at hc1 ⊢; have hz1 : w1.cell? ⟨g, 1, none⟩ = some (.int .i64 so) := (blk_cell hx1 1).trans rfl; have hz2 : w1.cell? ⟨g, 2, none⟩ = some (.int .i64 0) := (blk_cell hx1 2).trans rfl; have hf1 : w1.frozen? ⟨g, 1, none⟩ = false := blk_frozen hx1 1; have hf2 : w1.frozen? ⟨g, 2, none⟩ = false := blk_frozen hx1 2; clear hR hb)
                      | (go_at_call 49; refine (there.calls g no a _ _ _ _ _ w1 hx1).mono ?_; rintro e w2 ⟨rfl, rfl⟩)
                      | (go_quiet (fail)))
                    go_ret
                    exact ⟨rfl, hx1, by repeat (first | (with_reducible first | apply Fr.drewN | apply Fr.drew) | (with_reducible exact Fr.of_below hbb.out _))⟩
                  · rw [if_neg h8] at h
                    have d8 : (a == so) = false := beq_eq_false_iff_ne.mpr h8
                    clear h8
                    by_cases h9 : a = 0
                    · rw [if_pos h9] at h
                      have d9 : (a == 0) = true := beq_iff_eq.mpr h9
                      clear h9
                      simp only [Option.some.injEq, Prod.mk.injEq] at h
                      obtain ⟨rfl, rfl, rfl⟩ := h
                      have hn1 := Lib.hid hn
                      clear hn
                      go_enter Tryz.func36, Tryz.ntmps36
                      go_wp2_with (first
                        | (go_at_call 48; refine cN.mono ?_; rintro e w1 ⟨v1, rfl, hR, hb⟩;  have hx1 := (hb.block g (Nat.lt_of_lt_of_le (blk_lt hx) hba.size)).trans (hxa.trans hx); have hbb := Aside0.mk (hba.trans (hb.mono hba.size)); obtain ⟨ad1, c1, rfl, hc1, hcl⟩ := ints_cells hR; have hcl0 := hcl 0 a rfl; rw [Addr.add_zero'] at hcl0; have hR1 := Lib.hid hR; clear hcl; simp only [List.length_cons, List.length_nil] at hc1 ⊢; have hz1 : w1.cell? ⟨g, 1, none⟩ = some (.int .i64 so) := (blk_cell hx1 1).trans rfl; have hz2 : w1.cell? ⟨g, 2, none⟩ = some (.int .i64 0) := (blk_cell hx1 2).trans rfl; have hf1 : w1.frozen? ⟨g, 1, none⟩ = false := blk_frozen hx1 1; have hf2 : w1.frozen? ⟨g, 2, none⟩ = false := blk_frozen hx1 2; clear hR hb)
                        | (go_at_call 49; refine (there.calls g no a _ _ _ _ _ w1 hx1).mono ?_; rintro e w2 ⟨rfl, rfl⟩)
                        | (go_quiet (fail)))
                      go_ret
                      exact ⟨rfl, hx1, by repeat (first | (with_reducible first | apply Fr.drewN | apply Fr.drew) | (with_reducible exact Fr.of_below hbb.out _))⟩
                    · rw [if_neg h9] at h
                      have d9 : (a == 0) = false := beq_eq_false_iff_ne.mpr h9
                      clear h9
                      simp only [Option.some.injEq, Prod.mk.injEq] at h
                      obtain ⟨rfl, rfl, rfl⟩ := h
                      have hn1 := Lib.hid hn
                      clear hn
                      go_enter Tryz.func36, Tryz.ntmps36
                      go_wp2_with (first
                        | (go_at_call 48; refine cN.mono ?_; rintro e w1 ⟨v1, rfl, hR, hb⟩;  have hx1 := (hb.block g (Nat.lt_of_lt_of_le (blk_lt hx) hba.size)).trans (hxa.trans hx); have hbb := Aside0.mk (hba.trans (hb.mono hba.size)); obtain ⟨ad1, c1, rfl, hc1, hcl⟩ := ints_cells hR; have hcl0 := hcl 0 a rfl; rw [Addr.add_zero'] at hcl0; have hR1 := Lib.hid hR; clear hcl; simp only [List.length_cons, List.length_nil] at hc1 ⊢; have hz1 : w1.cell? ⟨g, 1, none⟩ = some (.int .i64 so) := (blk_cell hx1 1).trans rfl; have hz2 : w1.cell? ⟨g, 2, none⟩ = some (.int .i64 0) := (blk_cell hx1 2).trans rfl; have hf1 : w1.frozen? ⟨g, 1, none⟩ = false := blk_frozen hx1 1; have hf2 : w1.frozen? ⟨g, 2, none⟩ = false := blk_frozen hx1 2; clear hR hb)
                        | (go_at_call 49; refine (there.calls g no a _ _ _ _ _ w1 hx1).mono ?_; rintro e w2 ⟨rfl, rfl⟩)
                        | (go_quiet (fail)))
                      go_ret
                      refine ⟨rfl, ?_, ?_⟩
                      · exact blk_put hx1 2 _ rfl
                      · repeat (first | exact Fr.of_below hbb.out _ | apply Fr.drew | apply Fr.drewN | apply Fr.setg)
                · rw [if_neg h7] at h
                  have h7b : thereB no a = false := by simpa using h7
                  clear h7
                  simp only [Option.some.injEq, Prod.mk.injEq] at h
                  obtain ⟨rfl, rfl, rfl⟩ := h
                  have hn1 := Lib.hid hn
                  clear hn
                  go_enter Tryz.func36, Tryz.ntmps36
                  go_wp2_with (first
                    | (go_at_call 48; refine cN.mono ?_; rintro e w1 ⟨v1, rfl, hR, hb⟩;  have hx1 := (hb.block g (Nat.lt_of_lt_of_le (blk_lt hx) hba.size)).trans (hxa.trans hx); have hbb := Aside0.mk (hba.trans (hb.mono hba.size)); obtain ⟨ad1, c1, rfl, hc1, hcl⟩ := ints_cells hR; have hcl0 := hcl 0 a rfl; rw [Addr.add_zero'] at hcl0; have hR1 := Lib.hid hR; clear hcl; simp only [List.length_cons, List.length_nil] at hc1 ⊢; have hz1 : w1.cell? ⟨g, 1, none⟩ = some (.int .i64 so) := (blk_cell hx1 1).trans rfl; have hz2 : w1.cell? ⟨g, 2, none⟩ = some (.int .i64 0) := (blk_cell hx1 2).trans rfl; have hf1 : w1.frozen? ⟨g, 1, none⟩ = false := blk_frozen hx1 1; have hf2 : w1.frozen? ⟨g, 2, none⟩ = false := blk_frozen hx1 2; clear hR hb)
                    | (go_at_call 49; refine (there.calls g no a _ _ _ _ _ w1 hx1).mono ?_; rintro e w2 ⟨rfl, rfl⟩)
                    | (go_quiet (fail)))
                  go_ret
                  exact ⟨rfl, hx1, by repeat (first | (with_reducible first | apply Fr.drewN | apply Fr.drew) | (with_reducible exact Fr.of_below hbb.out _))⟩
              · simp only [if_neg h5] at h
                have d5 : (e0 == 0) = false := beq_eq_false_iff_ne.mpr h5
                simp only [Option.some.injEq, Prod.mk.injEq] at h
                obtain ⟨rfl, rfl, rfl⟩ := h
                have hn1 := Lib.hid hn
                clear hn
                go_enter Tryz.func36, Tryz.ntmps36
                go_wp2_with (first
                  | (go_at_call 48; refine cN.mono ?_; rintro e w1 ⟨v1, rfl, hR, hb⟩;  have hx1 := (hb.block g (Nat.lt_of_lt_of_le (blk_lt hx) hba.size)).trans (hxa.trans hx); have hbb := Aside0.mk (hba.trans (hb.mono hba.size));  clear hR hb))
                go_ret
                exact ⟨rfl, hx1, by repeat (first | (with_reducible first | apply Fr.drewN | apply Fr.drew) | (with_reducible exact Fr.of_below hbb.out _))⟩
            · rw [if_neg h4] at h
              have d4 : (si == 0) = false := beq_eq_false_iff_ne.mpr h4
              simp only [Option.some.injEq, Prod.mk.injEq] at h
              obtain ⟨rfl, rfl, rfl⟩ := h
              go_enter Tryz.func36, Tryz.ntmps36
              go_wp2
              go_ret
              exact ⟨rfl, hx, by repeat (first | (with_reducible first | apply Fr.drewN | apply Fr.drew) | (with_reducible exact Fr.refl _ _))⟩
          · rw [if_neg hk2] at h
            have dk2 : (x2.toList == [116]) = false := by simpa using hk2
            simp only [Option.some.injEq, Prod.mk.injEq] at h
            obtain ⟨rfl, rfl, rfl⟩ := h
            go_enter Tryz.func36, Tryz.ntmps36
            go_wp2
            go_ret
            exact ⟨rfl, hx, by repeat (first | (with_reducible first | apply Fr.drewN | apply Fr.drew) | (with_reducible exact Fr.refl _ _))⟩
      · rw [if_neg h3] at h
        have d3 : decide (0 < na) = true := decide_eq_true (by omega)
        have d3b : decide ((0 : Int) < (na : Int)) = true := decide_eq_true (by omega)
        simp only [Option.some.injEq, Prod.mk.injEq] at h
        obtain ⟨rfl, rfl, rfl⟩ := h
        go_enter Tryz.func36, Tryz.ntmps36
        go_wp2
        go_ret
        exact ⟨rfl, hx, by repeat (first | (with_reducible first | apply Fr.drewN | apply Fr.drew) | (with_reducible exact Fr.refl _ _))⟩
  · rw [if_neg h1] at h
    simp only [Option.some.injEq, Prod.mk.injEq] at h
    obtain ⟨rfl, rfl, rfl⟩ := h
    have d1 : ((ws.length : Int) == 3) = false := beq_eq_false_iff_ne.mpr (by omega)
    generalize hn : ws.length = n at *
    go_enter Tryz.func36, Tryz.ntmps36
    go_wp2
    go_ret
    exact ⟨rfl, hx, by repeat (first | (with_reducible first | apply Fr.drewN | apply Fr.drew) | (with_reducible exact Fr.refl _ _))⟩


end Go.Proofs.YtgpeppnbgfdaaaaGreatDoor.R
