/-
  The contract of (*reader).problem. By an AI agent.
-/
import Derived.Test.YtgpeppnbgfdaaaaGreatDoorDim
namespace Go.Proofs.YtgpeppnbgfdaaaaGreatDoor.R
open Go.RowKit Go.Lib Go.Proofs.TX Go.Proofs.YtgpeppnbgfdaaaaGreatDoor.H Go.Proofs.YtgpeppnbgfdaaaaGreatDoorW.PrintWords Go.Proofs.YtgpeppnbgfdaaaaGreatDoorW.PrintLast Go.Proofs.YtgpeppnbgfdaaaaGreatDoorW.PrintMore
set_option linter.unusedVariables false
set_option linter.unusedSimpArgs false
def wAt (ws : List ByteArray) (i : Nat) : ByteArray := ws.getD i ByteArray.empty

theorem ints_cells {w : World} {e base : Nat} {ok : Nat → Prop} {v : Value} {x : Int} {xs : List Int} (h : Kd.R (Kd.int .i64) e w base ok v (x :: xs)) :
    ∃ ad c, v = .slice (some ad) (xs.length + 1) c ∧ xs.length + 1 ≤ c ∧ ∀ (j : Nat) y, (x :: xs)[j]? = some y → w.cell? (ad.add j) = some (.int .i64 y) := by
  obtain ⟨A, c, rfl, hl, hr⟩ := Kd.R_reads h
  obtain ⟨_, _, hc⟩ := hr
  obtain ⟨ad, rfl, hc2⟩ := hc (by simp)
  refine ⟨ad, c, rfl, hl, ?_⟩
  intro j y hj
  obtain ⟨c, _, rfl, hu⟩ := hc2 j y hj
  have := hu 0 (.int .i64 y) rfl
  rwa [show j * (Kd.int .i64).sz + 0 = j by show j * 1 + 0 = j; omega] at this

def problemF (no most : Int) (ws : List ByteArray) : Option (Int × Int × Int) :=
  if ws.length = 4 then
    if ((wAt ws 1).toList == [109, 97, 120]) = true then
      if most = -1 then
        (numsF (ws.drop 2)).bind fun q =>
          if q.2 = 0 then
            if q.1.getD 0 0 < 2 then some (3, no, most)
            else if q.1.getD 0 0 > 500 then some (3, no, most)
            else if q.1.getD 1 0 < 0 then some (3, no, most)
            else if q.1.getD 1 0 > 2000 then some (3, no, most)
            else some (0, q.1.getD 0 0, q.1.getD 1 0)
          else some (q.2, no, most)
      else some (2, no, most)
    else some (2, no, most)
  else some (2, no, most)

set_option maxRecDepth 100000 in
set_option maxHeartbeats 4000000 in
theorem problem.calls (g : Nat) (v : Value) (A : Option Addr) (c : Nat) (ws : List ByteArray) (no so si most sum : Int) (r1 r2 r3 : Int) (w : World) (hr : Kd.C Kd.string w A ws.length ws) (hc : ws.length ≤ c)
    (hx : w.heap[g]? = some (.cells #[.int .i64 no, .int .i64 so, .int .i64 si, v, .int .i64 most, .int .i64 sum] 62 (0, 0)))
    (h : problemF no most ws = some (r1, r2, r3)) (hG : LaidG w) :
    Calls Tryz.prog 35 #[.pointer (some ⟨g, 0, none⟩), .slice A ws.length c] w fun e w' => e = .returned (.int .i64 r1) ∧ w'.heap[g]? = some (.cells #[.int .i64 r2, .int .i64 so, .int .i64 si, v, .int .i64 r3, .int .i64 sum] 62 (0, 0)) ∧ Fr w w' (fun k => k = g) := by
  unfold problemF at h
  have hcz1 := (blk_cell hx 4).trans rfl
  have hfz1 := blk_frozen hx 4
  by_cases h1 : ws.length = 4
  · rw [if_pos h1] at h
    obtain ⟨x0, x1, x2, x3, rfl⟩ : ∃ x0 x1 x2 x3, ws = [x0, x1, x2, x3] := by
      match ws, h1 with
      | [x0, x1, x2, x3], _ => exact ⟨x0, x1, x2, x3, rfl⟩
    obtain ⟨ad, rfl, hcell⟩ := first_cell hr
    have hcx1 : w.cell? ⟨ad.block, ad.off + 1, none⟩ = some (.string x1) := hcell 1 x1 rfl
    simp only [wAt, List.getD_cons_succ, List.getD_cons_zero, List.drop_succ_cons, List.drop_zero] at h
    simp only [List.length_cons, List.length_nil] at hc ⊢
    have hcut : Kd.C Kd.string w (some ⟨ad.block, ad.off + 2, none⟩) 2 [x2, x3] := by
      have := Kd.C_drop (m := 2) (c := c) hr (by simp) hc
      rw [if_neg (by omega)] at this
      exact this
    by_cases h2 : (x1.toList == [109, 97, 120]) = true
    · rw [if_pos h2] at h
      by_cases h3 : most = -1
      · rw [if_pos h3] at h
        subst h3
        obtain ⟨⟨l, e0⟩, hn, h⟩ := Option.bind_eq_some_iff.1 h
        have cN := fun W (hb : Below w.heap.size w W) => nums.calls (some ⟨ad.block, ad.off + 2, none⟩) (c - 2) [x2, x3] l e0 W (by simp) (Kd.C_below hcut hb) (by simp; omega) hn (hG.below hb)
        simp only [List.length_cons, List.length_nil] at cN
        have hB0 := Below.refl w.heap.size w
        by_cases h4 : e0 = 0
        · subst h4
          simp only [if_pos] at h
          have hl2 := numsF_length _ _ hn
          obtain ⟨a, b, rfl⟩ : ∃ a b, l = [a, b] := by
            match l, hl2 with
            | [a, b], _ => exact ⟨a, b, rfl⟩
          simp only [List.getD_cons_succ, List.getD_cons_zero] at h
          clear hl2
          by_cases h5 : a < 2
          · skip
            rw [if_pos h5] at h
            simp only [Option.some.injEq, Prod.mk.injEq] at h
            obtain ⟨rfl, rfl, rfl⟩ := h
            have hn1 := Lib.hid hn
            clear hn
            have d0 : decide (a < 2) = true := decide_eq_true h5
            clear h5
            go_enter Tryz.func35, Tryz.ntmps35
            go_wp2_with (first
              | (go_at_call 48; refine (cN _ hB0).mono ?_; rintro e w1 ⟨v1, rfl, hR, hb⟩; obtain ⟨ad1, c1, rfl, hc1, hcl⟩ := ints_cells hR; have hcl0 := hcl 0 a rfl; rw [Addr.add_zero'] at hcl0; have hcl1 : w1.cell? ⟨ad1.block, ad1.off + 1, none⟩ = some (.int .i64 b) := hcl 1 b rfl; have hx1 := (hb.block g (blk_lt hx)).trans hx; have hR1 := Lib.hid hR; have hbb := Aside0.mk hb; clear hR hb hcl; simp only [List.length_cons, List.length_nil] at hc1 ⊢))
            go_ret
            exact ⟨rfl, hx1, Fr.of_below hbb.out _⟩
          · rw [if_neg h5] at h
            by_cases h6 : a > 500
            · skip
              rw [if_pos h6] at h
              simp only [Option.some.injEq, Prod.mk.injEq] at h
              obtain ⟨rfl, rfl, rfl⟩ := h
              have hn1 := Lib.hid hn
              clear hn
              have d0 : decide (a < 2) = false := decide_eq_false h5
              have d1 : decide (500 < a) = true := decide_eq_true h6
              clear h5
              clear h6
              go_enter Tryz.func35, Tryz.ntmps35
              go_wp2_with (first
                | (go_at_call 48; refine (cN _ hB0).mono ?_; rintro e w1 ⟨v1, rfl, hR, hb⟩; obtain ⟨ad1, c1, rfl, hc1, hcl⟩ := ints_cells hR; have hcl0 := hcl 0 a rfl; rw [Addr.add_zero'] at hcl0; have hcl1 : w1.cell? ⟨ad1.block, ad1.off + 1, none⟩ = some (.int .i64 b) := hcl 1 b rfl; have hx1 := (hb.block g (blk_lt hx)).trans hx; have hR1 := Lib.hid hR; have hbb := Aside0.mk hb; clear hR hb hcl; simp only [List.length_cons, List.length_nil] at hc1 ⊢))
              go_ret
              exact ⟨rfl, hx1, Fr.of_below hbb.out _⟩
            · rw [if_neg h6] at h
              by_cases h7 : b < 0
              · skip
                rw [if_pos h7] at h
                simp only [Option.some.injEq, Prod.mk.injEq] at h
                obtain ⟨rfl, rfl, rfl⟩ := h
                have hn1 := Lib.hid hn
                clear hn
                have d0 : decide (a < 2) = false := decide_eq_false h5
                have d1 : decide (500 < a) = false := decide_eq_false h6
                have d2 : decide (b < 0) = true := decide_eq_true h7
                clear h5
                clear h6
                clear h7
                go_enter Tryz.func35, Tryz.ntmps35
                go_wp2_with (first
                  | (go_at_call 48; refine (cN _ hB0).mono ?_; rintro e w1 ⟨v1, rfl, hR, hb⟩; obtain ⟨ad1, c1, rfl, hc1, hcl⟩ := ints_cells hR; have hcl0 := hcl 0 a rfl; rw [Addr.add_zero'] at hcl0; have hcl1 : w1.cell? ⟨ad1.block, ad1.off + 1, none⟩ = some (.int .i64 b) := hcl 1 b rfl; have hx1 := (hb.block g (blk_lt hx)).trans hx; have hR1 := Lib.hid hR; have hbb := Aside0.mk hb; clear hR hb hcl; simp only [List.length_cons, List.length_nil] at hc1 ⊢))
                go_ret
                exact ⟨rfl, hx1, Fr.of_below hbb.out _⟩
              · rw [if_neg h7] at h
                by_cases h8 : b > 2000
                · skip
                  rw [if_pos h8] at h
                  simp only [Option.some.injEq, Prod.mk.injEq] at h
                  obtain ⟨rfl, rfl, rfl⟩ := h
                  have hn1 := Lib.hid hn
                  clear hn
                  have d0 : decide (a < 2) = false := decide_eq_false h5
                  have d1 : decide (500 < a) = false := decide_eq_false h6
                  have d2 : decide (b < 0) = false := decide_eq_false h7
                  have d3 : decide (2000 < b) = true := decide_eq_true h8
                  clear h5
                  clear h6
                  clear h7
                  clear h8
                  go_enter Tryz.func35, Tryz.ntmps35
                  go_wp2_with (first
                    | (go_at_call 48; refine (cN _ hB0).mono ?_; rintro e w1 ⟨v1, rfl, hR, hb⟩; obtain ⟨ad1, c1, rfl, hc1, hcl⟩ := ints_cells hR; have hcl0 := hcl 0 a rfl; rw [Addr.add_zero'] at hcl0; have hcl1 : w1.cell? ⟨ad1.block, ad1.off + 1, none⟩ = some (.int .i64 b) := hcl 1 b rfl; have hx1 := (hb.block g (blk_lt hx)).trans hx; have hR1 := Lib.hid hR; have hbb := Aside0.mk hb; clear hR hb hcl; simp only [List.length_cons, List.length_nil] at hc1 ⊢))
                  go_ret
                  exact ⟨rfl, hx1, Fr.of_below hbb.out _⟩
                · skip
                  rw [if_neg h8] at h
                  simp only [Option.some.injEq, Prod.mk.injEq] at h
                  obtain ⟨rfl, rfl, rfl⟩ := h
                  have hn1 := Lib.hid hn
                  clear hn
                  have d0 : decide (a < 2) = false := decide_eq_false h5
                  have d1 : decide (500 < a) = false := decide_eq_false h6
                  have d2 : decide (b < 0) = false := decide_eq_false h7
                  have d3 : decide (2000 < b) = false := decide_eq_false h8
                  clear h5 h6 h7 h8
                  go_enter Tryz.func35, Tryz.ntmps35
                  go_wp2_with (first
                    | (go_at_call 48; refine (cN _ hB0).mono ?_; rintro e w1 ⟨v1, rfl, hR, hb⟩; obtain ⟨ad1, c1, rfl, hc1, hcl⟩ := ints_cells hR; have hcl0 := hcl 0 a rfl; rw [Addr.add_zero'] at hcl0; have hcl1 : w1.cell? ⟨ad1.block, ad1.off + 1, none⟩ = some (.int .i64 b) := hcl 1 b rfl; have hx1 := (hb.block g (blk_lt hx)).trans hx; have hR1 := Lib.hid hR; have hbb := Aside0.mk hb; clear hR hb hcl; simp only [List.length_cons, List.length_nil] at hc1 ⊢))
                  have hz0 : w1.cell? ⟨g, 0, none⟩ = some (.int .i64 no) := (blk_cell hx1 0).trans rfl
                  have hz4 : w1.cell? ⟨g, 4, none⟩ = some (.int .i64 (-1)) := (blk_cell hx1 4).trans rfl
                  have hf0 : w1.frozen? ⟨g, 0, none⟩ = false := blk_frozen hx1 0
                  have hf4 : w1.frozen? ⟨g, 4, none⟩ = false := blk_frozen hx1 4
                  have hne : ad1.block ≠ g := by
                    have h9 := blk_lt hx
                    have h10 := Kd.R_base hR1.out ad1.block (by simp [Value.ownBlock])
                    omega
                  go_region_held3 (fun w' => w'.cell? ad1 = some (.int .i64 a) ∧ w'.cell? ⟨ad1.block, ad1.off + 1, none⟩ = some (.int .i64 b)) (first | (constructor <;> first | assumption | (change World.cell? (World.setCell _ _ _) _ = _; refine (cell_far ?_ _).trans ?_; exact hne; assumption) | (change World.cell? (World.setCell (World.setCell _ _ _) _ _) _ = _; refine (cell_far ?_ _).trans ((cell_far ?_ _).trans ?_); exact hne; exact hne; assumption)) | go_keep) (fail)
                  go_wp2
                  go_ret
                  refine ⟨rfl, ?_, ?_⟩
                  · exact blk_put (blk_put hx1 0 _ rfl) 4 _ rfl
                  · repeat (first | exact Fr.of_below hbb.out _ | apply Fr.drew | apply Fr.setg)
        · simp only [if_neg h4] at h
          simp only [Option.some.injEq, Prod.mk.injEq] at h
          obtain ⟨rfl, rfl, rfl⟩ := h
          have d4 : (e0 == 0) = false := beq_eq_false_iff_ne.mpr h4
          have hn1 := Lib.hid hn
          clear hn
          go_enter Tryz.func35, Tryz.ntmps35
          go_wp2_with (first
            | (go_at_call 48; refine (cN _ hB0).mono ?_; rintro e w1 ⟨v1, rfl, hR, hb⟩; have hx1 := (hb.block g (blk_lt hx)).trans hx; have hbb := Aside0.mk hb; clear hR hb))
          go_ret
          exact ⟨rfl, hx1, Fr.of_below hbb.out _⟩
      · rw [if_neg h3] at h
        simp only [Option.some.injEq, Prod.mk.injEq] at h
        obtain ⟨rfl, rfl, rfl⟩ := h
        have d3 : (most == -1) = false := beq_eq_false_iff_ne.mpr h3
        go_enter Tryz.func35, Tryz.ntmps35
        go_wp2
        go_ret
        exact ⟨rfl, hx, Fr.refl _ _⟩
    · rw [if_neg h2] at h
      simp only [Option.some.injEq, Prod.mk.injEq] at h
      obtain ⟨rfl, rfl, rfl⟩ := h
      have d2 : (x1.toList == [109, 97, 120]) = false := by simpa using h2
      go_enter Tryz.func35, Tryz.ntmps35
      go_wp2
      go_ret
      exact ⟨rfl, hx, Fr.refl _ _⟩
  · rw [if_neg h1] at h
    simp only [Option.some.injEq, Prod.mk.injEq] at h
    obtain ⟨rfl, rfl, rfl⟩ := h
    have d1 : ((ws.length : Int) == 4) = false := beq_eq_false_iff_ne.mpr (by omega)
    generalize hn : ws.length = n at *
    go_enter Tryz.func35, Tryz.ntmps35
    go_wp2
    go_ret
    exact ⟨rfl, hx, Fr.refl _ _⟩

end Go.Proofs.YtgpeppnbgfdaaaaGreatDoor.R
