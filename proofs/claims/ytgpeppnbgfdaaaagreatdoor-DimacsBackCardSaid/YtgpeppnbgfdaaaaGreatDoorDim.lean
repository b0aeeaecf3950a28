/-
  The contracts of package dimacs: Parse. By an AI agent.
-/
import Derived.Test.YtgpeppnbgfdaaaaGreatDoorRx0
import Derived.Test.YtgpeppnbgfdaaaaGreatDoorText
import Derived.Test.YtgpeppnbgfdaaaaGreatDoorWalk
import Derived.Test.YtgpeppnbgfdaaaaGreatDoorDimN
import Derived.Deep.RegionHeld3
import Derived.Deep.DrawnRows
namespace Go.Proofs.YtgpeppnbgfdaaaaGreatDoor.R
open Go.RowKit Go.Lib Go.Proofs.TX Go.Proofs.YtgpeppnbgfdaaaaGreatDoor.H Go.Proofs.YtgpeppnbgfdaaaaGreatDoorW.PrintWords Go.Proofs.YtgpeppnbgfdaaaaGreatDoorW.PrintLast Go.Proofs.YtgpeppnbgfdaaaaGreatDoorW.PrintMore
set_option linter.unusedVariables false
set_option linter.unusedSimpArgs false


def ofF : List ByteArray → FuncId
  | [] => 34
  | x :: _ => if (x.toList == [99]) = true then 34 else if (x.toList == [112]) = true then 35 else if (x.toList == [110]) = true then 36 else if (x.toList == [97]) = true then 37 else 38

theorem first_cell {W : World} {A : Option Addr} {n : Nat} {x : ByteArray} {xs : List ByteArray} (h : Kd.C Kd.string W A n (x :: xs)) : ∃ ad, A = some ad ∧ ∀ (j : Nat) y, (x :: xs)[j]? = some y → W.cell? (ad.add j) = some (.string y) := by
  obtain ⟨hl, _, hc⟩ := h
  obtain ⟨ad, rfl, hc2⟩ := hc (by rw [← hl]; simp)
  refine ⟨ad, rfl, ?_⟩
  intro j y hj
  obtain ⟨c, _, rfl, hu⟩ := hc2 j y hj
  have := hu 0 (.string y) rfl
  rwa [show j * Kd.string.sz + 0 = j by show j * 1 + 0 = j; omega] at this


set_option maxRecDepth 100000 in
set_option maxHeartbeats 4000000 in
theorem dimacs_of.calls (A : Option Addr) (c : Nat) (l : List ByteArray) (w : World) (hr : Kd.C Kd.string w A l.length l) (hc : l.length ≤ c) :
    Calls Tryz.prog 23 #[.slice A l.length c] w fun e w' => e = .returned (.agg #[.slice A l.length c, .func (.func (ofF l)) #[] #[]]) ∧ Below w.heap.size w w' := by
  cases l with
  | nil =>
    go_enter Tryz.func23, Tryz.ntmps23
    go_wp2_with (first
      | ((with_reducible refine gate_dst (N := 2) rfl ?_); refine box_event ?hg (N := 2) ?hd (cs := #[.slice none 0 0, .nilFunc]) (t := 65) ?hr ?_; (case hd => rfl); (case hg => rfl); (case hr => first | (go_simp; done) | (go_simp; rfl)); intro g hq0 w1 hx_g hb0; have hq_g := Aside0.mk hq0; clear hq0; have hb_g := Aside0.mk hb0; clear hb0; (try have h0b := pw_cell_below hb_g.out h0))
      | ((with_reducible refine gate_store (t := 65) (p := 2) rfl ?_); refine cells_event (by rfl) (by rfl) (by rfl) 0 #[.slice A 0 c, .func (.func 34) #[] #[]] [.slice A 0 c, .func (.func 34) #[] #[]] hx_g (by rfl) (by rfl) (by kernel_rfl) (by simp [Value.oneCell']) (by simp) (by rfl) ?_; intro w2 hx_w2 hg0; have hg_w2 := Aside0.mk hg0; clear hg0; skip))
    refine bodyPost_ret (results_single rfl (.cell g 65 _ (0, 0) _ rfl hx_w2 Tryz.underlying65 rfl (by kernel_rfl) .nil)) rfl ?_
    exact ⟨rfl, below_grown_ hb_g.out hg_w2.out (by rw [hq_g.out]; exact Nat.le_refl _)⟩
  | cons x xs =>
    obtain ⟨ad, rfl, hcell⟩ := first_cell hr
    have h0 := hcell 0 x rfl
    rw [Addr.add_zero'] at h0
    clear hcell hr
    have hlen : ((((x :: xs).length : Nat) : Int) == 0) = false := by simp; omega
    have hpos : 0 < (x :: xs).length := by simp
    generalize hn : (x :: xs).length = n at *
    cases h1 : (x.toList == [99]) with
    | true =>
      have hF : ofF (x :: xs) = 34 := by simp [ofF, h1]
      go_enter Tryz.func23, Tryz.ntmps23
      go_wp2_with (first
        | ((with_reducible refine gate_dst (N := 2) rfl ?_); refine box_event ?hg (N := 2) ?hd (cs := #[.slice none 0 0, .nilFunc]) (t := 65) ?hr ?_; (case hd => rfl); (case hg => rfl); (case hr => first | (go_simp; done) | (go_simp; rfl)); intro g hq0 w1 hx_g hb0; have hq_g := Aside0.mk hq0; clear hq0; have hb_g := Aside0.mk hb0; clear hb0; (try have h0b := pw_cell_below hb_g.out h0))
        | ((with_reducible refine gate_store (t := 65) (p := 2) rfl ?_); refine cells_event (by rfl) (by rfl) (by rfl) 0 #[.slice (some ad) n c, .func (.func 34) #[] #[]] [.slice (some ad) n c, .func (.func 34) #[] #[]] hx_g (by rfl) (by rfl) (by kernel_rfl) (by simp [Value.oneCell']) (by simp) (by rfl) ?_; intro w2 hx_w2 hg0; have hg_w2 := Aside0.mk hg0; clear hg0; skip))
      refine bodyPost_ret (results_single rfl (.cell g 65 _ (0, 0) _ rfl hx_w2 Tryz.underlying65 rfl (by kernel_rfl) .nil)) rfl ?_
      exact ⟨by rw [hF], below_grown_ hb_g.out hg_w2.out (by rw [hq_g.out]; exact Nat.le_refl _)⟩
    | false =>
      cases h2 : (x.toList == [112]) with
      | true =>
        have hF : ofF (x :: xs) = 35 := by simp [ofF, h1, h2]
        go_enter Tryz.func23, Tryz.ntmps23
        go_wp2_with (first
          | ((with_reducible refine gate_dst (N := 2) rfl ?_); refine box_event ?hg (N := 2) ?hd (cs := #[.slice none 0 0, .nilFunc]) (t := 65) ?hr ?_; (case hd => rfl); (case hg => rfl); (case hr => first | (go_simp; done) | (go_simp; rfl)); intro g hq0 w1 hx_g hb0; have hq_g := Aside0.mk hq0; clear hq0; have hb_g := Aside0.mk hb0; clear hb0; (try have h0b := pw_cell_below hb_g.out h0))
          | ((with_reducible refine gate_store (t := 65) (p := 2) rfl ?_); refine cells_event (by rfl) (by rfl) (by rfl) 0 #[.slice (some ad) n c, .func (.func 35) #[] #[]] [.slice (some ad) n c, .func (.func 35) #[] #[]] hx_g (by rfl) (by rfl) (by kernel_rfl) (by simp [Value.oneCell']) (by simp) (by rfl) ?_; intro w2 hx_w2 hg0; have hg_w2 := Aside0.mk hg0; clear hg0; skip))
        refine bodyPost_ret (results_single rfl (.cell g 65 _ (0, 0) _ rfl hx_w2 Tryz.underlying65 rfl (by kernel_rfl) .nil)) rfl ?_
        exact ⟨by rw [hF], below_grown_ hb_g.out hg_w2.out (by rw [hq_g.out]; exact Nat.le_refl _)⟩
      | false =>
        cases h3 : (x.toList == [110]) with
        | true =>
          have hF : ofF (x :: xs) = 36 := by simp [ofF, h1, h2, h3]
          go_enter Tryz.func23, Tryz.ntmps23
          go_wp2_with (first
            | ((with_reducible refine gate_dst (N := 2) rfl ?_); refine box_event ?hg (N := 2) ?hd (cs := #[.slice none 0 0, .nilFunc]) (t := 65) ?hr ?_; (case hd => rfl); (case hg => rfl); (case hr => first | (go_simp; done) | (go_simp; rfl)); intro g hq0 w1 hx_g hb0; have hq_g := Aside0.mk hq0; clear hq0; have hb_g := Aside0.mk hb0; clear hb0; (try have h0b := pw_cell_below hb_g.out h0))
            | ((with_reducible refine gate_store (t := 65) (p := 2) rfl ?_); refine cells_event (by rfl) (by rfl) (by rfl) 0 #[.slice (some ad) n c, .func (.func 36) #[] #[]] [.slice (some ad) n c, .func (.func 36) #[] #[]] hx_g (by rfl) (by rfl) (by kernel_rfl) (by simp [Value.oneCell']) (by simp) (by rfl) ?_; intro w2 hx_w2 hg0; have hg_w2 := Aside0.mk hg0; clear hg0; skip))
          refine bodyPost_ret (results_single rfl (.cell g 65 _ (0, 0) _ rfl hx_w2 Tryz.underlying65 rfl (by kernel_rfl) .nil)) rfl ?_
          exact ⟨by rw [hF], below_grown_ hb_g.out hg_w2.out (by rw [hq_g.out]; exact Nat.le_refl _)⟩
        | false =>
          cases h4 : (x.toList == [97]) with
          | true =>
            have hF : ofF (x :: xs) = 37 := by simp [ofF, h1, h2, h3, h4]
            go_enter Tryz.func23, Tryz.ntmps23
            go_wp2_with (first
              | ((with_reducible refine gate_dst (N := 2) rfl ?_); refine box_event ?hg (N := 2) ?hd (cs := #[.slice none 0 0, .nilFunc]) (t := 65) ?hr ?_; (case hd => rfl); (case hg => rfl); (case hr => first | (go_simp; done) | (go_simp; rfl)); intro g hq0 w1 hx_g hb0; have hq_g := Aside0.mk hq0; clear hq0; have hb_g := Aside0.mk hb0; clear hb0; (try have h0b := pw_cell_below hb_g.out h0))
              | ((with_reducible refine gate_store (t := 65) (p := 2) rfl ?_); refine cells_event (by rfl) (by rfl) (by rfl) 0 #[.slice (some ad) n c, .func (.func 37) #[] #[]] [.slice (some ad) n c, .func (.func 37) #[] #[]] hx_g (by rfl) (by rfl) (by kernel_rfl) (by simp [Value.oneCell']) (by simp) (by rfl) ?_; intro w2 hx_w2 hg0; have hg_w2 := Aside0.mk hg0; clear hg0; skip))
            refine bodyPost_ret (results_single rfl (.cell g 65 _ (0, 0) _ rfl hx_w2 Tryz.underlying65 rfl (by kernel_rfl) .nil)) rfl ?_
            exact ⟨by rw [hF], below_grown_ hb_g.out hg_w2.out (by rw [hq_g.out]; exact Nat.le_refl _)⟩
          | false =>
            have hF : ofF (x :: xs) = 38 := by simp [ofF, h1, h2, h3, h4]
            go_enter Tryz.func23, Tryz.ntmps23
            go_wp2_with (first
              | ((with_reducible refine gate_dst (N := 2) rfl ?_); refine box_event ?hg (N := 2) ?hd (cs := #[.slice none 0 0, .nilFunc]) (t := 65) ?hr ?_; (case hd => rfl); (case hg => rfl); (case hr => first | (go_simp; done) | (go_simp; rfl)); intro g hq0 w1 hx_g hb0; have hq_g := Aside0.mk hq0; clear hq0; have hb_g := Aside0.mk hb0; clear hb0; (try have h0b := pw_cell_below hb_g.out h0))
              | ((with_reducible refine gate_store (t := 65) (p := 2) rfl ?_); refine cells_event (by rfl) (by rfl) (by rfl) 0 #[.slice (some ad) n c, .func (.func 38) #[] #[]] [.slice (some ad) n c, .func (.func 38) #[] #[]] hx_g (by rfl) (by rfl) (by kernel_rfl) (by simp [Value.oneCell']) (by simp) (by rfl) ?_; intro w2 hx_w2 hg0; have hg_w2 := Aside0.mk hg0; clear hg0; skip))
            refine bodyPost_ret (results_single rfl (.cell g 65 _ (0, 0) _ rfl hx_w2 Tryz.underlying65 rfl (by kernel_rfl) .nil)) rfl ?_
            exact ⟨by rw [hF], below_grown_ hb_g.out hg_w2.out (by rw [hq_g.out]; exact Nat.le_refl _)⟩

end Go.Proofs.YtgpeppnbgfdaaaaGreatDoor.R
