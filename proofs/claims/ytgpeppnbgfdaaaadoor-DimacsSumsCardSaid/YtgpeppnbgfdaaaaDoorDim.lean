/-
  The contracts of package dimacs: Parse. By an AI agent.
-/
import Derived.Test.YtgpeppnbgfdaaaaDoorRx0
import Derived.Test.YtgpeppnbgfdaaaaDoorText
import Derived.Test.YtgpeppnbgfdaaaaDoorWalk
import Derived.Test.YtgpeppnbgfdaaaaDoorDimN
import Derived.Deep.RegionHeld3
import Derived.Deep.DrawnRows
namespace Go.Proofs.YtgpeppnbgfdaaaaDoor.R
open Go.RowKit Go.Lib Go.Proofs.TX Go.Proofs.YtgpeppnbgfdaaaaDoor.H Go.Proofs.YtgpeppnbgfdaaaaDoorW.PrintWords Go.Proofs.YtgpeppnbgfdaaaaDoorW.PrintLast Go.Proofs.YtgpeppnbgfdaaaaDoorW.PrintMore
set_option linter.unusedVariables false
set_option linter.unusedSimpArgs false


def ofF : List ByteArray → FuncId
  | [] => 15
  | x :: _ => if (x.toList == [99]) = true then 15 else if (x.toList == [112]) = true then 16 else if (x.toList == [110]) = true then 17 else if (x.toList == [97]) = true then 18 else 19

theorem first_cell {W : World} {A : Option Addr} {n : Nat} {x : ByteArray} {xs : List ByteArray} (h : Kd.C Kd.string W A n (x :: xs)) : ∃ ad, A = some ad ∧ ∀ (j : Nat) y, (x :: xs)[j]? = some y → W.cell? (ad.add j) = some (.string y) := by
  obtain ⟨hl, _, hc⟩ := h
  obtain ⟨ad, rfl, hc2⟩ := hc (by rw [← hl]; simp)
  refine ⟨ad, rfl, ?_⟩
  intro j y hj
  obtain ⟨c, _, rfl, hu⟩ := hc2 j y hj
  have := hu 0 (.string y) rfl
  rwa [show j * Kd.string.sz + 0 = j by show j * 1 + 0 = j; omega] at this


set_option maxRecDepth 100000 in
set_option maxHeartbeats 4000000 in
theorem dimacs_of.calls (A : Option Addr) (c : Nat) (l : List ByteArray) (w : World) (hr : Kd.C Kd.string w A l.length l) (hc : l.length ≤ c) :
    Calls Tryd.prog 10 #[.slice A l.length c] w fun e w' => e = .returned (.agg #[.slice A l.length c, .func (.func (ofF l)) #[] #[]]) ∧ Below w.heap.size w w' := by
  cases l with
  | nil =>
    go_enter Tryd.func10, Tryd.ntmps10
    go_wp2_with (first
      | ((with_reducible refine gate_dst (N := 2) rfl ?_); refine box_event ?hg (N := 2) ?hd (cs := #[.slice none 0 0, .nilFunc]) (t := 42) ?hr ?_; (case hd => rfl); (case hg => rfl); (case hr => first | (go_simp; done) | (go_simp; rfl)); intro g hq0 w1 hx_g hb0; have hq_g := Aside0.mk hq0; clear hq0; have hb_g := Aside0.mk hb0; clear hb0; (try have h0b := pw_cell_below hb_g.out h0))
      | ((with_reducible refine gate_store (t := 42) (p := 2) rfl ?_); refine cells_event (by rfl) (by rfl) (by rfl) 0 #[.slice A 0 c, .func (.func 15) #[] #[]] [.slice A 0 c, .func (.func 15) #[] #[]] hx_g (by rfl) (by rfl) (by kernel_rfl) (by simp [Value.oneCell']) (by simp) (by rfl) ?_; intro w2 hx_w2 hg0; have hg_w2 := Aside0.mk hg0; clear hg0; skip))
    refine bodyPost_ret (results_single rfl (.cell g 42 _ (0, 0) _ rfl hx_w2 Tryd.underlying42 rfl (by kernel_rfl) .nil)) rfl ?_
    exact ⟨rfl, below_grown_ hb_g.out hg_w2.out (by rw [hq_g.out]; exact Nat.le_refl _)⟩
  | cons x xs =>
    obtain ⟨ad, rfl, hcell⟩ := first_cell hr
    have h0 := hcell 0 x rfl
    rw [Addr.add_zero'] at h0
    clear hcell hr
    have hlen : ((((x :: xs).length : Nat) : Int) == 0) = false := by simp; omega
    have hpos : 0 < (x :: xs).length := by simp
    generalize hn : (x :: xs).length = n at *
    cases h1 : (x.toList == [99]) with
    | true =>
      have hF : ofF (x :: xs) = 15 := by simp [ofF, h1]
      go_enter Tryd.func10, Tryd.ntmps10
      go_wp2_with (first
        | ((with_reducible refine gate_dst (N := 2) rfl ?_); refine box_event ?hg (N := 2) ?hd (cs := #[.slice none 0 0, .nilFunc]) (t := 42) ?hr ?_; (case hd => rfl); (case hg => rfl); (case hr => first | (go_simp; done) | (go_simp; rfl)); intro g hq0 w1 hx_g hb0; have hq_g := Aside0.mk hq0; clear hq0; have hb_g := Aside0.mk hb0; clear hb0; (try have h0b := pw_cell_below hb_g.out h0))
        | ((with_reducible refine gate_store (t := 42) (p := 2) rfl ?_); refine cells_event (by rfl) (by rfl) (by rfl) 0 #[.slice (some ad) n c, .func (.func 15) #[] #[]] [.slice (some ad) n c, .func (.func 15) #[] #[]] hx_g (by rfl) (by rfl) (by kernel_rfl) (by simp [Value.oneCell']) (by simp) (by rfl) ?_; intro w2 hx_w2 hg0; have hg_w2 := Aside0.mk hg0; clear hg0; skip))
      refine bodyPost_ret (results_single rfl (.cell g 42 _ (0, 0) _ rfl hx_w2 Tryd.underlying42 rfl (by kernel_rfl) .nil)) rfl ?_
      exact ⟨by rw [hF], below_grown_ hb_g.out hg_w2.out (by rw [hq_g.out]; exact Nat.le_refl _)⟩
    | false =>
      cases h2 : (x.toList == [112]) with
      | true =>
        have hF : ofF (x :: xs) = 16 := by simp [ofF, h1, h2]
        go_enter Tryd.func10, Tryd.ntmps10
        go_wp2_with (first
          | ((with_reducible refine gate_dst (N := 2) rfl ?_); refine box_event ?hg (N := 2) ?hd (cs := #[.slice none 0 0, .nilFunc]) (t := 42) ?hr ?_; (case hd => rfl); (case hg => rfl); (case hr => first | (go_simp; done) | (go_simp; rfl)); intro g hq0 w1 hx_g hb0; have hq_g := Aside0.mk hq0; clear hq0; have hb_g := Aside0.mk hb0; clear hb0; (try have h0b := pw_cell_below hb_g.out h0))
          | ((with_reducible refine gate_store (t := 42) (p := 2) rfl ?_); refine cells_event (by rfl) (by rfl) (by rfl) 0 #[.slice (some ad) n c, .func (.func 16) #[] #[]] [.slice (some ad) n c, .func (.func 16) #[] #[]] hx_g (by rfl) (by rfl) (by kernel_rfl) (by simp [Value.oneCell']) (by simp) (by rfl) ?_; intro w2 hx_w2 hg0; have hg_w2 := Aside0.mk hg0; clear hg0; skip))
        refine bodyPost_ret (results_single rfl (.cell g 42 _ (0, 0) _ rfl hx_w2 Tryd.underlying42 rfl (by kernel_rfl) .nil)) rfl ?_
        exact ⟨by rw [hF], below_grown_ hb_g.out hg_w2.out (by rw [hq_g.out]; exact Nat.le_refl _)⟩
      | false =>
        cases h3 : (x.toList == [110]) with
        | true =>
          have hF : ofF (x :: xs) = 17 := by simp [ofF, h1, h2, h3]
          go_enter Tryd.func10, Tryd.ntmps10
          go_wp2_with (first
            | ((with_reducible refine gate_dst (N := 2) rfl ?_); refine box_event ?hg (N := 2) ?hd (cs := #[.slice none 0 0, .nilFunc]) (t := 42) ?hr ?_; (case hd => rfl); (case hg => rfl); (case hr => first | (go_simp; done) | (go_simp; rfl)); intro g hq0 w1 hx_g hb0; have hq_g := Aside0.mk hq0; clear hq0; have hb_g := Aside0.mk hb0; clear hb0; (try have h0b := pw_cell_below hb_g.out h0))
            | ((with_reducible refine gate_store (t := 42) (p := 2) rfl ?_); refine cells_event (by rfl) (by rfl) (by rfl) 0 #[.slice (some ad) n c, .func (.func 17) #[] #[]] [.slice (some ad) n c, .func (.func 17) #[] #[]] hx_g (by rfl) (by rfl) (by kernel_rfl) (by simp [Value.oneCell']) (by simp) (by rfl) ?_; intro w2 hx_w2 hg0; have hg_w2 := Aside0.mk hg0; clear hg0; skip))
          refine bodyPost_ret (results_single rfl (.cell g 42 _ (0, 0) _ rfl hx_w2 Tryd.underlying42 rfl (by kernel_rfl) .nil)) rfl ?_
          exact ⟨by rw [hF], below_grown_ hb_g.out hg_w2.out (by rw [hq_g.out]; exact Nat.le_refl _)⟩
        | false =>
          cases h4 : (x.toList == [97]) with
          | true =>
            have hF : ofF (x :: xs) = 18 := by simp [ofF, h1, h2, h3, h4]
            go_enter Tryd.func10, Tryd.ntmps10
            go_wp2_with (first
              | ((with_reducible refine gate_dst (N := 2) rfl ?_); refine box_event ?hg (N := 2) ?hd (cs := #[.slice none 0 0, .nilFunc]) (t := 42) ?hr ?_; (case hd => rfl); (case hg => rfl); (case hr => first | (go_simp; done) | (go_simp; rfl)); intro g hq0 w1 hx_g hb0; have hq_g := Aside0.mk hq0; clear hq0; have hb_g := Aside0.mk hb0; clear hb0; (try have h0b := pw_cell_below hb_g.out h0))
              | ((with_reducible refine gate_store (t := 42) (p := 2) rfl ?_); refine cells_event (by rfl) (by rfl) (by rfl) 0 #[.slice (some ad) n c, .func (.func 18) #[] #[]] [.slice (some ad) n c, .func (.func 18) #[] #[]] hx_g (by rfl) (by rfl) (by kernel_rfl) (by simp [Value.oneCell']) (by simp) (by rfl) ?_; intro w2 hx_w2 hg0; have hg_w2 := Aside0.mk hg0; clear hg0; skip))
            refine bodyPost_ret (results_single rfl (.cell g 42 _ (0, 0) _ rfl hx_w2 Tryd.underlying42 rfl (by kernel_rfl) .nil)) rfl ?_
            exact ⟨by rw [hF], below_grown_ hb_g.out hg_w2.out (by rw [hq_g.out]; exact Nat.le_refl _)⟩
          | false =>
            have hF : ofF (x :: xs) = 19 := by simp [ofF, h1, h2, h3, h4]
            go_enter Tryd.func10, Tryd.ntmps10
            go_wp2_with (first
              | ((with_reducible refine gate_dst (N := 2) rfl ?_); refine box_event ?hg (N := 2) ?hd (cs := #[.slice none 0 0, .nilFunc]) (t := 42) ?hr ?_; (case hd => rfl); (case hg => rfl); (case hr => first | (go_simp; done) | (go_simp; rfl)); intro g hq0 w1 hx_g hb0; have hq_g := Aside0.mk hq0; clear hq0; have hb_g := Aside0.mk hb0; clear hb0; (try have h0b := pw_cell_below hb_g.out h0))
              | ((with_reducible refine gate_store (t := 42) (p := 2) rfl ?_); refine cells_event (by rfl) (by rfl) (by rfl) 0 #[.slice (some ad) n c, .func (.func 19) #[] #[]] [.slice (some ad) n c, .func (.func 19) #[] #[]] hx_g (by rfl) (by rfl) (by kernel_rfl) (by simp [Value.oneCell']) (by simp) (by rfl) ?_; intro w2 hx_w2 hg0; have hg_w2 := Aside0.mk hg0; clear hg0; skip))
            refine bodyPost_ret (results_single rfl (.cell g 42 _ (0, 0) _ rfl hx_w2 Tryd.underlying42 rfl (by kernel_rfl) .nil)) rfl ?_
            exact ⟨by rw [hF], below_grown_ hb_g.out hg_w2.out (by rw [hq_g.out]; exact Nat.le_refl _)⟩

end Go.Proofs.YtgpeppnbgfdaaaaDoor.R
