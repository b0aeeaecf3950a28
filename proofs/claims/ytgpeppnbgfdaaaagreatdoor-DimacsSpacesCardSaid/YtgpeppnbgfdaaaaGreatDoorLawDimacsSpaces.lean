/-
  DimacsSpaces: the row and the tied card, out of the plain statement and the walk.
  Conditions: the row's own: the listed package-level variables of the library hold what their initialisers lay (the card ties them to the program's text).
-/
import Derived.Test.YtgpeppnbgfdaaaaGreatDoorLaid
import Derived.Test.YtgpeppnbgfdaaaaGreatDoorRx7
import Derived.Test.YtgpeppnbgfdaaaaGreatDoorPureDimacsSpaces
import Derived.Test.YtgpeppnbgfdaaaaGreatDoorArgs
import Derived.WalkKit
import Derived.ProofKit
import Derived.OpenShut
import Derived.ShutString
import Derived.ChangeOld
import Derived.Below
import Derived.SizedLaws
import Derived.Deep.DeepHandedRow
import Derived.Deep.DeepWitnessRowRef
import Derived.Lib.SmallJoins
namespace Go.Proofs.YtgpeppnbgfdaaaaGreatDoor.dimacsSpaces
open Go.ChangeShapes Go.WideShapes Go.ChangeAt Go.RowKit Go.Proofs.YtgpeppnbgfdaaaaGreatDoor.H
open Go.ChangeMaps (open_string shut_string)
theorem own : ownKnob Tryz.prog.godebug = none := by kernel_rfl
theorem laidOut : laidOutB Tryz.prog = true := by kernel_rfl
theorem reads (os : Os) {H : Type} (enc : TypeId × Value → H) : ∃ places, DataW.whole enc Tryz.prog ((laidWorld os).forCall (fun _ _ => 0) ⟨#[], #[.int .i64 0, .int .i64 0, .slice none 0 0, .slice none 0 0], []⟩).memory Tryz.f6.params.toList Rows.dimacsSpacesSpec.vars false #[(Value.int .i64 0), (Value.int .i64 0), (Value.slice none 0 0), (Value.slice none 0 0)].toList 8 = some ([.lit (.int .i64 0), .lit (.int .i64 0), .nil, .nil], [], places) :=
  ⟨[], by kernel_rfl⟩
set_option maxRecDepth 100000 in
theorem contract (H : Type) (enc : TypeId × Value → H) (W : World) (base : Nat) (args : Array Value) (ds gs : List (DataW H)) (before : List MemPlace)
    (hval0 : ∀ (j : Nat) t v, Tryz.f6.params[j]? = some t → args[j]? = some v → Value.okWide Tryz.prog W .any base t v)
    (hW : DataW.Whole enc Tryz.prog Tryz.f6.params.toList Rows.dimacsSpacesSpec.vars false W args.toList ds gs before)
    (hsz0 : (DataW.weightsEach Tryz.prog (Tryz.f6.params.toList ++ Rows.dimacsSpacesSpec.plain.varTypes Tryz.prog) (ds ++ gs)).all (· ≤ reachBytes) = true) (hG : LaidG W) :
    Calls Tryz.prog 6 args W fun e W' => ∃ v, e = .returned v ∧ Rows.dimacsSpacesSpec.post enc Tryz.prog Tryz.f6 false true false false W args v W' := by
  have hsz := hsz0
  have hval := hval0
  have hW' := hW
  obtain ⟨p, q, hA0, hV, rfl, hfz, hnd⟩ := hW
  have hA : DataW.TrodAll enc Tryz.prog W 0 (fun _ => true) true Tryz.f6.params.toList args.toList ds p := hA0
  rw [Tryz.params6] at hA hval hsz
  obtain ⟨v0, vs0, d0, ds0, p0, q0, hargs, rfl, rfl, h0, r0⟩ := trodAll_cons hA
  obtain ⟨v1, vs1, d1, ds1, p1, q1, rfl, rfl, rfl, h1, r1⟩ := trodAll_cons r0
  obtain ⟨v2, vs2, d2, ds2, p2, q2, rfl, rfl, rfl, h2, r2⟩ := trodAll_cons r1
  obtain ⟨v3, vs3, d3, ds3, p3, q3, rfl, rfl, rfl, h3, r3⟩ := trodAll_cons r2
  obtain ⟨rfl, rfl, rfl⟩ := trodAll_nil r3
  obtain rfl : args = #[v0, v1, v2, v3] := by cases args; simp_all
  obtain ⟨rfl, rfl⟩ := trodVars_none hV
  obtain ⟨a0, rfl, rfl, rfl, w0⟩ := open_int Tryz.underlying3 (hval 0 3 v0 rfl rfl) h0
  obtain ⟨a1, rfl, rfl, rfl, w1⟩ := open_int Tryz.underlying3 (hval 1 3 v1 rfl rfl) h1
  have k2 := h2
  have lt2 : ∀ x ∈ p2, x.block < W.heap.size := by obtain ⟨m, hm⟩ := k2; exact DataW.trod_lt m _ _ _ hm
  obtain ⟨b2, len2, cap2, rfl⟩ := okWide_slice Tryz.underlying30 (hval 2 30 v2 rfl rfl)
  have hx2 := h2
  obtain ⟨fu2, hf2⟩ := hx2
  obtain ⟨A2, c2, l2, e2, hc2, hm2, hl2, hw2⟩ := R.open_rows3 Tryz.underlying30 Tryz.underlying57 Tryz.underlying3 Tryz.underlying3 Tryz.underlying3 (by kernel_rfl) (by kernel_rfl) hf2
  obtain ⟨qb2, ql2, qc2⟩ : b2 = A2 ∧ len2 = l2.length ∧ cap2 = c2 := by simpa [Value.cells] using e2
  obtain rfl := qb2.symm
  obtain rfl := ql2.symm
  obtain rfl := qc2.symm
  have k3 := h3
  have lt3 : ∀ x ∈ p3, x.block < W.heap.size := by obtain ⟨m, hm⟩ := k3; exact DataW.trod_lt m _ _ _ hm
  obtain ⟨b3, len3, cap3, rfl⟩ := okWide_slice Tryz.underlying41 (hval 3 41 v3 rfl rfl)
  have hx3 := h3
  obtain ⟨fu3, hf3⟩ := hx3
  obtain ⟨A3, c3, l3, e3, hc3, hC3, hw3⟩ := R.open_int_row Tryz.underlying41 Tryz.underlying3 (by kernel_rfl) hf3
  obtain ⟨qb3, ql3, qc3⟩ : b3 = A3 ∧ len3 = l3.length ∧ cap3 = c3 := by simpa [Value.cells] using e3
  obtain rfl := qb3.symm
  obtain rfl := ql3.symm
  obtain rfl := qc3.symm
  clear hA0 hval0 hsz0 hsz
  obtain ⟨kk, hk⟩ := Pure.DimacsSpaces a0 a1 (l2.map fun p => (⟨p.1, p.2.1, p.2.2⟩ : R.S57)) l3 w0 w1 (fun x hx => by obtain ⟨p, hp, rfl⟩ := List.mem_map.1 hx; exact hw2 p hp) hw3
  have cC := R.racewaylaw4_DimacsSpaces.calls kk a0 a1 A2 c2 (l2.map fun p => (⟨p.1, p.2.1, p.2.2⟩ : R.S57)) A3 c3 l3 true W (by have := R.C_cells hm2 hl2; simpa using this) (by simpa using hc2) hC3 hc3 hk hG
  simp only [List.length_map] at cC
  refine cC.mono fun e W' ⟨he, bel⟩ => ?_
  subst he
  exact ⟨_, rfl, _, _, _, [], _, [], hW', trodAll_mk1 (shut_bool Tryz.underlying4 _), (trodAll_cons_mk (shut_int Tryz.underlying3 w0) (trodAll_cons_mk (shut_int Tryz.underlying3 w1) (trodAll_cons_mk (Below.trod laidOut (by kernel_rfl) (of_decide_eq_true (by kernel_rfl)) k2 bel lt2) (trodAll_cons_mk (Below.trod laidOut (by kernel_rfl) (of_decide_eq_true (by kernel_rfl)) k3 bel lt3) trodAll_mk0)))), rfl, bel.frame _, fun h => by cases h⟩
set_option maxRecDepth 100000 in
theorem lifted (os : Os) (started : os.Started) (H : Type) (enc : TypeId × Value → H) (F : Stop.Interp) :
    ReturnsInHanded {} Tryz.checked os 6 .any ((OpenSpec.ofChange Rows.dimacsSpacesSpec).preRow enc Tryz.prog Tryz.f6 Rows.dimacsSpacesRow.domain false Rows.dimacsSpacesRow.laid) (((OpenSpec.ofChange Rows.dimacsSpacesSpec).at F).post enc Tryz.prog Tryz.f6 false true false false) := by
  obtain ⟨places, hx⟩ := reads os enc
  refine returnsInHanded_of_row (C := Tryz.checked) (s := (OpenSpec.ofChange Rows.dimacsSpacesSpec)) own started (by kernel_rfl) Tryz.func6
    (witness_row_atRef (enc := enc) (C := Tryz.checked) false (laidWorld os) #[.int .i64 0, .int .i64 0, .slice none 0 0, .slice none 0 0] rfl (by kernel_rfl) (by kernel_rfl) (by kernel_rfl)
      (OpenSpec.preRow_of_cond 8 hx (by kernel_rfl) (fun k hk => by cases hk) (by kernel_rfl) (laid_met os _))) ?_
  intro W base args ds gs before hval hW _ _ hsz hL hsh _
  exact contract H enc W base args ds gs before hval hW hsz (laidG_of hL hsh)
theorem said : Rows.DimacsSpacesSaid :=
  OpenClaim.holds_of_cond 6 Tryz.f6 rfl rfl rfl rfl rfl rfl rfl ⟨rfl, rfl, rfl, rfl, rfl⟩ rfl rfl rfl rfl rfl (by kernel_rfl) Tryz.func6 (by kernel_rfl)
    (of_decide_eq_true (by kernel_rfl)) (by unfold Func.isWrapper; first | (rw [if_pos (by decide +kernel)]; kernel_rfl) | (rw [if_neg (by decide +kernel)]; exact ⟨rfl, rfl⟩))
    (fun os started H enc _ F => by rw [OpenClaim.pre_eq_preRow]; exact lifted os started H enc F)
theorem plain (f : FuncId) (fn : Func) (hf : Tryz.pinned.checked.prog.funcNamed "raceway/racewaylaw4.DimacsSpaces" = some f) (hfn : Tryz.pinned.checked.prog.funcs[f]? = some fn) :
    true = Tryz.pinned.checked.prog.looks [] ∧ ∀ (j : Nat) t, fn.params[j]? = some t → Tryz.pinned.checked.prog.wantsStandIn t = false := by
  obtain rfl : f = 6 := Option.some.inj ((show Tryz.prog.funcNamed "raceway/racewaylaw4.DimacsSpaces" = some 6 by kernel_rfl).symm.trans hf) |>.symm
  obtain rfl : fn = Tryz.f6 := (Option.some.inj (Tryz.func6.symm.trans hfn)).symm
  refine ⟨by kernel_rfl, fun j t ht => ?_⟩
  rw [Tryz.params6] at ht
  have hm := Array.mem_of_getElem? ht
  have hor : t = 3 ∨ t = 30 ∨ t = 41 := by first | (simpa using hm) | (simp at hm; rcases hm with h | h | h <;> simp [h]) | (simp at hm; rcases hm with h | h | h | h <;> simp [h])
  rcases hor with rfl | rfl | rfl
  · exact (show Tryz.prog.wantsStandIn 3 = false by kernel_rfl)
  · exact (show Tryz.prog.wantsStandIn 30 = false by kernel_rfl)
  · exact (show Tryz.prog.wantsStandIn 41 = false by kernel_rfl)
/-- The card. -/
theorem card : Rows.DimacsSpacesCardSaid :=
  Claim7.holds_tied_plain_at .later [] _ _ _ _ said (fun _ h => by cases h) (by kernel_rfl) (fun _ h => by cases h) dimacsSpaces_row_tie rfl ⟨rfl, rfl⟩ (by kernel_rfl) rfl plain (by kernel_rfl)
end Go.Proofs.YtgpeppnbgfdaaaaGreatDoor.dimacsSpaces
namespace Go.Proofs.YtgpeppnbgfdaaaaGreatDoor
/-- The card, under a short name, for the claim. -/
theorem dimacsSpaces_card : Rows.DimacsSpacesCardSaid := dimacsSpaces.card
end Go.Proofs.YtgpeppnbgfdaaaaGreatDoor
