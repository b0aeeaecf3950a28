/-
  DimacsBack: the row and the tied card, out of the plain statement and the walk.
  Conditions: the row's own: the listed package-level variables of the library hold what their initialisers lay (the card ties them to the program's text).
-/
import Derived.Test.YtgpeppnbgfdaaaaGreatDoorLaid
import Derived.Test.YtgpeppnbgfdaaaaGreatDoorRxB
import Derived.Test.YtgpeppnbgfdaaaaGreatDoorPureDimacsBack
import Derived.Test.YtgpeppnbgfdaaaaGreatDoorArgs
import Derived.WalkKit
import Derived.ProofKit
import Derived.OpenShut
import Derived.ShutString
import Derived.ChangeOld
import Derived.Below
import Derived.SizedLaws
import Derived.Deep.DeepHandedRow
import Derived.Deep.DeepWitnessRowRef
import Derived.Lib.SmallJoins
namespace Go.Proofs.YtgpeppnbgfdaaaaGreatDoor.dimacsBack
open Go.ChangeShapes Go.WideShapes Go.ChangeAt Go.RowKit Go.Proofs.YtgpeppnbgfdaaaaGreatDoor.H
open Go.ChangeMaps (open_string shut_string)
theorem own : ownKnob Tryz.prog.godebug = none := by kernel_rfl
theorem laidOut : laidOutB Tryz.prog = true := by kernel_rfl
theorem reads (os : Os) {H : Type} (enc : TypeId × Value → H) : ∃ places, DataW.whole enc Tryz.prog ((laidWorld os).forCall (fun _ _ => 0) ⟨#[], #[.agg #[.int .i64 0, .int .i64 0, .int .i64 0, .slice none 0 0], .string ⟨#[]⟩, .string ⟨#[]⟩], []⟩).memory Tryz.f5.params.toList Rows.dimacsBackSpec.vars false #[(Value.agg #[.int .i64 0, .int .i64 0, .int .i64 0, .slice none 0 0]), (Value.string ⟨#[]⟩), (Value.string ⟨#[]⟩)].toList 8 = some ([.agg [.lit (.int .i64 0), .lit (.int .i64 0), .lit (.int .i64 0), .nil], .lit (.string []), .lit (.string [])], [], places) :=
  ⟨[], by kernel_rfl⟩
set_option maxRecDepth 100000 in
theorem contract (H : Type) (enc : TypeId × Value → H) (W : World) (base : Nat) (args : Array Value) (ds gs : List (DataW H)) (before : List MemPlace)
    (hval0 : ∀ (j : Nat) t v, Tryz.f5.params[j]? = some t → args[j]? = some v → Value.okWide Tryz.prog W .any base t v)
    (hW : DataW.Whole enc Tryz.prog Tryz.f5.params.toList Rows.dimacsBackSpec.vars false W args.toList ds gs before)
    (hsz0 : (DataW.weightsEach Tryz.prog (Tryz.f5.params.toList ++ Rows.dimacsBackSpec.plain.varTypes Tryz.prog) (ds ++ gs)).all (· ≤ reachBytes) = true) (hG : LaidG W) :
    Calls Tryz.prog 5 args W fun e W' => ∃ v, e = .returned v ∧ Rows.dimacsBackSpec.post enc Tryz.prog Tryz.f5 false true false false W args v W' := by
  have hsz := hsz0
  have hval := hval0
  have hW' := hW
  obtain ⟨p, q, hA0, hV, rfl, hfz, hnd⟩ := hW
  have hA : DataW.TrodAll enc Tryz.prog W 0 (fun _ => true) true Tryz.f5.params.toList args.toList ds p := hA0
  rw [Tryz.params5] at hA hval hsz
  obtain ⟨v0, vs0, d0, ds0, p0, q0, hargs, rfl, rfl, h0, r0⟩ := trodAll_cons hA
  obtain ⟨v1, vs1, d1, ds1, p1, q1, rfl, rfl, rfl, h1, r1⟩ := trodAll_cons r0
  obtain ⟨v2, vs2, d2, ds2, p2, q2, rfl, rfl, rfl, h2, r2⟩ := trodAll_cons r1
  obtain ⟨rfl, rfl, rfl⟩ := trodAll_nil r2
  obtain rfl : args = #[v0, v1, v2] := by cases args; simp_all
  obtain ⟨rfl, rfl⟩ := trodVars_none hV
  have k0 := h0
  have lt0 : ∀ x ∈ p0, x.block < W.heap.size := by obtain ⟨m, hm⟩ := k0; exact DataW.trod_lt m _ _ _ hm
  obtain ⟨u0, u1, u2, u3, y0, y1, y2, y3, m, rfl, _, _, t0, t1, t2, t3⟩ := Go.Joins.open_agg4 Tryz.underlying24 (by kernel_rfl) (by kernel_rfl) (hval 0 24 v0 rfl rfl) h0
  obtain ⟨n0, e0, _, w0_0⟩ := DataW.trod_int Tryz.underlying3 t0
  obtain rfl : u0 = .int .i64 n0 := by simpa using e0
  obtain ⟨n1, e1, _, w0_1⟩ := DataW.trod_int Tryz.underlying3 t1
  obtain rfl : u1 = .int .i64 n1 := by simpa using e1
  obtain ⟨n2, e2, _, w0_2⟩ := DataW.trod_int Tryz.underlying3 t2
  obtain rfl : u2 = .int .i64 n2 := by simpa using e2
  obtain ⟨A0, c0, l0, e3, hc0, hm0, hl0, hw0⟩ := R.open_rows3 Tryz.underlying22 Tryz.underlying44 Tryz.underlying3 Tryz.underlying3 Tryz.underlying2 (by kernel_rfl) (by kernel_rfl) t3
  obtain rfl : u3 = .slice A0 l0.length c0 := by simpa using e3
  obtain ⟨a1, rfl, rfl, rfl, y1⟩ := open_string Tryz.underlying9 (hval 1 9 v1 rfl rfl) h1
  have w1 : a1.size ≤ 140737488351232 := by
    have z := sized_string hsz (j := 1) (t := 9) rfl rfl
    rw [Array.length_toList] at z
    exact z
  obtain ⟨a2, rfl, rfl, rfl, y2⟩ := open_string Tryz.underlying9 (hval 2 9 v2 rfl rfl) h2
  have w2 : a2.size ≤ 140737488351232 := by
    have z := sized_string hsz (j := 2) (t := 9) rfl rfl
    rw [Array.length_toList] at z
    exact z
  clear hA0 hval0 hsz0 hsz
  obtain ⟨kk, hk⟩ := Pure.DimacsBack n0 n1 n2 (l0.map fun p => (⟨p.1, p.2.1, p.2.2⟩ : R.S44)) a1 a2 w0_0 w0_1 w0_2 (fun x hx => by obtain ⟨p, hp, rfl⟩ := List.mem_map.1 hx; exact hw0 p hp) w1 w2
  have cC := R.racewaylaw4_DimacsBack.calls kk n0 n1 n2 A0 c0 (l0.map fun p => (⟨p.1, p.2.1, p.2.2⟩ : R.S44)) a1 a2 true W (by have := R.C_arcs hm0 hl0; simpa using this) (by simpa using hc0) hk hG rfl
  simp only [List.length_map] at cC
  refine cC.mono fun e W' ⟨he, bel⟩ => ?_
  subst he
  exact ⟨_, rfl, _, _, _, [], _, [], hW', trodAll_mk1 (shut_bool Tryz.underlying4 _), (trodAll_cons_mk (Below.trod laidOut (by kernel_rfl) (of_decide_eq_true (by kernel_rfl)) k0 bel lt0) (trodAll_cons_mk (shut_string Tryz.underlying9 y1) (trodAll_cons_mk (shut_string Tryz.underlying9 y2) trodAll_mk0))), rfl, bel.frame _, fun h => by cases h⟩
set_option maxRecDepth 100000 in
theorem lifted (os : Os) (started : os.Started) (H : Type) (enc : TypeId × Value → H) (F : Stop.Interp) :
    ReturnsInHanded {} Tryz.checked os 5 .any ((OpenSpec.ofChange Rows.dimacsBackSpec).preRow enc Tryz.prog Tryz.f5 Rows.dimacsBackRow.domain false Rows.dimacsBackRow.laid) (((OpenSpec.ofChange Rows.dimacsBackSpec).at F).post enc Tryz.prog Tryz.f5 false true false false) := by
  obtain ⟨places, hx⟩ := reads os enc
  refine returnsInHanded_of_row (C := Tryz.checked) (s := (OpenSpec.ofChange Rows.dimacsBackSpec)) own started (by kernel_rfl) Tryz.func5
    (witness_row_atRef (enc := enc) (C := Tryz.checked) false (laidWorld os) #[.agg #[.int .i64 0, .int .i64 0, .int .i64 0, .slice none 0 0], .string ⟨#[]⟩, .string ⟨#[]⟩] rfl (by kernel_rfl) (by kernel_rfl) (by kernel_rfl)
      (OpenSpec.preRow_of_cond 8 hx (by kernel_rfl) (fun k hk => by cases hk) (by kernel_rfl) (laid_met os _))) ?_
  intro W base args ds gs before hval hW _ _ hsz hL hsh _
  exact contract H enc W base args ds gs before hval hW hsz (laidG_of hL hsh)
theorem said : Rows.DimacsBackSaid :=
  OpenClaim.holds_of_cond 5 Tryz.f5 rfl rfl rfl rfl rfl rfl rfl ⟨rfl, rfl, rfl, rfl, rfl⟩ rfl rfl rfl rfl rfl (by kernel_rfl) Tryz.func5 (by kernel_rfl)
    (of_decide_eq_true (by kernel_rfl)) (by unfold Func.isWrapper; first | (rw [if_pos (by decide +kernel)]; kernel_rfl) | (rw [if_neg (by decide +kernel)]; exact ⟨rfl, rfl⟩))
    (fun os started H enc _ F => by rw [OpenClaim.pre_eq_preRow]; exact lifted os started H enc F)
theorem plain (f : FuncId) (fn : Func) (hf : Tryz.pinned.checked.prog.funcNamed "raceway/racewaylaw4.DimacsBack" = some f) (hfn : Tryz.pinned.checked.prog.funcs[f]? = some fn) :
    true = Tryz.pinned.checked.prog.looks [] ∧ ∀ (j : Nat) t, fn.params[j]? = some t → Tryz.pinned.checked.prog.wantsStandIn t = false := by
  obtain rfl : f = 5 := Option.some.inj ((show Tryz.prog.funcNamed "raceway/racewaylaw4.DimacsBack" = some 5 by kernel_rfl).symm.trans hf) |>.symm
  obtain rfl : fn = Tryz.f5 := (Option.some.inj (Tryz.func5.symm.trans hfn)).symm
  refine ⟨by kernel_rfl, fun j t ht => ?_⟩
  rw [Tryz.params5] at ht
  have hm := Array.mem_of_getElem? ht
  have hor : t = 9 ∨ t = 24 := by first | (simpa using hm) | (simp at hm; rcases hm with h | h <;> simp [h]; done) | (simp at hm; rcases hm with h | h | h <;> simp [h]) | (simp at hm; rcases hm with h | h | h | h <;> simp [h])
  rcases hor with rfl | rfl
  · exact (show Tryz.prog.wantsStandIn 9 = false by kernel_rfl)
  · exact (show Tryz.prog.wantsStandIn 24 = false by kernel_rfl)
/-- The card. -/
theorem card : Rows.DimacsBackCardSaid :=
  Claim7.holds_tied_plain_at .later [] _ _ _ _ said (fun _ h => by cases h) (by kernel_rfl) (fun _ h => by cases h) dimacsBack_row_tie rfl ⟨rfl, rfl⟩ (by kernel_rfl) rfl plain (by kernel_rfl)
end Go.Proofs.YtgpeppnbgfdaaaaGreatDoor.dimacsBack
namespace Go.Proofs.YtgpeppnbgfdaaaaGreatDoor
/-- The card, under a short name, for the claim. -/
theorem dimacsBack_card : Rows.DimacsBackCardSaid := dimacsBack.card
end Go.Proofs.YtgpeppnbgfdaaaaGreatDoor
