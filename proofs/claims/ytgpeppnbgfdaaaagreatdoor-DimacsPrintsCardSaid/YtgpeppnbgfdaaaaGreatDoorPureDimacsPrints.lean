/-
  How a network is printed, or that it is not, is as the chapter says: the plain statement. Conditions: none but that the numbers are of 64 bits.
-/
import Derived.Test.YtgpeppnbgfdaaaaGreatDoorRefP
import Derived.Test.YtgpeppnbgfdaaaaGreatDoorArgs
namespace Go.Proofs.YtgpeppnbgfdaaaaGreatDoor.Pure
set_option linter.unusedVariables false
open Go.RowKit Go.Lib Go.Proofs.TX Go.Proofs.YtgpeppnbgfdaaaaGreatDoor.R Go.Proofs.YtgpeppnbgfdaaaaGreatDoor.H Go.Proofs.YtgpeppnbgfdaaaaGreatDoor.PL Go.Proofs.YtgpeppnbgfdaaaaGreatDoorW.PrintWords Go.Proofs.YtgpeppnbgfdaaaaGreatDoorW.PrintLast
theorem shown_ok : racewaylaw4_shown.f = some true := by
  unfold racewaylaw4_shown.f
  rw [parse_some _ (by decide), show parseP _ = ((2, 1, 2, [⟨1, 2, 5⟩], 0, 0) : Int × Int × Int × List S44 × Int × Int) from by kernel_rfl]
  rfl
theorem DimacsPrints_ (n0 n1 n2 : Int) (l : List S44) (h : ∀ a ∈ l, a.f2 ≤ 9223372036854775807) : ∃ k, racewaylaw4_DimacsPrints.f k n0 n1 n2 l = some true := by
  unfold racewaylaw4_DimacsPrints.f
  simp only [shown_ok, Option.bind_some]
  by_cases hl : (l.length : Int) > 300
  · refine ⟨0 + 1, ?_⟩
    rw [if_pos trivial, decide_eq_true hl, racewaylaw4_DimacsPrints.j0, if_pos rfl]
  · obtain ⟨r, hr⟩ := print_total n0 n1 n2 l h
    obtain ⟨k, hk⟩ := (print4_ok n0 n1 n2 l r hr).rounds
    refine ⟨k + 1, ?_⟩
    rw [if_pos trivial, decide_eq_false hl, racewaylaw4_DimacsPrints.j0, if_neg (by decide), hr, Option.bind_some, hk, Option.bind_some, if_pos rfl]
    simp
theorem DimacsPrints (n0 n1 n2 : Int) (l : List S44) (h0 : (Lit.int .i64 n0).wf = true) (h1 : (Lit.int .i64 n1).wf = true) (h2 : (Lit.int .i64 n2).wf = true) (h : ∀ a ∈ l, In64' a.f0 ∧ In64' a.f1 ∧ In64' a.f2) : ∃ k, racewaylaw4_DimacsPrints.f k n0 n1 n2 l = some true :=
  DimacsPrints_ n0 n1 n2 l (fun a ha => (wf64 (h a ha).2.2).2)
end Go.Proofs.YtgpeppnbgfdaaaaGreatDoor.Pure
