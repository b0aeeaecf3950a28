/-
  The listed variables: what the rows' list gives a walk, and a world in which they hold what their initialisers lay. By an AI agent.
-/
import Derived.Test.YtgpeppnbgfdaaaaGreatDoorCards
import Derived.Test.YtgpeppnbgfdaaaaGreatDoorTie
import Derived.Test.YtgpeppnbgfdaaaaGreatDoorText
import Derived.Lib.LaidIn
import Derived.Lib.LaidTab
import Derived.Stop.LaidErr
import Derived.Deep.DeepHandedRow
import Derived.Deep.DeepWitnessRowRef
import Derived.ProofKit
namespace Go.Proofs.YtgpeppnbgfdaaaaGreatDoor.H
open Go.ChangeShapes Go.WideShapes Go.ChangeAt Go.RowKit

/-- the rows' list -/
def laidL : List (String × DataW Unit) := [("math/bits.deBruijn32tab", Rows.laid_math_bits_deBruijn32tab), ("math/bits.deBruijn64tab", Rows.laid_math_bits_deBruijn64tab), ("internal/strconv.uint64pow10", Rows.laid_internal_strconv_uint64pow10), ("unicode/utf8.acceptRanges", Rows.laid_unicode_utf8_acceptRanges), ("strconv.ErrRange", Rows.laid_strconv_ErrRange), ("strconv.ErrSyntax", Rows.laid_strconv_ErrSyntax), ("unicode/utf8.first", Rows.laid_unicode_utf8_first)]

theorem star : "*" ++ "errors.errorString" = "*errors.errorString" := by decide
theorem rowErr (u : TypeId) (h : Tryz.prog.typeName? 3 u = some "*errors.errorString") : u = 148 :=
  typeName_ptr_named (nm := "errors.errorString") (by rw [star]; kernel_rfl) (by kernel_rfl) (by decide) u (by rw [star]; exact h)
theorem pow_data : (Rows.laid_internal_strconv_uint64pow10 : DataW Unit) = Lib.tabData .u64 Lib.pow10Tab := by kernel_rfl

theorem laidG_of {W : World} (hL : laidMet Tryz.prog laidL W) (hsh : W.ShapedOpen Tryz.prog) : LaidG W := by
  refine ⟨Tryz.laysM146.s1_3 W hsh, ?_, ?_, ?_⟩
  · have h := hL.tail.tail
    rw [pow_data] at h
    exact Lib.tabIs_of_head (g := 1) (t := 111) (e := 101) (n := 20) (by kernel_rfl) (by kernel_rfl) (by kernel_rfl) (by kernel_rfl) (by kernel_rfl) (by kernel_rfl) h
  · obtain ⟨a, s, hv, _⟩ := laid_sentinel (g := 6) (ti := 50) (te := 150) (ts := 9) hL.tail.tail.tail.tail.tail (by kernel_rfl) (by kernel_rfl) Tryz.underlying50 rowErr Tryz.underlying148 Tryz.underlying150 rfl rfl Tryz.underlying9 (by kernel_rfl) (by kernel_rfl)
    exact ⟨_, _, hv⟩
  · obtain ⟨a, s, hv, _⟩ := laid_sentinel (g := 7) (ti := 50) (te := 150) (ts := 9) hL.tail.tail.tail.tail (by kernel_rfl) (by kernel_rfl) Tryz.underlying50 rowErr Tryz.underlying148 Tryz.underlying150 rfl rfl Tryz.underlying9 (by kernel_rfl) (by kernel_rfl)
    exact ⟨_, _, hv⟩

/-! ### a world for the witness -/
def numsOf : DataW Unit → List Value
  | .agg l => l.flatMap fun
    | .lit (.int k n) => [Value.int k n]
    | .agg q => q.map fun
      | .lit (.int k n) => Value.int k n
      | _ => .bool false
    | _ => []
  | _ => []
noncomputable def laidWorld (os : Os) : World :=
  let N := (World.settled Tryz.prog os).heap.size
  let w0 := World.holding Tryz.prog os ⟨#[.cells #[.string ⟨#[105, 110, 118, 97, 108, 105, 100, 32, 115, 121, 110, 116, 97, 120]⟩] 150, .cells #[.string ⟨#[118, 97, 108, 117, 101, 32, 111, 117, 116, 32, 111, 102, 32, 114, 97, 110, 103, 101]⟩] 150], #[], []⟩
  let put (h : Array Obj) (g : Nat) (cs : Array Value) : Array Obj := h.modify g fun
    | .cells _ t frozen => .cells cs t frozen
    | o => o
  let h0 := put (put w0.heap 6 #[.iface 148 (.pointer (some ⟨N, 0, none⟩))]) 7 #[.iface 148 (.pointer (some ⟨N + 1, 0, none⟩))]
  let h1 := put h0 4 (numsOf Rows.laid_math_bits_deBruijn32tab).toArray
  let h2 := put h1 5 (numsOf Rows.laid_math_bits_deBruijn64tab).toArray
  let h3 := put h2 1 (numsOf Rows.laid_internal_strconv_uint64pow10).toArray
  let h4 := put h3 3 (numsOf Rows.laid_unicode_utf8_acceptRanges).toArray
  let h5 := put h4 2 (numsOf Rows.laid_unicode_utf8_first).toArray
  { w0 with heap := h5 }
noncomputable abbrev N0 : Nat := (World.settled Tryz.prog default).heap.size
set_option maxRecDepth 100000 in
theorem laid_in (os : Os) (args : Array Value) : LaidIn Tryz.prog ((laidWorld os).forCall (fun _ _ => 0) ⟨#[], args, []⟩).memory laidL
    [4, 5, 1, 3, 7, N0 + 1, 6, N0, 2] :=
  LaidIn.of_run _ 8 (by kernel_rfl) (by kernel_rfl) (by kernel_rfl) (by kernel_rfl)
theorem laid_met (os : Os) (args : Array Value) : laidMet Tryz.prog laidL ((laidWorld os).forCall (fun _ _ => 0) ⟨#[], args, []⟩).memory := (laid_in os args).met
end Go.Proofs.YtgpeppnbgfdaaaaGreatDoor.H
