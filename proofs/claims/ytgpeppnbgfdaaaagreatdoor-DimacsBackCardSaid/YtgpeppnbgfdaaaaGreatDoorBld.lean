/-
  Contracts of strings.Builder's methods, out of what is laid for strings.Join. By an AI agent.
-/
import Derived.Test.YtgpeppnbgfdaaaaGreatDoorShelf
import Derived.Shelf.Strings.BuilderK
namespace Go.Proofs.YtgpeppnbgfdaaaaGreatDoor.H
open Go.RowKit

theorem bld166 : Go.Proofs.Lays.n166 Tryz.prog Tryz.lays156_ren := {
  mixed := Tryz.lays156.mixed,
  f166 := Tryz.lays156.f166,
  f240 := Tryz.lays156.f240,
  f276 := Tryz.lays156.f276,
  t0 := Tryz.lays156.t0,
  a0 := Tryz.lays156.a0,
  z0 := Tryz.lays156.z0,
  v0 := Tryz.lays156.v0,
  t3 := Tryz.lays156.t3,
  a3 := Tryz.lays156.a3,
  z3 := Tryz.lays156.z3,
  v3 := Tryz.lays156.v3,
  t4 := Tryz.lays156.t4,
  a4 := Tryz.lays156.a4,
  z4 := Tryz.lays156.z4,
  v4 := Tryz.lays156.v4,
  t9 := Tryz.lays156.t9,
  a9 := Tryz.lays156.a9,
  z9 := Tryz.lays156.z9,
  v9 := Tryz.lays156.v9,
  t20 := Tryz.lays156.t20,
  a20 := Tryz.lays156.a20,
  z20 := Tryz.lays156.z20,
  v20 := Tryz.lays156.v20,
  t37 := Tryz.lays156.t37,
  a37 := Tryz.lays156.a37,
  z37 := Tryz.lays156.z37,
  v37 := Tryz.lays156.v37,
  t70 := Tryz.lays156.t70,
  a70 := Tryz.lays156.a70,
  z70 := Tryz.lays156.z70,
  v70 := Tryz.lays156.v70,
  t72 := Tryz.lays156.t72,
  a72 := Tryz.lays156.a72,
  z72 := Tryz.lays156.z72,
  v72 := Tryz.lays156.v72,
  t75 := Tryz.lays156.t75,
  a75 := Tryz.lays156.a75,
  z75 := Tryz.lays156.z75,
  v75 := Tryz.lays156.v75,
  t164 := Tryz.lays156.t164,
  a164 := Tryz.lays156.a164,
  z164 := Tryz.lays156.z164,
  v164 := Tryz.lays156.v164 }
theorem bld169 : Go.Proofs.Lays.n169 Tryz.prog Tryz.lays156_ren := {
  mixed := Tryz.lays156.mixed,
  f169 := Tryz.lays156.f169,
  t0 := Tryz.lays156.t0,
  a0 := Tryz.lays156.a0,
  z0 := Tryz.lays156.z0,
  v0 := Tryz.lays156.v0,
  t3 := Tryz.lays156.t3,
  a3 := Tryz.lays156.a3,
  z3 := Tryz.lays156.z3,
  v3 := Tryz.lays156.v3,
  t9 := Tryz.lays156.t9,
  a9 := Tryz.lays156.a9,
  z9 := Tryz.lays156.z9,
  v9 := Tryz.lays156.v9,
  t37 := Tryz.lays156.t37,
  a37 := Tryz.lays156.a37,
  z37 := Tryz.lays156.z37,
  v37 := Tryz.lays156.v37,
  t70 := Tryz.lays156.t70,
  a70 := Tryz.lays156.a70,
  z70 := Tryz.lays156.z70,
  v70 := Tryz.lays156.v70,
  t72 := Tryz.lays156.t72,
  a72 := Tryz.lays156.a72,
  z72 := Tryz.lays156.z72,
  v72 := Tryz.lays156.v72,
  t127 := Tryz.lays156.t127,
  a127 := Tryz.lays156.a127,
  z127 := Tryz.lays156.z127,
  v127 := Tryz.lays156.v127 }
theorem builder_write (B b : Nat) (bs : List Value) (s : ByteArray) (w : World) (h : Lib.IsBuilder 48 5 B b bs w) (hlen : bs.length + s.size ≤ 140737488355328) (hBw : B ≤ w.heap.size) :
    Calls Tryz.prog 16 #[.pointer (some ⟨b, 0, none⟩), .string s] w fun e w' => e = .returned (.tuple #[.int .i64 s.size, .nilIface]) ∧ Lib.IsBuilder 48 5 B b (bs ++ Lib.strCells s) w' ∧ Below B w w' :=
  (Go.Proofs.Any.Builder_WriteString bld166 Tryz.Builder_Extra_156 B b bs s w h hlen hBw).mono (fun _ _ hh => ⟨hh.1, .inr hh.2.1, hh.2.2⟩)
theorem builder_string (B b : Nat) (l : List UInt8) (w : World) (h : Lib.IsBuilder 48 5 B b (Lib.byteCells l) w) (hBw : B ≤ w.heap.size) :
    Calls Tryz.prog 18 #[.pointer (some ⟨b, 0, none⟩)] w fun e w' => e = .returned (.string ⟨l.toArray⟩) ∧ Below B w w' :=
  Go.Proofs.Any.Builder_String_any bld169 Tryz.Builder_Extra_156 B b l w h hBw
end Go.Proofs.YtgpeppnbgfdaaaaGreatDoor.H
