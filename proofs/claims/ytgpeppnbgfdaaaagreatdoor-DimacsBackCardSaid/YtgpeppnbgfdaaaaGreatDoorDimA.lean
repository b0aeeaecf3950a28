/-
  The contract of (*reader).arc. By an AI agent.
-/
import Derived.Test.YtgpeppnbgfdaaaaGreatDoorDimE
namespace Go.Proofs.YtgpeppnbgfdaaaaGreatDoor.R
open Go.RowKit Go.Lib Go.Proofs.TX Go.Proofs.YtgpeppnbgfdaaaaGreatDoor.H Go.Proofs.YtgpeppnbgfdaaaaGreatDoorW.PrintWords Go.Proofs.YtgpeppnbgfdaaaaGreatDoorW.PrintLast Go.Proofs.YtgpeppnbgfdaaaaGreatDoorW.PrintMore
set_option linter.unusedVariables false
set_option linter.unusedSimpArgs false
theorem addQ (a b s e : Int) (w : World) (h : M.num_Add.f a b = some (s, e)) : Calls Tryz.prog 26 #[.int .i64 a, .int .i64 b] w fun e' w' => e' = .returned (.tuple #[.int .i64 s, .int .i64 e]) ∧ ∃ m, w' = w.drewN m :=
  (M.num_Add.calls a b s e w h).mono (fun _ _ hh => ⟨hh.1, hh.2.out⟩)

/-- arc: the error, or the new sum and the arc. -/
def arcF (no so si most sum : Int) (na : Nat) (ws : List ByteArray) : Option (Int × Option (Int × S44)) :=
  if ws.length = 4 then
    if so = 0 then some (2, none)
    else if si = 0 then some (2, none)
    else (numsF (ws.drop 1)).bind fun q =>
      if q.2 = 0 then
        (M.num_Add.f sum (q.1.getD 2 0)).bind fun p =>
          if thereB no (q.1.getD 0 0) = true then
            if thereB no (q.1.getD 1 0) = true then
              if q.1.getD 2 0 < 0 then some (3, none)
              else if (na : Int) = most then some (6, none)
              else if p.2 = 0 then
                if p.1 > 4611686018427387903 then some (7, none)
                else some (0, some (p.1, ⟨q.1.getD 0 0, q.1.getD 1 0, q.1.getD 2 0⟩))
              else some (7, none)
            else some (4, none)
          else some (4, none)
      else some (q.2, none)
  else some (2, none)

end Go.Proofs.YtgpeppnbgfdaaaaGreatDoor.R
