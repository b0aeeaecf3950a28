/-
  A line's method, whichever it is, by one contract: the reader's state before and behind it. By an AI agent.
-/
import Derived.Test.YtgpeppnbgfdaaaaGreatDoorDimA0
import Derived.Test.YtgpeppnbgfdaaaaGreatDoorDimA1
namespace Go.Proofs.YtgpeppnbgfdaaaaGreatDoor.R
open Go.RowKit Go.Lib Go.Proofs.TX Go.Proofs.YtgpeppnbgfdaaaaGreatDoor.H Go.Proofs.YtgpeppnbgfdaaaaGreatDoorW.PrintWords Go.Proofs.YtgpeppnbgfdaaaaGreatDoorW.PrintLast Go.Proofs.YtgpeppnbgfdaaaaGreatDoorW.PrintMore
set_option linter.unusedVariables false
set_option linter.unusedSimpArgs false

/-- What was read. -/
structure RS where
  no : Int
  so : Int
  si : Int
  arcs : List S44
  most : Int
  sum : Int
def RS.cells (s : RS) (v : Value) : Array Value := #[.int .i64 s.no, .int .i64 s.so, .int .i64 s.si, v, .int .i64 s.most, .int .i64 s.sum]

def stepF (s : RS) (ws : List ByteArray) : Option (Int × RS) :=
  match ws with
  | [] => some (0, s)
  | x :: _ =>
    if (x.toList == [99]) = true then some (0, s)
    else if (x.toList == [112]) = true then (problemF s.no s.most ws).bind fun q => some (q.1, { s with no := q.2.1, most := q.2.2 })
    else if (x.toList == [110]) = true then (endF s.no s.so s.si s.most s.arcs.length ws).bind fun q => some (q.1, { s with so := q.2.1, si := q.2.2 })
    else if (x.toList == [97]) = true then (arcF s.no s.so s.si s.most s.sum s.arcs.length ws).bind fun q =>
      match q.2 with
      | none => some (q.1, s)
      | some p => some (q.1, { s with sum := p.1, arcs := s.arcs ++ [p.2] })
    else some (2, s)

theorem arcF_some {no so si most sum : Int} {na : Nat} {ws : List ByteArray} {e : Int} {p : Int × S44} (h : arcF no so si most sum na ws = some (e, some p)) : e = 0 := by
  unfold arcF at h
  split at h
  case isFalse => simp at h
  case isTrue =>
  split at h
  case isTrue => simp at h
  case isFalse =>
  split at h
  case isTrue => simp at h
  case isFalse =>
  obtain ⟨q, _, h⟩ := Option.bind_eq_some_iff.1 h
  split at h
  case isFalse => simp at h
  case isTrue =>
  obtain ⟨p', _, h⟩ := Option.bind_eq_some_iff.1 h
  repeat' split at h
  all_goals first
    | (simp at h; done)
    | (simp only [Option.some.injEq, Prod.mk.injEq] at h; exact h.1.symm)

theorem silent.calls (p a : Value) (w : World) :
    Calls Tryz.prog 34 #[p, a] w fun e w' => e = .returned (.int .i64 0) ∧ w' = w := by
  go_enter Tryz.func34, Tryz.ntmps34
  go_wp2
  go_ret
  exact ⟨rfl, rfl⟩
theorem wrong.calls (p a : Value) (w : World) :
    Calls Tryz.prog 38 #[p, a] w fun e w' => e = .returned (.int .i64 2) ∧ w' = w := by
  go_enter Tryz.func38, Tryz.ntmps38
  go_wp2
  go_ret
  exact ⟨rfl, rfl⟩

/-- What one line's method does to the reader in block g. -/
def Did (g : Nat) (base : Nat) (v : Value) (w : World) (e : Int) (s' : RS) (r : Ending) (w' : World) : Prop :=
  ∃ v', r = .returned (.int .i64 e) ∧ w'.heap[g]? = some (.cells (s'.cells v') 62 (0, 0)) ∧ k44.R 44 w' base (fun k => k ≠ g) v' s'.arcs ∧ Fr w w' (fun k => k = g ∨ some k = v.ownBlock)

theorem do.calls (g : Nat) (v : Value) (base : Nat) (s : RS) (A : Option Addr) (c : Nat) (ws : List ByteArray) (e : Int) (s' : RS) (w : World) (hr : Kd.C Kd.string w A ws.length ws) (hc : ws.length ≤ c)
    (hx : w.heap[g]? = some (.cells (s.cells v) 62 (0, 0))) (hv : k44.R 44 w base (fun k => k ≠ g) v s.arcs) (hbase : base ≤ w.heap.size) (hna : s.arcs.length ≤ 4294967290)
    (h : stepF s ws = some (e, s')) (hG : LaidG w) :
    Calls Tryz.prog (ofF ws) #[.pointer (some ⟨g, 0, none⟩), .slice A ws.length c] w (Did g base v w e s') := by
  obtain ⟨Av, cv, rfl⟩ := Kd.R_slice hv
  have keep : ∀ w', Fr w w' (fun k => k = g) → k44.R 44 w' base (fun k => k ≠ g) (.slice Av s.arcs.length cv) s.arcs := fun w' hf => hf.R hv (fun k hk e => hk e)
  have wide : ∀ w', Fr w w' (fun k => k = g) → Fr w w' (fun k => k = g ∨ some k = (Value.slice Av s.arcs.length cv).ownBlock) := fun w' hf => hf.mono (fun k hk => .inl hk)
  cases ws with
  | nil =>
    simp only [stepF, Option.some.injEq, Prod.mk.injEq] at h
    obtain ⟨rfl, rfl⟩ := h
    refine (silent.calls _ _ w).mono ?_
    rintro r w' ⟨rfl, rfl⟩
    exact ⟨_, rfl, hx, hv, Fr.refl _ _⟩
  | cons x xs =>
    unfold stepF at h
    simp only at h
    dsimp only [ofF]
    split at h
    case isTrue h1 =>
      rw [if_pos h1]
      simp only [Option.some.injEq, Prod.mk.injEq] at h
      obtain ⟨rfl, rfl⟩ := h
      refine (silent.calls _ _ w).mono ?_
      rintro r w' ⟨rfl, rfl⟩
      exact ⟨_, rfl, hx, hv, Fr.refl _ _⟩
    case isFalse h1 =>
    rw [if_neg h1]
    split at h
    case isTrue h2 =>
      rw [if_pos h2]
      obtain ⟨⟨e0, n', m'⟩, hq, h⟩ := Option.bind_eq_some_iff.1 h
      simp only [Option.some.injEq, Prod.mk.injEq] at h
      obtain ⟨rfl, rfl⟩ := h
      refine (problem.calls g _ A c (x :: xs) s.no s.so s.si s.most s.sum e0 n' m' w hr hc hx hq hG).mono ?_
      rintro r w' ⟨rfl, h3, h4⟩
      exact ⟨_, rfl, h3, keep _ h4, wide _ h4⟩
    case isFalse h2 =>
    rw [if_neg h2]
    split at h
    case isTrue h3 =>
      rw [if_pos h3]
      obtain ⟨⟨e0, n', m'⟩, hq, h⟩ := Option.bind_eq_some_iff.1 h
      simp only [Option.some.injEq, Prod.mk.injEq] at h
      obtain ⟨rfl, rfl⟩ := h
      refine (end.calls g Av s.arcs.length cv A c (x :: xs) s.no s.so s.si s.most s.sum e0 n' m' w hr hc hx hq hG).mono ?_
      rintro r w' ⟨rfl, h3, h4⟩
      exact ⟨_, rfl, h3, keep _ h4, wide _ h4⟩
    case isFalse h3 =>
    rw [if_neg h3]
    split at h
    case isTrue h4 =>
      rw [if_pos h4]
      obtain ⟨⟨e0, o⟩, hq, h⟩ := Option.bind_eq_some_iff.1 h
      cases o with
      | none =>
        simp only [Option.some.injEq, Prod.mk.injEq] at h
        obtain ⟨rfl, rfl⟩ := h
        refine (arcE.calls g Av s.arcs.length cv A c (x :: xs) s.no s.so s.si s.most s.sum e0 w hr hc hx hq hG).mono ?_
        rintro r w' ⟨rfl, h3, h4⟩
        exact ⟨_, rfl, h3, keep _ h4, wide _ h4⟩
      | some p =>
        simp only [Option.some.injEq, Prod.mk.injEq] at h
        obtain ⟨rfl, rfl⟩ := h
        have he := arcF_some hq
        subst he
        obtain ⟨s2, y⟩ := p
        refine (arcO.calls g Av s.arcs.length cv base s.arcs A c (x :: xs) s.no s.so s.si s.most s.sum s2 y w hr hc hx hv hbase hna hq hG).mono ?_
        rintro r w' ⟨v', rfl, h3, h4, h5⟩
        exact ⟨v', rfl, h3, h4, h5⟩
    case isFalse h4 =>
      rw [if_neg h4]
      simp only [Option.some.injEq, Prod.mk.injEq] at h
      obtain ⟨rfl, rfl⟩ := h
      refine (wrong.calls _ _ w).mono ?_
      rintro r w' ⟨rfl, rfl⟩
      exact ⟨_, rfl, hx, hv, Fr.refl _ _⟩
end Go.Proofs.YtgpeppnbgfdaaaaGreatDoor.R
