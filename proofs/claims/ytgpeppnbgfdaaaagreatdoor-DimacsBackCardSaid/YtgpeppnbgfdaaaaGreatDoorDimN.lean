/-
  dimacs.numbers in a closed form. By an AI agent.
-/
import Derived.Test.YtgpeppnbgfdaaaaGreatDoorMx1
import Derived.Test.YtgpeppnbgfdaaaaGreatDoorPlain
namespace Go.Proofs.YtgpeppnbgfdaaaaGreatDoor.H
open Go.RowKit Go.Proofs.YtgpeppnbgfdaaaaGreatDoor.M Go.Proofs.YtgpeppnbgfdaaaaGreatDoor.PL Go.Proofs.YtgpeppnbgfdaaaaGreatDoorW.PrintWords Go.Proofs.YtgpeppnbgfdaaaaGreatDoorW.PrintLast

def numsF : List ByteArray → Option (List Int × Int)
  | [] => some ([], 0)
  | x :: xs => (text_Number.f x).bind fun p => if p.2 = 0 then (numsF xs).bind fun q => if q.2 = 0 then some (p.1 :: q.1, 0) else some ([], q.2) else some ([], p.2)

theorem numsF_length : ∀ (l : List ByteArray) (ys : List Int), numsF l = some (ys, 0) → ys.length = l.length
  | [], ys, h => by
    simp only [numsF, Option.some.injEq, Prod.mk.injEq] at h
    rw [← h.1]
    rfl
  | x :: xs, ys, h => by
    simp only [numsF] at h
    obtain ⟨p, hp, h⟩ := Option.bind_eq_some_iff.1 h
    split at h
    · obtain ⟨q, hq, h⟩ := Option.bind_eq_some_iff.1 h
      split at h
      next h0 =>
        simp only [Option.some.injEq, Prod.mk.injEq] at h
        obtain ⟨q1, q2⟩ := q
        subst h0
        rw [← h.1, List.length_cons, List.length_cons, numsF_length xs q1 hq]
      next h0 =>
        simp only [Option.some.injEq, Prod.mk.injEq] at h
        exact absurd h.2 h0
    · next h0 =>
      simp only [Option.some.injEq, Prod.mk.injEq] at h
      exact absurd h.2 h0

theorem nums_loop (l : List ByteArray) (hl : l.length ≤ 4000) (d : Nat) : ∀ (i : Nat) (x4 : List Int) (ys : List Int) (e : Int), i + d = l.length → x4.length = l.length → numsF (l.drop i) = some (ys, e) →
    ∃ k, dimacs_numbers.l0 k x4 l (l.length : Int) (i : Int) = some (if e = 0 then (x4.take i ++ ys, 0) else ([], e)) := by
  induction d with
  | zero =>
    intro i x4 ys e hi hx h
    rw [List.drop_eq_nil_of_le (by omega)] at h
    simp only [numsF, Option.some.injEq, Prod.mk.injEq] at h
    obtain ⟨rfl, rfl⟩ := h
    refine ⟨1, ?_⟩
    simp only [dimacs_numbers.l0]
    rw [if_neg (by omega), if_pos trivial, List.append_nil, List.take_of_length_le (by omega)]
  | succ d ih =>
    intro i x4 ys e hi hx h
    have hil : i < l.length := by omega
    rw [List.drop_eq_getElem_cons hil] at h
    simp only [numsF] at h
    obtain ⟨⟨v, e1⟩, hp, h⟩ := Option.bind_eq_some_iff.1 h
    have hrd : rdOf ByteArray.empty l (i : Int) = l[i] := by
      unfold rdOf
      simp [List.getD_eq_getElem?_getD, List.getElem?_eq_getElem hil]
    have hw : wrap64 ((i : Int) + 1) = ((i + 1 : Nat) : Int) := by rw [wrapS (by omega) (by omega)]; rfl
    by_cases h1 : e1 = 0
    · subst h1
      rw [if_pos rfl] at h
      obtain ⟨⟨zs, e2⟩, hq, h⟩ := Option.bind_eq_some_iff.1 h
      obtain ⟨k, hk⟩ := ih (i + 1) (x4.set i v) zs e2 (by omega) (by rw [List.length_set]; exact hx) hq
      refine ⟨k + 1, ?_⟩
      simp only [dimacs_numbers.l0]
      rw [if_pos (by omega), if_pos (by omega), if_pos (by omega), hrd, hp, Option.bind_some]
      simp only [Int.toNat_natCast]
      rw [if_pos trivial, if_pos (by omega), hw, hk]
      by_cases h2 : e2 = 0
      · subst h2
        simp only [if_pos] at h ⊢
        simp only [Option.some.injEq, Prod.mk.injEq] at h
        obtain ⟨rfl, rfl⟩ := h
        rw [if_pos rfl]
        congr 2
        rw [List.take_set, List.set_eq_take_append_cons_drop, if_pos (by rw [List.length_take]; omega)]
        rw [List.take_take, List.drop_take]
        simp
      · simp only [if_neg h2] at h ⊢
        simp only [Option.some.injEq, Prod.mk.injEq] at h
        obtain ⟨rfl, rfl⟩ := h
        rw [if_neg h2]
    · simp only [if_neg h1] at h
      simp only [Option.some.injEq, Prod.mk.injEq] at h
      obtain ⟨rfl, rfl⟩ := h
      refine ⟨1, ?_⟩
      simp only [dimacs_numbers.l0]
      rw [if_pos (by omega), if_pos (by omega), if_pos (by omega), hrd, hp, Option.bind_some]
      simp only [if_neg h1]

theorem numsF_err : ∀ (l : List ByteArray) (ys : List Int) (e : Int), numsF l = some (ys, e) → e ≠ 0 → ys = []
  | [], ys, e, h, he => by
    simp only [numsF, Option.some.injEq, Prod.mk.injEq] at h
    exact absurd h.2.symm he
  | x :: xs, ys, e, h, he => by
    simp only [numsF] at h
    obtain ⟨p, hp, h⟩ := Option.bind_eq_some_iff.1 h
    split at h
    · obtain ⟨q, hq, h⟩ := Option.bind_eq_some_iff.1 h
      split at h
      · simp only [Option.some.injEq, Prod.mk.injEq] at h
        exact absurd h.2.symm he
      · simp only [Option.some.injEq, Prod.mk.injEq] at h
        exact h.1.symm
    · simp only [Option.some.injEq, Prod.mk.injEq] at h
      exact h.1.symm

theorem nums_ok (l : List ByteArray) (hl : l.length ≤ 4000) (ys : List Int) (e : Int) (h : numsF l = some (ys, e)) : ∃ k, dimacs_numbers.f k l = some (ys, e) := by
  obtain ⟨k, hk⟩ := nums_loop l hl l.length 0 (List.replicate l.length 0) ys e (by omega) (by simp) (by simpa using h)
  refine ⟨k, ?_⟩
  unfold dimacs_numbers.f
  rw [if_pos (by omega), if_pos (by omega)]
  simp only [Int.toNat_natCast]
  refine (show dimacs_numbers.l0 k (List.replicate l.length 0) l (l.length : Int) 0 = _ from hk).trans ?_
  by_cases h2 : e = 0
  · subst h2
    simp
  · rw [if_neg (by simpa using h2), numsF_err l ys e h h2]

theorem nums.calls (A0 : Option Addr) (c0 : Nat) (l0 : List ByteArray) (r1 : List Int) (r2 : Int) (w : World) (hl : l0.length ≤ 4000) (hr0 : Kd.C Kd.string w A0 l0.length l0) (hc0 : l0.length ≤ c0) (h : numsF l0 = some (r1, r2)) (hG : LaidG w) :
    Calls Tryz.prog 48 #[.slice A0 l0.length c0] w fun e w' => ∃ v0_ : Value, e = .returned (.tuple #[v0_, .int .i64 r2]) ∧ Kd.R (Kd.int .i64) 2 w' w.heap.size (fun _ => True) v0_ r1 ∧ Below w.heap.size w w' := by
  obtain ⟨k, hk⟩ := nums_ok l0 hl r1 r2 h
  exact dimacs_numbers.calls k A0 c0 l0 r1 r2 w hr0 hc0 hk hG
end Go.Proofs.YtgpeppnbgfdaaaaGreatDoor.H
