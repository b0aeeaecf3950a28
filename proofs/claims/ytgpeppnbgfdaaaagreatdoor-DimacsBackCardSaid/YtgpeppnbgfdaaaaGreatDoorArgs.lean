/-
  How arguments that are rows of structs of three numbers, or a network, are read. By an AI agent.
-/
import Derived.Deep.Slices
import Derived.Deep.Fields
import Derived.ChangeSame
import Derived.Lib.SmallJoins
import Derived.Carry
import Derived.Test.YtgpeppnbgfdaaaaGreatDoorRx0
namespace Go.Proofs.YtgpeppnbgfdaaaaGreatDoor.R
open Go.ChangeShapes Go.WideShapes Go.Deep Go.RowKit Go.Joins Go.Proofs.YtgpeppnbgfdaaaaGreatDoorW.PrintWords

def In64' (n : Int) : Prop := (Lit.int .i64 n).wf = true
section
variable {H : Type} {enc : TypeId × Value → H} {P : Program} {w : World}
theorem open_rows3 {t e : TypeId} {f0 f1 f2 : Field} {fuel : Nat} {cs : List Value} {x : DataW H × List MemPlace} (ht : P.underlying t = some (.slice e)) (he : P.underlying e = some (.struct #[f0, f1, f2]))
    (h0 : P.underlying f0.type = some (.int .i64)) (h1 : P.underlying f1.type = some (.int .i64)) (h2 : P.underlying f2.type = some (.int .i64))
    (hone : oneCellFields P #[f0, f1, f2] = true) (hC : P.cellsOf e = 3) (h : DataW.trod enc P w 0 (fun _ => true) true fuel t cs = some x) :
    ∃ (A : Option Addr) (cap : Nat) (l : List (Int × Int × Int)), cs = [.slice A l.length cap] ∧ l.length ≤ cap ∧ l.length ≤ maxLen ∧
      (0 < l.length → ∃ a, A = some a ∧ ∀ (j : Nat) p, l[j]? = some p → w.cell? (a.add (j * 3 + 0)) = some (.int .i64 p.1) ∧ w.cell? (a.add (j * 3 + 1)) = some (.int .i64 p.2.1) ∧ w.cell? (a.add (j * 3 + 2)) = some (.int .i64 p.2.2)) ∧
      ∀ p ∈ l, In64' p.1 ∧ In64' p.2.1 ∧ In64' p.2.2 := by
  rcases open_slice ht h with ⟨hc0, _⟩ | ⟨a, len, cap, m, n, D, Pl, hcs, _, hl, hm, hmm, _, hi⟩
  · refine ⟨none, 0, [], hc0, Nat.le_refl _, by simp, fun hp => absurd hp (by simp), fun p hp => by cases hp⟩
  · have key : ∀ i, i < len → ∃ p : Int × Int × Int, w.cell? (a.add (i * 3 + 0)) = some (.int .i64 p.1) ∧ w.cell? (a.add (i * 3 + 1)) = some (.int .i64 p.2.1) ∧ w.cell? (a.add (i * 3 + 2)) = some (.int .i64 p.2.2) ∧ In64' p.1 ∧ In64' p.2.1 ∧ In64' p.2.2 := by
      intro i hil
      have him : i < m := by rw [hmm, if_pos rfl]; omega
      obtain ⟨cs', hc, ht'⟩ := hi i him
      rw [hC] at hc
      obtain ⟨ys, n', hn', hy, hlen, hyl, hf⟩ := DataW.trod_struct he ht'
      obtain ⟨_, hcl, hat⟩ := World.cells?_some hc
      have hy3 : ys.length = 3 := hyl
      have one : ∀ (j : Nat) (f : Field) (hj : #[f0, f1, f2][j]? = some f) (hk : P.underlying f.type = some (.int .i64)), ∃ q : Int, w.cell? (a.add (i * 3 + j)) = some (.int .i64 q) ∧ In64' q := by
        intro j f hj hk
        obtain ⟨ho, hko⟩ := hone_of hone j f hj
        have hjl : j < 3 := (Array.getElem?_eq_some_iff.1 hj).1
        have hcell := hat j hjl
        have hv : cs'[j]? = some (cs'[j]'(by omega)) := List.getElem?_eq_getElem (by omega)
        have hg := hf j f hj
        rw [ho, hko] at hg
        have hone' : (cs'.drop j).take 1 = [cs'[j]'(by omega)] := by
          rw [List.drop_eq_getElem_cons (by omega)]
          rfl
        rw [hone'] at hg
        have hys : ys[j]? = some (ys[j]'(by omega)) := List.getElem?_eq_getElem (by omega)
        obtain ⟨q, hq, _, hw⟩ := DataW.trod_int hk (hg.trans hys)
        have hq' : cs'[j]'(by omega) = .int .i64 q := by simpa using hq
        refine ⟨q, ?_, hw⟩
        rw [← Go.Deep.add_add, hcell, hv, hq']
      obtain ⟨q0, c0, w0⟩ := one 0 f0 rfl h0
      obtain ⟨q1, c1, w1⟩ := one 1 f1 rfl h1
      obtain ⟨q2, c2, w2⟩ := one 2 f2 rfl h2
      exact ⟨(q0, q1, q2), c0, c1, c2, w0, w1, w2⟩
    have ex : ∃ l : List (Int × Int × Int), l.length = len ∧ ∀ (j : Nat) p, l[j]? = some p → w.cell? (a.add (j * 3 + 0)) = some (.int .i64 p.1) ∧ w.cell? (a.add (j * 3 + 1)) = some (.int .i64 p.2.1) ∧ w.cell? (a.add (j * 3 + 2)) = some (.int .i64 p.2.2) ∧ In64' p.1 ∧ In64' p.2.1 ∧ In64' p.2.2 := by
      have build : ∀ k, k ≤ len → ∃ l : List (Int × Int × Int), l.length = k ∧ ∀ (j : Nat) p, l[j]? = some p → w.cell? (a.add (j * 3 + 0)) = some (.int .i64 p.1) ∧ w.cell? (a.add (j * 3 + 1)) = some (.int .i64 p.2.1) ∧ w.cell? (a.add (j * 3 + 2)) = some (.int .i64 p.2.2) ∧ In64' p.1 ∧ In64' p.2.1 ∧ In64' p.2.2 := by
        intro k
        induction k with
        | zero => intro _; exact ⟨[], rfl, fun j p hj => by simp at hj⟩
        | succ k ih =>
          intro hk
          obtain ⟨l, hl1, hl2⟩ := ih (by omega)
          obtain ⟨p0, hp0⟩ := key k (by omega)
          refine ⟨l ++ [p0], by simp [hl1], fun j p hj => ?_⟩
          by_cases hjk : j < l.length
          · rw [List.getElem?_append_left hjk] at hj
            exact hl2 j p hj
          · rw [List.getElem?_append_right (by omega)] at hj
            have : j - l.length = 0 := by
              have := (List.getElem?_eq_some_iff.1 hj).1
              simp at this
              omega
            rw [this] at hj
            simp only [List.getElem?_cons_zero, Option.some.injEq] at hj
            subst hj
            have : j = k := by omega
            subst this
            exact hp0
      exact build len (Nat.le_refl _)
    obtain ⟨l, hll, hlc⟩ := ex
    subst hll
    refine ⟨some a, cap, l, hcs, hl, Nat.le_trans hl hm, fun _ => ⟨a, rfl, fun j p hj => ?_⟩, fun p hp => ?_⟩
    · obtain ⟨c0, c1, c2, _⟩ := hlc j p hj
      exact ⟨c0, c1, c2⟩
    · obtain ⟨j, hj, rfl⟩ := List.getElem_of_mem hp
      obtain ⟨_, _, _, r⟩ := hlc j _ (List.getElem?_eq_getElem hj)
      exact r
end
theorem C_arcs {w : World} {A : Option Addr} {l : List (Int × Int × Int)} (hm : l.length ≤ maxLen) (h : 0 < l.length → ∃ a, A = some a ∧ ∀ (j : Nat) p, l[j]? = some p → w.cell? (a.add (j * 3 + 0)) = some (.int .i64 p.1) ∧ w.cell? (a.add (j * 3 + 1)) = some (.int .i64 p.2.1) ∧ w.cell? (a.add (j * 3 + 2)) = some (.int .i64 p.2.2)) :
    Kd.C k44 w A l.length (l.map fun p => (⟨p.1, p.2.1, p.2.2⟩ : S44)) := by
  refine ⟨by simp, by unfold maxLen at hm; omega, fun hp => ?_⟩
  obtain ⟨a, rfl, hc⟩ := h hp
  refine ⟨a, rfl, fun j x hj => ?_⟩
  rw [List.getElem?_map] at hj
  obtain ⟨p, hp1, rfl⟩ := Option.map_eq_some_iff.1 hj
  obtain ⟨c0, c1, c2⟩ := hc j p hp1
  refine ⟨[.int .i64 p.1, .int .i64 p.2.1, .int .i64 p.2.2], rfl, k44_mk w _, fun i u hu => ?_⟩
  match i, hu with
  | 0, hu => simp only [List.getElem?_cons_zero, Option.some.injEq] at hu; subst hu; exact c0
  | 1, hu => simp only [List.getElem?_cons_succ, List.getElem?_cons_zero, Option.some.injEq] at hu; subst hu; exact c1
  | 2, hu => simp only [List.getElem?_cons_succ, List.getElem?_cons_zero, Option.some.injEq] at hu; subst hu; exact c2
  | i + 3, hu => simp at hu
end Go.Proofs.YtgpeppnbgfdaaaaGreatDoor.R
