/-
  Walking words of this session: a store of cells into a known block, an alloc, as events with the new world as a letter. By an AI agent.
-/
import Derived.Test.YtgpeppnbgfdaaaaGreatDoorWWords
import Derived.Test.YtgpeppnbgfdaaaaGreatDoorWLast
import Derived.Test.YtgpeppnbgfdaaaaGreatDoorWMore
import Derived.Test.YtgpeppnbgfdaaaaGreatDoorWInvWords
import Derived.WalkKit
import Derived.Below
namespace Go.Proofs.YtgpeppnbgfdaaaaGreatDoor.H
open Go.RowKit Go.Lib Go.Proofs.YtgpeppnbgfdaaaaGreatDoorW.PrintWords Go.Proofs.YtgpeppnbgfdaaaaGreatDoorW.PrintLast

theorem grown_below {W W1 : World} {B g : Nat} (hg : W.grownBy W1 (some g)) (hB : B ≤ g) (hs : B ≤ W.heap.size) : Below B W W1 :=
  ⟨hg.os, hg.tape, hg.output, hg.size, fun k hk => hg.block k (by omega) (fun e => by injection e with e; omega)⟩
theorem below_grown_ {w W W1 : World} {g : Nat} (h : Below w.heap.size w W) (hg : W.grownBy W1 (some g)) (hB : w.heap.size ≤ g) : Below w.heap.size w W1 :=
  h.trans (grown_below hg hB h.size)

theorem setCells_event {W : World} {g off : Nat} {e : TypeId} {cur cs' : Array Value} {seg : List Value} (hh : W.heap[g]? = some (.cells cur e (0, 0))) (hfit : off + seg.length ≤ cur.size)
    (hcs : cs'.toList = cur.toList.take off ++ seg ++ cur.toList.drop (off + seg.length)) : (W.setCells g off seg).heap[g]? = some (.cells cs' e (0, 0)) ∧ W.grownBy (W.setCells g off seg) (some g) := by
  obtain ⟨cur', h3, h4, h5⟩ := setCells_row seg off W cur hh hfit
  obtain ⟨s1, s2, s3, s4⟩ := setCells_same g seg off W
  refine ⟨?_, s1, s2, s3, by rw [s4]; exact Nat.le_refl _, fun k _ hk => setCells_far seg _ k (fun he => hk (by rw [he]))⟩
  rw [h3]
  have : cur' = cs' := by
    apply Array.ext'
    rw [h5, hcs]
  rw [this]

/-! ### what stays -/
structure Fr (w w' : World) (S : Nat → Prop) : Prop where
  os : w'.os = w.os
  tape : w'.tape = w.tape
  output : w'.output = w.output
  size : w.heap.size ≤ w'.heap.size
  block : ∀ k, k < w.heap.size → ¬ S k → w'.heap[k]? = w.heap[k]?
namespace Fr
variable {w w1 w2 : World} {S S1 : Nat → Prop}
theorem refl (w : World) (S : Nat → Prop) : Fr w w S := ⟨rfl, rfl, rfl, Nat.le_refl _, fun _ _ _ => rfl⟩
theorem of_below (h : Below w.heap.size w w1) (S : Nat → Prop) : Fr w w1 S := ⟨h.os, h.tape, h.output, h.size, fun k hk _ => h.block k hk⟩
theorem of_grown {row : Option Nat} (h : w.grownBy w1 row) (hr : ∀ k, row = some k → S k) : Fr w w1 S := ⟨h.os, h.tape, h.output, h.size, fun k hk hn => h.block k hk (fun e => hn (hr k e.symm))⟩
theorem then_ (h : Fr w w1 S) (k : Fr w1 w2 S1) (hs : ∀ k, S1 k → S k ∨ w.heap.size ≤ k) : Fr w w2 S :=
  ⟨k.os.trans h.os, k.tape.trans h.tape, k.output.trans h.output, Nat.le_trans h.size k.size, fun i hi hn => (k.block i (Nat.lt_of_lt_of_le hi h.size) (fun hk => (hs i hk).elim hn (by omega))).trans (h.block i hi hn)⟩
theorem below (h : Fr w w1 S) (k : Below w1.heap.size w1 w2) : Fr w w2 S := h.then_ (of_below k (fun _ => False)) (fun _ hk => hk.elim)
theorem grown {row : Option Nat} (h : Fr w w1 S) (k : w1.grownBy w2 row) (hr : ∀ k, row = some k → S k ∨ w.heap.size ≤ k) : Fr w w2 S := h.then_ (of_grown (S := fun k => row = some k) k (fun _ e => e)) (fun i hi => hr i hi)
theorem mono (h : Fr w w1 S) (hs : ∀ k, S k → S1 k) : Fr w w1 S1 := ⟨h.os, h.tape, h.output, h.size, fun k hk hn => h.block k hk (fun e => hn (hs k e))⟩
theorem blk (h : Fr w w1 S) {g : Nat} {o : Obj} (hb : w.heap[g]? = some o) (hn : ¬ S g) : w1.heap[g]? = some o := (h.block g (blk_lt hb) hn).trans hb
theorem cell (h : Fr w w1 S) {a : Addr} {v : Value} (hc : w.cell? a = some v) (hn : ¬ S a.block) : w1.cell? a = some v :=
  (World.cell?_of_block (h.block a.block (World.block_lt_of_cell? w a hc) hn)).trans hc
theorem R {α : Type} {d : Kd α} {e base : Nat} {ok : Nat → Prop} {v : Value} {xs : List α} (h : Fr w w1 S) (hr : d.R e w base ok v xs) (hn : ∀ k, ok k → ¬ S k) : d.R e w1 base ok v xs := Kd.R_step hr (fun k ho hk => h.block k hk (hn k ho))
theorem toBelow {B : Nat} (h : Fr w w1 S) (hs : ∀ k, S k → B ≤ k) (hB : B ≤ w.heap.size) : Below B w w1 := ⟨h.os, h.tape, h.output, h.size, fun k hk => h.block k (Nat.lt_of_lt_of_le hk hB) (fun e => by have := hs k e; omega)⟩
theorem drew (h : Fr w w1 S) : Fr w w1.drew S := ⟨h.os, h.tape, h.output, h.size, h.block⟩
theorem drewN (h : Fr w w1 S) (n : Nat) : Fr w (w1.drewN n) S := ⟨h.os, h.tape, h.output, h.size, h.block⟩
theorem set (h : Fr w w1 S) {p : Addr} (hp : S p.block ∨ w.heap.size ≤ p.block) (u : Value) : Fr w (w1.setCell p u) S :=
  ⟨h.os, h.tape, h.output, by simpa [World.setCell] using h.size, fun k hk hn => (Below.heap_setCell w1 p u k (fun e => by subst e; exact hp.elim hn (by omega))).trans (h.block k hk hn)⟩
theorem setg {g j : Nat} (h : Fr w w1 (fun k => k = g)) (u : Value) : Fr w (w1.setCell ⟨g, j, none⟩ u) (fun k => k = g) := h.set (.inl rfl) u
theorem alloc (h : Fr w w1 S) (o : Obj) : Fr w (w1.alloc o) S := h.below (below_alloc (Below.refl _ _) o)
theorem C {α : Type} {d : Kd α} {A : Option Addr} {xs : List α} {n : Nat} (h : Fr w w1 S) (hc : d.C w A n xs) (hn : ∀ ad, A = some ad → ∀ k, S k → k ≠ ad.block) (hK : ∀ x cs, d.K w x cs → d.K w1 x cs) : d.C w1 A n xs := by
  refine ⟨hc.1, hc.2.1, fun hp => ?_⟩
  obtain ⟨ad, e, h2⟩ := hc.2.2 hp
  refine ⟨ad, e, fun j p hj => ?_⟩
  obtain ⟨cs, h3, h4, h5⟩ := h2 j p hj
  exact ⟨cs, h3, hK _ _ h4, fun i u hu => h.cell (h5 i u hu) (fun hk => hn ad e _ hk (by rw [add_block]))⟩
end Fr

theorem C_new_str (w : World) (x : ByteArray) (t : TypeId) : Kd.string.C (w.alloc (.cells #[.string x] t)) (some ⟨w.heap.size, 0, none⟩) 1 [x] := by
  refine ⟨rfl, by simp, fun _ => ⟨_, rfl, fun j p hj => ?_⟩⟩
  have h0 : j = 0 := by
    have := (List.getElem?_eq_some_iff.1 hj).1
    simp at this
    exact this
  subst h0
  simp only [List.getElem?_cons_zero, Option.some.injEq] at hj
  subst hj
  refine ⟨[.string x], rfl, rfl, fun i u hu => ?_⟩
  have h1 : i = 0 := by
    have := (List.getElem?_eq_some_iff.1 hu).1
    simp at this
    exact this
  subst h1
  simp only [List.getElem?_cons_zero, Option.some.injEq] at hu
  subst hu
  exact (blk_cell (blk_new w _) 0).trans rfl

section
variable {P : Program} {ops : Array Oper} {rest : List Oper} {o : Oper} {a : Act} {Q : Exit → Act → World → Prop} {Kc : Act → World → Prop}
theorem cells_run {W : World} {t : TypeId} {p v : Operand} (ho : o.op = .store t p v) {g off : Nat} {e : TypeId} {cur : Array Value} {seg : List Value}
    (hh : W.heap[g]? = some (.cells cur e (0, 0))) (haddr : a.eval p = .pointer (some ⟨g, off, none⟩)) (hu : (a.eval v).cells.toList = seg)
    (ht : (P.info? t).map (·.size) = some seg.length) (h1 : ∀ q ∈ seg, q.oneCell' = true) (hfit : off + seg.length ≤ cur.size) :
    (execOp a.eval o).run P W = .ok .skip (W.setCells g off seg) := by
  have hrun := run_store_run (P := P) t (a.eval v) seg hh hu ht hfit h1
  unfold execOp
  simp only [ho, haddr, Sem.run_bind, Sem.run_pure, Result.andThen_ok, hrun]
theorem cells_event {W : World} (hgd : o.guard = none) {t : TypeId} {p v : Operand} (ho : o.op = .store t p v) (hN : o.dst = none) {g : Nat} (off : Nat) {e : TypeId} {cur : Array Value} (cs' : Array Value) (seg : List Value)
    (hh : W.heap[g]? = some (.cells cur e (0, 0))) (haddr : a.eval p = .pointer (some ⟨g, off, none⟩)) (hu : (a.eval v).cells.toList = seg)
    (ht : (P.info? t).map (·.size) = some seg.length) (h1 : ∀ q ∈ seg, q.oneCell' = true) (hfit : off + seg.length ≤ cur.size)
    (hcs : cs'.toList = cur.toList.take off ++ seg ++ cur.toList.drop (off + seg.length))
    (h : ∀ w1, w1.heap[g]? = some (.cells cs' e (0, 0)) → W.grownBy w1 (some g) → wpList P ops Q rest a w1) : wpList P ops Q (o :: rest) a W := by
  obtain ⟨h3, h4⟩ := setCells_event hh hfit hcs
  exact store_event_ hgd hN (cells_run ho hh haddr hu ht h1 hfit) (h _ h3 h4)
where
  store_event_ {W w1 : World} {P : Program} {ops : Array Oper} {rest : List Oper} {o : Oper} {a : Act} {Q : Exit → Act → World → Prop} (hgd : o.guard = none) (hN : o.dst = none)
    (hrun : (execOp a.eval o).run P W = .ok .skip w1) (h : wpList P ops Q rest a w1) : wpList P ops Q (o :: rest) a W := by
    refine wpList_plain hgd fun K hK => ?_
    unfold Oper.wp
    rw [hrun]
    show K (a.put o.dst undef) w1
    rw [hN]
    exact hK _ _ h
end
end Go.Proofs.YtgpeppnbgfdaaaaGreatDoor.H
