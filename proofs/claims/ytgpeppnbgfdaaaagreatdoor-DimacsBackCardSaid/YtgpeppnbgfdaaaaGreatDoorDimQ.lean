/-
  dimacs.Parse: its closed form, and that its call comes to it. By an AI agent.
-/
import Derived.Test.YtgpeppnbgfdaaaaGreatDoorDimD
import Derived.Test.YtgpeppnbgfdaaaaGreatDoorPlain
namespace Go.Proofs.YtgpeppnbgfdaaaaGreatDoor.R
open Go.RowKit Go.Lib Go.Proofs.TX Go.Proofs.YtgpeppnbgfdaaaaGreatDoor.H Go.Proofs.YtgpeppnbgfdaaaaGreatDoorW.PrintWords Go.Proofs.YtgpeppnbgfdaaaaGreatDoorW.PrintLast Go.Proofs.YtgpeppnbgfdaaaaGreatDoorW.PrintMore
set_option linter.unusedVariables false
set_option linter.unusedSimpArgs false

/-- A call of a function value in a plain region. -/
theorem goesF_ {P : Program} {ops : Array Oper} {Q : Exit → Act → World → Prop} {rest : List Oper} {oi : Oper} {a : Act} {w : World} (N : Option Tmp) (hd : oi.dst = N) (hg : oi.guard = none) {f : FuncId} {fn : Func} {x : Operand} {ar : Array Operand} {ts : Array TypeId} (hf : P.funcs[f]? = some fn) (hname : (fn.name == "runtime.NumGoroutine") = false) (hb : fn.body.isSome = true) (args : Array Value)
    (hop : oi.op = .call { callee := .value x, args := ar, argTypes := ts }) (hx : a.eval x = .func (.func f) #[] #[]) (hargs : ar.map a.eval = args)
    (h : Calls P f args w fun e w' => ∃ v, e = .returned v ∧ wpList P ops Q rest (a.put N v) w') : wpList P ops Q (oi :: rest) a w := by
  refine wpList_plain hg fun K hK => ?_
  have he := enters_ hf hname hb args w
  have hrun : (execOp a.eval oi).run P w = .ok (.enter f args) w := by
    unfold execOp
    simp [hop, resolve, Deferred.ofValue, invoke, hx, hargs, he]
  unfold Oper.wp
  rw [hrun]
  subst hd
  refine h.mono ?_
  rintro e w' ⟨v, rfl, h'⟩
  exact hK _ _ h'

def RS.init : RS := ⟨0, 0, 0, [], -1, 0⟩
theorem stepF_few {s s' : RS} {ws : List ByteArray} {e : Int} (h : stepF s ws = some (e, s')) : s'.arcs.length ≤ s.arcs.length + 1 := by
  unfold stepF at h
  split at h
  · simp only [Option.some.injEq, Prod.mk.injEq] at h
    rw [← h.2]; omega
  · split at h
    · simp only [Option.some.injEq, Prod.mk.injEq] at h
      rw [← h.2]; omega
    · split at h
      · obtain ⟨q, _, h⟩ := Option.bind_eq_some_iff.1 h
        simp only [Option.some.injEq, Prod.mk.injEq] at h
        rw [← h.2]; simp
      · split at h
        · obtain ⟨q, _, h⟩ := Option.bind_eq_some_iff.1 h
          simp only [Option.some.injEq, Prod.mk.injEq] at h
          rw [← h.2]; simp
        · split at h
          · obtain ⟨q, _, h⟩ := Option.bind_eq_some_iff.1 h
            split at h
            · simp only [Option.some.injEq, Prod.mk.injEq] at h
              rw [← h.2]; omega
            · simp only [Option.some.injEq, Prod.mk.injEq] at h
              rw [← h.2]; simp
          · simp only [Option.some.injEq, Prod.mk.injEq] at h
            rw [← h.2]; omega
def runF (s : RS) : Nat → List ByteArray → Option (Int × Int × RS)
  | _, [] => some (0, 0, s)
  | i, x :: xs => (text_Words.f x).bind fun ws => (stepF s ws).bind fun q => if q.1 = 0 then runF q.2 (i + 1) xs else some (((i + 1 : Nat) : Int), q.1, q.2)

def dimacs_Parse.f (a0 : ByteArray) : Option (Int × Int × Int × List S44 × Int × Int) :=
  (text_Lines.f a0).bind fun ls => (runF RS.init 0 ls).bind fun q =>
    if q.2.1 = 0 then
      if q.2.2.most = -1 then some (0, 0, 0, [], (ls.length : Int) + 1, 2)
      else if q.2.2.so = 0 then some (0, 0, 0, [], (ls.length : Int) + 1, 2)
      else if q.2.2.si = 0 then some (0, 0, 0, [], (ls.length : Int) + 1, 2)
      else if (q.2.2.arcs.length : Int) < q.2.2.most then some (0, 0, 0, [], (ls.length : Int) + 1, 6)
      else some (q.2.2.no, q.2.2.so, q.2.2.si, q.2.2.arcs, 0, 0)
    else some (0, 0, 0, [], q.1, q.2.1)

theorem row_cells {W : World} {A : Option Addr} {n : Nat} {xs : List ByteArray} (h : Kd.C Kd.string W A n xs) (hp : 0 < n) : ∃ ad, A = some ad ∧ ∀ (j : Nat) y, xs[j]? = some y → W.cell? (ad.add j) = some (.string y) := by
  obtain ⟨hl, _, hc⟩ := h
  obtain ⟨ad, rfl, hc2⟩ := hc hp
  refine ⟨ad, rfl, ?_⟩
  intro j y hj
  obtain ⟨c, _, rfl, hu⟩ := hc2 j y hj
  have := hu 0 (.string y) rfl
  rwa [show j * Kd.string.sz + 0 = j by show j * 1 + 0 = j; omega] at this

theorem ofF_fn (ws : List ByteArray) : ∃ fn, Tryz.prog.funcs[ofF ws]? = some fn ∧ (fn.name == "runtime.NumGoroutine") = false ∧ fn.body.isSome = true := by
  have h0 : ∃ fn, Tryz.prog.funcs[(34 : Nat)]? = some fn ∧ (fn.name == "runtime.NumGoroutine") = false ∧ fn.body.isSome = true := ⟨_, Tryz.func34, by kernel_rfl, rfl⟩
  have h1 : ∃ fn, Tryz.prog.funcs[(35 : Nat)]? = some fn ∧ (fn.name == "runtime.NumGoroutine") = false ∧ fn.body.isSome = true := ⟨_, Tryz.func35, by kernel_rfl, rfl⟩
  have h2 : ∃ fn, Tryz.prog.funcs[(36 : Nat)]? = some fn ∧ (fn.name == "runtime.NumGoroutine") = false ∧ fn.body.isSome = true := ⟨_, Tryz.func36, by kernel_rfl, rfl⟩
  have h3 : ∃ fn, Tryz.prog.funcs[(37 : Nat)]? = some fn ∧ (fn.name == "runtime.NumGoroutine") = false ∧ fn.body.isSome = true := ⟨_, Tryz.func37, by kernel_rfl, rfl⟩
  have h4 : ∃ fn, Tryz.prog.funcs[(38 : Nat)]? = some fn ∧ (fn.name == "runtime.NumGoroutine") = false ∧ fn.body.isSome = true := ⟨_, Tryz.func38, by kernel_rfl, rfl⟩
  cases ws with
  | nil => exact h0
  | cons x xs =>
    dsimp only [ofF]
    split
    · exact h0
    · split
      · exact h1
      · split
        · exact h2
        · split
          · exact h3
          · exact h4

/-- What stands at the head of round k. -/
structure AtP (w : World) (base g gr : Nat) (Al : Option Addr) (ls : List ByteArray) (q : Int × Int × RS) (k : Nat) (s : RS) (v : Value) (wr : World) : Prop where
  run : runF s k (ls.drop k) = some q
  few : s.arcs.length ≤ k
  blk : wr.heap[g]? = some (.cells (s.cells v) 62 (0, 0))
  row : k44.R 44 wr base (fun k => k ≠ g) v s.arcs
  res : wr.heap[gr]? = some (.cells #[.int .i64 0, .int .i64 0, .int .i64 0, .slice none 0 0] 24 (0, 0))
  lines : Kd.C Kd.string wr Al ls.length ls
  bel : Below w.heap.size w wr
  base : base ≤ wr.heap.size

set_option maxRecDepth 100000 in
set_option maxHeartbeats 4000000 in
theorem dimacs_Parse.calls (a0 : ByteArray) (t1 t2 t3 : Int) (t4 : List S44) (t5 t6 : Int) (w : World) (h : dimacs_Parse.f a0 = some (t1, t2, t3, t4, t5, t6)) (hG : LaidG w) :
    Calls Tryz.prog 13 #[.string a0] w fun e w' => ∃ v0_ : Value, e = .returned (.tuple #[.agg #[.int .i64 t1, .int .i64 t2, .int .i64 t3, v0_], .int .i64 t5, .int .i64 t6]) ∧ k44.R 44 w' w.heap.size (fun _ => True) v0_ t4 ∧ Below w.heap.size w w' := by
  obtain ⟨ls, hL, h⟩ := Option.bind_eq_some_iff.1 h
  obtain ⟨q, hq, h⟩ := Option.bind_eq_some_iff.1 h
  have hll : ls.length ≤ 4294967281 := by
    unfold text_Lines.f at hL
    split at hL
    · have e := Option.some.inj hL
      subst e
      have := PL.linesB_le a0
      omega
    · cases hL
  have cL := fun W (hb : Below w.heap.size w W) => text_Lines.calls a0 ls W hL (hG.below hb)
  have HL := Lib.hid hL
  have H := Lib.hid h
  clear hL h
  have hB0 := Aside0.mk (Below.refl w.heap.size w)
  go_enter Tryz.func13, Tryz.ntmps13
  go_wp2_with (first
    | ((with_reducible refine gate_dst (N := 2) rfl ?_); refine box_event ?hg (N := 2) ?hd (cs := #[.int .i64 0, .int .i64 0, .int .i64 0, .slice none 0 0]) (t := 24) ?hr ?_; (case hd => rfl); (case hg => rfl); (case hr => first | (go_simp; done) | (go_simp; rfl)); intro gr hq0 w1 hx_gr hb0; have hq_gr := Aside0.mk hq0; clear hq0; have hb_gr := Aside0.mk hb0; clear hb0; skip)
    | ((with_reducible refine gate_dst (N := 12) rfl ?_); refine box_event ?hg (N := 12) ?hd (cs := #[.int .i64 0, .int .i64 0, .int .i64 0, .slice none 0 0, .int .i64 (-1), .int .i64 0]) (t := 62) ?hr ?_; (case hd => rfl); (case hg => rfl); (case hr => first | (go_simp; done) | (go_simp; rfl)); intro g hq0 w2 hx_g hb0; have hq_g := Aside0.mk hq0; clear hq0; have hb_g := Aside0.mk hb0; clear hb0; skip)
    | (go_at_call 11; refine (cL _ (hb_gr.out.trans (hb_g.out.mono hb_gr.out.size))).mono ?_; rintro e w3 ⟨vl, rfl, hR0, hb30⟩; have hR := Aside0.mk hR0; have hb3 := Aside0.mk hb30; obtain ⟨Al, cl, rfl⟩ := Kd.R_slice hR0; clear hR0 hb30))
  have hz1 : w1.heap.size ≤ w2.heap.size := hb_g.out.size
  have hz2 : w2.heap.size ≤ w3.heap.size := hb3.out.size
  have hz0 : w.heap.size ≤ w1.heap.size := hb_gr.out.size
  have hgr := blk_lt hx_gr
  have hgg := blk_lt hx_g
  have hgr0 : w.heap.size ≤ gr := by have := hq_gr.out; omega
  have hgg0 : w1.heap.size ≤ g := by have := hq_g.out; omega
  have hgne : gr ≠ g := by omega
  have hAl : ∀ ad, Al = some ad → 0 < ls.length → ad.block < w3.heap.size ∧ w2.heap.size ≤ ad.block := by
    intro ad e hp
    subst e
    have h1 : (Value.slice (some ad) ls.length cl).ownBlock = some ad.block := rfl
    exact ⟨Kd.R_lt hR.out _ h1, Kd.R_base hR.out _ h1⟩
  have hstart : AtP w w3.heap.size g gr Al ls q 0 RS.init (.slice none 0 0) w3 := by
    refine ⟨hq, Nat.le_refl _, ?_, Kd.R_nil _ _ _ _ _, ?_, (Kd.R_reads' hR.out).2.2, ?_, Nat.le_refl _⟩
    · exact (hb3.out.block g hgg).trans hx_g
    · exact ((hb_g.out.trans (hb3.out.mono hb_g.out.size)).block gr hgr).trans hx_gr
    · exact (hb_gr.out.trans (hb_g.out.mono hb_gr.out.size)).trans (hb3.out.mono (Nat.le_trans hz0 hz1))
  clear hx_gr hx_g
  go_loopw [17] (fun i wr => ∃ (k : Nat) (s : RS) (v : Value), k ≤ ls.length ∧ i = .int .i64 k ∧ AtP w w3.heap.size g gr Al ls q k s v wr) (fun i _ => ls.length - (intOf i).toNat)
  case atStart => exact ⟨0, _, _, Nat.zero_le _, rfl, hstart⟩
  case round =>
    obtain ⟨k, s, v, hk, rfl, hA⟩ := hrel
    clear hstart
    by_cases hlt : k < ls.length
    · obtain ⟨hrun, hfew, hblk, hrow, hres, hlin, hbel, hbas⟩ := hA
      obtain ⟨ad, rfl, hcs⟩ := row_cells hlin (by omega)
      have hck := hcs k ls[k] (List.getElem?_eq_getElem hlt)
      rw [List.drop_eq_getElem_cons hlt] at hrun
      generalize ls[k] = x at *
      unfold runF at hrun
      obtain ⟨ws, hw, hrun⟩ := Option.bind_eq_some_iff.1 hrun
      obtain ⟨⟨e, s'⟩, hstep, hrun⟩ := Option.bind_eq_some_iff.1 hrun
      have HR := Lib.hid hrun
      have HW := Lib.hid hw
      have HS := Lib.hid hstep
      clear hcs hrun hw hstep
      have hkl : decide (k < ls.length) = true := decide_eq_true hlt
      obtain ⟨fn, hfn, hname, hbody⟩ : ∃ fn, Tryz.prog.funcs[ofF ws]? = some fn ∧ (fn.name == "runtime.NumGoroutine") = false ∧ fn.body.isSome = true := ofF_fn ws
      have hfn' := Lib.hid hfn
      have hname' := Lib.hid hname
      have hbody' := Lib.hid hbody
      clear hfn hname hbody
      have hv0 : some gr ≠ v.ownBlock := fun e_ => by have := Kd.R_base hrow gr e_.symm; omega
      by_cases he : e = 0
      · subst he
        go_wp2_with (first
          | (go_at_call 24; refine (text_Words.calls x ws _ HW.out).mono ?_; rintro e1 w4 ⟨vw, rfl, hRw0, hb40⟩; have hRw := Aside0.mk hRw0; have hb4 := Aside0.mk hb40; obtain ⟨Aw, cw, rfl⟩ := Kd.R_slice hRw0; clear hRw0 hb40)
          | (go_at_call 23; refine (dimacs_of.calls Aw cw ws _ (Kd.R_reads' hRw.out).2.2 (Kd.R_reads' hRw.out).2.1).mono ?_; rintro e2 w5 ⟨rfl, hb50⟩; have hb5 := Aside0.mk hb50; clear hb50)
          | ((with_reducible refine gate_dst (N := 9) rfl ?_); refine box_event ?hg (N := 9) ?hd (cs := #[.slice none 0 0, .nilFunc]) (t := 65) ?hr ?_; (case hd => rfl); (case hg => rfl); (case hr => first | (go_simp; done) | (go_simp; rfl)); intro gl hq0 w6 hx_gl hb0; have hq_gl := Aside0.mk hq0; clear hq0; have hb_gl := Aside0.mk hb0; clear hb0; skip)
          | ((with_reducible refine gate_store (t := 65) (p := 9) rfl ?_); refine cells_event (by rfl) (by rfl) (by rfl) 0 #[.slice Aw ws.length cw, .func (.func (ofF ws)) #[] #[]] [.slice Aw ws.length cw, .func (.func (ofF ws)) #[] #[]] hx_gl (by rfl) (by rfl) (by kernel_rfl) (by simp [Value.oneCell']) (by simp) (by rfl) ?_; intro w7 hx_w7 hg0; have hg_w7 := Aside0.mk hg0; clear hg0; have hcl0 : w7.cell? ⟨gl, 0, none⟩ = some (.slice Aw ws.length cw) := (blk_cell hx_w7 0).trans rfl; have hcl1 : w7.cell? ⟨gl, 1, none⟩ = some (.func (.func (ofF ws)) #[] #[]) := (blk_cell hx_w7 1).trans rfl)
          | ((with_reducible refine gate_dst (N := 30) rfl ?_); go_loud (refine goesF_ (some 30) rfl rfl hfn'.out hname'.out hbody'.out #[.pointer (some ⟨g, 0, none⟩), .slice Aw ws.length cw] (by rfl) (by rfl) (by simp only [List.map_toArray, List.map_cons, List.map_nil]; rfl) ?_; have F47 : Fr w4 w7 (fun _ => False) := ((Fr.of_below hb5.out _).below hb_gl.out).grown hg_w7.out (by rintro k ⟨⟩; right; have := hq_gl.out; have := hb5.out.size; omega); have F7 : Fr wr w7 (fun _ => False) := (Fr.of_below hb4.out _).then_ F47 (fun _ hk => hk.elim); have B7 : Below w.heap.size w w7 := hbel.trans (F7.toBelow (fun k hk => hk.elim) hbel.size); refine (do.calls g v w3.heap.size s Aw cw ws _ s' w7 (Kd.R_reads' (F47.R hRw.out (fun k _ hk => hk))).2.2 (Kd.R_reads' hRw.out).2.1 (F7.blk hblk (fun hk => hk)) (F7.R hrow (fun k _ hk => hk)) (Nat.le_trans hbas F7.size) (by omega) HS.out (hG.below B7)).mono ?_; rintro r w8 ⟨v', rfl, hb8, hr8, hf8⟩; refine ⟨_, rfl, ?_⟩; have hb8 := Aside0.mk hb8; have hr8 := Aside0.mk hr8; have hf8 := Aside0.mk hf8)))
        have F48 : Fr wr w8 (fun k => k = g ∨ some k = v.ownBlock) := (F7.mono (S1 := fun k => k = g ∨ some k = v.ownBlock) (fun _ hk => hk.elim)).then_ hf8.out (fun k hk => .inl hk)
        have hA1 : AtP w w3.heap.size g gr (some ad) ls q (k + 1) s' v' w8 := by
          have hg3 : g < w3.heap.size := by omega
          refine ⟨?_, ?_, hb8.out, hr8.out, F48.blk hres ?_, ?_, hbel.trans (F48.toBelow ?_ hbel.size), Nat.le_trans hbas F48.size⟩
          · have := HR.out
            simpa using this
          · have := stepF_few HS.out
            omega
          · rintro (h1 | h1)
            · exact hgne h1
            · exact hv0 h1
          · refine F48.C hlin ?_ (fun x cs hk => hk)
            rintro a0_ ha k_ hk rfl
            injection ha with ha
            subst ha
            have h2 := (hAl _ rfl (by omega)).1
            have h3 := (hAl _ rfl (by omega)).2
            rcases hk with h1 | h1
            · omega
            · have := Kd.R_base hrow _ h1.symm
              omega
          · rintro k_ (h1 | h1)
            · omega
            · have := Kd.R_base hrow _ h1.symm
              have := hbel.size
              omega
        clear hlin hrow
        go_roundw
        case rel => exact ⟨k + 1, s', v', by omega, by go_num, hA1⟩
        case measure => simp [intOf]; omega
      · have he1 : (e == 0) = false := beq_eq_false_iff_ne.mpr he
        have he2 : (e != 0) = true := bne_iff_ne.mpr he
        go_wp2_with (first
          | (go_at_call 24; refine (text_Words.calls x ws _ HW.out).mono ?_; rintro e1 w4 ⟨vw, rfl, hRw0, hb40⟩; have hRw := Aside0.mk hRw0; have hb4 := Aside0.mk hb40; obtain ⟨Aw, cw, rfl⟩ := Kd.R_slice hRw0; clear hRw0 hb40)
          | (go_at_call 23; refine (dimacs_of.calls Aw cw ws _ (Kd.R_reads' hRw.out).2.2 (Kd.R_reads' hRw.out).2.1).mono ?_; rintro e2 w5 ⟨rfl, hb50⟩; have hb5 := Aside0.mk hb50; clear hb50)
          | ((with_reducible refine gate_dst (N := 9) rfl ?_); refine box_event ?hg (N := 9) ?hd (cs := #[.slice none 0 0, .nilFunc]) (t := 65) ?hr ?_; (case hd => rfl); (case hg => rfl); (case hr => first | (go_simp; done) | (go_simp; rfl)); intro gl hq0 w6 hx_gl hb0; have hq_gl := Aside0.mk hq0; clear hq0; have hb_gl := Aside0.mk hb0; clear hb0; skip)
          | ((with_reducible refine gate_store (t := 65) (p := 9) rfl ?_); refine cells_event (by rfl) (by rfl) (by rfl) 0 #[.slice Aw ws.length cw, .func (.func (ofF ws)) #[] #[]] [.slice Aw ws.length cw, .func (.func (ofF ws)) #[] #[]] hx_gl (by rfl) (by rfl) (by kernel_rfl) (by simp [Value.oneCell']) (by simp) (by rfl) ?_; intro w7 hx_w7 hg0; have hg_w7 := Aside0.mk hg0; clear hg0; have hcl0 : w7.cell? ⟨gl, 0, none⟩ = some (.slice Aw ws.length cw) := (blk_cell hx_w7 0).trans rfl; have hcl1 : w7.cell? ⟨gl, 1, none⟩ = some (.func (.func (ofF ws)) #[] #[]) := (blk_cell hx_w7 1).trans rfl)
          | ((with_reducible refine gate_dst (N := 30) rfl ?_); go_loud (refine goesF_ (some 30) rfl rfl hfn'.out hname'.out hbody'.out #[.pointer (some ⟨g, 0, none⟩), .slice Aw ws.length cw] (by rfl) (by rfl) (by simp only [List.map_toArray, List.map_cons, List.map_nil]; rfl) ?_; have F47 : Fr w4 w7 (fun _ => False) := ((Fr.of_below hb5.out _).below hb_gl.out).grown hg_w7.out (by rintro k ⟨⟩; right; have := hq_gl.out; have := hb5.out.size; omega); have F7 : Fr wr w7 (fun _ => False) := (Fr.of_below hb4.out _).then_ F47 (fun _ hk => hk.elim); have B7 : Below w.heap.size w w7 := hbel.trans (F7.toBelow (fun k hk => hk.elim) hbel.size); refine (do.calls g v w3.heap.size s Aw cw ws _ s' w7 (Kd.R_reads' (F47.R hRw.out (fun k _ hk => hk))).2.2 (Kd.R_reads' hRw.out).2.1 (F7.blk hblk (fun hk => hk)) (F7.R hrow (fun k _ hk => hk)) (Nat.le_trans hbas F7.size) (by omega) HS.out (hG.below B7)).mono ?_; rintro r w8 ⟨v', rfl, hb8, hr8, hf8⟩; refine ⟨_, rfl, ?_⟩; have hb8 := Aside0.mk hb8; have hr8 := Aside0.mk hr8; have hf8 := Aside0.mk hf8; have F48 : Fr wr w8 (fun k => k = g ∨ some k = v.ownBlock) := (F7.mono (S1 := fun k => k = g ∨ some k = v.ownBlock) (fun _ hk => hk.elim)).then_ hf8.out (fun k hk => .inl hk); have hres8 : w8.heap[gr]? = some (.cells #[.int .i64 0, .int .i64 0, .int .i64 0, .slice none 0 0] 24 (0, 0)) := F48.blk hres (by rintro (h1 | h1); exact hgne h1; exact hv0 h1); have B8 : Below w.heap.size w w8 := hbel.trans (F48.toBelow (by rintro k_ (h1 | h1); omega; have := Kd.R_base hrow _ h1.symm; have := hbel.size; omega) hbel.size)))
          | ((with_reducible refine gate_store (t := 24) (p := 2) rfl ?_); refine cells_event (by rfl) (by rfl) (by rfl) 0 #[.int .i64 0, .int .i64 0, .int .i64 0, .slice none 0 0] [.int .i64 0, .int .i64 0, .int .i64 0, .slice none 0 0] hres8 (by rfl) (by rfl) (by kernel_rfl) (by simp [Value.oneCell']) (by simp) (by rfl) ?_; intro w9 hx_w9 hg0; have hg_w9 := Aside0.mk hg0; clear hg0; skip))
        have hq2 := HR.out
        simp only [if_neg he] at hq2
        obtain rfl := (Option.some.inj hq2).symm
        have hH := H.out
        simp only [if_neg he] at hH
        simp only [Option.some.injEq, Prod.mk.injEq] at hH
        obtain ⟨rfl, rfl, rfl, rfl, rfl, rfl⟩ := hH
        refine bodyPost_ret (results_ctt rfl _ _ gr 24 _ (0, 0) _ rfl hx_w9 Tryz.underlying24 rfl (by kernel_rfl)) rfl ?_
        exact ⟨.slice none 0 0, rfl, Kd.R_nil _ _ _ _ _, below_grown_ B8 hg_w9.out hgr0⟩
    · obtain rfl : k = ls.length := by omega
      obtain ⟨hrun, hfew, hblk, hrow, hres, hlin, hbel, hbas⟩ := hA
      rw [List.drop_eq_nil_of_le (Nat.le_refl _)] at hrun
      unfold runF at hrun
      obtain rfl := Option.some.inj hrun
      have hH := H.out
      simp only [if_pos] at hH
      clear H HL cL hq hrun
      obtain ⟨no, so, si, arcs, most, sum⟩ := s
      simp only [RS.cells] at hblk hrow hfew hH
      have hkl : decide (ls.length < ls.length) = false := decide_eq_false (Nat.lt_irrefl _)
      have hz0 : wr.cell? ⟨g, 0, none⟩ = some (.int .i64 no) := (blk_cell hblk 0).trans rfl
      have hz1 : wr.cell? ⟨g, 1, none⟩ = some (.int .i64 so) := (blk_cell hblk 1).trans rfl
      have hz2 : wr.cell? ⟨g, 2, none⟩ = some (.int .i64 si) := (blk_cell hblk 2).trans rfl
      have hz3 : wr.cell? ⟨g, 3, none⟩ = some v := (blk_cell hblk 3).trans rfl
      have hz4 : wr.cell? ⟨g, 4, none⟩ = some (.int .i64 most) := (blk_cell hblk 4).trans rfl
      obtain ⟨Av, cv, rfl⟩ := Kd.R_slice hrow
      have hrow1 := Aside0.mk hrow
      clear hrow hlin
      by_cases c1 : most = -1
      · rw [if_pos c1] at hH
        have d1 : (most == -1) = true := beq_iff_eq.mpr c1
        clear c1
        simp only [Option.some.injEq, Prod.mk.injEq] at hH
        obtain ⟨rfl, rfl, rfl, rfl, rfl, rfl⟩ := hH
        go_wp2_with (first
          | (go_quiet (fail))
          | ((with_reducible refine gate_store (t := 24) (p := 2) rfl ?_); refine cells_event (by rfl) (by rfl) (by rfl) 0 #[.int .i64 0, .int .i64 0, .int .i64 0, .slice none 0 0] [.int .i64 0, .int .i64 0, .int .i64 0, .slice none 0 0] hres (by rfl) (by rfl) (by kernel_rfl) (by simp [Value.oneCell']) (by simp) (by rfl) ?_; intro w9 hx_w9 hg0; have hg_w9 := Aside0.mk hg0; clear hg0; skip))
        refine bodyPost_ret (results_ctt rfl _ _ gr 24 _ (0, 0) _ rfl hx_w9 Tryz.underlying24 rfl (by kernel_rfl)) rfl ?_
        exact ⟨.slice none 0 0, rfl, Kd.R_nil _ _ _ _ _, below_grown_ (by repeat (first | exact hbel | apply pw_below_drewN | apply below_drew1)) hg_w9.out hgr0⟩
      · rw [if_neg c1] at hH
        have d1 : (most == -1) = false := beq_eq_false_iff_ne.mpr c1
        clear c1
        by_cases c2 : so = 0
        · rw [if_pos c2] at hH
          have d2 : (so == 0) = true := beq_iff_eq.mpr c2
          clear c2
          simp only [Option.some.injEq, Prod.mk.injEq] at hH
          obtain ⟨rfl, rfl, rfl, rfl, rfl, rfl⟩ := hH
          go_wp2_with (first
            | (go_quiet (fail))
            | ((with_reducible refine gate_store (t := 24) (p := 2) rfl ?_); refine cells_event (by rfl) (by rfl) (by rfl) 0 #[.int .i64 0, .int .i64 0, .int .i64 0, .slice none 0 0] [.int .i64 0, .int .i64 0, .int .i64 0, .slice none 0 0] hres (by rfl) (by rfl) (by kernel_rfl) (by simp [Value.oneCell']) (by simp) (by rfl) ?_; intro w9 hx_w9 hg0; have hg_w9 := Aside0.mk hg0; clear hg0; skip))
          refine bodyPost_ret (results_ctt rfl _ _ gr 24 _ (0, 0) _ rfl hx_w9 Tryz.underlying24 rfl (by kernel_rfl)) rfl ?_
          exact ⟨.slice none 0 0, rfl, Kd.R_nil _ _ _ _ _, below_grown_ (by repeat (first | exact hbel | apply pw_below_drewN | apply below_drew1)) hg_w9.out hgr0⟩
        · rw [if_neg c2] at hH
          have d2 : (so == 0) = false := beq_eq_false_iff_ne.mpr c2
          clear c2
          by_cases c3 : si = 0
          · rw [if_pos c3] at hH
            have d3 : (si == 0) = true := beq_iff_eq.mpr c3
            clear c3
            simp only [Option.some.injEq, Prod.mk.injEq] at hH
            obtain ⟨rfl, rfl, rfl, rfl, rfl, rfl⟩ := hH
            go_wp2_with (first
              | (go_quiet (fail))
              | ((with_reducible refine gate_store (t := 24) (p := 2) rfl ?_); refine cells_event (by rfl) (by rfl) (by rfl) 0 #[.int .i64 0, .int .i64 0, .int .i64 0, .slice none 0 0] [.int .i64 0, .int .i64 0, .int .i64 0, .slice none 0 0] hres (by rfl) (by rfl) (by kernel_rfl) (by simp [Value.oneCell']) (by simp) (by rfl) ?_; intro w9 hx_w9 hg0; have hg_w9 := Aside0.mk hg0; clear hg0; skip))
            refine bodyPost_ret (results_ctt rfl _ _ gr 24 _ (0, 0) _ rfl hx_w9 Tryz.underlying24 rfl (by kernel_rfl)) rfl ?_
            exact ⟨.slice none 0 0, rfl, Kd.R_nil _ _ _ _ _, below_grown_ (by repeat (first | exact hbel | apply pw_below_drewN | apply below_drew1)) hg_w9.out hgr0⟩
          · rw [if_neg c3] at hH
            have d3 : (si == 0) = false := beq_eq_false_iff_ne.mpr c3
            clear c3
            by_cases c4 : (arcs.length : Int) < most
            · rw [if_pos c4] at hH
              have d4 : decide ((arcs.length : Int) < most) = true := decide_eq_true c4
              clear c4
              simp only [Option.some.injEq, Prod.mk.injEq] at hH
              obtain ⟨rfl, rfl, rfl, rfl, rfl, rfl⟩ := hH
              go_wp2_with (first
                | (go_quiet (fail))
                | ((with_reducible refine gate_store (t := 24) (p := 2) rfl ?_); refine cells_event (by rfl) (by rfl) (by rfl) 0 #[.int .i64 0, .int .i64 0, .int .i64 0, .slice none 0 0] [.int .i64 0, .int .i64 0, .int .i64 0, .slice none 0 0] hres (by rfl) (by rfl) (by kernel_rfl) (by simp [Value.oneCell']) (by simp) (by rfl) ?_; intro w9 hx_w9 hg0; have hg_w9 := Aside0.mk hg0; clear hg0; skip))
              refine bodyPost_ret (results_ctt rfl _ _ gr 24 _ (0, 0) _ rfl hx_w9 Tryz.underlying24 rfl (by kernel_rfl)) rfl ?_
              exact ⟨.slice none 0 0, rfl, Kd.R_nil _ _ _ _ _, below_grown_ (by repeat (first | exact hbel | apply pw_below_drewN | apply below_drew1)) hg_w9.out hgr0⟩
            · rw [if_neg c4] at hH
              have d4 : decide ((arcs.length : Int) < most) = false := decide_eq_false c4
              clear c4
              simp only [Option.some.injEq, Prod.mk.injEq] at hH
              obtain ⟨rfl, rfl, rfl, rfl, rfl, rfl⟩ := hH
              go_wp2_with (first
                | (go_quiet (fail))
                | ((with_reducible refine gate_store (t := 24) (p := 2) rfl ?_); refine cells_event (by rfl) (by rfl) (by rfl) 0 #[.int .i64 no, .int .i64 so, .int .i64 si, .slice Av arcs.length cv] [.int .i64 no, .int .i64 so, .int .i64 si, .slice Av arcs.length cv] hres (by rfl) (by rfl) (by kernel_rfl) (by simp [Value.oneCell']) (by simp) (by rfl) ?_; intro w9 hx_w9 hg0; have hg_w9 := Aside0.mk hg0; clear hg0; skip))
              refine bodyPost_ret (results_ctt rfl _ _ gr 24 _ (0, 0) _ rfl hx_w9 Tryz.underlying24 rfl (by kernel_rfl)) rfl ?_
              refine ⟨.slice Av arcs.length cv, rfl, ?_, below_grown_ (by repeat (first | exact hbel | apply pw_below_drewN | apply below_drew1)) hg_w9.out hgr0⟩
              refine Kd.R_lower (Kd.R_mono (Kd.R_step (w1 := w9) (Kd.R_bound hrow1.out) ?_) (fun _ _ => trivial)) (by omega)
              intro k_ hk_ hlt_
              exact hg_w9.out.block k_ hlt_ (fun e_ => by injection e_ with e_; have := hk_.2.1; omega)
end Go.Proofs.YtgpeppnbgfdaaaaGreatDoor.R
