/-
  The contracts of net.Check and net.Same (with slices.EqualFunc at arcs). By an AI agent.
-/
import Derived.Test.YtgpeppnbgfdaaaaGreatDoorDimT
namespace Go.Proofs.YtgpeppnbgfdaaaaGreatDoor.R
open Go.RowKit Go.Lib Go.Proofs.TX Go.Proofs.YtgpeppnbgfdaaaaGreatDoor.H Go.Proofs.YtgpeppnbgfdaaaaGreatDoorW.PrintWords Go.Proofs.YtgpeppnbgfdaaaaGreatDoorW.PrintLast Go.Proofs.YtgpeppnbgfdaaaaGreatDoorW.PrintMore
set_option linter.unusedVariables false
set_option linter.unusedSimpArgs false

/-- A call of a closure (or of a function value) in a plain region: what it captured comes behind the arguments. -/
theorem goesC_ {P : Program} {ops : Array Oper} {Q : Exit → Act → World → Prop} {rest : List Oper} {oi : Oper} {a : Act} {w : World} (N : Option Tmp) (hd : oi.dst = N) (hg : oi.guard = none) {f : FuncId} {fn : Func} {lb : Array Value} {x : Operand} {ar : Array Operand} {ts : Array TypeId} (hf : P.funcs[f]? = some fn) (hname : (fn.name == "runtime.NumGoroutine") = false) (hb : fn.body.isSome = true) (args : Array Value)
    (hop : oi.op = .call { callee := .value x, args := ar, argTypes := ts }) (hx : a.eval x = .func (.func f) #[] lb) (hargs : ar.map a.eval ++ lb = args)
    (h : Calls P f args w fun e w' => ∃ v, e = .returned v ∧ wpList P ops Q rest (a.put N v) w') : wpList P ops Q (oi :: rest) a w := by
  refine wpList_plain hg fun K hK => ?_
  have he := enters_ hf hname hb args w
  have hrun : (execOp a.eval oi).run P w = .ok (.enter f args) w := by
    unfold execOp
    simp [hop, resolve, Deferred.ofValue, invoke, hx, hargs, he]
  unfold Oper.wp
  rw [hrun]
  subst hd
  refine h.mono ?_
  rintro e w' ⟨v, rfl, h'⟩
  exact hK _ _ h'
/-- The same, guarded, the guard met. -/
theorem goesG_ {P : Program} {ops : Array Oper} {Q : Exit → Act → World → Prop} {rest : List Oper} {oi : Oper} {a : Act} {w : World} (N : Option Tmp) (hd : oi.dst = N) {f : FuncId} {fn : Func} {lb : Array Value} {x : Operand} {ar : Array Operand} {ts : Array TypeId} (hf : P.funcs[f]? = some fn) (hname : (fn.name == "runtime.NumGoroutine") = false) (hb : fn.body.isSome = true) (args : Array Value)
    (hw : Region.wanted oi (yielded ops a.tmps) = true)
    (hop : oi.op = .call { callee := .value x, args := ar, argTypes := ts }) (hx : a.eval x = .func (.func f) #[] lb) (hargs : ar.map a.eval ++ lb = args)
    (h : Calls P f args w fun e w' => ∃ v, e = .returned v ∧ wpList P ops Q rest (a.put N v) w') : wpList P ops Q (oi :: rest) a w := by
  refine wpList_step fun K hK => ?_
  rw [if_pos hw]
  have he := enters_ hf hname hb args w
  have hrun : (execOp a.eval oi).run P w = .ok (.enter f args) w := by
    unfold execOp
    simp [hop, resolve, Deferred.ofValue, invoke, hx, hargs, he]
  unfold Oper.wp
  rw [hrun]
  subst hd
  refine h.mono ?_
  rintro e w' ⟨v, rfl, h'⟩
  exact hK _ _ h'

theorem check1.calls (g : Nat) (no x : Int) (b : Bool) (w : World) (hc : w.cell? ⟨g, 0, none⟩ = some (.int .i64 no)) (hb : thereB no x = b) :
    Calls Tryz.prog 25 #[.int .i64 x, .pointer (some ⟨g, 0, none⟩)] w fun e w' => e = .returned (.bool b) ∧ w = w' := by
  by_cases h : 1 ≤ x
  · have d : decide (1 ≤ x) = true := decide_eq_true h
    have hT : b = decide (x ≤ no) := by rw [← hb]; unfold thereB; rw [d, Bool.true_and]
    clear h hb
    go_enter Tryz.func25, Tryz.ntmps25
    go_wp2
    go_ret
    exact ⟨by rw [hT]; rfl, rfl⟩
  · have d : decide (1 ≤ x) = false := decide_eq_false h
    have hT : b = false := by rw [← hb]; unfold thereB; rw [d, Bool.false_and]
    clear h hb
    go_enter Tryz.func25, Tryz.ntmps25
    go_wp2
    go_ret
    exact ⟨by rw [hT]; rfl, rfl⟩

def checkArcs (no : Int) : Int → List S44 → Option Int
  | _, [] => some 0
  | sum, a :: l => (M.num_Add.f sum a.f2).bind fun p =>
    if thereB no a.f0 = true then
      if thereB no a.f1 = true then
        if a.f2 < 0 then some 3
        else if p.2 = 0 then
          if p.1 > 4611686018427387903 then some 7
          else checkArcs no p.1 l
        else some 7
      else some 4
    else some 4
def net_Check.f (no so si : Int) (l : List S44) : Option Int :=
  if no < 2 then some 3
  else if no > 500 then some 3
  else if thereB no so = true then
    if thereB no si = true then
      if so = si then some 5
      else if (l.length : Int) > 2000 then some 6
      else checkArcs no 0 l
    else some 4
  else some 4

set_option maxRecDepth 100000 in
set_option maxHeartbeats 4000000 in
theorem net_Check.calls (no so si : Int) (A : Option Addr) (c : Nat) (l : List S44) (r : Int) (w : World) (hr : Kd.C k44 w A l.length l) (hc : l.length ≤ c) (h : net_Check.f no so si l = some r) :
    Calls Tryz.prog 14 #[.agg #[.int .i64 no, .int .i64 so, .int .i64 si, .slice A l.length c]] w fun e w' => e = .returned (.int .i64 r) ∧ Below w.heap.size w w' := by
  unfold net_Check.f at h
  by_cases q1 : no < 2
  · rw [if_pos q1] at h
    have d1 : decide (no < 2) = true := decide_eq_true q1
    obtain rfl := Option.some.inj h
    go_enter Tryz.func14, Tryz.ntmps14
    go_wp2_with (first
      | ((with_reducible refine gate_dst (N := 1) rfl ?_); refine box_event ?hg (N := 1) ?hd (cs := #[.int .i64 no, .int .i64 so, .int .i64 si, .slice A l.length c]) (t := 24) ?hr ?_; (case hd => rfl); (case hg => rfl); (case hr => first | (go_simp; done) | (go_simp; rfl)); intro g hq0 w1 hx_g hb0; have hq_g := Aside0.mk hq0; clear hq0; have hb_g := Aside0.mk hb0; clear hb0; have hz0 : w1.cell? ⟨g, 0, none⟩ = some (.int .i64 no) := (blk_cell hx_g 0).trans rfl; have hz1 : w1.cell? ⟨g, 1, none⟩ = some (.int .i64 so) := (blk_cell hx_g 1).trans rfl; have hz2 : w1.cell? ⟨g, 2, none⟩ = some (.int .i64 si) := (blk_cell hx_g 2).trans rfl; have hz3 : w1.cell? ⟨g, 3, none⟩ = some (.slice A l.length c) := (blk_cell hx_g 3).trans rfl))
    go_ret
    exact ⟨rfl, hb_g.out⟩
  · rw [if_neg q1] at h
    have d1 : decide (no < 2) = false := decide_eq_false q1
    by_cases q2 : no > 500
    · rw [if_pos q2] at h
      have d2 : decide (500 < no) = true := decide_eq_true q2
      obtain rfl := Option.some.inj h
      go_enter Tryz.func14, Tryz.ntmps14
      go_wp2_with (first
        | ((with_reducible refine gate_dst (N := 1) rfl ?_); refine box_event ?hg (N := 1) ?hd (cs := #[.int .i64 no, .int .i64 so, .int .i64 si, .slice A l.length c]) (t := 24) ?hr ?_; (case hd => rfl); (case hg => rfl); (case hr => first | (go_simp; done) | (go_simp; rfl)); intro g hq0 w1 hx_g hb0; have hq_g := Aside0.mk hq0; clear hq0; have hb_g := Aside0.mk hb0; clear hb0; have hz0 : w1.cell? ⟨g, 0, none⟩ = some (.int .i64 no) := (blk_cell hx_g 0).trans rfl; have hz1 : w1.cell? ⟨g, 1, none⟩ = some (.int .i64 so) := (blk_cell hx_g 1).trans rfl; have hz2 : w1.cell? ⟨g, 2, none⟩ = some (.int .i64 si) := (blk_cell hx_g 2).trans rfl; have hz3 : w1.cell? ⟨g, 3, none⟩ = some (.slice A l.length c) := (blk_cell hx_g 3).trans rfl))
      go_ret
      exact ⟨rfl, hb_g.out⟩
    · rw [if_neg q2] at h
      have d2 : decide (500 < no) = false := decide_eq_false q2
      by_cases q3 : thereB no so = true
      · rw [if_pos q3] at h
        by_cases q4 : thereB no si = true
        · rw [if_pos q4] at h
          by_cases q5 : so = si
          · rw [if_pos q5] at h
            have d5 : (so == si) = true := beq_iff_eq.mpr q5
            clear q5
            obtain rfl := Option.some.inj h
            go_enter Tryz.func14, Tryz.ntmps14
            go_wp2_with (first
              | ((with_reducible refine gate_dst (N := 1) rfl ?_); refine box_event ?hg (N := 1) ?hd (cs := #[.int .i64 no, .int .i64 so, .int .i64 si, .slice A l.length c]) (t := 24) ?hr ?_; (case hd => rfl); (case hg => rfl); (case hr => first | (go_simp; done) | (go_simp; rfl)); intro g hq0 w1 hx_g hb0; have hq_g := Aside0.mk hq0; clear hq0; have hb_g := Aside0.mk hb0; clear hb0; have hz0 : w1.cell? ⟨g, 0, none⟩ = some (.int .i64 no) := (blk_cell hx_g 0).trans rfl; have hz1 : w1.cell? ⟨g, 1, none⟩ = some (.int .i64 so) := (blk_cell hx_g 1).trans rfl; have hz2 : w1.cell? ⟨g, 2, none⟩ = some (.int .i64 si) := (blk_cell hx_g 2).trans rfl; have hz3 : w1.cell? ⟨g, 3, none⟩ = some (.slice A l.length c) := (blk_cell hx_g 3).trans rfl)
              | ((with_reducible refine gate_dst (N := 23) rfl ?_); refine goesC_ (some 23) rfl rfl Tryz.func25 (by kernel_rfl) rfl #[.int .i64 so, .pointer (some ⟨g, 0, none⟩)] (by rfl) (by rfl) (by simp only [List.map_toArray, List.map_cons, List.map_nil]; rfl) ?_; refine (check1.calls g no so true _ hz0 q3).mono ?_; rintro e w' ⟨rfl, rfl⟩; refine ⟨_, rfl, ?_⟩)
              | ((with_reducible refine gate_dst (N := 29) rfl ?_); refine goesG_ (some 29) rfl  Tryz.func25 (by kernel_rfl) rfl #[.int .i64 si, .pointer (some ⟨g, 0, none⟩)] (by rfl) (by rfl) (by rfl) (by simp only [List.map_toArray, List.map_cons, List.map_nil]; rfl) ?_; refine (check1.calls g no si true _ hz0 q4).mono ?_; rintro e w' ⟨rfl, rfl⟩; refine ⟨_, rfl, ?_⟩))
            go_ret
            exact ⟨rfl, hb_g.out⟩
          · rw [if_neg q5] at h
            have d5 : (so == si) = false := beq_eq_false_iff_ne.mpr q5
            have d5b : (so != si) = true := bne_iff_ne.mpr q5
            clear q5
            by_cases q6 : (l.length : Int) > 2000
            · rw [if_pos q6] at h
              have d6 : decide (2000 < l.length) = true := decide_eq_true (by omega)
              obtain rfl := Option.some.inj h
              go_enter Tryz.func14, Tryz.ntmps14
              go_wp2_with (first
                | ((with_reducible refine gate_dst (N := 1) rfl ?_); refine box_event ?hg (N := 1) ?hd (cs := #[.int .i64 no, .int .i64 so, .int .i64 si, .slice A l.length c]) (t := 24) ?hr ?_; (case hd => rfl); (case hg => rfl); (case hr => first | (go_simp; done) | (go_simp; rfl)); intro g hq0 w1 hx_g hb0; have hq_g := Aside0.mk hq0; clear hq0; have hb_g := Aside0.mk hb0; clear hb0; have hz0 : w1.cell? ⟨g, 0, none⟩ = some (.int .i64 no) := (blk_cell hx_g 0).trans rfl; have hz1 : w1.cell? ⟨g, 1, none⟩ = some (.int .i64 so) := (blk_cell hx_g 1).trans rfl; have hz2 : w1.cell? ⟨g, 2, none⟩ = some (.int .i64 si) := (blk_cell hx_g 2).trans rfl; have hz3 : w1.cell? ⟨g, 3, none⟩ = some (.slice A l.length c) := (blk_cell hx_g 3).trans rfl)
                | ((with_reducible refine gate_dst (N := 23) rfl ?_); refine goesC_ (some 23) rfl rfl Tryz.func25 (by kernel_rfl) rfl #[.int .i64 so, .pointer (some ⟨g, 0, none⟩)] (by rfl) (by rfl) (by simp only [List.map_toArray, List.map_cons, List.map_nil]; rfl) ?_; refine (check1.calls g no so true _ hz0 q3).mono ?_; rintro e w' ⟨rfl, rfl⟩; refine ⟨_, rfl, ?_⟩)
                | ((with_reducible refine gate_dst (N := 29) rfl ?_); refine goesG_ (some 29) rfl  Tryz.func25 (by kernel_rfl) rfl #[.int .i64 si, .pointer (some ⟨g, 0, none⟩)] (by rfl) (by rfl) (by rfl) (by simp only [List.map_toArray, List.map_cons, List.map_nil]; rfl) ?_; refine (check1.calls g no si true _ hz0 q4).mono ?_; rintro e w' ⟨rfl, rfl⟩; refine ⟨_, rfl, ?_⟩))
              go_ret
              exact ⟨rfl, hb_g.out⟩
            · rw [if_neg q6] at h
              have d6 : decide (2000 < l.length) = false := decide_eq_false (by omega)
              have hlen : l.length ≤ 2000 := by omega
              have HC := Lib.hid h
              clear h
              go_enter Tryz.func14, Tryz.ntmps14
              go_wp2_with (first
                | ((with_reducible refine gate_dst (N := 1) rfl ?_); refine box_event ?hg (N := 1) ?hd (cs := #[.int .i64 no, .int .i64 so, .int .i64 si, .slice A l.length c]) (t := 24) ?hr ?_; (case hd => rfl); (case hg => rfl); (case hr => first | (go_simp; done) | (go_simp; rfl)); intro g hq0 w1 hx_g hb0; have hq_g := Aside0.mk hq0; clear hq0; have hb_g := Aside0.mk hb0; clear hb0; have hz0 : w1.cell? ⟨g, 0, none⟩ = some (.int .i64 no) := (blk_cell hx_g 0).trans rfl; have hz1 : w1.cell? ⟨g, 1, none⟩ = some (.int .i64 so) := (blk_cell hx_g 1).trans rfl; have hz2 : w1.cell? ⟨g, 2, none⟩ = some (.int .i64 si) := (blk_cell hx_g 2).trans rfl; have hz3 : w1.cell? ⟨g, 3, none⟩ = some (.slice A l.length c) := (blk_cell hx_g 3).trans rfl)
                | ((with_reducible refine gate_dst (N := 23) rfl ?_); refine goesC_ (some 23) rfl rfl Tryz.func25 (by kernel_rfl) rfl #[.int .i64 so, .pointer (some ⟨g, 0, none⟩)] (by rfl) (by rfl) (by simp only [List.map_toArray, List.map_cons, List.map_nil]; rfl) ?_; refine (check1.calls g no so true _ hz0 q3).mono ?_; rintro e w' ⟨rfl, rfl⟩; refine ⟨_, rfl, ?_⟩)
                | ((with_reducible refine gate_dst (N := 29) rfl ?_); refine goesG_ (some 29) rfl  Tryz.func25 (by kernel_rfl) rfl #[.int .i64 si, .pointer (some ⟨g, 0, none⟩)] (by rfl) (by rfl) (by rfl) (by simp only [List.map_toArray, List.map_cons, List.map_nil]; rfl) ?_; refine (check1.calls g no si true _ hz0 q4).mono ?_; rintro e w' ⟨rfl, rfl⟩; refine ⟨_, rfl, ?_⟩))
              have hr1 : Kd.C k44 w1 A l.length l := Kd.C_below hr hb_g.out
              have hx_1 := Aside0.mk hx_g
              have q35 := Aside0.mk q3
              clear hz0 hz1 hz2 hz3 hx_g q3 q4 d5 d5b d6 d1 d2
              go_loopw [4, 46] (fun s i wr => ∃ (k : Nat) (sum : Int), k ≤ l.length ∧ i = .int .i64 k ∧ s = .int .i64 sum ∧ Hid (checkArcs no sum (l.drop k) = some r) ∧ Aside0 (Below w1.heap.size w1 wr)) (fun _ i _ => l.length - (intOf i).toNat)
              case atStart => exact ⟨0, 0, Nat.zero_le _, rfl, rfl, HC, ⟨Below.refl _ _⟩⟩
              case round =>
                obtain ⟨k, sum, hk, rfl, rfl, HR, HB⟩ := hrel
                by_cases hlt : k < l.length
                · have hrr : Kd.C k44 wr A l.length l := Kd.C_below hr1 HB.out
                  obtain ⟨ad, rfl, hc0, hc1, hc2⟩ := at_T44 hrr (k : Int) (by omega) (by omega)
                  rw [Int.toNat_natCast] at hc0 hc1 hc2
                  have hrd : rd_T44 l (k : Int) = l[k] := by
                    unfold rd_T44
                    rw [Int.toNat_natCast, List.getD_eq_getElem?_getD, List.getElem?_eq_getElem hlt]
                    rfl
                  rw [hrd] at hc0 hc1 hc2
                  have h := HR.out
                  rw [List.drop_eq_getElem_cons hlt] at h
                  generalize l[k] = x at *
                  obtain ⟨f, t, cp⟩ := x
                  simp only [checkArcs] at h
                  simp only at hc0 hc1 hc2
                  obtain ⟨⟨s1, e1⟩, hA, h⟩ := Option.bind_eq_some_iff.1 h
                  simp only at h
                  have hzr : wr.cell? ⟨g, 0, none⟩ = some (.int .i64 no) := (blk_cell ((HB.out.block g (blk_lt hx_1.out)).trans hx_1.out) 0).trans rfl
                  have hgr : w1.heap.size ≤ wr.heap.size := HB.out.size
                  have hw1 : w.heap.size ≤ w1.heap.size := hb_g.out.size
                  have hkl : decide (k < l.length) = true := decide_eq_true hlt
                  clear hrr hr1 hrd hr
                  by_cases p1 : thereB no f = true
                  · rw [if_pos p1] at h
                    by_cases p2 : thereB no t = true
                    · rw [if_pos p2] at h
                      by_cases g6 : cp < 0
                      · rw [if_pos g6] at h
                        have d6 : decide (cp < 0) = true := decide_eq_true g6
                        obtain rfl := Option.some.inj h
                        go_wp2_with (first
                          | ((with_reducible refine gate_dst (N := 6) rfl ?_); refine box_event ?hg (N := 6) ?hd (cs := #[.int .i64 0, .int .i64 0, .int .i64 0]) (t := 44) ?hr ?_; (case hd => rfl); (case hg => rfl); (case hr => first | (go_simp; done) | (go_simp; rfl)); intro ga hq0 w2 hx_ga hb0; have hq_ga := Aside0.mk hq0; clear hq0; have hb_ga := Aside0.mk hb0; clear hb0; skip)
                          | ((with_reducible refine gate_store (t := 44) (p := 6) rfl ?_); go_loud (refine cells_event (by rfl) (by rfl) (by rfl) 0 #[.int .i64 f, .int .i64 t, .int .i64 cp] [.int .i64 f, .int .i64 t, .int .i64 cp] hx_ga (by rfl) (by rfl) (by kernel_rfl) (by simp [Value.oneCell']) (by simp) (by rfl) ?_; intro w3 hx_w3 hg0; have hg_w3 := Aside0.mk hg0; clear hg0; (have hgw : w1.heap.size ≤ ga := (by have := hq_ga.out; omega); have B3 : Below w1.heap.size w1 w3 := pw_below_grown (HB.out.trans (hb_ga.out.mono hgr)) _ (Nat.le_trans hgr hb_ga.out.size) hg_w3.out (fun k_ e_ => by injection e_ with e_; omega); have hzg : w3.cell? ⟨g, 0, none⟩ = some (.int .i64 no) := (blk_cell ((B3.block g (blk_lt hx_1.out)).trans hx_1.out) 0).trans rfl; have hd0 : w3.cell? ⟨ga, 0, none⟩ = some (.int .i64 f) := (blk_cell hx_w3 0).trans rfl; have hd1 : w3.cell? ⟨ga, 1, none⟩ = some (.int .i64 t) := (blk_cell hx_w3 1).trans rfl; have hd2 : w3.cell? ⟨ga, 2, none⟩ = some (.int .i64 cp) := (blk_cell hx_w3 2).trans rfl; have B3a := Aside0.mk B3; clear B3 hgw)))
                          | (go_at_call 26; refine (M.num_Add.calls _ _ _ _ _ hA).mono ?_; rintro e w' ⟨rfl, hdr⟩; obtain ⟨m, hdm⟩ := hdr.out; subst hdm; have hzg := (World.cell?_drewN (w := w3) (n := m) (a := ⟨g, 0, none⟩)).trans hzg)
                          | ((with_reducible refine gate_dst (N := 61) rfl ?_); refine goesC_ (some 61) rfl rfl Tryz.func25 (by kernel_rfl) rfl #[.int .i64 f, .pointer (some ⟨g, 0, none⟩)] (by rfl) (by rfl) (by simp only [List.map_toArray, List.map_cons, List.map_nil]; rfl) ?_; refine (check1.calls g no f true _ hzg p1).mono ?_; rintro e w' ⟨rfl, rfl⟩; refine ⟨_, rfl, ?_⟩)
                          | ((with_reducible refine gate_dst (N := 67) rfl ?_); refine goesG_ (some 67) rfl  Tryz.func25 (by kernel_rfl) rfl #[.int .i64 t, .pointer (some ⟨g, 0, none⟩)] (by rfl) (by rfl) (by rfl) (by simp only [List.map_toArray, List.map_cons, List.map_nil]; rfl) ?_; refine (check1.calls g no t true _ hzg p2).mono ?_; rintro e w' ⟨rfl, rfl⟩; refine ⟨_, rfl, ?_⟩))
                        go_ret
                        exact ⟨rfl, by repeat (first | exact hb_g.out.trans (B3a.out.mono hw1) | apply pw_below_drewN | apply below_drew1)⟩
                      · rw [if_neg g6] at h
                        have d6 : decide (cp < 0) = false := decide_eq_false g6
                        by_cases g7 : e1 = 0
                        · rw [if_pos g7] at h
                          subst g7
                          by_cases g8 : s1 > 4611686018427387903
                          · rw [if_pos g8] at h
                            have d8 : decide (4611686018427387903 < s1) = true := decide_eq_true g8
                            obtain rfl := Option.some.inj h
                            go_wp2_with (first
                              | ((with_reducible refine gate_dst (N := 6) rfl ?_); refine box_event ?hg (N := 6) ?hd (cs := #[.int .i64 0, .int .i64 0, .int .i64 0]) (t := 44) ?hr ?_; (case hd => rfl); (case hg => rfl); (case hr => first | (go_simp; done) | (go_simp; rfl)); intro ga hq0 w2 hx_ga hb0; have hq_ga := Aside0.mk hq0; clear hq0; have hb_ga := Aside0.mk hb0; clear hb0; skip)
                              | ((with_reducible refine gate_store (t := 44) (p := 6) rfl ?_); go_loud (refine cells_event (by rfl) (by rfl) (by rfl) 0 #[.int .i64 f, .int .i64 t, .int .i64 cp] [.int .i64 f, .int .i64 t, .int .i64 cp] hx_ga (by rfl) (by rfl) (by kernel_rfl) (by simp [Value.oneCell']) (by simp) (by rfl) ?_; intro w3 hx_w3 hg0; have hg_w3 := Aside0.mk hg0; clear hg0; (have hgw : w1.heap.size ≤ ga := (by have := hq_ga.out; omega); have B3 : Below w1.heap.size w1 w3 := pw_below_grown (HB.out.trans (hb_ga.out.mono hgr)) _ (Nat.le_trans hgr hb_ga.out.size) hg_w3.out (fun k_ e_ => by injection e_ with e_; omega); have hzg : w3.cell? ⟨g, 0, none⟩ = some (.int .i64 no) := (blk_cell ((B3.block g (blk_lt hx_1.out)).trans hx_1.out) 0).trans rfl; have hd0 : w3.cell? ⟨ga, 0, none⟩ = some (.int .i64 f) := (blk_cell hx_w3 0).trans rfl; have hd1 : w3.cell? ⟨ga, 1, none⟩ = some (.int .i64 t) := (blk_cell hx_w3 1).trans rfl; have hd2 : w3.cell? ⟨ga, 2, none⟩ = some (.int .i64 cp) := (blk_cell hx_w3 2).trans rfl; have B3a := Aside0.mk B3; clear B3 hgw)))
                              | (go_at_call 26; refine (M.num_Add.calls _ _ _ _ _ hA).mono ?_; rintro e w' ⟨rfl, hdr⟩; obtain ⟨m, hdm⟩ := hdr.out; subst hdm; have hzg := (World.cell?_drewN (w := w3) (n := m) (a := ⟨g, 0, none⟩)).trans hzg)
                              | ((with_reducible refine gate_dst (N := 61) rfl ?_); refine goesC_ (some 61) rfl rfl Tryz.func25 (by kernel_rfl) rfl #[.int .i64 f, .pointer (some ⟨g, 0, none⟩)] (by rfl) (by rfl) (by simp only [List.map_toArray, List.map_cons, List.map_nil]; rfl) ?_; refine (check1.calls g no f true _ hzg p1).mono ?_; rintro e w' ⟨rfl, rfl⟩; refine ⟨_, rfl, ?_⟩)
                              | ((with_reducible refine gate_dst (N := 67) rfl ?_); refine goesG_ (some 67) rfl  Tryz.func25 (by kernel_rfl) rfl #[.int .i64 t, .pointer (some ⟨g, 0, none⟩)] (by rfl) (by rfl) (by rfl) (by simp only [List.map_toArray, List.map_cons, List.map_nil]; rfl) ?_; refine (check1.calls g no t true _ hzg p2).mono ?_; rintro e w' ⟨rfl, rfl⟩; refine ⟨_, rfl, ?_⟩))
                            go_ret
                            exact ⟨rfl, by repeat (first | exact hb_g.out.trans (B3a.out.mono hw1) | apply pw_below_drewN | apply below_drew1)⟩
                          · rw [if_neg g8] at h
                            have d8 : decide (4611686018427387903 < s1) = false := decide_eq_false g8
                            have HN := Lib.hid h
                            clear h
                            go_wp2_with (first
                              | ((with_reducible refine gate_dst (N := 6) rfl ?_); refine box_event ?hg (N := 6) ?hd (cs := #[.int .i64 0, .int .i64 0, .int .i64 0]) (t := 44) ?hr ?_; (case hd => rfl); (case hg => rfl); (case hr => first | (go_simp; done) | (go_simp; rfl)); intro ga hq0 w2 hx_ga hb0; have hq_ga := Aside0.mk hq0; clear hq0; have hb_ga := Aside0.mk hb0; clear hb0; skip)
                              | ((with_reducible refine gate_store (t := 44) (p := 6) rfl ?_); go_loud (refine cells_event (by rfl) (by rfl) (by rfl) 0 #[.int .i64 f, .int .i64 t, .int .i64 cp] [.int .i64 f, .int .i64 t, .int .i64 cp] hx_ga (by rfl) (by rfl) (by kernel_rfl) (by simp [Value.oneCell']) (by simp) (by rfl) ?_; intro w3 hx_w3 hg0; have hg_w3 := Aside0.mk hg0; clear hg0; (have hgw : w1.heap.size ≤ ga := (by have := hq_ga.out; omega); have B3 : Below w1.heap.size w1 w3 := pw_below_grown (HB.out.trans (hb_ga.out.mono hgr)) _ (Nat.le_trans hgr hb_ga.out.size) hg_w3.out (fun k_ e_ => by injection e_ with e_; omega); have hzg : w3.cell? ⟨g, 0, none⟩ = some (.int .i64 no) := (blk_cell ((B3.block g (blk_lt hx_1.out)).trans hx_1.out) 0).trans rfl; have hd0 : w3.cell? ⟨ga, 0, none⟩ = some (.int .i64 f) := (blk_cell hx_w3 0).trans rfl; have hd1 : w3.cell? ⟨ga, 1, none⟩ = some (.int .i64 t) := (blk_cell hx_w3 1).trans rfl; have hd2 : w3.cell? ⟨ga, 2, none⟩ = some (.int .i64 cp) := (blk_cell hx_w3 2).trans rfl; have B3a := Aside0.mk B3; clear B3 hgw)))
                              | (go_at_call 26; refine (M.num_Add.calls _ _ _ _ _ hA).mono ?_; rintro e w' ⟨rfl, hdr⟩; obtain ⟨m, hdm⟩ := hdr.out; subst hdm; have hzg := (World.cell?_drewN (w := w3) (n := m) (a := ⟨g, 0, none⟩)).trans hzg)
                              | ((with_reducible refine gate_dst (N := 61) rfl ?_); refine goesC_ (some 61) rfl rfl Tryz.func25 (by kernel_rfl) rfl #[.int .i64 f, .pointer (some ⟨g, 0, none⟩)] (by rfl) (by rfl) (by simp only [List.map_toArray, List.map_cons, List.map_nil]; rfl) ?_; refine (check1.calls g no f true _ hzg p1).mono ?_; rintro e w' ⟨rfl, rfl⟩; refine ⟨_, rfl, ?_⟩)
                              | ((with_reducible refine gate_dst (N := 67) rfl ?_); refine goesG_ (some 67) rfl  Tryz.func25 (by kernel_rfl) rfl #[.int .i64 t, .pointer (some ⟨g, 0, none⟩)] (by rfl) (by rfl) (by rfl) (by simp only [List.map_toArray, List.map_cons, List.map_nil]; rfl) ?_; refine (check1.calls g no t true _ hzg p2).mono ?_; rintro e w' ⟨rfl, rfl⟩; refine ⟨_, rfl, ?_⟩))
                            go_roundw
                            case rel => exact ⟨k + 1, s1, by omega, by go_num, rfl, HN, ⟨by repeat (first | exact B3a.out | apply pw_below_drewN | apply below_drew1)⟩⟩
                            case measure => simp [intOf]; omega
                        · rw [if_neg g7] at h
                          have d7 : (e1 == 0) = false := beq_eq_false_iff_ne.mpr g7
                          have d7b : (e1 != 0) = true := bne_iff_ne.mpr g7
                          obtain rfl := Option.some.inj h
                          go_wp2_with (first
                            | ((with_reducible refine gate_dst (N := 6) rfl ?_); refine box_event ?hg (N := 6) ?hd (cs := #[.int .i64 0, .int .i64 0, .int .i64 0]) (t := 44) ?hr ?_; (case hd => rfl); (case hg => rfl); (case hr => first | (go_simp; done) | (go_simp; rfl)); intro ga hq0 w2 hx_ga hb0; have hq_ga := Aside0.mk hq0; clear hq0; have hb_ga := Aside0.mk hb0; clear hb0; skip)
                            | ((with_reducible refine gate_store (t := 44) (p := 6) rfl ?_); go_loud (refine cells_event (by rfl) (by rfl) (by rfl) 0 #[.int .i64 f, .int .i64 t, .int .i64 cp] [.int .i64 f, .int .i64 t, .int .i64 cp] hx_ga (by rfl) (by rfl) (by kernel_rfl) (by simp [Value.oneCell']) (by simp) (by rfl) ?_; intro w3 hx_w3 hg0; have hg_w3 := Aside0.mk hg0; clear hg0; (have hgw : w1.heap.size ≤ ga := (by have := hq_ga.out; omega); have B3 : Below w1.heap.size w1 w3 := pw_below_grown (HB.out.trans (hb_ga.out.mono hgr)) _ (Nat.le_trans hgr hb_ga.out.size) hg_w3.out (fun k_ e_ => by injection e_ with e_; omega); have hzg : w3.cell? ⟨g, 0, none⟩ = some (.int .i64 no) := (blk_cell ((B3.block g (blk_lt hx_1.out)).trans hx_1.out) 0).trans rfl; have hd0 : w3.cell? ⟨ga, 0, none⟩ = some (.int .i64 f) := (blk_cell hx_w3 0).trans rfl; have hd1 : w3.cell? ⟨ga, 1, none⟩ = some (.int .i64 t) := (blk_cell hx_w3 1).trans rfl; have hd2 : w3.cell? ⟨ga, 2, none⟩ = some (.int .i64 cp) := (blk_cell hx_w3 2).trans rfl; have B3a := Aside0.mk B3; clear B3 hgw)))
                            | (go_at_call 26; refine (M.num_Add.calls _ _ _ _ _ hA).mono ?_; rintro e w' ⟨rfl, hdr⟩; obtain ⟨m, hdm⟩ := hdr.out; subst hdm; have hzg := (World.cell?_drewN (w := w3) (n := m) (a := ⟨g, 0, none⟩)).trans hzg)
                            | ((with_reducible refine gate_dst (N := 61) rfl ?_); refine goesC_ (some 61) rfl rfl Tryz.func25 (by kernel_rfl) rfl #[.int .i64 f, .pointer (some ⟨g, 0, none⟩)] (by rfl) (by rfl) (by simp only [List.map_toArray, List.map_cons, List.map_nil]; rfl) ?_; refine (check1.calls g no f true _ hzg p1).mono ?_; rintro e w' ⟨rfl, rfl⟩; refine ⟨_, rfl, ?_⟩)
                            | ((with_reducible refine gate_dst (N := 67) rfl ?_); refine goesG_ (some 67) rfl  Tryz.func25 (by kernel_rfl) rfl #[.int .i64 t, .pointer (some ⟨g, 0, none⟩)] (by rfl) (by rfl) (by rfl) (by simp only [List.map_toArray, List.map_cons, List.map_nil]; rfl) ?_; refine (check1.calls g no t true _ hzg p2).mono ?_; rintro e w' ⟨rfl, rfl⟩; refine ⟨_, rfl, ?_⟩))
                          go_ret
                          exact ⟨rfl, by repeat (first | exact hb_g.out.trans (B3a.out.mono hw1) | apply pw_below_drewN | apply below_drew1)⟩
                    · rw [if_neg p2] at h
                      replace p2 : thereB no t = false := by simpa using p2
                      obtain rfl := Option.some.inj h
                      go_wp2_with (first
                        | ((with_reducible refine gate_dst (N := 6) rfl ?_); refine box_event ?hg (N := 6) ?hd (cs := #[.int .i64 0, .int .i64 0, .int .i64 0]) (t := 44) ?hr ?_; (case hd => rfl); (case hg => rfl); (case hr => first | (go_simp; done) | (go_simp; rfl)); intro ga hq0 w2 hx_ga hb0; have hq_ga := Aside0.mk hq0; clear hq0; have hb_ga := Aside0.mk hb0; clear hb0; skip)
                        | ((with_reducible refine gate_store (t := 44) (p := 6) rfl ?_); go_loud (refine cells_event (by rfl) (by rfl) (by rfl) 0 #[.int .i64 f, .int .i64 t, .int .i64 cp] [.int .i64 f, .int .i64 t, .int .i64 cp] hx_ga (by rfl) (by rfl) (by kernel_rfl) (by simp [Value.oneCell']) (by simp) (by rfl) ?_; intro w3 hx_w3 hg0; have hg_w3 := Aside0.mk hg0; clear hg0; (have hgw : w1.heap.size ≤ ga := (by have := hq_ga.out; omega); have B3 : Below w1.heap.size w1 w3 := pw_below_grown (HB.out.trans (hb_ga.out.mono hgr)) _ (Nat.le_trans hgr hb_ga.out.size) hg_w3.out (fun k_ e_ => by injection e_ with e_; omega); have hzg : w3.cell? ⟨g, 0, none⟩ = some (.int .i64 no) := (blk_cell ((B3.block g (blk_lt hx_1.out)).trans hx_1.out) 0).trans rfl; have hd0 : w3.cell? ⟨ga, 0, none⟩ = some (.int .i64 f) := (blk_cell hx_w3 0).trans rfl; have hd1 : w3.cell? ⟨ga, 1, none⟩ = some (.int .i64 t) := (blk_cell hx_w3 1).trans rfl; have hd2 : w3.cell? ⟨ga, 2, none⟩ = some (.int .i64 cp) := (blk_cell hx_w3 2).trans rfl; have B3a := Aside0.mk B3; clear B3 hgw)))
                        | (go_at_call 26; refine (M.num_Add.calls _ _ _ _ _ hA).mono ?_; rintro e w' ⟨rfl, hdr⟩; obtain ⟨m, hdm⟩ := hdr.out; subst hdm; have hzg := (World.cell?_drewN (w := w3) (n := m) (a := ⟨g, 0, none⟩)).trans hzg)
                        | ((with_reducible refine gate_dst (N := 61) rfl ?_); refine goesC_ (some 61) rfl rfl Tryz.func25 (by kernel_rfl) rfl #[.int .i64 f, .pointer (some ⟨g, 0, none⟩)] (by rfl) (by rfl) (by simp only [List.map_toArray, List.map_cons, List.map_nil]; rfl) ?_; refine (check1.calls g no f true _ hzg p1).mono ?_; rintro e w' ⟨rfl, rfl⟩; refine ⟨_, rfl, ?_⟩)
                        | ((with_reducible refine gate_dst (N := 67) rfl ?_); refine goesG_ (some 67) rfl  Tryz.func25 (by kernel_rfl) rfl #[.int .i64 t, .pointer (some ⟨g, 0, none⟩)] (by rfl) (by rfl) (by rfl) (by simp only [List.map_toArray, List.map_cons, List.map_nil]; rfl) ?_; refine (check1.calls g no t false _ hzg p2).mono ?_; rintro e w' ⟨rfl, rfl⟩; refine ⟨_, rfl, ?_⟩))
                      go_ret
                      exact ⟨rfl, by repeat (first | exact hb_g.out.trans (B3a.out.mono hw1) | apply pw_below_drewN | apply below_drew1)⟩
                  · rw [if_neg p1] at h
                    replace p1 : thereB no f = false := by simpa using p1
                    obtain rfl := Option.some.inj h
                    go_wp2_with (first
                      | ((with_reducible refine gate_dst (N := 6) rfl ?_); refine box_event ?hg (N := 6) ?hd (cs := #[.int .i64 0, .int .i64 0, .int .i64 0]) (t := 44) ?hr ?_; (case hd => rfl); (case hg => rfl); (case hr => first | (go_simp; done) | (go_simp; rfl)); intro ga hq0 w2 hx_ga hb0; have hq_ga := Aside0.mk hq0; clear hq0; have hb_ga := Aside0.mk hb0; clear hb0; skip)
                      | ((with_reducible refine gate_store (t := 44) (p := 6) rfl ?_); go_loud (refine cells_event (by rfl) (by rfl) (by rfl) 0 #[.int .i64 f, .int .i64 t, .int .i64 cp] [.int .i64 f, .int .i64 t, .int .i64 cp] hx_ga (by rfl) (by rfl) (by kernel_rfl) (by simp [Value.oneCell']) (by simp) (by rfl) ?_; intro w3 hx_w3 hg0; have hg_w3 := Aside0.mk hg0; clear hg0; (have hgw : w1.heap.size ≤ ga := (by have := hq_ga.out; omega); have B3 : Below w1.heap.size w1 w3 := pw_below_grown (HB.out.trans (hb_ga.out.mono hgr)) _ (Nat.le_trans hgr hb_ga.out.size) hg_w3.out (fun k_ e_ => by injection e_ with e_; omega); have hzg : w3.cell? ⟨g, 0, none⟩ = some (.int .i64 no) := (blk_cell ((B3.block g (blk_lt hx_1.out)).trans hx_1.out) 0).trans rfl; have hd0 : w3.cell? ⟨ga, 0, none⟩ = some (.int .i64 f) := (blk_cell hx_w3 0).trans rfl; have hd1 : w3.cell? ⟨ga, 1, none⟩ = some (.int .i64 t) := (blk_cell hx_w3 1).trans rfl; have hd2 : w3.cell? ⟨ga, 2, none⟩ = some (.int .i64 cp) := (blk_cell hx_w3 2).trans rfl; have B3a := Aside0.mk B3; clear B3 hgw)))
                      | (go_at_call 26; refine (M.num_Add.calls _ _ _ _ _ hA).mono ?_; rintro e w' ⟨rfl, hdr⟩; obtain ⟨m, hdm⟩ := hdr.out; subst hdm; have hzg := (World.cell?_drewN (w := w3) (n := m) (a := ⟨g, 0, none⟩)).trans hzg)
                      | ((with_reducible refine gate_dst (N := 61) rfl ?_); refine goesC_ (some 61) rfl rfl Tryz.func25 (by kernel_rfl) rfl #[.int .i64 f, .pointer (some ⟨g, 0, none⟩)] (by rfl) (by rfl) (by simp only [List.map_toArray, List.map_cons, List.map_nil]; rfl) ?_; refine (check1.calls g no f false _ hzg p1).mono ?_; rintro e w' ⟨rfl, rfl⟩; refine ⟨_, rfl, ?_⟩))
                    go_ret
                    exact ⟨rfl, by repeat (first | exact hb_g.out.trans (B3a.out.mono hw1) | apply pw_below_drewN | apply below_drew1)⟩
                · obtain rfl : k = l.length := by omega
                  have h := HR.out
                  rw [List.drop_eq_nil_of_le (Nat.le_refl _)] at h
                  obtain rfl := Option.some.inj h
                  clear h
                  have hkl : decide (l.length < l.length) = false := decide_eq_false (Nat.lt_irrefl _)
                  go_wp2
                  go_ret
                  exact ⟨rfl, hb_g.out.trans (HB.out.mono hb_g.out.size)⟩
        · rw [if_neg q4] at h
          replace q4 : thereB no si = false := by simpa using q4
          obtain rfl := Option.some.inj h
          go_enter Tryz.func14, Tryz.ntmps14
          go_wp2_with (first
            | ((with_reducible refine gate_dst (N := 1) rfl ?_); refine box_event ?hg (N := 1) ?hd (cs := #[.int .i64 no, .int .i64 so, .int .i64 si, .slice A l.length c]) (t := 24) ?hr ?_; (case hd => rfl); (case hg => rfl); (case hr => first | (go_simp; done) | (go_simp; rfl)); intro g hq0 w1 hx_g hb0; have hq_g := Aside0.mk hq0; clear hq0; have hb_g := Aside0.mk hb0; clear hb0; have hz0 : w1.cell? ⟨g, 0, none⟩ = some (.int .i64 no) := (blk_cell hx_g 0).trans rfl; have hz1 : w1.cell? ⟨g, 1, none⟩ = some (.int .i64 so) := (blk_cell hx_g 1).trans rfl; have hz2 : w1.cell? ⟨g, 2, none⟩ = some (.int .i64 si) := (blk_cell hx_g 2).trans rfl; have hz3 : w1.cell? ⟨g, 3, none⟩ = some (.slice A l.length c) := (blk_cell hx_g 3).trans rfl)
            | ((with_reducible refine gate_dst (N := 23) rfl ?_); refine goesC_ (some 23) rfl rfl Tryz.func25 (by kernel_rfl) rfl #[.int .i64 so, .pointer (some ⟨g, 0, none⟩)] (by rfl) (by rfl) (by simp only [List.map_toArray, List.map_cons, List.map_nil]; rfl) ?_; refine (check1.calls g no so true _ hz0 q3).mono ?_; rintro e w' ⟨rfl, rfl⟩; refine ⟨_, rfl, ?_⟩)
            | ((with_reducible refine gate_dst (N := 29) rfl ?_); refine goesG_ (some 29) rfl  Tryz.func25 (by kernel_rfl) rfl #[.int .i64 si, .pointer (some ⟨g, 0, none⟩)] (by rfl) (by rfl) (by rfl) (by simp only [List.map_toArray, List.map_cons, List.map_nil]; rfl) ?_; refine (check1.calls g no si false _ hz0 q4).mono ?_; rintro e w' ⟨rfl, rfl⟩; refine ⟨_, rfl, ?_⟩))
          go_ret
          exact ⟨rfl, hb_g.out⟩
      · rw [if_neg q3] at h
        replace q3 : thereB no so = false := by simpa using q3
        obtain rfl := Option.some.inj h
        go_enter Tryz.func14, Tryz.ntmps14
        go_wp2_with (first
          | ((with_reducible refine gate_dst (N := 1) rfl ?_); refine box_event ?hg (N := 1) ?hd (cs := #[.int .i64 no, .int .i64 so, .int .i64 si, .slice A l.length c]) (t := 24) ?hr ?_; (case hd => rfl); (case hg => rfl); (case hr => first | (go_simp; done) | (go_simp; rfl)); intro g hq0 w1 hx_g hb0; have hq_g := Aside0.mk hq0; clear hq0; have hb_g := Aside0.mk hb0; clear hb0; have hz0 : w1.cell? ⟨g, 0, none⟩ = some (.int .i64 no) := (blk_cell hx_g 0).trans rfl; have hz1 : w1.cell? ⟨g, 1, none⟩ = some (.int .i64 so) := (blk_cell hx_g 1).trans rfl; have hz2 : w1.cell? ⟨g, 2, none⟩ = some (.int .i64 si) := (blk_cell hx_g 2).trans rfl; have hz3 : w1.cell? ⟨g, 3, none⟩ = some (.slice A l.length c) := (blk_cell hx_g 3).trans rfl)
          | ((with_reducible refine gate_dst (N := 23) rfl ?_); refine goesC_ (some 23) rfl rfl Tryz.func25 (by kernel_rfl) rfl #[.int .i64 so, .pointer (some ⟨g, 0, none⟩)] (by rfl) (by rfl) (by simp only [List.map_toArray, List.map_cons, List.map_nil]; rfl) ?_; refine (check1.calls g no so false _ hz0 q3).mono ?_; rintro e w' ⟨rfl, rfl⟩; refine ⟨_, rfl, ?_⟩))
        go_ret
        exact ⟨rfl, hb_g.out⟩

/-! ### Same -/
theorem eqArc (d : Nat) (w : World) (x0 y0 : Int) (x1 y1 : Int) (x2 y2 : Int) :
    (Op.equalIn (d + 2) 44 (.agg #[.int .i64 x0, .int .i64 x1, .int .i64 x2]) (.agg #[.int .i64 y0, .int .i64 y1, .int .i64 y2])).run Tryz.prog w = .ok (x0 == y0 && (x1 == y1 && (x2 == y2))) w := by
  refine eqA_of Tryz.underlying44 (by kernel_rfl) ?_
  refine eqf_cons (by rfl) (by go_simp; rfl) (by go_simp; rfl) (by go_simp) ?_
  refine eqf_cons (by rfl) (by go_simp; rfl) (by go_simp; rfl) (by go_simp) ?_
  exact eqf_last (by rfl) (by go_simp; rfl) (by go_simp; rfl) (by go_simp)
def arcEq (a b : S44) : Bool := a.f0 == b.f0 && (a.f1 == b.f1 && (a.f2 == b.f2))
def sameArcs : List S44 → List S44 → Bool
  | [], [] => true
  | a :: l, b :: m => arcEq a b && sameArcs l m
  | _, _ => false

section
attribute [local go_sem high] eqArc
set_option maxRecDepth 100000 in
set_option maxHeartbeats 2000000 in
theorem alike.calls (a b : S44) (w : World) :
    Calls Tryz.prog 27 #[.agg #[.int .i64 a.f0, .int .i64 a.f1, .int .i64 a.f2], .agg #[.int .i64 b.f0, .int .i64 b.f1, .int .i64 b.f2]] w fun e w' => e = .returned (.bool (arcEq a b)) ∧ Below w.heap.size w w' := by
  obtain ⟨x0, x1, x2⟩ := a
  obtain ⟨y0, y1, y2⟩ := b
  have hE : arcEq ⟨x0, x1, x2⟩ ⟨y0, y1, y2⟩ = (x0 == y0 && (x1 == y1 && (x2 == y2))) := rfl
  have HE := Lib.hid hE
  clear hE
  simp only
  go_enter Tryz.func27, Tryz.ntmps27
  go_wp2_with (first
    | ((with_reducible refine gate_dst (N := 2) rfl ?_); refine box_event ?hg (N := 2) ?hd (cs := #[.int .i64 x0, .int .i64 x1, .int .i64 x2]) (t := 44) ?hr ?_; (case hd => rfl); (case hg => rfl); (case hr => first | (go_simp; done) | (go_simp; rfl)); intro g1 hq0 w1 hx_g1 hb0; have hq_g1 := Aside0.mk hq0; clear hq0; have hb_g1 := Aside0.mk hb0; clear hb0; skip)
    | ((with_reducible refine gate_dst (N := 3) rfl ?_); refine box_event ?hg (N := 3) ?hd (cs := #[.int .i64 y0, .int .i64 y1, .int .i64 y2]) (t := 44) ?hr ?_; (case hd => rfl); (case hg => rfl); (case hr => first | (go_simp; done) | (go_simp; rfl)); intro g2 hq0 w2 hx_g2 hb0; have hq_g2 := Aside0.mk hq0; clear hq0; have hb_g2 := Aside0.mk hb0; clear hb0; (have hx1 := (hb_g2.out.block g1 (blk_lt hx_g1)).trans hx_g1; have hc0 : w2.cell? ⟨g1, 0, none⟩ = some (.int .i64 x0) := (blk_cell hx1 0).trans rfl; have hc1 : w2.cell? ⟨g1, 1, none⟩ = some (.int .i64 x1) := (blk_cell hx1 1).trans rfl; have hc2 : w2.cell? ⟨g1, 2, none⟩ = some (.int .i64 x2) := (blk_cell hx1 2).trans rfl; have hd0 : w2.cell? ⟨g2, 0, none⟩ = some (.int .i64 y0) := (blk_cell hx_g2 0).trans rfl; have hd1 : w2.cell? ⟨g2, 1, none⟩ = some (.int .i64 y1) := (blk_cell hx_g2 1).trans rfl; have hd2 : w2.cell? ⟨g2, 2, none⟩ = some (.int .i64 y2) := (blk_cell hx_g2 2).trans rfl)))
  go_ret
  exact ⟨by rw [HE.out]; rfl, hb_g1.out.trans (hb_g2.out.mono hb_g1.out.size)⟩
end

theorem rd_get {xs : List S44} {k : Nat} (h : k < xs.length) : rd_T44 xs (k : Int) = xs[k] := by
  unfold rd_T44
  rw [Int.toNat_natCast, List.getD_eq_getElem?_getD, List.getElem?_eq_getElem h]
  rfl
theorem arc_cells {W : World} {A : Option Addr} {xs : List S44} (h : Kd.C k44 W A xs.length xs) (k : Nat) (hk : k < xs.length) :
    ∃ ad, A = some ad ∧ W.cell? (ad.add (k * 3)) = some (.int .i64 xs[k].f0) ∧ W.cell? ⟨(ad.add (k * 3)).block, (ad.add (k * 3)).off + 1, none⟩ = some (.int .i64 xs[k].f1) ∧ W.cell? ⟨(ad.add (k * 3)).block, (ad.add (k * 3)).off + 2, none⟩ = some (.int .i64 xs[k].f2) := by
  obtain ⟨ad, e, h0, h1, h2⟩ := at_T44 h (k : Int) (by omega) (by omega)
  rw [Int.toNat_natCast, rd_get hk] at h0 h1 h2
  exact ⟨ad, e, h0, h1, h2⟩

set_option maxRecDepth 100000 in
set_option maxHeartbeats 4000000 in
theorem equalFunc.calls (A1 A2 : Option Addr) (c1 c2 : Nat) (l1 l2 : List S44) (w : World) (hr1 : Kd.C k44 w A1 l1.length l1) (hc1 : l1.length ≤ c1) (hr2 : Kd.C k44 w A2 l2.length l2) (hc2 : l2.length ≤ c2) (hl : l1.length ≤ 4294967296) :
    Calls Tryz.prog 28 #[.slice A1 l1.length c1, .slice A2 l2.length c2, .func (.func 27) #[] #[]] w fun e w' => e = .returned (.bool (sameArcs l1 l2)) ∧ Below w.heap.size w w' := by
  by_cases hn : l1.length = l2.length
  · have d1 : ((l1.length : Int) == (l2.length : Int)) = true := beq_iff_eq.mpr (by omega)
    have d2 : ((l1.length : Int) != (l2.length : Int)) = false := bne_eq_false_iff_eq.mpr (by omega)
    have d3 : (l1.length == l2.length) = true := beq_iff_eq.mpr hn
    have HN := Lib.hid hn
    have HL2 : l1.length ≤ l2.length := by omega
    clear hn
    generalize hS : sameArcs l1 l2 = r
    have HS : Hid (sameArcs (l1.drop 0) (l2.drop 0) = r) := by simpa using Lib.hid hS
    clear hS
    go_enter Tryz.func28, Tryz.ntmps28
    go_wp2
    go_loopw [17] (fun i wr => ∃ k : Nat, k ≤ l1.length ∧ i = .int .i64 k ∧ Hid (sameArcs (l1.drop k) (l2.drop k) = r) ∧ Aside0 (Below w.heap.size w wr)) (fun i _ => l1.length - (intOf i).toNat)
    case atStart => exact ⟨0, Nat.zero_le _, rfl, HS, ⟨Below.refl _ _⟩⟩
    case round =>
      obtain ⟨k, hk, rfl, HR, HB⟩ := hrel
      by_cases hlt : k < l1.length
      · have hlt2 : k < l2.length := by omega
        obtain ⟨ad1, rfl, h0, h1, h2⟩ := arc_cells (Kd.C_below hr1 HB.out) k hlt
        obtain ⟨ad2, rfl, g0, g1, g2⟩ := arc_cells (Kd.C_below hr2 HB.out) k hlt2
        have h := HR.out
        rw [List.drop_eq_getElem_cons hlt, List.drop_eq_getElem_cons hlt2] at h
        generalize l1[k] = x at *
        generalize l2[k] = y at *
        simp only [sameArcs] at h
        have hkl : decide (k < l1.length) = true := decide_eq_true hlt
        have hkl2 : decide (k < l2.length) = true := decide_eq_true hlt2
        have hws : w.heap.size ≤ wr.heap.size := HB.out.size
        by_cases hq : arcEq x y = true
        · rw [hq, Bool.true_and] at h
          have HR' := Lib.hid h
          have HQ := Lib.hid hq
          clear h hr1 hr2 hq
          go_wp2_with (first
            | ((with_reducible refine gate_dst (N := 8) rfl ?_); refine box_event ?hg (N := 8) ?hd (cs := #[.int .i64 0, .int .i64 0, .int .i64 0]) (t := 44) ?hr ?_; (case hd => rfl); (case hg => rfl); (case hr => first | (go_simp; done) | (go_simp; rfl)); intro ga hq0 w2 hx_ga hb0; have hq_ga := Aside0.mk hq0; clear hq0; have hb_ga := Aside0.mk hb0; clear hb0; skip)
            | ((with_reducible refine gate_store (t := 44) (p := 8) rfl ?_); go_loud (refine cells_event (by rfl) (by rfl) (by rfl) 0 #[.int .i64 x.f0, .int .i64 x.f1, .int .i64 x.f2] [.int .i64 x.f0, .int .i64 x.f1, .int .i64 x.f2] hx_ga (by rfl) (by rfl) (by kernel_rfl) (by simp [Value.oneCell']) (by simp) (by rfl) ?_; intro w3 hx_w3 hg0; have hg_w3 := Aside0.mk hg0; clear hg0; (have hgw : w.heap.size ≤ ga := (by have := hq_ga.out; omega); have B3 : Below w.heap.size w w3 := pw_below_grown (HB.out.trans (hb_ga.out.mono hws)) _ (Nat.le_trans hws hb_ga.out.size) hg_w3.out (fun k_ e_ => by injection e_ with e_; omega); have F3 : Fr wr w3 (fun _ => False) := ((Fr.of_below hb_ga.out _).grown hg_w3.out (fun k_ e_ => by injection e_ with e_; right; have := hq_ga.out; omega)); have g0 := F3.cell g0 (fun hk => hk); have g1 := F3.cell g1 (fun hk => hk); have g2 := F3.cell g2 (fun hk => hk); have B3a := Aside0.mk B3; have F3a := Aside0.mk F3; clear B3 F3)))
            | ((with_reducible refine gate_dst (N := 9) rfl ?_); refine box_event ?hg (N := 9) ?hd (cs := #[.int .i64 0, .int .i64 0, .int .i64 0]) (t := 44) ?hr ?_; (case hd => rfl); (case hg => rfl); (case hr => first | (go_simp; done) | (go_simp; rfl)); intro gb hq0 w4 hx_gb hb0; have hq_gb := Aside0.mk hq0; clear hq0; have hb_gb := Aside0.mk hb0; clear hb0; skip)
            | ((with_reducible refine gate_store (t := 44) (p := 9) rfl ?_); go_loud (refine cells_event (by rfl) (by rfl) (by rfl) 0 #[.int .i64 y.f0, .int .i64 y.f1, .int .i64 y.f2] [.int .i64 y.f0, .int .i64 y.f1, .int .i64 y.f2] hx_gb (by rfl) (by rfl) (by kernel_rfl) (by simp [Value.oneCell']) (by simp) (by rfl) ?_; intro w5 hx_w5 hg0; have hg_w5 := Aside0.mk hg0; clear hg0; (have hz5 : w.heap.size ≤ w3.heap.size := B3a.out.size; have hgb : w.heap.size ≤ gb := (by have := hq_gb.out; omega); have B5 : Below w.heap.size w w5 := pw_below_grown (B3a.out.trans (hb_gb.out.mono hz5)) _ (Nat.le_trans hz5 hb_gb.out.size) hg_w5.out (fun k_ e_ => by injection e_ with e_; omega); have F5 : Fr w3 w5 (fun _ => False) := ((Fr.of_below hb_gb.out _).grown hg_w5.out (fun k_ e_ => by injection e_ with e_; right; have := hq_gb.out; omega)); have hx5 := F5.blk hx_w3 (fun hk => hk); have m0 : w5.cell? ⟨ga, 0, none⟩ = some (.int .i64 x.f0) := (blk_cell hx5 0).trans rfl; have m1 : w5.cell? ⟨ga, 1, none⟩ = some (.int .i64 x.f1) := (blk_cell hx5 1).trans rfl; have m2 : w5.cell? ⟨ga, 2, none⟩ = some (.int .i64 x.f2) := (blk_cell hx5 2).trans rfl; have n0 : w5.cell? ⟨gb, 0, none⟩ = some (.int .i64 y.f0) := (blk_cell hx_w5 0).trans rfl; have n1 : w5.cell? ⟨gb, 1, none⟩ = some (.int .i64 y.f1) := (blk_cell hx_w5 1).trans rfl; have n2 : w5.cell? ⟨gb, 2, none⟩ = some (.int .i64 y.f2) := (blk_cell hx_w5 2).trans rfl; have B5b := Aside0.mk B5; clear B5 F5)))
            | ((with_reducible refine gate_dst (N := 29) rfl ?_); go_loud (refine goesC_ (some 29) rfl rfl Tryz.func27 (by kernel_rfl) rfl #[.agg #[.int .i64 x.f0, .int .i64 x.f1, .int .i64 x.f2], .agg #[.int .i64 y.f0, .int .i64 y.f1, .int .i64 y.f2]] (by rfl) (by rfl) (by simp only [List.map_toArray, List.map_cons, List.map_nil]; rfl) ?_; refine (alike.calls x y _).mono ?_; rintro e w6 ⟨rfl, hb6⟩; refine ⟨_, rfl, ?_⟩; rw [HQ.out]; have B5a : Aside0 (Below w.heap.size w w6) := ⟨B5b.out.trans (hb6.mono B5b.out.size)⟩; clear hb6)))
          go_roundw
          case rel => exact ⟨k + 1, by omega, by go_num, HR', B5a⟩
          case measure => simp [intOf]; omega
        · replace hq : arcEq x y = false := by simpa using hq
          rw [hq, Bool.false_and] at h
          subst h
          have HQ := Lib.hid hq
          clear hr1 hr2 hq
          go_wp2_with (first
            | ((with_reducible refine gate_dst (N := 8) rfl ?_); refine box_event ?hg (N := 8) ?hd (cs := #[.int .i64 0, .int .i64 0, .int .i64 0]) (t := 44) ?hr ?_; (case hd => rfl); (case hg => rfl); (case hr => first | (go_simp; done) | (go_simp; rfl)); intro ga hq0 w2 hx_ga hb0; have hq_ga := Aside0.mk hq0; clear hq0; have hb_ga := Aside0.mk hb0; clear hb0; skip)
            | ((with_reducible refine gate_store (t := 44) (p := 8) rfl ?_); go_loud (refine cells_event (by rfl) (by rfl) (by rfl) 0 #[.int .i64 x.f0, .int .i64 x.f1, .int .i64 x.f2] [.int .i64 x.f0, .int .i64 x.f1, .int .i64 x.f2] hx_ga (by rfl) (by rfl) (by kernel_rfl) (by simp [Value.oneCell']) (by simp) (by rfl) ?_; intro w3 hx_w3 hg0; have hg_w3 := Aside0.mk hg0; clear hg0; (have hgw : w.heap.size ≤ ga := (by have := hq_ga.out; omega); have B3 : Below w.heap.size w w3 := pw_below_grown (HB.out.trans (hb_ga.out.mono hws)) _ (Nat.le_trans hws hb_ga.out.size) hg_w3.out (fun k_ e_ => by injection e_ with e_; omega); have F3 : Fr wr w3 (fun _ => False) := ((Fr.of_below hb_ga.out _).grown hg_w3.out (fun k_ e_ => by injection e_ with e_; right; have := hq_ga.out; omega)); have g0 := F3.cell g0 (fun hk => hk); have g1 := F3.cell g1 (fun hk => hk); have g2 := F3.cell g2 (fun hk => hk); have B3a := Aside0.mk B3; have F3a := Aside0.mk F3; clear B3 F3)))
            | ((with_reducible refine gate_dst (N := 9) rfl ?_); refine box_event ?hg (N := 9) ?hd (cs := #[.int .i64 0, .int .i64 0, .int .i64 0]) (t := 44) ?hr ?_; (case hd => rfl); (case hg => rfl); (case hr => first | (go_simp; done) | (go_simp; rfl)); intro gb hq0 w4 hx_gb hb0; have hq_gb := Aside0.mk hq0; clear hq0; have hb_gb := Aside0.mk hb0; clear hb0; skip)
            | ((with_reducible refine gate_store (t := 44) (p := 9) rfl ?_); go_loud (refine cells_event (by rfl) (by rfl) (by rfl) 0 #[.int .i64 y.f0, .int .i64 y.f1, .int .i64 y.f2] [.int .i64 y.f0, .int .i64 y.f1, .int .i64 y.f2] hx_gb (by rfl) (by rfl) (by kernel_rfl) (by simp [Value.oneCell']) (by simp) (by rfl) ?_; intro w5 hx_w5 hg0; have hg_w5 := Aside0.mk hg0; clear hg0; (have hz5 : w.heap.size ≤ w3.heap.size := B3a.out.size; have hgb : w.heap.size ≤ gb := (by have := hq_gb.out; omega); have B5 : Below w.heap.size w w5 := pw_below_grown (B3a.out.trans (hb_gb.out.mono hz5)) _ (Nat.le_trans hz5 hb_gb.out.size) hg_w5.out (fun k_ e_ => by injection e_ with e_; omega); have F5 : Fr w3 w5 (fun _ => False) := ((Fr.of_below hb_gb.out _).grown hg_w5.out (fun k_ e_ => by injection e_ with e_; right; have := hq_gb.out; omega)); have hx5 := F5.blk hx_w3 (fun hk => hk); have m0 : w5.cell? ⟨ga, 0, none⟩ = some (.int .i64 x.f0) := (blk_cell hx5 0).trans rfl; have m1 : w5.cell? ⟨ga, 1, none⟩ = some (.int .i64 x.f1) := (blk_cell hx5 1).trans rfl; have m2 : w5.cell? ⟨ga, 2, none⟩ = some (.int .i64 x.f2) := (blk_cell hx5 2).trans rfl; have n0 : w5.cell? ⟨gb, 0, none⟩ = some (.int .i64 y.f0) := (blk_cell hx_w5 0).trans rfl; have n1 : w5.cell? ⟨gb, 1, none⟩ = some (.int .i64 y.f1) := (blk_cell hx_w5 1).trans rfl; have n2 : w5.cell? ⟨gb, 2, none⟩ = some (.int .i64 y.f2) := (blk_cell hx_w5 2).trans rfl; have B5b := Aside0.mk B5; clear B5 F5)))
            | ((with_reducible refine gate_dst (N := 29) rfl ?_); go_loud (refine goesC_ (some 29) rfl rfl Tryz.func27 (by kernel_rfl) rfl #[.agg #[.int .i64 x.f0, .int .i64 x.f1, .int .i64 x.f2], .agg #[.int .i64 y.f0, .int .i64 y.f1, .int .i64 y.f2]] (by rfl) (by rfl) (by simp only [List.map_toArray, List.map_cons, List.map_nil]; rfl) ?_; refine (alike.calls x y _).mono ?_; rintro e w6 ⟨rfl, hb6⟩; refine ⟨_, rfl, ?_⟩; rw [HQ.out]; have B5a : Aside0 (Below w.heap.size w w6) := ⟨B5b.out.trans (hb6.mono B5b.out.size)⟩; clear hb6)))
          go_ret
          exact ⟨rfl, B5a.out⟩
      · obtain rfl : k = l1.length := by omega
        have h := HR.out
        rw [List.drop_eq_nil_of_le (Nat.le_refl _), List.drop_eq_nil_of_le (by have := HN.out; omega)] at h
        simp only [sameArcs] at h
        subst h
        have hkl : decide (l1.length < l1.length) = false := decide_eq_false (Nat.lt_irrefl _)
        go_wp2
        go_ret
        exact ⟨rfl, HB.out⟩
  · have d1 : ((l1.length : Int) == (l2.length : Int)) = false := beq_eq_false_iff_ne.mpr (by omega)
    have d2 : ((l1.length : Int) != (l2.length : Int)) = true := bne_iff_ne.mpr (by omega)
    have d3 : (l1.length == l2.length) = false := beq_eq_false_iff_ne.mpr hn
    have d4 : (l1.length != l2.length) = true := bne_iff_ne.mpr hn
    have hS : sameArcs l1 l2 = false := by
      clear hr1 hr2 hc1 hc2 hl d1 d2 d3 d4
      induction l1 generalizing l2 with
      | nil => cases l2 with
        | nil => exact absurd rfl hn
        | cons y m => rfl
      | cons x l ih => cases l2 with
        | nil => rfl
        | cons y m =>
          simp only [sameArcs, ih m (by simpa using hn), Bool.and_false]
    rw [hS]
    clear hn hS
    go_enter Tryz.func28, Tryz.ntmps28
    go_wp2
    go_ret
    exact ⟨rfl, Below.refl _ _⟩

def net_Same.f (n0 n1 n2 : Int) (l : List S44) (m0 m1 m2 : Int) (m : List S44) : Option Bool :=
  if l.length ≤ 4294967296 then some (n0 == m0 && (n1 == m1 && (n2 == m2 && sameArcs l m))) else none

set_option maxRecDepth 100000 in
set_option maxHeartbeats 4000000 in
theorem net_Same.calls (n0 n1 n2 : Int) (A : Option Addr) (c : Nat) (l : List S44) (m0 m1 m2 : Int) (B : Option Addr) (d : Nat) (m : List S44) (r : Bool) (w : World) (hr1 : Kd.C k44 w A l.length l) (hc1 : l.length ≤ c) (hr2 : Kd.C k44 w B m.length m) (hc2 : m.length ≤ d) (h : net_Same.f n0 n1 n2 l m0 m1 m2 m = some r) :
    Calls Tryz.prog 15 #[.agg #[.int .i64 n0, .int .i64 n1, .int .i64 n2, .slice A l.length c], .agg #[.int .i64 m0, .int .i64 m1, .int .i64 m2, .slice B m.length d]] w fun e w' => e = .returned (.bool r) ∧ Below w.heap.size w w' := by
  unfold net_Same.f at h
  split at h
  case isFalse => cases h
  case isTrue hl =>
  have h := Option.some.inj h
  cases q0 : (n0 == m0) with
  | false =>
    have hrF : r = false := by rw [← h]; rw [q0]; rfl
    subst hrF
    clear h
    go_enter Tryz.func15, Tryz.ntmps15
    go_wp2_with (first
        | ((with_reducible refine gate_dst (N := 2) rfl ?_); refine box_event ?hg (N := 2) ?hd (cs := #[.int .i64 n0, .int .i64 n1, .int .i64 n2, .slice A l.length c]) (t := 24) ?hr ?_; (case hd => rfl); (case hg => rfl); (case hr => first | (go_simp; done) | (go_simp; rfl)); intro g1 hq0 w1 hx_g1 hb0; have hq_g1 := Aside0.mk hq0; clear hq0; have hb_g1 := Aside0.mk hb0; clear hb0; skip)
        | ((with_reducible refine gate_dst (N := 3) rfl ?_); refine box_event ?hg (N := 3) ?hd (cs := #[.int .i64 m0, .int .i64 m1, .int .i64 m2, .slice B m.length d]) (t := 24) ?hr ?_; (case hd => rfl); (case hg => rfl); (case hr => first | (go_simp; done) | (go_simp; rfl)); intro g2 hq0 w2 hx_g2 hb0; have hq_g2 := Aside0.mk hq0; clear hq0; have hb_g2 := Aside0.mk hb0; clear hb0; (have hx1 := (hb_g2.out.block g1 (blk_lt hx_g1)).trans hx_g1; have hs1 : w.heap.size ≤ w1.heap.size := hb_g1.out.size; have BB : Aside0 (Below w.heap.size w w2) := ⟨hb_g1.out.trans (hb_g2.out.mono hs1)⟩; have hc0 : w2.cell? ⟨g1, 0, none⟩ = some (.int .i64 n0) := (blk_cell hx1 0).trans rfl; have hc1 : w2.cell? ⟨g1, 1, none⟩ = some (.int .i64 n1) := (blk_cell hx1 1).trans rfl; have hc2 : w2.cell? ⟨g1, 2, none⟩ = some (.int .i64 n2) := (blk_cell hx1 2).trans rfl; have hc3 : w2.cell? ⟨g1, 3, none⟩ = some (.slice A l.length c) := (blk_cell hx1 3).trans rfl; have hd0 : w2.cell? ⟨g2, 0, none⟩ = some (.int .i64 m0) := (blk_cell hx_g2 0).trans rfl; have hd1 : w2.cell? ⟨g2, 1, none⟩ = some (.int .i64 m1) := (blk_cell hx_g2 1).trans rfl; have hd2 : w2.cell? ⟨g2, 2, none⟩ = some (.int .i64 m2) := (blk_cell hx_g2 2).trans rfl; have hd3 : w2.cell? ⟨g2, 3, none⟩ = some (.slice B m.length d) := (blk_cell hx_g2 3).trans rfl)))
    go_ret
    exact ⟨rfl, BB.out⟩
  | true =>
    cases q1 : (n1 == m1) with
    | false =>
      have hrF : r = false := by rw [← h]; rw [q0, q1]; rfl
      subst hrF
      clear h
      go_enter Tryz.func15, Tryz.ntmps15
      go_wp2_with (first
          | ((with_reducible refine gate_dst (N := 2) rfl ?_); refine box_event ?hg (N := 2) ?hd (cs := #[.int .i64 n0, .int .i64 n1, .int .i64 n2, .slice A l.length c]) (t := 24) ?hr ?_; (case hd => rfl); (case hg => rfl); (case hr => first | (go_simp; done) | (go_simp; rfl)); intro g1 hq0 w1 hx_g1 hb0; have hq_g1 := Aside0.mk hq0; clear hq0; have hb_g1 := Aside0.mk hb0; clear hb0; skip)
          | ((with_reducible refine gate_dst (N := 3) rfl ?_); refine box_event ?hg (N := 3) ?hd (cs := #[.int .i64 m0, .int .i64 m1, .int .i64 m2, .slice B m.length d]) (t := 24) ?hr ?_; (case hd => rfl); (case hg => rfl); (case hr => first | (go_simp; done) | (go_simp; rfl)); intro g2 hq0 w2 hx_g2 hb0; have hq_g2 := Aside0.mk hq0; clear hq0; have hb_g2 := Aside0.mk hb0; clear hb0; (have hx1 := (hb_g2.out.block g1 (blk_lt hx_g1)).trans hx_g1; have hs1 : w.heap.size ≤ w1.heap.size := hb_g1.out.size; have BB : Aside0 (Below w.heap.size w w2) := ⟨hb_g1.out.trans (hb_g2.out.mono hs1)⟩; have hc0 : w2.cell? ⟨g1, 0, none⟩ = some (.int .i64 n0) := (blk_cell hx1 0).trans rfl; have hc1 : w2.cell? ⟨g1, 1, none⟩ = some (.int .i64 n1) := (blk_cell hx1 1).trans rfl; have hc2 : w2.cell? ⟨g1, 2, none⟩ = some (.int .i64 n2) := (blk_cell hx1 2).trans rfl; have hc3 : w2.cell? ⟨g1, 3, none⟩ = some (.slice A l.length c) := (blk_cell hx1 3).trans rfl; have hd0 : w2.cell? ⟨g2, 0, none⟩ = some (.int .i64 m0) := (blk_cell hx_g2 0).trans rfl; have hd1 : w2.cell? ⟨g2, 1, none⟩ = some (.int .i64 m1) := (blk_cell hx_g2 1).trans rfl; have hd2 : w2.cell? ⟨g2, 2, none⟩ = some (.int .i64 m2) := (blk_cell hx_g2 2).trans rfl; have hd3 : w2.cell? ⟨g2, 3, none⟩ = some (.slice B m.length d) := (blk_cell hx_g2 3).trans rfl)))
      go_ret
      exact ⟨rfl, BB.out⟩
    | true =>
      cases q2 : (n2 == m2) with
      | false =>
        have hrF : r = false := by rw [← h]; rw [q0, q1, q2]; rfl
        subst hrF
        clear h
        go_enter Tryz.func15, Tryz.ntmps15
        go_wp2_with (first
            | ((with_reducible refine gate_dst (N := 2) rfl ?_); refine box_event ?hg (N := 2) ?hd (cs := #[.int .i64 n0, .int .i64 n1, .int .i64 n2, .slice A l.length c]) (t := 24) ?hr ?_; (case hd => rfl); (case hg => rfl); (case hr => first | (go_simp; done) | (go_simp; rfl)); intro g1 hq0 w1 hx_g1 hb0; have hq_g1 := Aside0.mk hq0; clear hq0; have hb_g1 := Aside0.mk hb0; clear hb0; skip)
            | ((with_reducible refine gate_dst (N := 3) rfl ?_); refine box_event ?hg (N := 3) ?hd (cs := #[.int .i64 m0, .int .i64 m1, .int .i64 m2, .slice B m.length d]) (t := 24) ?hr ?_; (case hd => rfl); (case hg => rfl); (case hr => first | (go_simp; done) | (go_simp; rfl)); intro g2 hq0 w2 hx_g2 hb0; have hq_g2 := Aside0.mk hq0; clear hq0; have hb_g2 := Aside0.mk hb0; clear hb0; (have hx1 := (hb_g2.out.block g1 (blk_lt hx_g1)).trans hx_g1; have hs1 : w.heap.size ≤ w1.heap.size := hb_g1.out.size; have BB : Aside0 (Below w.heap.size w w2) := ⟨hb_g1.out.trans (hb_g2.out.mono hs1)⟩; have hc0 : w2.cell? ⟨g1, 0, none⟩ = some (.int .i64 n0) := (blk_cell hx1 0).trans rfl; have hc1 : w2.cell? ⟨g1, 1, none⟩ = some (.int .i64 n1) := (blk_cell hx1 1).trans rfl; have hc2 : w2.cell? ⟨g1, 2, none⟩ = some (.int .i64 n2) := (blk_cell hx1 2).trans rfl; have hc3 : w2.cell? ⟨g1, 3, none⟩ = some (.slice A l.length c) := (blk_cell hx1 3).trans rfl; have hd0 : w2.cell? ⟨g2, 0, none⟩ = some (.int .i64 m0) := (blk_cell hx_g2 0).trans rfl; have hd1 : w2.cell? ⟨g2, 1, none⟩ = some (.int .i64 m1) := (blk_cell hx_g2 1).trans rfl; have hd2 : w2.cell? ⟨g2, 2, none⟩ = some (.int .i64 m2) := (blk_cell hx_g2 2).trans rfl; have hd3 : w2.cell? ⟨g2, 3, none⟩ = some (.slice B m.length d) := (blk_cell hx_g2 3).trans rfl)))
        go_ret
        exact ⟨rfl, BB.out⟩
      | true =>
        rw [q0, q1, q2, Bool.true_and, Bool.true_and, Bool.true_and] at h
        have cE := fun W (hb : Below w.heap.size w W) => equalFunc.calls A B c d l m W (Kd.C_below hr1 hb) hc1 (Kd.C_below hr2 hb) hc2 hl
        rw [h] at cE
        clear h
        go_enter Tryz.func15, Tryz.ntmps15
        go_wp2_with (first
            | ((with_reducible refine gate_dst (N := 2) rfl ?_); refine box_event ?hg (N := 2) ?hd (cs := #[.int .i64 n0, .int .i64 n1, .int .i64 n2, .slice A l.length c]) (t := 24) ?hr ?_; (case hd => rfl); (case hg => rfl); (case hr => first | (go_simp; done) | (go_simp; rfl)); intro g1 hq0 w1 hx_g1 hb0; have hq_g1 := Aside0.mk hq0; clear hq0; have hb_g1 := Aside0.mk hb0; clear hb0; skip)
            | ((with_reducible refine gate_dst (N := 3) rfl ?_); refine box_event ?hg (N := 3) ?hd (cs := #[.int .i64 m0, .int .i64 m1, .int .i64 m2, .slice B m.length d]) (t := 24) ?hr ?_; (case hd => rfl); (case hg => rfl); (case hr => first | (go_simp; done) | (go_simp; rfl)); intro g2 hq0 w2 hx_g2 hb0; have hq_g2 := Aside0.mk hq0; clear hq0; have hb_g2 := Aside0.mk hb0; clear hb0; (have hx1 := (hb_g2.out.block g1 (blk_lt hx_g1)).trans hx_g1; have hs1 : w.heap.size ≤ w1.heap.size := hb_g1.out.size; have BB : Aside0 (Below w.heap.size w w2) := ⟨hb_g1.out.trans (hb_g2.out.mono hs1)⟩; have hc0 : w2.cell? ⟨g1, 0, none⟩ = some (.int .i64 n0) := (blk_cell hx1 0).trans rfl; have hc1 : w2.cell? ⟨g1, 1, none⟩ = some (.int .i64 n1) := (blk_cell hx1 1).trans rfl; have hc2 : w2.cell? ⟨g1, 2, none⟩ = some (.int .i64 n2) := (blk_cell hx1 2).trans rfl; have hc3 : w2.cell? ⟨g1, 3, none⟩ = some (.slice A l.length c) := (blk_cell hx1 3).trans rfl; have hd0 : w2.cell? ⟨g2, 0, none⟩ = some (.int .i64 m0) := (blk_cell hx_g2 0).trans rfl; have hd1 : w2.cell? ⟨g2, 1, none⟩ = some (.int .i64 m1) := (blk_cell hx_g2 1).trans rfl; have hd2 : w2.cell? ⟨g2, 2, none⟩ = some (.int .i64 m2) := (blk_cell hx_g2 2).trans rfl; have hd3 : w2.cell? ⟨g2, 3, none⟩ = some (.slice B m.length d) := (blk_cell hx_g2 3).trans rfl))
            | (go_at_call 28; refine (cE _ BB.out).mono ?_; rintro e w3 ⟨rfl, hb3⟩; have hb3a := Aside0.mk hb3; clear hb3))
        go_ret
        exact ⟨rfl, BB.out.trans (hb3a.out.mono BB.out.size)⟩
end Go.Proofs.YtgpeppnbgfdaaaaGreatDoor.R
