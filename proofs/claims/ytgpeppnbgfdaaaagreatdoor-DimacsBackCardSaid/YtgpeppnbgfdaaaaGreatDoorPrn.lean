/-
  dimacs.write in a closed form; the contract of dimacs.Print. By an AI agent.
-/
import Derived.Test.YtgpeppnbgfdaaaaGreatDoorNetP
import Derived.Test.YtgpeppnbgfdaaaaGreatDoorBld
namespace Go.Proofs.YtgpeppnbgfdaaaaGreatDoor.R
open Go.RowKit Go.Lib Go.Proofs.TX Go.Proofs.YtgpeppnbgfdaaaaGreatDoor.H Go.Proofs.YtgpeppnbgfdaaaaGreatDoor.PL Go.Proofs.YtgpeppnbgfdaaaaGreatDoorW.PrintWords Go.Proofs.YtgpeppnbgfdaaaaGreatDoorW.PrintLast Go.Proofs.YtgpeppnbgfdaaaaGreatDoorW.PrintMore
set_option linter.unusedVariables false
set_option linter.unusedSimpArgs false

/-- words: a first one, and numbers behind it -/
def writeL (first : List UInt8) (l : List Int) : List UInt8 := first ++ l.flatMap (fun n => 32 :: itoa n)
theorem joinTail_flat : ∀ l : List Int, joinTail [32] (l.map itoa) = l.flatMap (fun n => 32 :: itoa n)
  | [] => rfl
  | n :: l => by
    have ih := joinTail_flat l
    simp only [joinTail, List.map_cons, List.flatten_cons, List.flatMap_cons] at ih ⊢
    rw [ih]
    rfl
def In64 (n : Int) : Prop := -9223372036854775808 ≤ n ∧ n ≤ 9223372036854775807
theorem lens_le : ∀ l : List Int, (∀ n ∈ l, In64 n) → lens (l.map itoa) ≤ 21 * l.length
  | [], _ => by simp [lens]
  | n :: l, h => by
    have ih := lens_le l (fun m hm => h m (List.mem_cons_of_mem _ hm))
    have hn := h n (List.mem_cons_self ..)
    have := itoa_length_le n hn.1 hn.2
    simp only [lens, List.map_cons, List.sum_cons, List.length_cons] at ih ⊢
    omega
theorem writeL_length (x : List UInt8) (l : List Int) (h : ∀ n ∈ l, In64 n) : (writeL x l).length ≤ x.length + 22 * l.length := by
  have h1 := lens_le l h
  have h2 := joinTail_length [32] (l.map itoa)
  rw [joinTail_flat, List.length_map, List.length_singleton] at h2
  unfold writeL
  rw [List.length_append, h2]
  omega
theorem join_words (a : ByteArray) (l : List Int) (ha : a.size ≤ 1000) (hl : l.length ≤ 100) (h : ∀ n ∈ l, In64 n) :
    text_Join.f (a :: l.map (fun n => mkB (itoa n))) = some (mkB (writeL a.data.toList l)) := by
  have e : (a :: l.map (fun n => mkB (itoa n))).map (·.data.toList) = a.data.toList :: l.map itoa := by
    simp only [List.map_cons, List.map_map]
    congr 1
  have hj : join (a.data.toList :: l.map itoa) [32] = writeL a.data.toList l := by
    rw [join_cons, joinTail_flat]
    rfl
  unfold text_Join.f
  rw [e, hj, if_pos (by simp only [List.length_cons, List.length_map]; omega), if_pos (by have := writeL_length a.data.toList l h; rw [size_eq] at ha; omega)]
theorem write_loop (a : ByteArray) (l : List Int) (ha : a.size ≤ 1000) (hl : l.length ≤ 100) (h : ∀ n ∈ l, In64 n) (d : Nat) : ∀ i : Nat, i + d = l.length →
    ∃ k, M.dimacs_write.l0 k (a :: (l.take i).map (fun n => mkB (itoa n))) l (l.length : Int) (i : Int) = some (mkB (writeL a.data.toList l)) := by
  induction d with
  | zero =>
    intro i hi
    refine ⟨1, ?_⟩
    simp only [M.dimacs_write.l0]
    rw [if_neg (by omega), List.take_of_length_le (by omega), join_words a l ha hl h]
    rfl
  | succ d ih =>
    intro i hi
    have hil : i < l.length := by omega
    obtain ⟨k, hk⟩ := ih (i + 1) (by omega)
    have hn := h l[i] (List.getElem_mem hil)
    have hrd : rd l (i : Int) = l[i] := by
      unfold rd
      rw [Int.toNat_natCast, List.getD_eq_getElem?_getD, List.getElem?_eq_getElem hil]
      rfl
    have ht : (l.take (i + 1)).map (fun n => mkB (itoa n)) = (l.take i).map (fun n => mkB (itoa n)) ++ [mkB (itoa l[i])] := by
      rw [List.take_succ_eq_append_getElem hil, List.map_append]
      rfl
    refine ⟨k + 1, ?_⟩
    simp only [M.dimacs_write.l0]
    rw [if_pos (by omega), if_pos (by omega), if_pos (by omega), hrd, write_some _ hn.1 hn.2, Option.bind_some, if_pos (by simp only [List.length_cons, List.length_map, List.length_take]; omega), List.cons_append, ← ht, wrapS (i := (i : Int) + 1) (by omega) (by omega)]
    exact hk
theorem write_ok (a : ByteArray) (l : List Int) (ha : a.size ≤ 1000) (hl : l.length ≤ 100) (h : ∀ n ∈ l, In64 n) : ∃ k, M.dimacs_write.f k a l = some (mkB (writeL a.data.toList l)) := by
  obtain ⟨k, hk⟩ := write_loop a l ha hl h l.length 0 (by omega)
  exact ⟨k, by unfold M.dimacs_write.f; simpa using hk⟩
theorem write.calls (a : ByteArray) (A : Option Addr) (c : Nat) (l : List Int) (n : Nat) (hn : l.length = n) (w : World) (ha : a.size ≤ 1000) (hl : l.length ≤ 100) (h : ∀ m ∈ l, In64 m) (hr : Kd.C (Kd.int .i64) w A l.length l) (hc : n ≤ c) (hG : LaidG w) :
    Calls Tryz.prog 17 #[.string a, .slice A n c] w fun e w' => e = .returned (.string (mkB (writeL a.data.toList l))) ∧ Below w.heap.size w w' := by
  subst hn
  obtain ⟨k, hk⟩ := write_ok a l ha hl h
  exact M.dimacs_write.calls k a A c l _ w hr hc hk hG

theorem write.callsL (a : ByteArray) (A : Option Addr) (c : Nat) (l : List Int) (n : Nat) (hn : l.length = n) (w : World) (ha : a.size ≤ 10) (hl : l.length ≤ 3) (h : ∀ m ∈ l, In64 m) (hr : Kd.C (Kd.int .i64) w A l.length l) (hc : n ≤ c) (hG : LaidG w) :
    Calls Tryz.prog 17 #[.string a, .slice A n c] w fun e w' => ∃ s, e = .returned (.string s) ∧ s.size ≤ 100 ∧ Hid (s = mkB (writeL a.data.toList l)) ∧ Below w.heap.size w w' := by
  refine (write.calls a A c l n hn w (by omega) (by omega) h hr hc hG).mono ?_
  rintro e w' ⟨rfl, hb⟩
  refine ⟨_, rfl, ?_, Lib.hid rfl, hb⟩
  rw [mkB_size]
  have h1 := writeL_length a.data.toList l h
  rw [size_eq] at ha
  omega
theorem mkB_app (a : List UInt8) (b : ByteArray) : mkB a ++ b = mkB (a ++ b.data.toList) := by
  apply ext_data
  rw [app_data, mkB_data, mkB_data]
theorem own_nil (w : World) (B : Nat) (e : TypeId) (z : Nat) : w.ownsRow B e z (.slice none 0 0) 0 [] := ⟨by simp, .inl ⟨rfl, rfl⟩⟩

/-- A new row of numbers. -/
theorem C_new_ints (w : World) (l : List Int) (t : TypeId) (hl : l.length ≤ 1000) : Kd.C (Kd.int .i64) (w.alloc (.cells (l.map (Value.int .i64)).toArray t)) (some ⟨w.heap.size, 0, none⟩) l.length l := by
  refine ⟨rfl, by omega, fun hp => ⟨_, rfl, fun j p hj => ?_⟩⟩
  obtain ⟨hjl, rfl⟩ := List.getElem?_eq_some_iff.1 hj
  refine ⟨[.int .i64 l[j]], rfl, rfl, fun i u hu => ?_⟩
  have h1 : i = 0 := by
    have := (List.getElem?_eq_some_iff.1 hu).1
    simp at this
    exact this
  subst h1
  simp only [List.getElem?_cons_zero, Option.some.injEq] at hu
  subst hu
  have : (⟨w.heap.size, 0, none⟩ : Addr).add (j * (Kd.int .i64).sz + 0) = ⟨w.heap.size, j, none⟩ := by
    show (⟨w.heap.size, 0, none⟩ : Addr).add (j * 1 + 0) = _
    unfold Addr.add
    split
    · rename_i h0
      have : j = 0 := by omega
      subst this
      rfl
    · simp
  rw [this]
  refine (blk_cell (blk_new w _) j).trans ?_
  simp [hjl]
theorem C_new_at (w : World) (l : List Int) (t : TypeId) (H : Nat) (hl : l.length ≤ 1000) (hH : w.heap.size = H) : Kd.C (Kd.int .i64) (w.alloc (.cells (l.map (Value.int .i64)).toArray t)) (some ⟨H, 0, none⟩) l.length l := by
  subst hH
  exact C_new_ints w l t hl
/-- A builder stands where its blocks stand. -/
theorem isBuilder_fr {T e : TypeId} {B b : Nat} {bs : List Value} {w w' : World} (h : Lib.IsBuilder T e B b bs w) (hf : Fr w w' (fun _ => False)) : Lib.IsBuilder T e B b bs w' := by
  have go : ∀ p, Lib.BuilderAt T e B b p bs w → Lib.BuilderAt T e B b p bs w' := by
    rintro p ⟨h1, v, h2, h3, h4⟩
    refine ⟨h1, v, hf.blk h2 (fun hk => hk), own_move h3 (fun k hk => ?_), h4⟩
    obtain ⟨cs, hcs⟩ := own_typed h3 k hk
    exact hf.block k (blk_lt hcs) (fun hk => hk)
  rcases h with h | h
  · exact .inl (go _ h)
  · exact .inr (go _ h)
theorem strCells_mk (l : List UInt8) : Lib.strCells (mkB l) = Lib.byteCells l := by
  unfold Lib.strCells Lib.byteCells
  rw [mkB_data]
theorem byteCells_append (a b : List UInt8) : Lib.byteCells a ++ Lib.byteCells b = Lib.byteCells (a ++ b) := by
  unfold Lib.byteCells
  rw [List.map_append]
theorem byteCells_length (a : List UInt8) : (Lib.byteCells a).length = a.length := by
  unfold Lib.byteCells
  rw [List.length_map]
theorem builder_write' (b : Nat) (l m : List UInt8) (w : World) (h : Lib.IsBuilder 48 5 b b (Lib.byteCells l) w) (hlen : l.length + m.length ≤ 140737488355328) (hBw : b ≤ w.heap.size) :
    Calls Tryz.prog 16 #[.pointer (some ⟨b, 0, none⟩), .string (mkB m)] w fun e w' => ∃ n : Int, e = .returned (.tuple #[.int .i64 n, .nilIface]) ∧ Lib.IsBuilder 48 5 b b (Lib.byteCells (l ++ m)) w' ∧ Below b w w' := by
  refine (builder_write b b (Lib.byteCells l) (mkB m) w h (by rw [byteCells_length, mkB_size]; exact hlen) hBw).mono ?_
  rintro e w' ⟨rfl, h1, h2⟩
  rw [strCells_mk, byteCells_append] at h1
  exact ⟨_, rfl, h1, h2⟩

/-- what is printed -/
def headB (no so si : Int) (n : Nat) : List UInt8 := writeL [112, 32, 109, 97, 120] [no, (n : Int)] ++ [10] ++ (writeL [110] [so] ++ [32, 115, 10] ++ writeL [110] [si] ++ [32, 116, 10])
def arcB (a : S44) : List UInt8 := writeL [97] [a.f0, a.f1, a.f2] ++ [10]
def printF (no so si : Int) (l : List S44) : List UInt8 := headB no so si l.length ++ l.flatMap arcB
theorem arcB_le {a : S44} (h : In64 a.f0 ∧ In64 a.f1 ∧ In64 a.f2) : (arcB a).length ≤ 100 := by
  have := writeL_length [97] [a.f0, a.f1, a.f2] (by
    intro n hn
    simp only [List.mem_cons, List.not_mem_nil, or_false] at hn
    rcases hn with rfl | rfl | rfl
    · exact h.1
    · exact h.2.1
    · exact h.2.2)
  unfold arcB
  simp only [List.length_append, List.length_cons, List.length_nil] at this ⊢
  omega
theorem arcs_le : ∀ l : List S44, (∀ a ∈ l, In64 a.f0 ∧ In64 a.f1 ∧ In64 a.f2) → (l.flatMap arcB).length ≤ 100 * l.length
  | [], _ => by simp
  | a :: l, h => by
    have h1 := arcB_le (h a (List.mem_cons_self ..))
    have h2 := arcs_le l (fun b hb => h b (List.mem_cons_of_mem _ hb))
    rw [List.flatMap_cons, List.length_append, List.length_cons]
    omega
theorem headB_le {no so si : Int} {n : Nat} (h0 : In64 no) (h1 : In64 so) (h2 : In64 si) (h3 : In64 (n : Int)) : (headB no so si n).length ≤ 300 := by
  have a1 := writeL_length [112, 32, 109, 97, 120] [no, (n : Int)] (by
    intro m hm
    simp only [List.mem_cons, List.not_mem_nil, or_false] at hm
    rcases hm with rfl | rfl
    · exact h0
    · exact h3)
  have a2 := writeL_length [110] [so] (by
    intro m hm
    rw [List.mem_singleton.1 hm]
    exact h1)
  have a3 := writeL_length [110] [si] (by
    intro m hm
    rw [List.mem_singleton.1 hm]
    exact h2)
  unfold headB
  simp only [List.length_append, List.length_cons, List.length_nil] at a1 a2 a3 ⊢
  omega
def dimacs_Print.f (no so si : Int) (l : List S44) : Option (ByteArray × Int) :=
  if (l.all fun a => decide (a.f2 ≤ 9223372036854775807)) = true then
    (net_Check.f no so si l).bind fun e => if e = 0 then some (mkB (printF no so si l), 0) else some (ByteArray.empty, 1)
  else none
theorem checkArcs_in (no : Int) (hno : no ≤ 500) : ∀ (l : List S44) (sum : Int), checkArcs no sum l = some 0 → ∀ a ∈ l, 1 ≤ a.f0 ∧ a.f0 ≤ no ∧ 1 ≤ a.f1 ∧ a.f1 ≤ no ∧ 0 ≤ a.f2
  | [], _, _, a, ha => by cases ha
  | x :: l, sum, h, a, ha => by
    simp only [checkArcs] at h
    obtain ⟨p, _, h⟩ := Option.bind_eq_some_iff.1 h
    split at h
    case isFalse => exact absurd h (by decide)
    case isTrue h1 =>
    split at h
    case isFalse => exact absurd h (by decide)
    case isTrue h2 =>
    split at h
    case isTrue => exact absurd h (by decide)
    case isFalse h3 =>
    split at h
    case isFalse => exact absurd h (by decide)
    case isTrue h4 =>
    split at h
    case isTrue => exact absurd h (by decide)
    case isFalse h5 =>
    rcases List.mem_cons.1 ha with rfl | ha
    · have e1 := (there_iff _ _).1 h1
      have e2 := (there_iff _ _).1 h2
      exact ⟨e1.1, e1.2, e2.1, e2.2, by omega⟩
    · exact checkArcs_in no hno l _ h a ha
theorem check_in {no so si : Int} {l : List S44} (h : net_Check.f no so si l = some 0) : 2 ≤ no ∧ no ≤ 500 ∧ 1 ≤ so ∧ so ≤ no ∧ 1 ≤ si ∧ si ≤ no ∧ so ≠ si ∧ l.length ≤ 2000 ∧ checkArcs no 0 l = some 0 := by
  unfold net_Check.f at h
  split at h
  case isTrue => exact absurd h (by decide)
  case isFalse h1 =>
  split at h
  case isTrue => exact absurd h (by decide)
  case isFalse h2 =>
  split at h
  case isFalse => exact absurd h (by decide)
  case isTrue h3 =>
  split at h
  case isFalse => exact absurd h (by decide)
  case isTrue h4 =>
  split at h
  case isTrue => exact absurd h (by decide)
  case isFalse h5 =>
  split at h
  case isTrue => exact absurd h (by decide)
  case isFalse h6 =>
  have e1 := (there_iff _ _).1 h3
  have e2 := (there_iff _ _).1 h4
  exact ⟨by omega, by omega, e1.1, e1.2, e2.1, e2.2, h5, by omega, h⟩

set_option maxRecDepth 100000 in
set_option maxHeartbeats 4000000 in
theorem dimacs_Print.calls (no so si : Int) (A : Option Addr) (c : Nat) (l : List S44) (r1 : ByteArray) (r2 : Int) (w : World) (hr : Kd.C k44 w A l.length l) (hc : l.length ≤ c) (h : dimacs_Print.f no so si l = some (r1, r2)) (hG : LaidG w) :
    Calls Tryz.prog 8 #[.agg #[.int .i64 no, .int .i64 so, .int .i64 si, .slice A l.length c]] w fun e w' => e = .returned (.tuple #[.string r1, .int .i64 r2]) ∧ Below w.heap.size w w' := by
  unfold dimacs_Print.f at h
  split at h
  case isFalse => cases h
  case isTrue hall =>
  obtain ⟨e0, hK, h⟩ := Option.bind_eq_some_iff.1 h
  by_cases he : e0 = 0
  · subst he
    rw [if_pos rfl] at h
    simp only [Option.some.injEq, Prod.mk.injEq] at h
    obtain ⟨rfl, rfl⟩ := h
    obtain ⟨q1, q2, q3, q4, q5, q6, q7, q8, q9⟩ := check_in hK
    have hin := checkArcs_in no q2 l 0 q9
    have HIN : ∀ a ∈ l, In64 a.f0 ∧ In64 a.f1 ∧ In64 a.f2 := fun a ha => by
      have h1 := hin a ha
      have h2 := of_decide_eq_true (List.all_eq_true.1 hall a ha)
      unfold In64
      omega
    have HIN' := Lib.hid HIN
    clear hin q9 hall HIN q7
    go_enter Tryz.func8, Tryz.ntmps8
    go_wp2_with (first
      | ((with_reducible refine gate_dst (N := 1) rfl ?_); refine box_event ?hg (N := 1) ?hd (cs := #[.int .i64 no, .int .i64 so, .int .i64 si, .slice A l.length c]) (t := 24) ?hr ?_; (case hd => rfl); (case hg => rfl); (case hr => first | (go_simp; done) | (go_simp; rfl)); intro g hq0 w1 hx_g hb0; have hq_g := Aside0.mk hq0; clear hq0; have hb_g := Aside0.mk hb0; clear hb0; (have hz0 : w1.cell? ⟨g, 0, none⟩ = some (.int .i64 no) := (blk_cell hx_g 0).trans rfl; have hz1 : w1.cell? ⟨g, 1, none⟩ = some (.int .i64 so) := (blk_cell hx_g 1).trans rfl; have hz2 : w1.cell? ⟨g, 2, none⟩ = some (.int .i64 si) := (blk_cell hx_g 2).trans rfl; have hz3 : w1.cell? ⟨g, 3, none⟩ = some (.slice A l.length c) := (blk_cell hx_g 3).trans rfl))
      | (go_at_call 14; go_loud (refine (net_Check.calls no so si A c l _ _ (Kd.C_below hr hb_g.out) hc hK).mono ?_; rintro e w2 ⟨rfl, hb20⟩; have hb2 := Aside0.mk hb20; clear hb20))
      | ((with_reducible refine gate_dst (N := 4) rfl ?_); refine box_event ?hg (N := 4) ?hd (cs := #[.pointer none, .slice none 0 0]) (t := 48) ?hr ?_; (case hd => rfl); (case hg => rfl); (case hr => first | (go_simp; done) | (go_simp; rfl)); intro gb hq0 w3 hx_gb hb0; have hq_gb := Aside0.mk hq0; clear hq0; have hb_gb := Aside0.mk hb0; clear hb0; (have hz2s : w1.heap.size ≤ w2.heap.size := hb2.out.size; have hz1s : w.heap.size ≤ w1.heap.size := hb_g.out.size; have hgw := (hb_gb.out.block g (Nat.lt_of_lt_of_le (blk_lt hx_g) hz2s)).trans ((hb2.out.block g (blk_lt hx_g)).trans hx_g); have hz0 : w3.cell? ⟨g, 0, none⟩ = some (.int .i64 no) := (blk_cell hgw 0).trans rfl; have hz1 : w3.cell? ⟨g, 1, none⟩ = some (.int .i64 so) := (blk_cell hgw 1).trans rfl; have hz2 : w3.cell? ⟨g, 2, none⟩ = some (.int .i64 si) := (blk_cell hgw 2).trans rfl; have hz3 : w3.cell? ⟨g, 3, none⟩ = some (.slice A l.length c) := (blk_cell hgw 3).trans rfl; have BW3 := Aside0.mk (hb_g.out.trans ((hb2.out.trans (hb_gb.out.mono hz2s)).mono hz1s)); have hI3 := Aside0.mk ((.inl ⟨Nat.le_refl _, _, hx_gb, own_nil _ _ _ _, by simp [Value.ownBlock]⟩ : Lib.IsBuilder 48 5 gb gb (Lib.byteCells []) w3)); have hgb : w.heap.size ≤ gb := (by have := hq_gb.out; omega)))
      | (go_at_call 17; go_loud (refine (write.callsL ⟨#[112, 32, 109, 97, 120]⟩ _ _ [no, (l.length : Int)] 2 rfl _ (by decide) (by simp) (by unfold In64; simp; omega) (C_new_ints w3 [no, (l.length : Int)] _ (by simp)) (by simp) (hG.below (below_alloc BW3.out _))).mono ?_; rintro e w4 ⟨s4, rfl, hs4, hS4, hb40⟩; have F4 := Aside0.mk ((Fr.refl w3 (fun _ => False)).alloc _ |>.below hb40); have hs4b : (9223372036854775807 < s4.size + 1) = False := eq_false (by omega); clear hb40))
      | (go_at_call 16; go_loud (rw [show s4 ++ (⟨#[10]⟩ : ByteArray) = mkB (writeL [112, 32, 109, 97, 120] [no, (l.length : Int)] ++ [10]) from by rw [hS4.out, mkB_app]]; refine (builder_write' gb [] (writeL [112, 32, 109, 97, 120] [no, (l.length : Int)] ++ [10]) w4 (isBuilder_fr hI3.out F4.out) (by have := writeL_length [112, 32, 109, 97, 120] [no, (l.length : Int)] (by unfold In64; simp; omega); simp only [List.length_append, List.length_cons, List.length_nil] at this ⊢; omega) (Nat.le_trans (Nat.le_of_lt (blk_lt hx_gb)) F4.out.size)).mono ?_; rintro e w5 ⟨n5, rfl, hI50, hb50⟩; have hI5 := Aside0.mk hI50; have hb5 := Aside0.mk hb50; clear hI50 hb50)))
    have hlt3 : g < gb := by
      have := blk_lt hx_g
      have := hq_gb.out
      omega
    have hgb3 : gb < w3.heap.size := blk_lt hx_gb
    have F35 : Below gb w3 w5 := (F4.out.toBelow (B := gb) (fun _ hk => hk.elim) (Nat.le_of_lt hgb3)).trans hb5.out
    have hgw5 := (F35.block g hlt3).trans hgw
    have hs35 : w3.heap.size ≤ w5.heap.size := F35.size
    have hlt5 : g < w5.heap.size := by omega
    have hgb5 : gb ≤ w5.heap.size := by omega
    have BW5 : Aside0 (Below w.heap.size w w5) := ⟨BW3.out.trans (F35.mono hgb)⟩
    clear hz0 hz1 hz2 hz3
    have hz1 : w5.cell? ⟨g, 1, none⟩ = some (.int .i64 so) := (blk_cell hgw5 1).trans rfl
    have hz2 : w5.cell? ⟨g, 2, none⟩ = some (.int .i64 si) := (blk_cell hgw5 2).trans rfl
    have hgw5a := Aside0.mk hgw5
    have hx_gb3 := Aside0.mk hx_gb
    have hx_g1 := Aside0.mk hx_g
    have hgw3 := Aside0.mk hgw
    clear hx_gb hx_g hgw hgw5
    go_region_held3 (fun w' => w'.cell? ⟨g, 1, none⟩ = some (.int .i64 so) ∧ w'.cell? ⟨g, 2, none⟩ = some (.int .i64 si)) (first | (exact ⟨(blk_cell ((hb8.out.block g hlt3).trans ((F7.out.block g hlt5).trans hgw5a.out)) 1).trans rfl, (blk_cell ((hb8.out.block g hlt3).trans ((F7.out.block g hlt5).trans hgw5a.out)) 2).trans rfl⟩) | (refine ⟨(blk_cell ((((by repeat (first | (with_reducible exact Below.refl _ _) | (with_reducible exact F6.out) | (with_reducible exact F7.out) | apply below_alloc | apply below_drew1 | apply pw_below_drewN)) : Below w5.heap.size w5 _).block g hlt5).trans hgw5a.out) 1).trans rfl, (blk_cell ((((by repeat (first | (with_reducible exact Below.refl _ _) | (with_reducible exact F6.out) | (with_reducible exact F7.out) | apply below_alloc | apply below_drew1 | apply pw_below_drewN)) : Below w5.heap.size w5 _).block g hlt5).trans hgw5a.out) 2).trans rfl⟩)) (first
      | (go_at_call 17; refine (write.callsL ⟨#[110]⟩ _ _ [so] 1 rfl _ (by decide) (by simp) (by unfold In64; simp; omega) (by first | exact (C_new_at _ [so] _ _ (by simp) (by simp)) | exact Kd.C_alloc (C_new_at _ [so] _ _ (by simp) (by simp)) _ | exact Kd.C_drew (C_new_at _ [so] _ _ (by simp) (by simp)) | exact Kd.C_drew (Kd.C_alloc (C_new_at _ [so] _ _ (by simp) (by simp)) _)) (by simp) (hG.below (below_step BW5.out (by repeat (first | (with_reducible exact Below.refl _ _) | (with_reducible exact F6.out) | (with_reducible exact F7.out) | apply below_alloc | apply below_drew1 | apply pw_below_drewN))))).mono ?_; rintro e w6 ⟨s6, rfl, hs6, hS6, hb60⟩; have F6 : Aside0 (Below w5.heap.size w5 w6) := ⟨below_step (by repeat (first | (with_reducible exact Below.refl _ _) | (with_reducible exact F6.out) | (with_reducible exact F7.out) | apply below_alloc | apply below_drew1 | apply pw_below_drewN)) hb60⟩; have hb6 := Aside0.mk hb60; have hs6b : (9223372036854775807 < s6.size + 3) = False := eq_false (by omega); clear hb60)
      | (go_at_call 17; refine (write.callsL ⟨#[110]⟩ _ _ [si] 1 rfl _ (by decide) (by simp) (by unfold In64; simp; omega) (by first | exact (C_new_at _ [si] _ _ (by simp) (by simp)) | exact Kd.C_drew (C_new_at _ [si] _ _ (by simp) (by simp)) | exact Kd.C_below (C_new_at _ [si] _ _ (by simp) (by simp)) hb6.out | exact Kd.C_below (Kd.C_alloc (C_new_at _ [si] _ _ (by simp) (by simp)) _) hb6.out | exact Kd.C_below (Kd.C_drew (C_new_at _ [si] _ _ (by simp) (by simp))) hb6.out | exact Kd.C_below (Kd.C_drew (Kd.C_alloc (C_new_at _ [si] _ _ (by simp) (by simp)) _)) hb6.out) (by simp) (hG.below (below_step BW5.out (by repeat (first | (with_reducible exact Below.refl _ _) | (with_reducible exact F6.out) | (with_reducible exact F7.out) | apply below_alloc | apply below_drew1 | apply pw_below_drewN))))).mono ?_; rintro e w7 ⟨s7, rfl, hs7, hS7, hb70⟩; have F7 : Aside0 (Below w5.heap.size w5 w7) := ⟨below_step (by repeat (first | (with_reducible exact Below.refl _ _) | (with_reducible exact F6.out) | (with_reducible exact F7.out) | apply below_alloc | apply below_drew1 | apply pw_below_drewN)) hb70⟩; have hs7b : (9223372036854775807 < s6.size + 3 + s7.size) = False := eq_false (by omega); have hs7c : (9223372036854775807 < s6.size + 3 + s7.size + 3) = False := eq_false (by omega); clear hb70)
      | (go_at_call 16; rw [show ((s6 ++ (⟨#[32, 115, 10]⟩ : ByteArray)) ++ s7) ++ (⟨#[32, 116, 10]⟩ : ByteArray) = mkB (writeL [110] [so] ++ [32, 115, 10] ++ writeL [110] [si] ++ [32, 116, 10]) from by rw [hS6.out, hS7.out, mkB_app, mkB_app, mkB_app, mkB_data]]; refine (builder_write' gb (writeL [112, 32, 109, 97, 120] [no, (l.length : Int)] ++ [10]) (writeL [110] [so] ++ [32, 115, 10] ++ writeL [110] [si] ++ [32, 116, 10]) w7 (isBuilder_fr hI5.out (Fr.of_below F7.out _)) (by have a1 := writeL_length [112, 32, 109, 97, 120] [no, (l.length : Int)] (by unfold In64; simp; omega); have a2 := writeL_length [110] [so] (by unfold In64; simp; omega); have a3 := writeL_length [110] [si] (by unfold In64; simp; omega); simp only [List.length_append, List.length_cons, List.length_nil] at a1 a2 a3 ⊢; omega) (Nat.le_trans hgb5 F7.out.size)).mono ?_; rintro e w8 ⟨n8, rfl, hI80, hb80⟩; have hI8 := Aside0.mk hI80; have hb8 := Aside0.mk hb80; clear hI80 hb80))
    all_goals
      have hgw8 := (hb8.out.block g hlt3).trans ((F7.out.block g hlt5).trans hgw5a.out)
      have hz3 : w8.cell? ⟨g, 3, none⟩ = some (.slice A l.length c) := (blk_cell hgw8 3).trans rfl
      have B38 : Aside0 (Below gb w3 w8) := ⟨F35.trans ((F7.out.mono hgb5).trans hb8.out)⟩
      have hgw8a := Aside0.mk hgw8
      have hH : Aside0 (headB no so si l.length = writeL [112, 32, 109, 97, 120] [no, (l.length : Int)] ++ [10] ++ (writeL [110] [so] ++ [32, 115, 10] ++ writeL [110] [si] ++ [32, 116, 10])) := ⟨rfl⟩
      have hI8' := hI8.out
      rw [← hH.out] at hI8'
      have hIb := Aside0.mk hI8'
      clear hI8' hI8 hgw8 hz1 hz2 hI3 hI5
      have hHl := headB_le (no := no) (so := so) (si := si) (n := l.length) (by unfold In64; omega) (by unfold In64; omega) (by unfold In64; omega) (by unfold In64; omega)
      have HPF : Aside0 (printF no so si l = headB no so si l.length ++ l.flatMap arcB) := ⟨rfl⟩
      generalize headB no so si l.length = H at *
      go_wp2_with fail
      go_loopw [34] (fun i wr => ∃ k : Nat, k ≤ l.length ∧ i = .int .i64 k ∧ Aside0 (Lib.IsBuilder 48 5 gb gb (Lib.byteCells (H ++ (l.take k).flatMap arcB)) wr) ∧ Aside0 (Below gb w3 wr)) (fun i _ => l.length - (intOf i).toNat)
      case atStart => exact ⟨0, Nat.zero_le _, rfl, by simpa using hIb, B38⟩
      case round =>
        obtain ⟨k, hk, rfl, HI, HB⟩ := hrel
        have hgbr : gb ≤ wr.heap.size := Nat.le_trans (Nat.le_of_lt hgb3) HB.out.size
        have BWr : Aside0 (Below w.heap.size w wr) := ⟨BW3.out.trans (HB.out.mono hgb)⟩
        by_cases hlt : k < l.length
        · obtain ⟨ad, rfl, h0, h1, h2⟩ := arc_cells (Kd.C_below hr BWr.out) k hlt
          have hin := HIN'.out l[k] (List.getElem_mem hlt)
          have htk : (l.take (k + 1)).flatMap arcB = (l.take k).flatMap arcB ++ arcB l[k] := by
            rw [List.take_succ_eq_append_getElem hlt, List.flatMap_append]
            simp
          have hTk := Lib.hid htk
          have hlen := arcs_le (l.take k) (fun a ha => HIN'.out a (List.mem_of_mem_take ha))
          rw [List.length_take] at hlen
          generalize l[k] = x at *
          obtain ⟨f, t, cp⟩ := x
          simp only at h0 h1 h2 hin
          have hin3 : ∀ n ∈ [f, t, cp], In64 n := by
            intro n hn
            simp only [List.mem_cons, List.not_mem_nil, or_false] at hn
            rcases hn with rfl | rfl | rfl
            · exact hin.1
            · exact hin.2.1
            · exact hin.2.2
          have hal := arcB_le (a := ⟨f, t, cp⟩) hin
          have hin4 := Lib.hid hin3
          have hkl : decide (k < l.length) = true := decide_eq_true hlt
          clear htk hin hin3 hz3
          go_wp2_with (first
            | ((with_reducible refine gate_dst (N := 6) rfl ?_); refine box_event ?hg (N := 6) ?hd (cs := #[.int .i64 0, .int .i64 0, .int .i64 0]) (t := 44) ?hr ?_; (case hd => rfl); (case hg => rfl); (case hr => first | (go_simp; done) | (go_simp; rfl)); intro ga hq0 w9 hx_ga hb0; have hq_ga := Aside0.mk hq0; clear hq0; have hb_ga := Aside0.mk hb0; clear hb0; skip)
            | ((with_reducible refine gate_store (t := 44) (p := 6) rfl ?_); go_loud (refine cells_event (by rfl) (by rfl) (by rfl) 0 #[.int .i64 f, .int .i64 t, .int .i64 cp] [.int .i64 f, .int .i64 t, .int .i64 cp] hx_ga (by rfl) (by rfl) (by kernel_rfl) (by simp [Value.oneCell']) (by simp) (by rfl) ?_; intro wa hx_wa hg0; have hg_wa := Aside0.mk hg0; clear hg0; (have m0 : wa.cell? ⟨ga, 0, none⟩ = some (.int .i64 f) := (blk_cell hx_wa 0).trans rfl; have m1 : wa.cell? ⟨ga, 1, none⟩ = some (.int .i64 t) := (blk_cell hx_wa 1).trans rfl; have m2 : wa.cell? ⟨ga, 2, none⟩ = some (.int .i64 cp) := (blk_cell hx_wa 2).trans rfl; have Fa : Aside0 (Fr wr wa (fun _ => False)) := ⟨(Fr.of_below hb_ga.out _).grown hg_wa.out (fun k_ e_ => by injection e_ with e_; right; have := hq_ga.out; omega)⟩)))
            | (go_at_call 17; go_loud (refine (write.callsL ⟨#[97]⟩ _ _ [f, t, cp] 3 rfl _ (by decide) (by simp) hin4.out (C_new_at wa [f, t, cp] _ _ (by simp) rfl) (by simp) (hG.below (below_alloc (BWr.out.trans (Fa.out.toBelow (fun _ hk => hk.elim) BWr.out.size)) _))).mono ?_; rintro e wb ⟨sb, rfl, hsb, hSb, hbb0⟩; have Fb : Aside0 (Fr wr wb (fun _ => False)) := ⟨(Fa.out.alloc _).below hbb0⟩; have hsbb : (9223372036854775807 < sb.size + 1) = False := eq_false (by omega); clear hbb0))
            | (go_at_call 16; go_loud (rw [show sb ++ (⟨#[10]⟩ : ByteArray) = mkB (arcB ⟨f, t, cp⟩) from by rw [hSb.out, mkB_app]; rfl]; refine (builder_write' gb (H ++ (l.take k).flatMap arcB) (arcB ⟨f, t, cp⟩) wb (isBuilder_fr HI.out Fb.out) (by rw [List.length_append]; omega) (Nat.le_trans hgbr Fb.out.size)).mono ?_; rintro e wc ⟨nc, rfl, hIc0, hbc0⟩; have hIc := Aside0.mk hIc0; have hbc := Aside0.mk hbc0; clear hIc0 hbc0)))
          go_roundw
          case rel => exact ⟨k + 1, by omega, by go_num, ⟨by rw [hTk.out, ← List.append_assoc]; exact hIc.out⟩, ⟨HB.out.trans ((Fb.out.toBelow (fun _ hk => hk.elim) hgbr).trans hbc.out)⟩⟩
          case measure => simp [intOf]; omega
        · obtain rfl : k = l.length := by omega
          have hkl : decide (l.length < l.length) = false := decide_eq_false (Nat.lt_irrefl _)
          have hIe := HI.out
          rw [List.take_of_length_le (Nat.le_refl _)] at hIe
          have hIf := Aside0.mk hIe
          clear hIe
          go_wp2_with (go_at_call 18; refine (builder_string gb gb (H ++ l.flatMap arcB) wr hIf.out hgbr).mono ?_; rintro e wd ⟨rfl, hbd0⟩; have hbd := Aside0.mk hbd0; clear hbd0)
          go_ret2
          exact ⟨by rw [show mkB (printF no so si l) = ⟨(H ++ l.flatMap arcB).toArray⟩ from by rw [HPF.out]; rfl]; rfl, BWr.out.trans (hbd.out.mono hgb)⟩
  · rw [if_neg he] at h
    simp only [Option.some.injEq, Prod.mk.injEq] at h
    obtain ⟨rfl, rfl⟩ := h
    have d1 : (e0 == 0) = false := beq_eq_false_iff_ne.mpr he
    have d2 : (e0 != 0) = true := bne_iff_ne.mpr he
    clear he
    go_enter Tryz.func8, Tryz.ntmps8
    go_wp2_with (first
      | ((with_reducible refine gate_dst (N := 1) rfl ?_); refine box_event ?hg (N := 1) ?hd (cs := #[.int .i64 no, .int .i64 so, .int .i64 si, .slice A l.length c]) (t := 24) ?hr ?_; (case hd => rfl); (case hg => rfl); (case hr => first | (go_simp; done) | (go_simp; rfl)); intro g hq0 w1 hx_g hb0; have hq_g := Aside0.mk hq0; clear hq0; have hb_g := Aside0.mk hb0; clear hb0; (have hz0 : w1.cell? ⟨g, 0, none⟩ = some (.int .i64 no) := (blk_cell hx_g 0).trans rfl; have hz1 : w1.cell? ⟨g, 1, none⟩ = some (.int .i64 so) := (blk_cell hx_g 1).trans rfl; have hz2 : w1.cell? ⟨g, 2, none⟩ = some (.int .i64 si) := (blk_cell hx_g 2).trans rfl; have hz3 : w1.cell? ⟨g, 3, none⟩ = some (.slice A l.length c) := (blk_cell hx_g 3).trans rfl))
      | (go_at_call 14; go_loud (refine (net_Check.calls no so si A c l _ _ (Kd.C_below hr hb_g.out) hc hK).mono ?_; rintro e w2 ⟨rfl, hb20⟩; have hb2 := Aside0.mk hb20; clear hb20)))
    go_ret2
    exact ⟨rfl, hb_g.out.trans (hb2.out.mono hb_g.out.size)⟩
end Go.Proofs.YtgpeppnbgfdaaaaGreatDoor.R
