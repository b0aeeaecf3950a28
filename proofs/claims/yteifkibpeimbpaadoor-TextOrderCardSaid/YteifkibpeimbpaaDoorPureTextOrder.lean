/-
  TextOrder, plain: a line's words stand in it, in order, with blanks alone between; there are as many lines as ends, and one more, if something is behind the last one. By an AI agent.
-/
import Derived.Test.YteifkibpeimbpaaDoorQx3
import Derived.Test.YteifkibpeimbpaaDoorPlain
namespace Go.Proofs.YteifkibpeimbpaaDoor.Pure
open Go.RowKit Go.Lib Go.Proofs.TX Go.Proofs.YteifkibpeimbpaaDoor.Q Go.Proofs.YteifkibpeimbpaaDoor.H Go.Proofs.YteifkibpeimbpaaDoor.PL Go.Proofs.YteifkibpeimbpaaDoorW.PrintWords Go.Proofs.YteifkibpeimbpaaDoorW.PrintLast

theorem shown_ok : racewaylaw2_shown.f = some true := by
  unfold racewaylaw2_shown.f
  rw [num_some _ (by decide), Option.bind_some, show numL (⟨#[45, 48, 48, 55]⟩ : ByteArray).data.toList = (-7, 0) by decide +kernel]
  rfl
def nb (c : UInt8) : Bool := !blankC c
theorem wordsGo_take : ∀ (r cur : List UInt8), cur ≠ [] → wordsGo cur r = (cur ++ r.takeWhile nb) :: wordsGo [] (r.dropWhile nb)
  | [], cur, h => by simp [wordsGo, h]
  | d :: q, cur, h => by
    cases hd : blankC d with
    | true =>
      rw [List.takeWhile_cons, List.dropWhile_cons]
      have : nb d = false := by simp [nb, hd]
      rw [this]
      simp [wordsGo, hd, h]
    | false =>
      rw [List.takeWhile_cons, List.dropWhile_cons]
      have : nb d = true := by simp [nb, hd]
      rw [this]
      simp only [if_true]
      rw [wordsGo, hd, if_neg (by simp), wordsGo_take q (cur ++ [d]) (by simp)]
      simp
theorem words_blank (c : UInt8) (r : List UInt8) (h : blankC c = true) : wordsL (c :: r) = wordsL r := by
  unfold wordsL; rw [wordsGo, h, if_pos rfl]; simp
theorem words_word (c : UInt8) (r : List UInt8) (h : blankC c = false) : wordsL (c :: r) = ((c :: r).takeWhile nb) :: wordsL ((c :: r).dropWhile nb) := by
  have hn : nb c = true := by simp [nb, h]
  unfold wordsL
  rw [wordsGo, h, if_neg (by simp), List.nil_append, wordsGo_take r [c] (by simp), List.takeWhile_cons, List.dropWhile_cons, hn]
  simp

theorem unlines_append (a b : List (List UInt8)) : unlines (a ++ b) = unlines a ++ unlines b := by simp [unlines]
theorem l4_ok (s : ByteArray) (hs : s.size ≤ 2000) (e m : Int) (hem : wrap64 (e + m) = ((linesL s.data.toList).length : Int)) (d : Nat) : ∀ (j : Nat) (x : ByteArray), j + d = (linesL s.data.toList).length → x.data.toList = unlines ((linesL s.data.toList).take j) →
    Ev (fun k => racewaylaw2_TextOrder.l4 k s e m (linesB s) x (j : Int)) true := by
  have hlen := linesB_length s
  have hall := unlines_lines s.data.toList
  have hle : (unlines (linesL s.data.toList)).length ≤ 2001 := by
    rw [hall, List.length_append, ← size_eq]
    split <;> simp <;> omega
  have hpre : ∀ j, (unlines ((linesL s.data.toList).take j)).length ≤ 2001 := by
    intro j
    have h := congrArg List.length (unlines_append ((linesL s.data.toList).take j) ((linesL s.data.toList).drop j))
    rw [List.take_append_drop, List.length_append] at h
    omega
  induction d with
  | zero =>
    intro j x hj hx
    refine Ev.step (f := fun _ => some true) (fun k => ?_) (Ev.now true)
    simp only [racewaylaw2_TextOrder.l4]
    rw [if_neg (by omega), if_pos (by rw [hem, hlen])]
    rw [List.take_of_length_le (by omega), hall] at hx
    rw [toList_data, toList_data, toList_data, hx]
    by_cases hc : s.data.toList.getLast? = none ∨ s.data.toList.getLast? = some 10
    · rw [if_pos hc, List.append_nil, if_pos rfl]
    · rw [if_neg hc, if_neg (by simp), if_pos (by omega), app_data]
      simp
  | succ d ih =>
    intro j x hj hx
    have hlt : j < (linesB s).length := by omega
    have hltL : j < (linesL s.data.toList).length := by omega
    have hg := linesB_get s j hlt hltL
    have hbl := linesB_le s
    have hr := rd_get (linesB s) j hlt
    rw [hg] at hr
    have htk : unlines ((linesL s.data.toList).take (j + 1)) = unlines ((linesL s.data.toList).take j) ++ ((linesL s.data.toList)[j] ++ [10]) := by
      rw [List.take_succ_eq_append_getElem hltL, unlines_append]
      simp [unlines]
    have b1 := hpre (j + 1)
    rw [htk, ← hx, List.length_append, List.length_append, ← size_eq] at b1
    have hz : (mkB ((linesL s.data.toList)[j])).size = ((linesL s.data.toList)[j]).length := mkB_size _
    refine Ev.step (fun k => ?_) (ih (j + 1) ((x ++ mkB ((linesL s.data.toList)[j])) ++ (⟨#[10]⟩ : ByteArray)) (by omega) ?_)
    · simp only [racewaylaw2_TextOrder.l4]
      rw [hr, if_pos (by omega), if_pos (by omega), if_pos (by omega), if_pos (by rw [ByteArray.size_append]; omega), wrapS (by omega) (by omega)]
      rfl
    · rw [htk, ← hx, app_data, app_data, mkB_data, List.append_assoc]
theorem l3_ok (s : ByteArray) (hs : s.size ≤ 2000) (d : Nat) : ∀ j : Nat, j + d = s.size → Ev (fun k => racewaylaw2_TextOrder.l3 k s (((s.data.toList.take j).count 10 : Nat) : Int) (j : Int)) true := by
  have hl : s.data.toList.length = s.size := (size_eq s).symm
  have hcl := linesL_length s.data.toList
  have hcle := List.count_le_length (a := (10 : UInt8)) (l := s.data.toList)
  have h8 : ∀ m : Int, m = (if s.data.toList.getLast? = none ∨ s.data.toList.getLast? = some 10 then 0 else 1) → Ev (fun k => racewaylaw2_TextOrder.j8 k s ((s.data.toList.count 10 : Nat) : Int) m) true := by
    intro m hm
    refine Ev.step (fun k => ?_) (l4_ok s hs ((s.data.toList.count 10 : Nat) : Int) m ?_ (linesL s.data.toList).length 0 (⟨#[]⟩ : ByteArray) (by omega) rfl)
    · simp only [racewaylaw2_TextOrder.j8]
      rw [lines_some s (by omega), Option.bind_some]
      rfl
    · rw [hm, hcl]
      split <;> rw [wrapS (by omega) (by omega)] <;> omega
  induction d with
  | zero =>
    intro j hj
    rw [List.take_of_length_le (by omega)]
    by_cases h0 : s.data.toList = []
    · refine Ev.step (f := fun k => racewaylaw2_TextOrder.j7 k s ((s.data.toList.count 10 : Nat) : Int) 0 false) (fun k => ?_) (Ev.step (fun k => ?_) (h8 0 (by rw [h0]; rfl)))
      · simp only [racewaylaw2_TextOrder.l3]
        rw [if_neg (by omega), if_pos ((toList_eq_nil s).2 h0)]
      · simp only [racewaylaw2_TextOrder.j7]
        rw [if_neg (by simp)]
    · have hpos : 0 < s.data.toList.length := List.length_pos_iff.2 h0
      have hlast := last_get s.data.toList s.size hl (by omega)
      have hb := bt_get s (s.size - 1) (by omega)
      have hw : wrap64 ((s.size : Int) - 1) = ((s.size - 1 : Nat) : Int) := by rw [wrapS (by omega) (by omega)]; omega
      rw [hlast] at h8
      refine Ev.step (f := fun k => racewaylaw2_TextOrder.j7 k s ((s.data.toList.count 10 : Nat) : Int) 0 (bt s ((s.size - 1 : Nat) : Int) != 10)) (fun k => ?_) ?_
      · simp only [racewaylaw2_TextOrder.l3]
        rw [if_neg (by omega), if_neg (fun e => h0 ((toList_eq_nil s).1 e)), hw, if_pos (by omega), if_pos (by omega)]
      · by_cases h10 : s.data.toList[s.size - 1]'(by omega) = 10
        · have : (bt s ((s.size - 1 : Nat) : Int) != 10) = false := by rw [hb, h10]; rfl
          rw [this]
          refine Ev.step (fun k => ?_) (h8 0 (by rw [h10, if_pos (.inr rfl)]))
          simp only [racewaylaw2_TextOrder.j7]
          rw [if_neg (by simp)]
        · have : (bt s ((s.size - 1 : Nat) : Int) != 10) = true := by
            rw [hb, bne_iff_ne]
            intro e
            exact h10 ((byte_eq _ 10).1 e)
          rw [this]
          refine Ev.step (fun k => ?_) (h8 1 (by rw [if_neg (by simpa using h10)]))
          simp only [racewaylaw2_TextOrder.j7]
          rw [if_pos trivial]
  | succ d ih =>
    intro j hj
    have hlt : j < s.data.toList.length := by omega
    have hb := bt_get s j hlt
    have hcj := List.count_le_length (a := (10 : UInt8)) (l := s.data.toList.take j)
    rw [List.length_take] at hcj
    refine Ev.step (fun k => ?_) (ih (j + 1) (by omega))
    simp only [racewaylaw2_TextOrder.l3]
    rw [if_pos (by omega), if_pos (by omega), hb, wrapS (i := (j : Int) + 1) (by omega) (by omega), List.take_succ_eq_append_getElem hlt, List.count_append]
    by_cases h10 : s.data.toList[j] = 10
    · rw [if_pos (by rw [h10]; rfl), wrapS (by omega) (by omega), h10]
      rfl
    · rw [if_neg (show ¬ ((s.data.toList[j]).toNat : Int) = 10 from fun e => h10 ((byte_eq _ 10).1 e)), List.count_singleton]
      have : (s.data.toList[j] == 10) = false := by simpa using h10
      rw [this]
      rfl
theorem l2_ok (s : ByteArray) (hs : s.size ≤ 2000) (d : Nat) : ∀ p : Nat, p + d = s.size → wordsL (s.data.toList.drop p) = [] → Ev (fun k => racewaylaw2_TextOrder.l2 k s (p : Int)) true := by
  have hl : s.data.toList.length = s.size := (size_eq s).symm
  induction d with
  | zero =>
    intro p hp _
    refine Ev.step (fun k => ?_) (l3_ok s hs s.size 0 (by omega))
    simp only [racewaylaw2_TextOrder.l2]
    rw [if_neg (by omega)]
    rfl
  | succ d ih =>
    intro p hp hw
    have hlt : p < s.data.toList.length := by omega
    have hb := bt_get s p hlt
    rw [List.drop_eq_getElem_cons hlt] at hw
    cases hc : blankC s.data.toList[p] with
    | false => rw [words_word _ _ hc] at hw; cases hw
    | true =>
      rw [words_blank _ _ hc] at hw
      have h3 := (blank_cases _).1 hc
      refine Ev.step (fun k => ?_) (ih (p + 1) (by omega) hw)
      simp only [racewaylaw2_TextOrder.l2]
      rw [if_pos (by omega), if_pos (by omega), hb, wrapS (by omega) (by omega)]
      rcases h3 with h | h | h
      · rw [if_pos h]; rfl
      · rw [if_neg (by omega), if_pos h]; rfl
      · rw [if_neg (by omega), if_neg (by omega), if_pos h]; rfl

/-- one word that stands there -/
theorem word_step (s : ByteArray) (hs : s.size ≤ 2000) (W : List ByteArray) (hW : W.length ≤ 2001) (w : ByteArray) (q i : Nat) (hi : i < W.length) (hr : rdOf ByteArray.empty W (i : Int) = w) (hq : q < s.size) (hpos : 0 < w.size) (hle : q + w.size ≤ s.size) (hne : w.toList ≠ [])
    (hext : (s.extract q (q + w.size)).toList = w.toList) (hend : q + w.size < s.size → bt s ((q + w.size : Nat) : Int) = 32 ∨ bt s ((q + w.size : Nat) : Int) = 9 ∨ bt s ((q + w.size : Nat) : Int) = 13) (hb : ¬ (bt s (q : Int) = 32 ∨ bt s (q : Int) = 9 ∨ bt s (q : Int) = 13))
    (next : Ev (fun k => racewaylaw2_TextOrder.l0 k s W ((q + w.size : Nat) : Int) ((i + 1 : Nat) : Int)) true) : Ev (fun k => racewaylaw2_TextOrder.l1 k s W (q : Int) (i : Int)) true := by
  have b1 : bt s (q : Int) ≠ 32 := fun e => hb (.inl e)
  have b2 : bt s (q : Int) ≠ 9 := fun e => hb (.inr (.inl e))
  have b3 : bt s (q : Int) ≠ 13 := fun e => hb (.inr (.inr e))
  clear hb
  have hsum : wrap64 ((q : Int) + (w.size : Int)) = ((q + w.size : Nat) : Int) := by rw [wrapS (by omega) (by omega)]; rfl
  have hsi : wrap64 ((i : Int) + 1) = ((i + 1 : Nat) : Int) := by rw [wrapS (by omega) (by omega)]; rfl
  have i0 : (0 : Int) ≤ (i : Int) := by omega
  have i1 : (i : Int) < (W.length : Int) := by omega
  have q0 : (0 : Int) ≤ (q : Int) := by omega
  have q1 : (q : Int) < (s.size : Int) := by omega
  have e0 : ¬ ((q + w.size : Nat) : Int) > (s.size : Int) := by omega
  have e1 : (q : Int) ≤ ((q + w.size : Nat) : Int) := by omega
  have e2 : ((q + w.size : Nat) : Int) ≤ (s.size : Int) := by omega
  have e3 : (0 : Int) ≤ ((q + w.size : Nat) : Int) := by omega
  refine Ev.step (f := fun k => racewaylaw2_TextOrder.j3 k s W (q : Int) (i : Int)) (fun k => ?_) ?_
  · simp only [racewaylaw2_TextOrder.l1]
    rw [if_pos q1, if_pos q0, if_neg b1, if_neg b2, if_neg b3]
  refine Ev.step (f := fun k => racewaylaw2_TextOrder.j4 k s W (q : Int) (i : Int) false) (fun k => ?_) ?_
  · simp only [racewaylaw2_TextOrder.j3]
    rw [hr, hsum, if_pos i0, if_pos i1, if_neg hne, if_neg e0, if_pos q0, if_pos e1, if_pos e2, Int.toNat_natCast, Int.toNat_natCast, hext]
    simp
  refine Ev.step (fun k => ?_) next
  simp only [racewaylaw2_TextOrder.j4]
  rw [hr, hsum, hsi, if_neg (by simp), if_pos i0, if_pos i1]
  by_cases he : ((q + w.size : Nat) : Int) < (s.size : Int)
  · rw [if_pos he, if_pos e3]
    rcases hend (by omega) with h | h | h
    · rw [if_pos h]
    · rw [if_neg (by rw [h]; decide), if_pos h]
    · rw [if_neg (by rw [h]; decide), if_neg (by rw [h]; decide), if_pos h]
  · rw [if_neg he]
theorem at_blank (s : ByteArray) (p : Nat) (h : p < s.data.toList.length) (hb : blankC s.data.toList[p] = true) : bt s (p : Int) = 32 ∨ bt s (p : Int) = 9 ∨ bt s (p : Int) = 13 := by
  rw [bt_get s p h]; exact (blank_cases _).1 hb
theorem at_sign (s : ByteArray) (p : Nat) (h : p < s.data.toList.length) (hb : blankC s.data.toList[p] = false) : ¬ (bt s (p : Int) = 32 ∨ bt s (p : Int) = 9 ∨ bt s (p : Int) = 13) := by
  rw [bt_get s p h]; intro e; rw [(blank_cases _).2 e] at hb; cases hb
/-- the word that begins where no blank is: it stands there, and behind it the end or a blank -/
theorem head_dropWhile {α : Type} (p : α → Bool) (l : List α) (x : α) (t : List α) (h : l.dropWhile p = x :: t) : p x = false := by
  induction l with
  | nil => cases h
  | cons a l ih =>
    rw [List.dropWhile_cons] at h
    cases ha : p a with
    | true => rw [if_pos ha] at h; exact ih h
    | false => rw [if_neg (by rw [ha]; decide)] at h; rw [← (List.cons.inj h).1]; exact ha

theorem first_word (l : List UInt8) (q : Nat) (h : q < l.length) (hc : blankC l[q] = false) (wd : List UInt8) (rest : List (List UInt8)) (hw : wordsL (l.drop q) = wd :: rest) :
    0 < wd.length ∧ q + wd.length ≤ l.length ∧ (l.drop q).take wd.length = wd ∧ wordsL (l.drop (q + wd.length)) = rest ∧ ∀ h2 : q + wd.length < l.length, blankC (l[q + wd.length]) = true := by
  have hcons := List.drop_eq_getElem_cons h
  rw [hcons, words_word _ _ hc, ← hcons] at hw
  obtain ⟨hword, hrest⟩ := List.cons.inj hw
  have hsplit : l.drop q = wd ++ (l.drop q).dropWhile nb := by rw [← hword]; exact List.takeWhile_append_dropWhile.symm
  have hlen := congrArg List.length hsplit
  rw [List.length_append, List.length_drop] at hlen
  have hpos : 0 < wd.length := by
    rw [← hword, hcons, List.takeWhile_cons, show nb l[q] = true by unfold nb; rw [hc]; rfl]
    simp
  have hdrop : l.drop (q + wd.length) = (l.drop q).dropWhile nb := by
    rw [← List.drop_drop]
    conv => lhs; rw [hsplit]
    rw [List.drop_left]
  refine ⟨hpos, by omega, by rw [hsplit, List.take_left], by rw [hdrop]; exact hrest, fun h2 => ?_⟩
  have h5 := List.drop_eq_getElem_cons h2
  rw [hdrop] at h5
  have h6 := head_dropWhile nb (l.drop q) _ _ h5
  unfold nb at h6
  cases hb : blankC l[q + wd.length] with
  | true => rfl
  | false => rw [hb] at h6; cases h6

theorem skip_ok (s : ByteArray) (hs : s.size ≤ 2000) (i : Nat) (wd : List UInt8) (rest : List (List UInt8)) (hi : i < (wordsB s).length) (hr : rdOf ByteArray.empty (wordsB s) (i : Int) = mkB wd)
    (ih : ∀ p : Nat, p ≤ s.size → wordsL (s.data.toList.drop p) = rest → Ev (fun k => racewaylaw2_TextOrder.l0 k s (wordsB s) (p : Int) ((i + 1 : Nat) : Int)) true) (m : Nat) :
    ∀ q : Nat, q + m = s.size → wordsL (s.data.toList.drop q) = wd :: rest → Ev (fun k => racewaylaw2_TextOrder.l1 k s (wordsB s) (q : Int) (i : Int)) true := by
  have hl : s.data.toList.length = s.size := (size_eq s).symm
  have hwle := wordsB_le s
  induction m with
  | zero =>
    intro q hq hw
    rw [List.drop_eq_nil_of_le (by omega)] at hw
    cases hw
  | succ m ihm =>
    intro q hq hw
    have hlt : q < s.data.toList.length := by omega
    cases hc : blankC s.data.toList[q] with
    | true =>
      have hb := at_blank s q hlt hc
      rw [List.drop_eq_getElem_cons hlt, words_blank _ _ hc] at hw
      have hs1 : wrap64 ((q : Int) + 1) = ((q + 1 : Nat) : Int) := by rw [wrapS (by omega) (by omega)]; rfl
      have q0 : (0 : Int) ≤ (q : Int) := by omega
      have q1 : (q : Int) < (s.size : Int) := by omega
      refine Ev.step (fun k => ?_) (ihm (q + 1) (by omega) hw)
      simp only [racewaylaw2_TextOrder.l1]
      rw [if_pos q1, if_pos q0, hs1]
      rcases hb with h | h | h
      · rw [if_pos h]
      · rw [if_neg (by rw [h]; decide), if_pos h]
      · rw [if_neg (by rw [h]; decide), if_neg (by rw [h]; decide), if_pos h]
    | false =>
      obtain ⟨h1, h2, h3, h4, h5⟩ := first_word _ q hlt hc wd rest hw
      have hz : (mkB wd).size = wd.length := mkB_size wd
      refine word_step s hs (wordsB s) (by omega) (mkB wd) q i hi hr (by omega) (by omega) (by omega) (by rw [toList_data, mkB_data]; exact List.ne_nil_of_length_pos h1) ?_ ?_ (at_sign s q hlt hc) ?_
      · rw [hz, extract_toList, toList_data, mkB_data, show q + wd.length - q = wd.length by omega, h3]
      · rw [hz]
        intro h
        exact at_blank s _ (by omega) (h5 (by omega))
      · rw [hz]
        exact ih _ (by omega) h4

theorem l0_ok (s : ByteArray) (hs : s.size ≤ 2000) (d : Nat) : ∀ p i : Nat, p ≤ s.size → i + d = (wordsL s.data.toList).length → wordsL (s.data.toList.drop p) = (wordsL s.data.toList).drop i →
    Ev (fun k => racewaylaw2_TextOrder.l0 k s (wordsB s) (p : Int) (i : Int)) true := by
  have hlen := wordsB_length s
  induction d with
  | zero =>
    intro p i hp hi hw
    rw [show (wordsL s.data.toList).drop i = [] from List.drop_eq_nil_of_le (by omega)] at hw
    refine Ev.step (fun k => ?_) (l2_ok s hs (s.size - p) p (by omega) hw)
    simp only [racewaylaw2_TextOrder.l0]
    rw [if_neg (by omega)]
  | succ d ih =>
    intro p i hp hi hw
    have hiL : i < (wordsL s.data.toList).length := by omega
    have hiB : i < (wordsB s).length := by omega
    have hr := rd_get (wordsB s) i hiB
    rw [wordsB_get s i hiB hiL] at hr
    rw [List.drop_eq_getElem_cons hiL] at hw
    refine Ev.step (f := fun k => racewaylaw2_TextOrder.l1 k s (wordsB s) (p : Int) (i : Int)) (fun k => ?_) (skip_ok s hs i _ _ hiB hr (fun p' hp' hw' => ih p' (i + 1) hp' (by omega) hw') (s.size - p) p (by omega) hw)
    simp only [racewaylaw2_TextOrder.l0]
    rw [if_pos (by omega)]

theorem TextOrder : racewaylaw2_TextOrder.Pure := by
  intro s _
  refine Ev.rounds ?_
  refine Ev.congr (f := fun k => racewaylaw2_TextOrder.j0 k s true (decide ((s.size : Int) > 2000))) (fun k => ?_) ?_
  · unfold racewaylaw2_TextOrder.f
    rw [shown_ok, Option.bind_some, if_pos rfl]
  · by_cases h : (s.size : Int) > 2000
    · refine Ev.step (f := fun _ => some true) (fun k => ?_) (Ev.now true)
      simp only [racewaylaw2_TextOrder.j0]
      rw [if_pos (by simpa using h)]
    · refine Ev.step (fun k => ?_) (l0_ok s (by omega) (wordsL s.data.toList).length 0 0 (by omega) (by omega) rfl)
      simp only [racewaylaw2_TextOrder.j0]
      rw [if_neg (by simpa using h), words_some s (by omega), Option.bind_some]
      rfl
end Go.Proofs.YteifkibpeimbpaaDoor.Pure
