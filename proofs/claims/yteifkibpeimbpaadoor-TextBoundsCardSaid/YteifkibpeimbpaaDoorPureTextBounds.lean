/-
  TextBounds, plain: the greatest and the least number are read, one beyond them is not; a sign alone, or one that is another one, is none. By an AI agent.
-/
import Derived.Test.YteifkibpeimbpaaDoorQx1
import Derived.Test.YteifkibpeimbpaaDoorTextC
namespace Go.Proofs.YteifkibpeimbpaaDoor.Pure
open Go.RowKit Go.Lib Go.Proofs.TX Go.Proofs.YteifkibpeimbpaaDoor.Q Go.Proofs.YteifkibpeimbpaaDoor.H Go.Proofs.YteifkibpeimbpaaDoorW.PrintWords Go.Proofs.YteifkibpeimbpaaDoorW.PrintLast

theorem app_data (a b : ByteArray) : (a ++ b).data.toList = a.data.toList ++ b.data.toList := by simp
theorem num_some (a : ByteArray) (h : a.size ≤ 281474976710656) : text_Number.f a = some ((numL a.data.toList).1, (numL a.data.toList).2) := by
  unfold text_Number.f; rw [if_pos h]
theorem bt_get (s : ByteArray) (i : Nat) (h : i < s.data.toList.length) : bt s (i : Int) = ((s.data.toList[i]).toNat : Int) := by
  unfold bt
  rw [dif_pos (by rw [size_eq]; simpa using h)]
  rfl

theorem val_zeros : ∀ (m a : Nat), val a (List.replicate m 48) = a * 10 ^ m
  | 0, a => by rw [List.replicate_zero, val_nil]; omega
  | m + 1, a => by
    rw [List.replicate_succ, val_cons, val_zeros m, show ((48 : UInt8).toNat - 48) = 0 from rfl, Nat.pow_succ, Nat.add_zero, Nat.mul_assoc, Nat.mul_comm 10]
theorem long_range (m : Nat) (hm : 19 ≤ m) : numL (49 :: List.replicate m 48) = (0, 3) := by
  have hb : body (49 :: List.replicate m 48) = 49 :: List.replicate m 48 := by unfold body; rw [if_neg (by simp)]
  have hd : (49 :: List.replicate m (48 : UInt8)).all digC = true := by
    rw [List.all_cons, Bool.and_eq_true]
    exact ⟨by decide, by rw [List.all_eq_true]; intro x hx; rw [List.eq_of_mem_replicate hx]; decide⟩
  have hv : val 0 (49 :: List.replicate m 48) = 10 ^ m := by
    rw [val_cons, val_zeros, show (0 * 10 + ((49 : UInt8).toNat - 48)) = 1 from rfl, Nat.one_mul]
  have hp : 10 ^ 19 ≤ 10 ^ m := Nat.pow_le_pow_right (by omega) hm
  have hs : Go.Proofs.TX.signed (49 :: List.replicate m 48) = ((10 ^ m : Nat) : Int) := by
    unfold Go.Proofs.TX.signed
    rw [if_neg (by simp), hb, hv]
  unfold numL
  rw [hb, hs, if_neg (by simp [hd])]
  rw [if_neg]
  intro h
  have h2 := h.2
  have h3 : ((10 ^ 19 : Nat) : Int) ≤ ((10 ^ m : Nat) : Int) := Int.ofNat_le.2 hp
  have h4 : ((10 ^ 19 : Nat) : Int) = 10000000000000000000 := by decide
  omega
theorem body_mem {x : UInt8} (s : List UInt8) (h : x ∈ s) : s = x :: s.tail ∧ x = 45 ∨ x ∈ body s := by
  unfold body
  cases s with
  | nil => cases h
  | cons c r =>
    by_cases hc : c = 45
    · rw [if_pos (by simp [hc])]
      rcases List.mem_cons.1 h with e | e
      · exact .inl ⟨by rw [e]; rfl, by rw [e, hc]⟩
      · exact .inr e
    · rw [if_neg (by simp [hc])]
      exact .inr h
theorem not_all {l : List UInt8} {x : UInt8} (h : x ∈ l) (hx : digC x = false) : l.all digC = false := by
  rw [Bool.eq_false_iff]
  intro e
  rw [List.all_eq_true] at e
  have := e x h
  rw [hx] at this
  cases this
theorem minus_bad (s : List UInt8) : numL (s ++ [45]) = (0, 2) := by
  unfold numL
  cases s with
  | nil => rw [if_pos (.inl rfl)]
  | cons c r =>
    have h : (45 : UInt8) ∈ body ((c :: r) ++ [45]) := by
      unfold body
      split
      · simp
      · simp
    rw [if_pos (.inr (not_all h (by decide)))]
theorem five (s : List UInt8) (h : ∀ x ∈ s, digC x = false) :
    s = [] ∧ numL (s ++ [53]) = (5, 0) ∨ s = [45] ∧ numL (s ++ [53]) = (-5, 0) ∨ s ≠ [] ∧ s ≠ [45] ∧ numL (s ++ [53]) = (0, 2) := by
  by_cases h0 : s = []
  · exact .inl ⟨h0, by rw [h0]; decide⟩
  · by_cases h1 : s = [45]
    · exact .inr (.inl ⟨h1, by rw [h1]; decide⟩)
    · refine .inr (.inr ⟨h0, h1, ?_⟩)
      unfold numL
      rw [if_pos]
      refine .inr ?_
      cases s with
      | nil => exact absurd rfl h0
      | cons c r =>
        by_cases hc : c = 45
        · subst hc
          cases r with
          | nil => exact absurd rfl h1
          | cons d q => exact not_all (x := d) (by simp [body]) (h d (by simp))
        · exact not_all (x := c) (by simp [body, hc]) (h c (by simp))

theorem l1_ok (s : ByteArray) (hsz : s.size ≤ 100) (x20 x21 : Int) (hx : (x20, x21) = numL (s.data.toList ++ [53])) (d : Nat) :
    ∀ i : Nat, i + d = s.size → (∀ j (hj : j < s.data.toList.length), j < i → digC (s.data.toList[j]) = false) →
      Ev (fun k => racewaylaw2_TextBounds.l1 k s 9223372036854775807 0 (-9223372036854775808) 0 3 3 3 2 x20 x21 (s.toList == ([45] : List UInt8)) (i : Int)) true := by
  induction d with
  | zero =>
    intro i hi hpre
    refine Ev.step (f := fun _ => some true) (fun k => ?_) (Ev.now true)
    have hl : s.data.toList.length = s.size := (size_eq s).symm
    have hall : ∀ x ∈ s.data.toList, digC x = false := by
      intro x hm
      obtain ⟨j, hj, rfl⟩ := List.getElem_of_mem hm
      exact hpre j hj (by omega)
    simp only [racewaylaw2_TextBounds.l1]
    rw [if_neg (by omega), toList_data]
    simp only [if_true]
    rcases five s.data.toList hall with ⟨e, h⟩ | ⟨e, h⟩ | ⟨e1, e2, h⟩
    · rw [h] at hx
      obtain ⟨rfl, rfl⟩ := Prod.mk.inj hx
      rw [e]; rfl
    · rw [h] at hx
      obtain ⟨rfl, rfl⟩ := Prod.mk.inj hx
      rw [e]; rfl
    · rw [h] at hx
      obtain ⟨rfl, rfl⟩ := Prod.mk.inj hx
      have h2 : (s.data.toList == ([45] : List UInt8)) = false := beq_eq_false_iff_ne.2 e2
      have h3 : (s.data.toList == ([] : List UInt8)) = false := beq_eq_false_iff_ne.2 e1
      rw [h2, h3]
      simp [e1]
  | succ d ih =>
    intro i hi hpre
    have hl : s.data.toList.length = s.size := (size_eq s).symm
    have hlt : i < s.data.toList.length := by omega
    have hw : wrap64 ((i : Int) + 1) = ((i + 1 : Nat) : Int) := by unfold wrap64; omega
    have hb := bt_get s i hlt
    by_cases hd : digC (s.data.toList[i]) = true
    · refine Ev.step (f := fun _ => some true) (fun k => ?_) (Ev.now true)
      have := (digC_iff _).1 hd
      simp only [racewaylaw2_TextBounds.l1]
      rw [if_pos (by omega), if_pos (by omega), hb, if_pos (by omega), if_pos (by omega)]
    · refine Ev.step (f := fun k => racewaylaw2_TextBounds.l1 k s 9223372036854775807 0 (-9223372036854775808) 0 3 3 3 2 x20 x21 (s.toList == ([45] : List UInt8)) ((i + 1 : Nat) : Int)) (fun k => ?_) (ih (i + 1) (by omega) ?_)
      · have : ¬ (48 ≤ (s.data.toList[i]).toNat ∧ (s.data.toList[i]).toNat ≤ 57) := fun e => hd ((digC_iff _).2 e)
        simp only [racewaylaw2_TextBounds.l1]
        rw [if_pos (by omega), if_pos (by omega), hb, hw]
        split
        · rw [if_neg (by omega)]
        · rfl
      · intro j hj hji
        by_cases e : j = i
        · subst e; simpa using hd
        · exact hpre j hj (by omega)

theorem j2_ok (s : ByteArray) (hsz : s.size ≤ 100) (m : Nat) (h19 : 19 ≤ m) (h60 : m ≤ 60) (x14 : ByteArray) (hx : x14.data.toList = 49 :: List.replicate m 48) :
    Ev (fun k => racewaylaw2_TextBounds.j2 k s 9223372036854775807 0 (-9223372036854775808) 0 3 3 x14) true := by
  have hz : x14.size = m + 1 := by rw [size_eq, hx]; simp
  have h1 : (s ++ (⟨#[45]⟩ : ByteArray)).size = s.size + 1 := by rw [ByteArray.size_append]; rfl
  have h2 : (s ++ (⟨#[53]⟩ : ByteArray)).size = s.size + 1 := by rw [ByteArray.size_append]; rfl
  have n1 := num_some x14 (by omega)
  have n2 := num_some (s ++ (⟨#[45]⟩ : ByteArray)) (by omega)
  have n3 := num_some (s ++ (⟨#[53]⟩ : ByteArray)) (by omega)
  rw [hx, long_range m h19] at n1
  rw [app_data, show (⟨#[45]⟩ : ByteArray).data.toList = [45] from rfl, minus_bad] at n2
  rw [app_data, show (⟨#[53]⟩ : ByteArray).data.toList = [53] from rfl] at n3
  refine Ev.step (f := fun k => racewaylaw2_TextBounds.l1 k s 9223372036854775807 0 (-9223372036854775808) 0 3 3 3 2 (numL (s.data.toList ++ [53])).1 (numL (s.data.toList ++ [53])).2 (s.toList == ([45] : List UInt8)) ((0 : Nat) : Int)) (fun k => ?_) ?_
  · simp only [racewaylaw2_TextBounds.j2]
    rw [n1, Option.bind_some, if_pos (by omega), n2, Option.bind_some, n3, Option.bind_some]
    rfl
  · exact l1_ok s hsz _ _ rfl s.size 0 (by omega) (fun _ _ h => absurd h (Nat.not_lt_zero _))

theorem l0_ok (a0 : Int) (s : ByteArray) (hsz : s.size ≤ 100) (d : Nat) : ∀ (m : Nat) (x14 : ByteArray), m + d = 60 → x14.data.toList = 49 :: List.replicate m 48 →
    Ev (fun k => racewaylaw2_TextBounds.l0 k a0 s 9223372036854775807 0 (-9223372036854775808) 0 3 3 x14 (m : Int)) true := by
  induction d with
  | zero =>
    intro m x14 hm hx
    refine Ev.step (f := fun k => racewaylaw2_TextBounds.j2 k s 9223372036854775807 0 (-9223372036854775808) 0 3 3 x14) (fun k => ?_) (j2_ok s hsz m (by omega) (by omega) x14 hx)
    simp only [racewaylaw2_TextBounds.l0]
    rw [if_neg (by omega)]
    split
    · rw [if_neg (by omega)]
    · rfl
  | succ d ih =>
    intro m x14 hm hx
    have hz : x14.size = m + 1 := by rw [size_eq, hx]; simp
    have hw : wrap64 ((m : Int) + 1) = ((m + 1 : Nat) : Int) := by unfold wrap64; omega
    have hn : (x14 ++ (⟨#[48]⟩ : ByteArray)).data.toList = 49 :: List.replicate (m + 1) 48 := by
      rw [app_data, hx, show (⟨#[48]⟩ : ByteArray).data.toList = [48] from rfl, List.cons_append, List.replicate_succ']
    have go := ih (m + 1) (x14 ++ (⟨#[48]⟩ : ByteArray)) (by omega) hn
    by_cases h19 : m < 19
    · refine Ev.step (fun k => ?_) go
      simp only [racewaylaw2_TextBounds.l0]
      rw [if_pos (by omega), if_pos (by omega), hw]
    · by_cases ha : (m : Int) < a0
      · refine Ev.step (fun k => ?_) go
        simp only [racewaylaw2_TextBounds.l0]
        rw [if_neg (by omega), if_pos ha, if_pos (by omega), if_pos (by omega), hw]
      · refine Ev.step (f := fun k => racewaylaw2_TextBounds.j2 k s 9223372036854775807 0 (-9223372036854775808) 0 3 3 x14) (fun k => ?_) (j2_ok s hsz m (by omega) (by omega) x14 hx)
        simp only [racewaylaw2_TextBounds.l0]
        rw [if_neg (by omega), if_neg ha]

theorem shown_ok : racewaylaw2_shown.f = some true := by
  unfold racewaylaw2_shown.f
  rw [num_some _ (by decide), Option.bind_some, show numL (⟨#[45, 48, 48, 55]⟩ : ByteArray).data.toList = (-7, 0) by decide +kernel]
  rfl

theorem TextBounds : racewaylaw2_TextBounds.Pure := by
  intro a0 s _ _
  refine Ev.rounds ?_
  refine Ev.congr (f := fun k => racewaylaw2_TextBounds.j0 k a0 s true (decide ((s.size : Int) > 100))) (fun k => ?_) ?_
  · unfold racewaylaw2_TextBounds.f
    rw [shown_ok, Option.bind_some, if_pos rfl]
  · by_cases h : (s.size : Int) > 100
    · refine Ev.step (f := fun _ => some true) (fun k => ?_) (Ev.now true)
      simp only [racewaylaw2_TextBounds.j0]
      rw [if_pos (by simpa using h)]
    · refine Ev.step (f := fun k => racewaylaw2_TextBounds.l0 k a0 s 9223372036854775807 0 (-9223372036854775808) 0 3 3 (⟨#[49]⟩ : ByteArray) ((0 : Nat) : Int)) (fun k => ?_) (l0_ok a0 s (by omega) 60 0 _ rfl rfl)
      simp only [racewaylaw2_TextBounds.j0]
      rw [if_neg (by simpa using h)]
      rw [num_some (⟨#[57, 50, 50, 51, 51, 55, 50, 48, 51, 54, 56, 53, 52, 55, 55, 53, 56, 48, 55]⟩ : ByteArray) (by decide), Option.bind_some, num_some (⟨#[45, 57, 50, 50, 51, 51, 55, 50, 48, 51, 54, 56, 53, 52, 55, 55, 53, 56, 48, 56]⟩ : ByteArray) (by decide), Option.bind_some, num_some (⟨#[57, 50, 50, 51, 51, 55, 50, 48, 51, 54, 56, 53, 52, 55, 55, 53, 56, 48, 56]⟩ : ByteArray) (by decide), Option.bind_some, num_some (⟨#[45, 57, 50, 50, 51, 51, 55, 50, 48, 51, 54, 56, 53, 52, 55, 55, 53, 56, 48, 57]⟩ : ByteArray) (by decide), Option.bind_some]
      rw [show numL (⟨#[57, 50, 50, 51, 51, 55, 50, 48, 51, 54, 56, 53, 52, 55, 55, 53, 56, 48, 55]⟩ : ByteArray).data.toList = (9223372036854775807, 0) by decide +kernel, show numL (⟨#[45, 57, 50, 50, 51, 51, 55, 50, 48, 51, 54, 56, 53, 52, 55, 55, 53, 56, 48, 56]⟩ : ByteArray).data.toList = (-9223372036854775808, 0) by decide +kernel, show numL (⟨#[57, 50, 50, 51, 51, 55, 50, 48, 51, 54, 56, 53, 52, 55, 55, 53, 56, 48, 56]⟩ : ByteArray).data.toList = (0, 3) by decide +kernel, show numL (⟨#[45, 57, 50, 50, 51, 51, 55, 50, 48, 51, 54, 56, 53, 52, 55, 55, 53, 56, 48, 57]⟩ : ByteArray).data.toList = (0, 3) by decide +kernel]
      rfl
end Go.Proofs.YteifkibpeimbpaaDoor.Pure
