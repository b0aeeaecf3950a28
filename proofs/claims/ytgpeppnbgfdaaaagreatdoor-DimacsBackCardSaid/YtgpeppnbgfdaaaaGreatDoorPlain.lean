/-
  Small laws that the plain statements share: strings as lists of bytes, reads, the contracts' functions at short texts. By an AI agent.
-/
import Derived.Test.YtgpeppnbgfdaaaaGreatDoorText
import Derived.Test.YtgpeppnbgfdaaaaGreatDoorTextC
namespace Go.Proofs.YtgpeppnbgfdaaaaGreatDoor.PL
open Go.RowKit Go.Lib Go.Proofs.TX Go.Proofs.YtgpeppnbgfdaaaaGreatDoor.H Go.Proofs.YtgpeppnbgfdaaaaGreatDoorW.PrintWords Go.Proofs.YtgpeppnbgfdaaaaGreatDoorW.PrintLast

theorem app_data (a b : ByteArray) : (a ++ b).data.toList = a.data.toList ++ b.data.toList := by simp
theorem ext_data {a b : ByteArray} (h : a.data.toList = b.data.toList) : a = b := by
  rw [← mkB_of a, h, mkB_of]
theorem num_some (a : ByteArray) (h : a.size ≤ 281474976710656) : text_Number.f a = some ((numL a.data.toList).1, (numL a.data.toList).2) := by
  unfold text_Number.f; rw [if_pos h]
theorem lines_some (a : ByteArray) (h : a.size < 4294967281) : text_Lines.f a = some (linesB a) := by
  unfold text_Lines.f; rw [if_pos h]
theorem words_some (a : ByteArray) (h : a.size ≤ 4294967296) : text_Words.f a = some (wordsB a) := by
  unfold text_Words.f; rw [if_pos h]
theorem write_some (n : Int) (h0 : -9223372036854775808 ≤ n) (h1 : n ≤ 9223372036854775807) : text_Write.f n = some (mkB (itoa n)) := by
  unfold text_Write.f; rw [if_pos h0, if_pos h1]
theorem bt_get (s : ByteArray) (i : Nat) (h : i < s.data.toList.length) : bt s (i : Int) = ((s.data.toList[i]).toNat : Int) := by
  unfold bt
  rw [dif_pos (by rw [size_eq]; simpa using h)]
  rfl
theorem bt_some (s : ByteArray) (i : Nat) (c : UInt8) (h : s.data.toList[i]? = some c) : bt s (i : Int) = (c.toNat : Int) := by
  obtain ⟨hi, rfl⟩ := List.getElem?_eq_some_iff.1 h
  exact bt_get s i hi
theorem rd_get (l : List ByteArray) (i : Nat) (h : i < l.length) : rdOf ByteArray.empty l (i : Int) = l[i] := by
  unfold rdOf
  rw [Int.toNat_natCast, List.getD_eq_getElem?_getD, List.getElem?_eq_getElem h]
  rfl
theorem wrapS {i : Int} (h0 : -9223372036854775808 ≤ i) (h1 : i ≤ 9223372036854775807) : wrap64 i = i := by unfold wrap64; omega
theorem wf64 {n : Int} (h : (Lit.int .i64 n).wf = true) : -9223372036854775808 ≤ n ∧ n ≤ 9223372036854775807 := by
  have e1 : IntKind.i64.min = -9223372036854775808 := rfl
  have e2 : IntKind.i64.max = 9223372036854775807 := rfl
  simp [Lit.wf, e1, e2] at h
  exact h
theorem byte_eq (c d : UInt8) : ((c.toNat : Int) = (d.toNat : Int)) ↔ c = d := by
  rw [Int.natCast_inj]; exact UInt8.toNat_inj
theorem blank_cases (c : UInt8) : blankC c = true ↔ (c.toNat : Int) = 32 ∨ (c.toNat : Int) = 9 ∨ (c.toNat : Int) = 13 := by
  unfold blankC
  have h (d : UInt8) : (c == d) = true ↔ (c.toNat : Int) = (d.toNat : Int) := by rw [beq_iff_eq, byte_eq]
  rw [Bool.or_eq_true, Bool.or_eq_true, h, h, h, or_assoc]
  rfl
theorem toList_eq_nil (s : ByteArray) : s.toList = ([] : List UInt8) ↔ s.data.toList = [] := by rw [toList_data]

theorem wordsGo_length : ∀ (l cur : List UInt8), (wordsGo cur l).length ≤ l.length + 1
  | [], cur => by unfold wordsGo; split <;> simp
  | c :: r, cur => by
    unfold wordsGo
    have h1 := wordsGo_length r []
    have h2 := wordsGo_length r (cur ++ [c])
    split
    · split
      · simp only [List.nil_append, List.length_cons]; omega
      · simp only [List.length_append, List.length_cons, List.length_nil]; omega
    · simp only [List.length_cons]; omega
theorem linesL_le (l : List UInt8) : (linesL l).length ≤ l.length + 1 := by
  rw [linesL_length]
  have := List.count_le_length (a := (10 : UInt8)) (l := l)
  split <;> omega
theorem linesB_length (s : ByteArray) : (linesB s).length = (linesL s.data.toList).length := by simp [linesB]
theorem wordsB_length (s : ByteArray) : (wordsB s).length = (wordsL s.data.toList).length := by simp [wordsB]
theorem linesB_get (s : ByteArray) (j : Nat) (h : j < (linesB s).length) (h' : j < (linesL s.data.toList).length) : (linesB s)[j] = mkB ((linesL s.data.toList)[j]) := by simp [linesB]
theorem wordsB_get (s : ByteArray) (j : Nat) (h : j < (wordsB s).length) (h' : j < (wordsL s.data.toList).length) : (wordsB s)[j] = mkB ((wordsL s.data.toList)[j]) := by simp [wordsB]
theorem last_get (l : List UInt8) (n : Nat) (hn : l.length = n) (h : n - 1 < l.length) : l.getLast? = some (l[n - 1]) := by
  subst hn
  rw [List.getLast?_eq_getElem?]
  exact List.getElem?_eq_getElem h
theorem linesB_le (s : ByteArray) : (linesB s).length ≤ s.size + 1 := by rw [linesB_length, size_eq]; exact linesL_le _
theorem wordsB_le (s : ByteArray) : (wordsB s).length ≤ s.size + 1 := by rw [wordsB_length, size_eq]; exact wordsGo_length _ []
end Go.Proofs.YtgpeppnbgfdaaaaGreatDoor.PL
