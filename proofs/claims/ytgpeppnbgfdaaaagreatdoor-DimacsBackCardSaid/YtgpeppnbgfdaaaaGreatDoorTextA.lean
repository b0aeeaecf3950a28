/-
  Plain laws on lines and words: what the library's split and fields come to. By an AI agent.
-/
import Derived.Lib.FieldsP
import Derived.Lib.SplitLaws
import Derived.Lib.SlTrimSet
import Derived.Lib.ParseIntBTie
import Derived.Lib.ItoaLen
import Derived.Lib.Join
import Derived.Lib.RuneCount
import Derived.Lib.SpaceUEq
namespace Go.Proofs.TX
open Go.Lib

/-! ### lines -/
def splitL : List UInt8 → List (List UInt8)
  | [] => [[]]
  | c :: r => if c = 10 then [] :: splitL r else match splitL r with
    | [] => [[c]]
    | x :: xs => (c :: x) :: xs
def linesL : List UInt8 → List (List UInt8)
  | [] => []
  | c :: r => if c = 10 then [] :: linesL r else match linesL r with
    | [] => [[c]]
    | x :: xs => (c :: x) :: xs

theorem splitL_ne (l : List UInt8) : splitL l ≠ [] := by
  cases l with
  | nil => simp [splitL]
  | cons c r =>
    unfold splitL
    split
    · simp
    · split <;> simp

theorem index_cons_ne (b c : UInt8) (l : List UInt8) (h : b ≠ c) : index (b :: l) [c] = if index l [c] == -1 then -1 else index l [c] + 1 := by
  have hp : ([c] : List UInt8).isPrefixOf (b :: l) = false := by simp [List.isPrefixOf, Ne.symm h]
  rw [index, hp]; simp
theorem index_cons_eq (c : UInt8) (l : List UInt8) : index (c :: l) [c] = 0 := by rw [index]; simp [List.isPrefixOf]

theorem splitK_cons_ne (b : UInt8) (h : b ≠ 10) (k : Nat) (r : List UInt8) :
    splitK [10] 0 k (b :: r) = match splitK [10] 0 k r with | [] => [[b]] | x :: xs => (b :: x) :: xs := by
  cases k with
  | zero => simp [splitK]
  | succ k =>
    rw [splitK, splitK, index_cons_ne b 10 r h]
    by_cases hm : (index r [10] == -1) = true
    · simp [hm]
    · have hm' : (index r [10] == -1) = false := Bool.eq_false_iff.2 hm
      have hge := index_ge r [10]
      have hne : index r [10] ≠ -1 := fun e => hm (beq_iff_eq.2 e)
      obtain ⟨j, hj⟩ : ∃ j : Nat, index r [10] = j := ⟨(index r [10]).toNat, by omega⟩
      rw [hj] at hm' ⊢
      have h2 : (((j : Int) + 1 == -1) = false) := by rw [beq_eq_false_iff_ne]; omega
      have h3 : (((j : Int)) + 1).toNat = j + 1 := by omega
      simp [hm', h2, h3]

theorem split_eq : ∀ l : List UInt8, split l [10] = splitL l
  | [] => by simp [split, splitL, count_miss (show index ([] : List UInt8) [10] = -1 from rfl), splitK]
  | c :: r => by
    have ih := split_eq r
    unfold split at ih ⊢
    by_cases h : c = 10
    · subst h
      rw [count_cons_eq, splitL, if_pos rfl, ← ih, Nat.add_comm, splitK, index_cons_eq]
      simp
    · rw [count_cons_ne c 10 r h, splitK_cons_ne c h, ih, splitL, if_neg h]

theorem trimSuffix_cons (c d : UInt8) (r : List UInt8) : trimSuffix (c :: d :: r) [10] = c :: trimSuffix (d :: r) [10] := by
  unfold trimSuffix
  have e : hasSuffix (c :: d :: r) [10] = hasSuffix (d :: r) [10] := by
    rw [← hasSuffix_of_drop, ← hasSuffix_of_drop]
    simp
  rw [e]
  split
  · simp
  · rfl
theorem trimSuffix_one (c : UInt8) : trimSuffix [c] [10] = if c = 10 then [] else [c] := by
  unfold trimSuffix
  rw [← hasSuffix_of_drop]
  by_cases h : c = 10 <;> simp [h]
theorem linesL_eq : ∀ l : List UInt8, l ≠ [] → linesL l = splitL (trimSuffix l [10])
  | [], h => absurd rfl h
  | [c], _ => by
    rw [trimSuffix_one]
    by_cases h : c = 10 <;> simp [h, linesL, splitL]
  | c :: d :: r, _ => by
    have ih := linesL_eq (d :: r) (by simp)
    rw [trimSuffix_cons]
    unfold linesL splitL
    rw [ih]

/-- strings as bytes -/
def mkB (l : List UInt8) : ByteArray := ⟨l.toArray⟩
theorem mkB_data (l : List UInt8) : (mkB l).data.toList = l := by simp [mkB]
theorem mkB_of (s : ByteArray) : mkB s.data.toList = s := by cases s; simp [mkB]
theorem map_mkB : ∀ (l : List ByteArray), (l.map (·.data.toList)).map mkB = l
  | [] => rfl
  | x :: r => by simp only [List.map_cons]; rw [map_mkB r, mkB_of]
theorem mkB_size (l : List UInt8) : (mkB l).size = l.length := by simp [mkB, ByteArray.size]

/-- text.Lines -/
def linesB (s : ByteArray) : List ByteArray := (linesL s.data.toList).map mkB
theorem splitB_lines (s : ByteArray) (hs : s.size ≠ 0) :
    splitB ⟨#[10]⟩ 0 (countB (mkB (trimSuffix s.data.toList [10])) ⟨#[10]⟩) (mkB (trimSuffix s.data.toList [10])) = linesB s := by
  have h := splitB_data ⟨#[10]⟩ 0 (countB (mkB (trimSuffix s.data.toList [10])) ⟨#[10]⟩) (mkB (trimSuffix s.data.toList [10]))
  rw [mkB_data] at h
  have hne : s.data.toList ≠ [] := by intro e; apply hs; rw [size_eq, e]; rfl
  have e2 : countB (mkB (trimSuffix s.data.toList [10])) ⟨#[10]⟩ = count (trimSuffix s.data.toList [10]) [10] := by unfold countB; rw [mkB_data]
  rw [e2] at h ⊢
  rw [show splitK (⟨#[10]⟩ : ByteArray).data.toList 0 (count (trimSuffix s.data.toList [10]) [10]) (trimSuffix s.data.toList [10]) = split (trimSuffix s.data.toList [10]) [10] from rfl, split_eq, ← linesL_eq _ hne] at h
  unfold linesB
  rw [← h, map_mkB]

/-! ### words -/
def blankP (r : Nat) : Bool := r == 32 || r == 9 || r == 13
def blankC (c : UInt8) : Bool := c == 32 || c == 9 || c == 13
theorem blankP_toNat (c : UInt8) : blankP c.toNat = blankC c := by
  unfold blankP blankC
  have h (k : UInt8) : (c.toNat == k.toNat) = (c == k) := by
    rw [Bool.eq_iff_iff, beq_iff_eq, beq_iff_eq]; exact UInt8.toNat_inj
  exact congr (congrArg or (congr (congrArg or (h 32)) (h 9))) (h 13)
def wordsGo (cur : List UInt8) : List UInt8 → List (List UInt8)
  | [] => if cur = [] then [] else [cur]
  | c :: r => if blankC c then (if cur = [] then [] else [cur]) ++ wordsGo [] r else wordsGo (cur ++ [c]) r
def wordsL (l : List UInt8) : List (List UInt8) := wordsGo [] l

theorem decodeN_high (n b0 b1 b2 b3 : Nat) (h : 128 ≤ b0) (hn : 1 ≤ n) :
    128 ≤ (decodeN n b0 b1 b2 b3).1 ∧ 1 ≤ (decodeN n b0 b1 b2 b3).2 ∧ (decodeN n b0 b1 b2 b3).2 ≤ n ∧ (decodeN n b0 b1 b2 b3).2 ≤ 4 ∧
      (1 < (decodeN n b0 b1 b2 b3).2 → b1 / 64 = 2) ∧ (2 < (decodeN n b0 b1 b2 b3).2 → b2 / 64 = 2) ∧ (3 < (decodeN n b0 b1 b2 b3).2 → b3 / 64 = 2) := by
  unfold decodeN
  repeat' split
  all_goals (simp only; omega)

theorem get_drop (s : ByteArray) (i : Nat) (h : i < s.size) : s.get! i = s.data.toList[i]'(by rw [← size_eq]; exact h) := by
  simp [ByteArray.get!, getElem!_pos, h]

/-- the bytes of a rune that is none of ASCII's are none of ASCII's -/
theorem decode_high (s : ByteArray) (pos : Nat) (h : pos < s.size) (hb : 128 ≤ (s.get! pos).toNat) :
    128 ≤ (Utf8.decode s pos).1 ∧ 1 ≤ (Utf8.decode s pos).2 ∧ pos + (Utf8.decode s pos).2 ≤ s.size ∧
      ∀ c ∈ (s.data.toList.drop pos).take (Utf8.decode s pos).2, blankC c = false := by
  rw [decode_at]
  obtain ⟨h1, h2, h3, h4, h5, h6, h7⟩ := decodeN_high (s.size - pos) (s.get! pos).toNat (s.get! (pos + 1)).toNat (s.get! (pos + 2)).toNat (s.get! (pos + 3)).toNat hb (by omega)
  generalize decodeN (s.size - pos) (s.get! pos).toNat (s.get! (pos + 1)).toNat (s.get! (pos + 2)).toNat (s.get! (pos + 3)).toNat = q at *
  refine ⟨h1, h2, by omega, fun c hc => ?_⟩
  obtain ⟨j, hj, rfl⟩ := List.getElem_of_mem hc
  rw [List.length_take] at hj
  have hj2 : pos + j < s.size := by omega
  have hv : 128 ≤ (s.get! (pos + j)).toNat := by
    have : j = 0 ∨ j = 1 ∨ j = 2 ∨ j = 3 := by omega
    rcases this with rfl | rfl | rfl | rfl
    · exact hb
    · have := h5 (by omega); omega
    · have := h6 (by omega); omega
    · have := h7 (by omega); omega
  rw [get_drop s _ hj2] at hv
  rw [List.getElem_take, List.getElem_drop, ← blankP_toNat]
  unfold blankP
  simp only [Bool.or_eq_false_iff, beq_eq_false_iff_ne]
  omega

theorem wordsGo_run : ∀ (u cur r : List UInt8), (∀ c ∈ u, blankC c = false) → wordsGo cur (u ++ r) = wordsGo (cur ++ u) r
  | [], cur, r, _ => by simp
  | c :: u, cur, r, h => by
    rw [List.cons_append, wordsGo, h c (by simp), wordsGo_run u (cur ++ [c]) r (fun d hd => h d (by simp [hd]))]
    simp

theorem spansFromP_none (p : Nat → Bool) (s : ByteArray) (f pos : Nat) (acc : List (Nat × Nat)) (h : pos < s.size) :
    spansFromP p s (f + 1) pos none acc = if p (Utf8.decode s pos).1 then spansFromP p s f (pos + (Utf8.decode s pos).2) none acc else spansFromP p s f (pos + (Utf8.decode s pos).2) (some pos) acc := by
  simp [spansFromP, h]
theorem spansFromP_some (p : Nat → Bool) (s : ByteArray) (f pos a : Nat) (acc : List (Nat × Nat)) (h : pos < s.size) :
    spansFromP p s (f + 1) pos (some a) acc = if p (Utf8.decode s pos).1 then spansFromP p s f (pos + (Utf8.decode s pos).2) none (acc ++ [(a, pos)]) else spansFromP p s f (pos + (Utf8.decode s pos).2) (some a) acc := by
  simp [spansFromP, h]

theorem spans_words (s : ByteArray) : ∀ (f pos : Nat) (st : Option Nat) (acc : List (Nat × Nat)), s.size ≤ pos + f → pos ≤ s.size → (∀ a, st = some a → a < pos) →
    (closeSpans s (spansFromP blankP s f pos st acc)).map (fun p => pieceU s.data.toList p.1 p.2) = acc.map (fun p => pieceU s.data.toList p.1 p.2) ++ wordsGo (openPiece s.data.toList st pos) (s.data.toList.drop pos)
  | 0, pos, st, acc, h, hp, hst => by
    obtain rfl : pos = s.size := by omega
    have hd : s.data.toList.drop s.size = [] := List.drop_eq_nil_of_le (by rw [← size_eq]; exact Nat.le_refl _)
    rw [hd]
    cases st with
    | none => simp [spansFromP, closeSpans, openPiece, wordsGo]
    | some a =>
      have := pieceU_ne s.data.toList a s.size (hst a rfl) (by rw [← size_eq]; exact Nat.le_refl _)
      simp [spansFromP, closeSpans, openPiece, wordsGo, this]
  | f + 1, pos, st, acc, h, hp, hst => by
    by_cases hlt : pos < s.size
    · have hlt' : pos < s.data.toList.length := by rw [← size_eq]; exact hlt
      have hdrop : s.data.toList.drop pos = s.data.toList[pos] :: s.data.toList.drop (pos + 1) := List.drop_eq_getElem_cons hlt'
      have hg := get_drop s pos hlt
      by_cases ha : (s.get! pos).toNat < 128
      · have hdec : Utf8.decode s pos = ((s.get! pos).toNat, 1) := by
          rw [decode_at]; unfold decodeN; rw [if_pos ha]
        have hb : blankP (s.get! pos).toNat = blankC s.data.toList[pos] := by rw [blankP_toNat, hg]
        rw [hdrop, wordsGo]
        cases st with
        | none =>
          rw [spansFromP_none _ _ _ _ _ hlt, hdec]
          dsimp only
          rw [hb]
          cases hbl : blankC s.data.toList[pos] with
          | true =>
            rw [if_pos rfl, if_pos rfl, spans_words s f (pos + 1) none acc (by omega) (by omega) (fun a h => by cases h)]
            simp [openPiece]
          | false =>
            rw [if_neg (by simp), if_neg (by simp), spans_words s f (pos + 1) (some pos) acc (by omega) (by omega) (fun a h => by cases h; omega)]
            congr 2
            simp only [openPiece, pieceU]
            rw [hdrop]; simp
        | some a =>
          have hap := hst a rfl
          rw [spansFromP_some _ _ _ _ _ _ hlt, hdec]
          dsimp only
          rw [hb]
          cases hbl : blankC s.data.toList[pos] with
          | true =>
            rw [if_pos rfl, if_pos rfl, spans_words s f (pos + 1) none (acc ++ [(a, pos)]) (by omega) (by omega) (fun a h => by cases h)]
            have := pieceU_ne s.data.toList a pos hap (by omega)
            simp [openPiece, this]
          | false =>
            rw [if_neg (by simp), if_neg (by simp), spans_words s f (pos + 1) (some a) acc (by omega) (by omega) (fun a h => by cases h; omega)]
            congr 2
            simp only [openPiece]
            rw [← pieceU_grow s.data.toList a pos 1 (by omega), hdrop]; simp
      · obtain ⟨h1, h2, h3, h4⟩ := decode_high s pos hlt (by omega)
        have hb : blankP (Utf8.decode s pos).1 = false := by
          unfold blankP
          simp only [Bool.or_eq_false_iff, beq_eq_false_iff_ne]
          omega
        have hsplit : s.data.toList.drop pos = (s.data.toList.drop pos).take (Utf8.decode s pos).2 ++ s.data.toList.drop (pos + (Utf8.decode s pos).2) := by
          rw [← List.drop_drop, List.take_append_drop]
        rw [hsplit, wordsGo_run _ _ _ h4]
        cases st with
        | none =>
          rw [spansFromP_none _ _ _ _ _ hlt, hb, if_neg (by simp), spans_words s f _ (some pos) acc (by omega) (by omega) (fun a h => by cases h; omega)]
          congr 2
          simp [openPiece, pieceU]
        | some a =>
          have hap := hst a rfl
          rw [spansFromP_some _ _ _ _ _ _ hlt, hb, if_neg (by simp), spans_words s f _ (some a) acc (by omega) (by omega) (fun a h => by cases h; omega)]
          congr 2
          simp only [openPiece]
          rw [pieceU_grow s.data.toList a pos _ (by omega)]
    · obtain rfl : pos = s.size := by omega
      have hd : s.data.toList.drop s.size = [] := List.drop_eq_nil_of_le (by rw [← size_eq]; exact Nat.le_refl _)
      rw [hd, spansFromP_end blankP s (f + 1) s.size st acc (by omega)]
      cases st with
      | none => simp [closeSpans, openPiece, wordsGo]
      | some a =>
        have := pieceU_ne s.data.toList a s.size (hst a rfl) (by rw [← size_eq]; exact Nat.le_refl _)
        simp [closeSpans, openPiece, wordsGo, this]

/-- text.Words -/
def wordsB (s : ByteArray) : List ByteArray := (wordsL s.data.toList).map mkB
theorem goFieldsP_words (s : ByteArray) : goFieldsP blankP s = wordsB s := by
  have h := spans_words s s.size 0 none [] (by omega) (by omega) (fun a h => by cases h)
  unfold wordsB wordsL
  simp only [List.map_nil, List.nil_append, openPiece, List.drop_zero] at h
  rw [← h]
  unfold goFieldsP spansOfP
  rw [List.map_map]
  apply List.map_congr_left
  intro x _
  rw [Function.comp, extract_eq]
  rfl
end Go.Proofs.TX
