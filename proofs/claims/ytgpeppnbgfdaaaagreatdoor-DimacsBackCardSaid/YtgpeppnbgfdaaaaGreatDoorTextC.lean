/-
  Plain laws on lines, words and numbers, for the statements of chapter 2. By an AI agent.
-/
import Derived.Test.YtgpeppnbgfdaaaaGreatDoorTextB
namespace Go.Proofs.TX
open Go.Lib

theorem linesL_append (t : List UInt8) : ∀ s : List UInt8, linesL (s ++ 10 :: t) = linesL (s ++ [10]) ++ linesL t
  | [] => by simp [linesL]
  | c :: r => by
    have ih := linesL_append t r
    rw [List.cons_append, List.cons_append]
    by_cases h : c = 10
    · simp only [linesL, if_pos h, ih, List.cons_append]
    · simp only [linesL, if_neg h, ih]
      have hne : linesL (r ++ [10]) ≠ [] := by
        cases r with
        | nil => simp [linesL]
        | cons d q =>
          rw [List.cons_append]
          unfold linesL
          split
          · simp
          · split <;> simp
      obtain ⟨x, xs, hx⟩ := List.exists_cons_of_ne_nil hne
      rw [hx]; rfl
theorem wordsGo_append (b : UInt8) (hb : blankC b = true) (t : List UInt8) : ∀ (s cur : List UInt8), wordsGo cur (s ++ b :: t) = wordsGo cur s ++ wordsGo [] t
  | [], cur => by simp [wordsGo, hb]
  | c :: r, cur => by
    rw [List.cons_append, wordsGo, wordsGo]
    split
    · rw [wordsGo_append b hb t r, List.append_assoc]
    · rw [wordsGo_append b hb t r]
theorem wordsL_append (b : UInt8) (hb : blankC b = true) (s t : List UInt8) : wordsL (s ++ b :: t) = wordsL s ++ wordsL t := wordsGo_append b hb t s []
theorem numL_bad (x : UInt8) (hx : digC x = false) (h45 : x ≠ 45) (s t : List UInt8) : numL (s ++ x :: t) = (0, 2) := by
  unfold numL
  have : (body (s ++ x :: t)).all digC = false := by
    unfold body
    cases s with
    | nil => rw [List.nil_append, if_neg (by simpa using h45)]; simp [hx]
    | cons c r =>
      split
      · simp [hx]
      · simp [hx]
  rw [if_pos (.inr this)]

theorem linesL_length : ∀ l : List UInt8, (linesL l).length = l.count 10 + if l.getLast? = none ∨ l.getLast? = some 10 then 0 else 1
  | [] => rfl
  | [c] => by
    by_cases h : c = 10 <;> simp [linesL, h]
  | c :: d :: r => by
    have ih := linesL_length (d :: r)
    have e : (c :: d :: r).getLast? = (d :: r).getLast? := by simp
    rw [e]
    by_cases h : c = 10
    · subst h
      rw [linesL, if_pos rfl, List.length_cons, ih, List.count_cons_self]; omega
    · rw [linesL, if_neg h, List.count_cons_of_ne (by simpa using h), ← ih]
      have hne : linesL (d :: r) ≠ [] := by
        unfold linesL
        split
        · simp
        · split <;> simp
      obtain ⟨x, xs, hx⟩ := List.exists_cons_of_ne_nil hne
      rw [hx]; rfl
def unlines (ls : List (List UInt8)) : List UInt8 := ls.flatMap (· ++ [10])
theorem unlines_lines : ∀ l : List UInt8, unlines (linesL l) = l ++ if l.getLast? = none ∨ l.getLast? = some 10 then [] else [10]
  | [] => rfl
  | [c] => by
    by_cases h : c = 10 <;> simp [linesL, h, unlines]
  | c :: d :: r => by
    have ih := unlines_lines (d :: r)
    have e : (c :: d :: r).getLast? = (d :: r).getLast? := by simp
    rw [e]
    by_cases h : c = 10
    · subst h
      rw [linesL, if_pos rfl]
      have : unlines ([] :: linesL (d :: r)) = 10 :: unlines (linesL (d :: r)) := rfl
      rw [this, ih]; rfl
    · rw [linesL, if_neg h]
      have hne : linesL (d :: r) ≠ [] := by
        unfold linesL
        split
        · simp
        · split <;> simp
      obtain ⟨x, xs, hx⟩ := List.exists_cons_of_ne_nil hne
      rw [hx] at ih ⊢
      have : unlines ((c :: x) :: xs) = c :: unlines (x :: xs) := rfl
      rw [this, ih]; rfl
end Go.Proofs.TX
