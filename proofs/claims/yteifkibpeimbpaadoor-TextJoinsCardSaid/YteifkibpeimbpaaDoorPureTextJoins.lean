/-
  TextJoins, plain: the lines of two texts, with an end between, are those of both, and the words of two, with a blank between; a sign of another alphabet is none of a number. By an AI agent.
-/
import Derived.Test.YteifkibpeimbpaaDoorQx4
import Derived.Test.YteifkibpeimbpaaDoorPlain
namespace Go.Proofs.YteifkibpeimbpaaDoor.Pure
open Go.RowKit Go.Lib Go.Proofs.TX Go.Proofs.YteifkibpeimbpaaDoor.Q Go.Proofs.YteifkibpeimbpaaDoor.H Go.Proofs.YteifkibpeimbpaaDoor.PL Go.Proofs.YteifkibpeimbpaaDoorW.PrintWords Go.Proofs.YteifkibpeimbpaaDoorW.PrintLast

theorem same_ok (l : List ByteArray) (hl : l.length ≤ 1000000) (d : Nat) : ∀ i : Nat, i + d = l.length → Ev (fun k => racewaylaw2_same.l0 k l l (i : Int)) true := by
  induction d with
  | zero =>
    intro i hi
    refine Ev.step (f := fun _ => some true) (fun k => ?_) (Ev.now true)
    simp only [racewaylaw2_same.l0]
    rw [if_neg (by omega)]
  | succ d ih =>
    intro i hi
    refine Ev.step (fun k => ?_) (ih (i + 1) (by omega))
    simp only [racewaylaw2_same.l0]
    rw [if_pos (by omega), if_pos (by omega), if_pos (by omega), if_pos trivial, wrapS (by omega) (by omega)]
    rfl
theorem same_self (l : List ByteArray) (hl : l.length ≤ 1000000) : Ev (fun k => racewaylaw2_same.f k l l) true :=
  Ev.congr (fun k => by unfold racewaylaw2_same.f; rw [if_pos rfl]; rfl) (same_ok l hl l.length 0 (by omega))

theorem shown_ok : racewaylaw2_shown.f = some true := by
  unfold racewaylaw2_shown.f
  rw [num_some _ (by decide), Option.bind_some, show numL (⟨#[45, 48, 48, 55]⟩ : ByteArray).data.toList = (-7, 0) by decide +kernel]
  rfl
theorem lines_both (s t : ByteArray) : linesB ((s ++ (⟨#[10]⟩ : ByteArray)) ++ t) = linesB (s ++ (⟨#[10]⟩ : ByteArray)) ++ linesB t := by
  unfold linesB
  rw [app_data, app_data, show (⟨#[10]⟩ : ByteArray).data.toList = [10] from rfl, List.append_assoc, List.singleton_append, linesL_append, List.map_append]
theorem words_both (s t : ByteArray) : wordsB ((s ++ (⟨#[32, 9]⟩ : ByteArray)) ++ t) = wordsB s ++ wordsB t := by
  unfold wordsB
  rw [app_data, app_data, show (⟨#[32, 9]⟩ : ByteArray).data.toList = [32, 9] from rfl, List.append_assoc, show [32, 9] ++ t.data.toList = 32 :: 9 :: t.data.toList from rfl, wordsL_append 32 rfl, List.map_append]
  have := wordsL_append 9 rfl [] t.data.toList
  rw [List.nil_append, show wordsL [] = [] from rfl, List.nil_append] at this
  rw [this]

theorem TextJoins : racewaylaw2_TextJoins.Pure := by
  intro s t hs ht
  refine Ev.rounds ?_
  have hw : wrap64 ((s.size : Int) + (t.size : Int)) = (s.size : Int) + (t.size : Int) := wrapS (by omega) (by omega)
  refine Ev.congr (f := fun k => racewaylaw2_TextJoins.j0 k s t true (decide ((s.size : Int) + (t.size : Int) > 2500))) (fun k => ?_) ?_
  · unfold racewaylaw2_TextJoins.f
    rw [shown_ok, Option.bind_some, if_pos rfl, hw]
  · by_cases h : (s.size : Int) + (t.size : Int) > 2500
    · refine Ev.step (f := fun _ => some true) (fun k => ?_) (Ev.now true)
      simp only [racewaylaw2_TextJoins.j0]
      rw [if_pos (by simpa using h)]
    · have z1 : (s ++ (⟨#[10]⟩ : ByteArray)).size = s.size + 1 := by rw [ByteArray.size_append]; rfl
      have z2 : (s ++ (⟨#[32, 9]⟩ : ByteArray)).size = s.size + 2 := by rw [ByteArray.size_append]; rfl
      have z3 : (s ++ (⟨#[120]⟩ : ByteArray)).size = s.size + 1 := by rw [ByteArray.size_append]; rfl
      have z4 : (s ++ (⟨#[195, 169]⟩ : ByteArray)).size = s.size + 2 := by rw [ByteArray.size_append]; rfl
      have y1 : ((s ++ (⟨#[10]⟩ : ByteArray)) ++ t).size = s.size + 1 + t.size := by rw [ByteArray.size_append, z1]
      have y2 : ((s ++ (⟨#[32, 9]⟩ : ByteArray)) ++ t).size = s.size + 2 + t.size := by rw [ByteArray.size_append, z2]
      have y3 : ((s ++ (⟨#[120]⟩ : ByteArray)) ++ t).size = s.size + 1 + t.size := by rw [ByteArray.size_append, z3]
      have y4 : ((s ++ (⟨#[195, 169]⟩ : ByteArray)) ++ t).size = s.size + 2 + t.size := by rw [ByteArray.size_append, z4]
      have n1 := num_some ((s ++ (⟨#[120]⟩ : ByteArray)) ++ t) (by omega)
      rw [app_data, app_data, show (⟨#[120]⟩ : ByteArray).data.toList = [120] from rfl, List.append_assoc, List.singleton_append, numL_bad 120 (by decide) (by decide)] at n1
      have n2 := num_some ((s ++ (⟨#[195, 169]⟩ : ByteArray)) ++ t) (by omega)
      rw [app_data, app_data, show (⟨#[195, 169]⟩ : ByteArray).data.toList = [195, 169] from rfl, List.append_assoc, show [195, 169] ++ t.data.toList = 195 :: 169 :: t.data.toList from rfl, numL_bad 195 (by decide) (by decide)] at n2
      have l1 := linesB_le (s ++ (⟨#[10]⟩ : ByteArray))
      have l2 := linesB_le t
      have w1 := wordsB_le s
      have w2 := wordsB_le t
      refine Ev.step (f := fun k => (racewaylaw2_same.f k (linesB (s ++ (⟨#[10]⟩ : ByteArray)) ++ linesB t) (linesB (s ++ (⟨#[10]⟩ : ByteArray)) ++ linesB t)).bind fun t193 =>
          (if t193 = true then ((racewaylaw2_same.f k (wordsB s ++ wordsB t) (wordsB s ++ wordsB t)).bind fun t194 => (if t194 = true then some true else (some false))) else (some false))) (fun k => ?_) ?_
      · simp only [racewaylaw2_TextJoins.j0]
        rw [if_neg (by simpa using h), if_pos (by omega), if_pos (by omega), lines_some _ (by omega), Option.bind_some, Option.bind_some, lines_some _ (by omega), Option.bind_some]
        rw [if_pos (by rw [List.length_nil]; omega), Option.bind_some, lines_some _ (by omega), Option.bind_some]
        rw [if_pos (by rw [List.length_append, List.length_nil]; omega), if_pos (by omega), if_pos (by omega), words_some _ (by omega), Option.bind_some, Option.bind_some, words_some _ (by omega), Option.bind_some]
        rw [if_pos (by rw [List.length_nil]; omega), Option.bind_some, words_some _ (by omega), Option.bind_some]
        rw [if_pos (by rw [List.length_append, List.length_nil]; omega), if_pos (by omega), n1, Option.bind_some, if_pos (by omega), n2, Option.bind_some]
        rw [lines_both, words_both]
        rfl
      · refine Ev.bind (same_self _ (by rw [List.length_append]; omega)) ?_
        refine Ev.congr (fun k => if_pos rfl) ?_
        refine Ev.bind (same_self _ (by rw [List.length_append]; omega)) ?_
        exact Ev.congr (fun k => if_pos rfl) (Ev.now true)
end Go.Proofs.YteifkibpeimbpaaDoor.Pure
