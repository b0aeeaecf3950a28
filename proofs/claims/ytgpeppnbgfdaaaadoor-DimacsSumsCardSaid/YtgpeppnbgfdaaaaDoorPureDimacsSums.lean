/-
  A text whose arcs have more than there may be together is wrong in the line of the first one that goes beyond: the plain statement. Conditions: none but that the arguments are numbers of 64 bits.
-/
import Derived.Test.YtgpeppnbgfdaaaaDoorRx2
import Derived.Test.YtgpeppnbgfdaaaaDoorDimT
namespace Go.Proofs.YtgpeppnbgfdaaaaDoor.Pure
open Go.RowKit Go.Lib Go.Proofs.TX Go.Proofs.YtgpeppnbgfdaaaaDoor.R Go.Proofs.YtgpeppnbgfdaaaaDoor.H Go.Proofs.YtgpeppnbgfdaaaaDoor.PL Go.Proofs.YtgpeppnbgfdaaaaDoorW.PrintWords Go.Proofs.YtgpeppnbgfdaaaaDoorW.PrintLast

theorem pick_some (a n : Int) (ha : -9223372036854775808 ≤ a ∧ a ≤ 9223372036854775807) (hn : 0 < n) : ∃ p, racewaylaw4_pick.f a n = some p ∧ 0 ≤ p ∧ p < n := by
  unfold racewaylaw4_pick.f
  by_cases h : a < 0
  · rw [if_pos h, if_neg (by omega)]
    refine ⟨_, rfl, ?_⟩
    rw [wrapS (i := a + 1) (by omega) (by omega), wrapS (by omega) (by omega), Int.tmod_eq_emod_of_nonneg (by omega)]
    exact ⟨Int.emod_nonneg _ (by omega), Int.emod_lt_of_pos _ hn⟩
  · rw [if_neg h, if_neg (by omega)]
    refine ⟨_, rfl, ?_⟩
    rw [Int.tmod_eq_emod_of_nonneg (by omega)]
    exact ⟨Int.emod_nonneg _ (by omega), Int.emod_lt_of_pos _ hn⟩
theorem shown_ok : racewaylaw4_shown.f = some true := by
  unfold racewaylaw4_shown.f
  rw [parse_some _ (by decide), show parseP _ = ((2, 1, 2, [⟨1, 2, 5⟩], 0, 0) : Int × Int × Int × List S33 × Int × Int) from by kernel_rfl]
  rfl

/-- the lines -/
def headL (n : Int) : List (List UInt8) := [[112, 32, 109, 97, 120, 32, 50, 32] ++ itoa n, [110, 32, 50, 32, 115], [110, 32, 49, 32, 116]]
def arcL (c : Int) : List UInt8 := [97, 32, 49, 32, 50, 32] ++ itoa c
theorem nl_lit {l : List UInt8} (h : l.all (· != 10) = true) : NoNl l := fun c hc => by
  have := List.all_eq_true.1 h c hc
  simpa using this
theorem nl_app {a b : List UInt8} (h : NoNl a) (h' : NoNl b) : NoNl (a ++ b) := fun c hc => by
  rcases List.mem_append.1 hc with h1 | h1
  · exact h c h1
  · exact h' c h1
theorem head_nl (n : Int) : ∀ l ∈ headL n, NoNl l := by
  intro l hl
  simp only [headL, List.mem_cons, List.not_mem_nil, or_false] at hl
  rcases hl with rfl | rfl | rfl
  · exact nl_app (nl_lit (by decide)) (itoa_nl n)
  · exact nl_lit (by decide)
  · exact nl_lit (by decide)
theorem arc_nl (c : Int) : NoNl (arcL c) := nl_app (nl_lit (by decide)) (itoa_nl c)
theorem word_lit {l : List UInt8} (h : (!l.isEmpty && l.all (fun c => !blankC c)) = true) : Word l := by
  rw [Bool.and_eq_true] at h
  refine ⟨fun e => by rw [e] at h; exact absurd h.1 (by decide), fun c hc => ?_⟩
  have := List.all_eq_true.1 h.2 c hc
  simpa using this
theorem words_problem (n : Int) : wordsL ([112, 32, 109, 97, 120, 32, 50, 32] ++ itoa n) = [[112], [109, 97, 120], [50], itoa n] := by
  have e : ([112, 32, 109, 97, 120, 32, 50, 32] ++ itoa n : List UInt8) = [112] ++ 32 :: ([109, 97, 120] ++ 32 :: ([50] ++ 32 :: itoa n)) := by simp
  rw [e, wordsL_cons (word_lit (by decide)) 32 (by decide), wordsL_cons (word_lit (by decide)) 32 (by decide), wordsL_cons (word_lit (by decide)) 32 (by decide), wordsL_word (itoa_word n)]
theorem words_arc (c : Int) : wordsL (arcL c) = [[97], [49], [50], itoa c] := by
  have e : arcL c = [97] ++ 32 :: ([49] ++ 32 :: ([50] ++ 32 :: itoa c)) := by simp [arcL]
  rw [e, wordsL_cons (word_lit (by decide)) 32 (by decide), wordsL_cons (word_lit (by decide)) 32 (by decide), wordsL_cons (word_lit (by decide)) 32 (by decide), wordsL_word (itoa_word c)]
def s3 (n : Int) : RS := ⟨2, 2, 1, [], n, 0⟩
theorem head_ok (n : Int) (h0 : 0 ≤ n) (h1 : n ≤ 2000) : okP RS.init (headL n) = some (s3 n) := by
  have hn := numL_itoa n (by omega) (by omega)
  have e1 : stepP RS.init (wordsL ([112, 32, 109, 97, 120, 32, 50, 32] ++ itoa n)) = (0, ⟨2, 0, 0, [], n, 0⟩) := by
    rw [words_problem, step_problem RS.init (show numL [50] = (2, 0) by kernel_rfl) hn rfl (by omega) (by omega) h0 h1]
    rfl
  have w2 : wordsL [110, 32, 50, 32, 115] = [[110], [50], [115]] := by kernel_rfl
  have w3 : wordsL [110, 32, 49, 32, 116] = [[110], [49], [116]] := by kernel_rfl
  have e2 : stepP ⟨2, 0, 0, [], n, 0⟩ (wordsL [110, 32, 50, 32, 115]) = (0, ⟨2, 2, 0, [], n, 0⟩) := by
    rw [w2, step_source _ (show numL [50] = (2, 0) by kernel_rfl) (by show n ≠ -1; omega) rfl rfl (by omega) (by show (2 : Int) ≤ 2; omega) (by show (2 : Int) ≠ 0; omega)]
  have e3 : stepP ⟨2, 2, 0, [], n, 0⟩ (wordsL [110, 32, 49, 32, 116]) = (0, s3 n) := by
    rw [w3, step_sink _ (show numL [49] = (1, 0) by kernel_rfl) (by show n ≠ -1; omega) rfl rfl (by omega) (by show (1 : Int) ≤ 2; omega) (by show (1 : Int) ≠ 2; omega)]
    rfl
  unfold headL okP
  rw [e1, if_pos rfl]
  unfold okP
  rw [e2, if_pos rfl]
  unfold okP
  rw [e3, if_pos rfl]
  rfl
def sAt (n c : Int) (j : Nat) : RS := ⟨2, 2, 1, List.replicate j ⟨1, 2, c⟩, n, j * c⟩
theorem arcs_step (n c : Int) (hc : 0 ≤ c) (hc2 : c ≤ 4611686018427387903) (j : Nat) (hj : ((j : Int) + 1) * c ≤ 4611686018427387903) (hn : (j : Int) < n) :
    stepP (sAt n c j) (wordsL (arcL c)) = (0, sAt n c (j + 1)) := by
  have h0 : 0 ≤ (j : Int) * c := Int.mul_nonneg (by omega) hc
  have hadd : (j : Int) * c + c = ((j : Int) + 1) * c := by rw [Int.add_mul]; omega
  rw [words_arc, step_arc (sAt n c j) (show numL [49] = (1, 0) by kernel_rfl) (show numL [50] = (2, 0) by kernel_rfl) (numL_itoa c (by omega) (by omega)) (by show (2 : Int) ≠ 0; omega) (by show (1 : Int) ≠ 0; omega) (by omega) (by show (1 : Int) ≤ 2; omega) (by omega) (by show (2 : Int) ≤ 2; omega) hc (by show ((List.replicate j _).length : Int) ≠ n; rw [List.length_replicate]; omega) h0 (by show (j : Int) * c + c ≤ _; omega)]
  show (_, RS.mk 2 2 1 (List.replicate j _ ++ [_]) n ((j : Int) * c + c)) = _
  unfold sAt
  rw [List.replicate_succ', hadd]
  congr
theorem arcs_ok (n c : Int) (hc : 0 ≤ c) (hc2 : c ≤ 4611686018427387903) : ∀ (m j : Nat), ((j : Int) + m) * c ≤ 4611686018427387903 → (j : Int) + m ≤ n → okP (sAt n c j) (List.replicate m (arcL c)) = some (sAt n c (j + m))
  | 0, j, _, _ => rfl
  | m + 1, j, h, hn => by
    have h1 : ((j : Int) + 1) * c ≤ 4611686018427387903 := by
      have : ((j : Int) + 1) * c ≤ ((j : Int) + (m + 1 : Nat)) * c := Int.mul_le_mul_of_nonneg_right (by omega) hc
      omega
    rw [List.replicate_succ]
    unfold okP
    rw [arcs_step n c hc hc2 j h1 (by omega), if_pos rfl, arcs_ok n c hc hc2 m (j + 1) (by rw [show ((j + 1 : Nat) : Int) + m = (j : Int) + (m + 1 : Nat) by omega]; exact h) (by omega)]
    congr 2
    omega

def textL (n c : Int) (j : Nat) : List UInt8 := unlines (headL n) ++ unlines (List.replicate j (arcL c))
theorem lines_text (n c : Int) (j : Nat) : linesL (textL n c j) = headL n ++ List.replicate j (arcL c) := by
  unfold textL
  rw [linesL_unlines _ _ (head_nl n)]
  have := linesL_unlines (List.replicate j (arcL c)) [] (fun l hl => by rw [(List.mem_replicate.1 hl).2]; exact arc_nl c)
  rw [List.append_nil, show linesL [] = [] by simp [linesL], List.append_nil] at this
  rw [this]
theorem parse_fits (n c : Int) (k : Nat) (hk : (k : Int) = n) (h1 : n ≤ 2000) (hc : 0 ≤ c) (hc2 : c ≤ 4611686018427387903) (h : (k : Int) * c ≤ 4611686018427387903) :
    parseP (textL n c k) = (2, 2, 1, List.replicate k ⟨1, 2, c⟩, 0, 0) := by
  have hr : runP RS.init 0 (linesL (textL n c k)) = (0, 0, sAt n c k) := by
    have e1 := arcs_ok n c hc hc2 k 0 (by simpa using h) (by omega)
    have e2 : okP RS.init (headL n ++ List.replicate k (arcL c)) = some (sAt n c k) := by
      rw [okP_append, head_ok n (by omega) h1, Option.bind_some]
      have e3 : s3 n = sAt n c 0 := by unfold s3 sAt; simp
      rw [e3, e1, Nat.zero_add]
    have := runP_ok (headL n ++ List.replicate k (arcL c)) [] RS.init _ 0 e2
    rw [List.append_nil] at this
    rw [lines_text, this]
    rfl
  unfold parseP
  rw [hr]
  show (if (0 : Int) = 0 then if n = -1 then _ else if (2 : Int) = 0 then _ else if (1 : Int) = 0 then _ else if ((List.replicate k _).length : Int) < n then _ else _ else _) = _
  rw [if_pos rfl, if_neg (by omega), if_neg (by omega), if_neg (by omega), if_neg (by rw [List.length_replicate]; omega)]
  rfl
theorem parse_beyond (n c : Int) (k m : Nat) (hk : (k : Int) = n) (h1 : n ≤ 2000) (hc : 0 ≤ c) (hc2 : c ≤ 4611686018427387903) (hm : m < k) (h : (m : Int) * c ≤ 4611686018427387903) (h' : 4611686018427387903 < ((m : Int) + 1) * c) :
    parseP (textL n c k) = (0, 0, 0, [], 4 + (m : Int), 7) := by
  have hr : runP RS.init 0 (linesL (textL n c k)) = (4 + (m : Int), 7, sAt n c m) := by
    have e1 := arcs_ok n c hc hc2 m 0 (by simpa using h) (by omega)
    have e2 : okP RS.init (headL n ++ List.replicate m (arcL c)) = some (sAt n c m) := by
      rw [okP_append, head_ok n (by omega) h1, Option.bind_some]
      have e3 : s3 n = sAt n c 0 := by unfold s3 sAt; simp
      rw [e3, e1, Nat.zero_add]
    have e4 : List.replicate k (arcL c) = List.replicate m (arcL c) ++ arcL c :: List.replicate (k - m - 1) (arcL c) := by
      rw [← List.replicate_succ, List.replicate_append_replicate]
      congr 1
      omega
    have h0 : 0 ≤ (m : Int) * c := Int.mul_nonneg (by omega) hc
    have hadd : (m : Int) * c + c = ((m : Int) + 1) * c := by rw [Int.add_mul]; omega
    have e5 : stepP (sAt n c m) (wordsL (arcL c)) = (7, sAt n c m) := by
      rw [words_arc]
      exact step_arc_sum (sAt n c m) (show numL [49] = (1, 0) by kernel_rfl) (show numL [50] = (2, 0) by kernel_rfl) (numL_itoa c (by omega) (by omega)) (by show (2 : Int) ≠ 0; omega) (by show (1 : Int) ≠ 0; omega) (by omega) (by show (1 : Int) ≤ 2; omega) (by omega) (by show (2 : Int) ≤ 2; omega) hc (by omega) (by show ((List.replicate m _).length : Int) ≠ n; rw [List.length_replicate]; omega) h0 h (by show _ < (m : Int) * c + c; omega)
    rw [lines_text, e4, ← List.append_assoc, runP_ok _ _ RS.init _ 0 e2, runP_bad _ _ _ _ (by rw [e5]; show (7 : Int) ≠ 0; decide), e5]
    have : (headL n ++ List.replicate m (arcL c)).length = 3 + m := by simp [headL]; omega
    rw [this]
    congr 1
    omega
  unfold parseP
  rw [hr, if_neg (show ¬ (7 : Int) = 0 by decide)]

theorem small_text (n c : Int) (k : Nat) (hn : (itoa n).length ≤ 21) (hc : (itoa c).length ≤ 21) : (textL n c k).length ≤ 100 + 30 * k := by
  have h1 : ∀ m : Nat, (unlines (List.replicate m (arcL c))).length ≤ 30 * m := by
    intro m
    induction m with
    | zero => simp [unlines]
    | succ m ih =>
      rw [List.replicate_succ]
      have e : unlines (arcL c :: List.replicate m (arcL c)) = arcL c ++ 10 :: unlines (List.replicate m (arcL c)) := by simp [unlines]
      have e2 : (arcL c).length ≤ 27 := by simp only [arcL, List.length_append, List.length_cons, List.length_nil]; omega
      rw [e, List.length_append, List.length_cons]
      omega
  have := h1 k
  unfold textL
  simp only [List.length_append, unlines, headL, List.flatMap_cons, List.flatMap_nil, List.length_cons, List.length_nil] at this ⊢
  omega

theorem wrap_succ (i : Nat) (h : i < 1000) : wrap64 ((i : Int) + 1) = ((i + 1 : Nat) : Int) := wrapS (i := (i : Int) + 1) (by omega) (by omega)
theorem wrap_four (i : Nat) (h : i < 1000) : wrap64 (4 + (i : Int)) = 4 + (i : Int) := wrapS (i := 4 + (i : Int)) (by omega) (by omega)
theorem loop_ok (n c : Int) (N m : Nat) (hN : (N : Int) = n) (h2 : n ≤ 31) (hc : 1 ≤ c) (hc2 : c ≤ 4611686018427387903) (hm1 : (m : Int) * c ≤ 4611686018427387903) (hm2 : 4611686018427387903 < ((m : Int) + 1) * c) (hm3 : m ≤ 100) (d : Nat) :
    ∀ (i : Nat) (x : ByteArray), i + d = N → x.data.toList = textL n c i →
      ∃ k, racewaylaw4_DimacsSums.l0 k n c x (if i ≤ m then 4611686018427387903 - i * c else -1) (if i ≤ m then 0 else 4 + (m : Int)) (i : Int) = some true := by
  have hcl := itoa_length_le c (by omega) (by omega)
  have hnl := itoa_length_le n (by omega) (by omega)
  induction d with
  | zero =>
    intro i x hi hx
    have hsz : x.size < 4294967281 := by
      rw [size_eq, hx]
      have := small_text n c i hnl hcl
      omega
    refine ⟨1, ?_⟩
    simp only [racewaylaw4_DimacsSums.l0]
    rw [if_neg (by omega), parse_some x hsz, Option.bind_some, hx]
    by_cases h : i ≤ m
    · have hic : (i : Int) * c ≤ 4611686018427387903 := by
        have : (i : Int) * c ≤ (m : Int) * c := Int.mul_le_mul_of_nonneg_right (by omega) (by omega)
        omega
      simp only [if_pos h]
      rw [parse_fits n c i (by omega) (by omega) (by omega) hc2 hic, if_pos rfl]
      simp only [if_true, List.length_replicate]
      congr 1
      simp
      omega
    · simp only [if_neg h]
      rw [parse_beyond n c i m (by omega) (by omega) (by omega) hc2 (by omega) hm1 hm2, if_neg (by omega)]
      simp
  | succ d ih =>
    intro i x hi hx
    have hs := small_text n c i hnl hcl
    have hxs : x.size ≤ 100 + 30 * i := by rw [size_eq, hx]; exact hs
    have hw : text_Write.f c = some (mkB (itoa c)) := write_some c (by omega) (by omega)
    have hx' : (((x ++ (⟨#[97, 32, 49, 32, 50, 32]⟩ : ByteArray)) ++ mkB (itoa c)) ++ (⟨#[10]⟩ : ByteArray)).data.toList = textL n c (i + 1) := by
      rw [app_data, app_data, app_data, hx, mkB_data]
      unfold textL
      rw [List.replicate_succ']
      simp [unlines, arcL]
    obtain ⟨k, hk⟩ := ih (i + 1) _ (by omega) hx'
    refine ⟨k + 1 + 1, ?_⟩
    have step : racewaylaw4_DimacsSums.l0 (k + 1 + 1) n c x (if i ≤ m then 4611686018427387903 - i * c else -1) (if i ≤ m then 0 else 4 + (m : Int)) (i : Int)
        = if (wrap64 ((if i ≤ m then 4611686018427387903 - i * c else -1) - c)) < 0 then racewaylaw4_DimacsSums.j1 (k + 1) n c (((x ++ (⟨#[97, 32, 49, 32, 50, 32]⟩ : ByteArray)) ++ mkB (itoa c)) ++ (⟨#[10]⟩ : ByteArray)) (wrap64 ((if i ≤ m then 4611686018427387903 - i * c else -1) - c)) (if i ≤ m then 0 else 4 + (m : Int)) i ((if i ≤ m then 0 else 4 + (m : Int)) == 0)
          else racewaylaw4_DimacsSums.j1 (k + 1) n c (((x ++ (⟨#[97, 32, 49, 32, 50, 32]⟩ : ByteArray)) ++ mkB (itoa c)) ++ (⟨#[10]⟩ : ByteArray)) (wrap64 ((if i ≤ m then 4611686018427387903 - i * c else -1) - c)) (if i ≤ m then 0 else 4 + (m : Int)) i false := by
      have z1 : x.size + 6 ≤ 9223372036854775807 := by omega
      have z2 : (x ++ (⟨#[97, 32, 49, 32, 50, 32]⟩ : ByteArray)).size + (mkB (itoa c)).size ≤ 9223372036854775807 := by
        rw [ByteArray.size_append, mkB_size]
        show x.size + 6 + _ ≤ _
        omega
      have z3 : ((x ++ (⟨#[97, 32, 49, 32, 50, 32]⟩ : ByteArray)) ++ mkB (itoa c)).size + 1 ≤ 9223372036854775807 := by
        rw [ByteArray.size_append, ByteArray.size_append, mkB_size]
        show x.size + 6 + _ + 1 ≤ _
        omega
      conv => lhs; rw [racewaylaw4_DimacsSums.l0]
      rw [if_pos (show (i : Int) < n by omega), if_pos z1, hw, Option.bind_some, if_pos z2, if_pos z3]
    rw [step]
    by_cases h : i + 1 ≤ m
    · have h' : i ≤ m := by omega
      have hic : ((i : Int) + 1) * c ≤ 4611686018427387903 := by
        have : ((i : Int) + 1) * c ≤ (m : Int) * c := Int.mul_le_mul_of_nonneg_right (by omega) (by omega)
        omega
      have hadd : ((i : Int) + 1) * c = (i : Int) * c + c := by rw [Int.add_mul]; omega
      have h0 : 0 ≤ (i : Int) * c := Int.mul_nonneg (by omega) (by omega)
      have hcast : ((i + 1 : Nat) : Int) * c = (i : Int) * c + c := by rw [← hadd]; rfl
      simp only [if_pos h, hcast] at hk
      simp only [if_pos h']
      rw [wrapS (by omega) (by omega), if_neg (by omega)]
      simp only [racewaylaw4_DimacsSums.j1]
      rw [if_neg (by decide), if_neg (by omega), wrap_succ i (by omega), show (4611686018427387903 : Int) - i * c - c = 4611686018427387903 - ((i : Int) * c + c) by omega]
      exact hk
    · simp only [if_neg h] at hk
      by_cases h' : i ≤ m
      · obtain rfl : i = m := by omega
        have hadd : ((i : Int) + 1) * c = (i : Int) * c + c := by rw [Int.add_mul]; omega
        have h0 : 0 ≤ (i : Int) * c := Int.mul_nonneg (by omega) (by omega)
        simp only [if_pos h']
        rw [wrapS (by omega) (by omega), if_pos (by omega)]
        simp only [racewaylaw4_DimacsSums.j1]
        rw [if_pos (by decide), if_pos (by omega), wrap_succ i (by omega), wrap_four i (by omega)]
        exact hk
      · simp only [if_neg h']
        rw [wrapS (by omega) (by omega), if_pos (by omega)]
        have hb : ((4 + (m : Int)) == 0) = false := beq_eq_false_iff_ne.mpr (by omega)
        simp only [racewaylaw4_DimacsSums.j1, hb]
        rw [if_neg (by decide), if_pos (by omega), wrap_succ i (by omega)]
        exact hk

theorem DimacsSums : racewaylaw4_DimacsSums.Pure := by
  intro a0 a1 h0 h1
  obtain ⟨p, hp, hp0, hp1⟩ := pick_some a0 30 (wf64 h0) (by omega)
  obtain ⟨q, hq, hq0, hq1⟩ := pick_some a1 30 (wf64 h1) (by omega)
  have w1 : wrap64 (2 + q) = 2 + q := wrapS (i := 2 + q) (by omega) (by omega)
  have w2 : wrap64 (2 + p) = 2 + p := wrapS (i := 2 + p) (by omega) (by omega)
  have td : Int.tdiv 4611686018427387904 (2 + q) = 4611686018427387904 / (2 + q) := Int.tdiv_eq_ediv_of_nonneg (by omega)
  have hd0 : 0 ≤ 4611686018427387904 / (2 + q) := Int.ediv_nonneg (by omega) (by omega)
  have hd1 : 4611686018427387904 / (2 + q) ≤ 2305843009213693952 := Int.ediv_le_of_le_mul (by omega) (by omega)
  have hd2 : 4611686018427387904 < (4611686018427387904 / (2 + q) + 1) * (2 + q) := Int.lt_ediv_add_one_mul_self _ (by omega)
  generalize hD : 4611686018427387904 / (2 + q) = D at *
  have w3 : wrap64 D = D := wrapS (i := D) (by omega) (by omega)
  have w4 : wrap64 (D + 1) = D + 1 := wrapS (i := D + 1) (by omega) (by omega)
  have hm0 : 0 ≤ 4611686018427387903 / (D + 1) := Int.ediv_nonneg (by omega) (by omega)
  have hm1 : 4611686018427387903 / (D + 1) * (D + 1) ≤ 4611686018427387903 := Int.ediv_mul_le _ (by omega)
  have hm2 : 4611686018427387903 < (4611686018427387903 / (D + 1) + 1) * (D + 1) := Int.lt_ediv_add_one_mul_self _ (by omega)
  have hm3 : 4611686018427387903 / (D + 1) < 2 + q := Int.ediv_lt_of_lt_mul (by omega) (by rw [Int.mul_comm]; omega)
  generalize 4611686018427387903 / (D + 1) = M at *
  obtain ⟨m, rfl⟩ := Int.eq_ofNat_of_zero_le hm0
  obtain ⟨N, hN⟩ := Int.eq_ofNat_of_zero_le (show 0 ≤ 2 + p by omega)
  have hw : text_Write.f (2 + p) = some (mkB (itoa (2 + p))) := write_some _ (by omega) (by omega)
  have hl := itoa_length_le (2 + p) (by omega) (by omega)
  have hx : ((((⟨#[112, 32, 109, 97, 120, 32, 50, 32]⟩ : ByteArray) ++ mkB (itoa (2 + p))) ++ (⟨#[10, 110, 32, 50, 32, 115, 10, 110, 32, 49, 32, 116, 10]⟩ : ByteArray))).data.toList = textL (2 + p) (D + 1) 0 := by
    rw [app_data, app_data, mkB_data]
    unfold textL
    simp [unlines, headL]
  obtain ⟨k, hk⟩ := loop_ok (2 + p) (D + 1) N m hN.symm (by omega) (by omega) (by omega) hm1 hm2 (by omega) N 0 _ (by omega) hx
  refine ⟨k, ?_⟩
  unfold racewaylaw4_DimacsSums.f
  rw [shown_ok, Option.bind_some, if_pos rfl, hp, Option.bind_some, hq, Option.bind_some, w1, if_neg (by omega), w2, hw, Option.bind_some, if_pos (by rw [mkB_size]; omega), if_pos (by rw [ByteArray.size_append, mkB_size]; show 8 + _ + 13 ≤ _; omega), td, w3, w4]
  simpa using hk
end Go.Proofs.YtgpeppnbgfdaaaaDoor.Pure
