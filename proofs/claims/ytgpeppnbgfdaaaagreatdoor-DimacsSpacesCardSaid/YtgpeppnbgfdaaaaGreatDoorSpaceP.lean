/-
  Blanks of any kind between words, noughts ahead of numbers, and notes between lines change no network: plain laws. By an AI agent.
-/
import Derived.Test.YtgpeppnbgfdaaaaGreatDoorBackP
namespace Go.Proofs.YtgpeppnbgfdaaaaGreatDoor.R
set_option linter.unusedVariables false
set_option linter.unusedSimpArgs false
open Go.RowKit Go.Lib Go.Proofs.TX Go.Proofs.YtgpeppnbgfdaaaaGreatDoor.H Go.Proofs.YtgpeppnbgfdaaaaGreatDoor.PL Go.Proofs.YtgpeppnbgfdaaaaGreatDoorW.PrintWords Go.Proofs.YtgpeppnbgfdaaaaGreatDoorW.PrintLast
def noteB : List UInt8 := [99, 32, 112, 32, 109, 97, 120, 32, 57, 32, 57, 10, 9, 10]
def blanks4 : List (List UInt8) := [[32], [9], [32, 32], [32, 13, 32]]
def zeros2 : List (List UInt8) := [[9, 9, 32, 48], [32, 48, 48]]
inductive Sp : List UInt8 → List UInt8 → Prop
  | nil : Sp [] []
  | keep {c : UInt8} {r t : List UInt8} : c ≠ 10 → Sp r t → Sp (c :: r) (c :: t)
  | nl {r t : List UInt8} : Sp r t → Sp (10 :: r) (10 :: t)
  | note {r t : List UInt8} : Sp r t → Sp (10 :: r) (10 :: (noteB ++ t))
  | blank {b r t : List UInt8} : b ∈ blanks4 → Sp r t → Sp (32 :: r) (b ++ t)
  | zero {b r t : List UInt8} {d : UInt8} : b ∈ zeros2 → digC d = true → Sp (d :: r) t → Sp (32 :: d :: r) (b ++ t)
def Plain (w : List UInt8) : Prop := ∀ c ∈ w, blankC c = false ∧ c ≠ 10
theorem sp_word : ∀ (w y t : List UInt8), Plain w → Sp (w ++ y) t → ∃ t', t = w ++ t' ∧ Sp y t'
  | [], y, t, _, h => ⟨t, rfl, h⟩
  | c :: w, y, t, hw, h => by
    obtain ⟨h1, h2⟩ := hw c (List.mem_cons_self ..)
    have h3 : c ≠ 32 := by rintro rfl; exact absurd h1 (by decide)
    rw [List.cons_append] at h
    generalize hr : c :: (w ++ y) = R at h
    cases h with
    | nil => cases hr
    | keep _ h =>
      injection hr with e1 e2
      subst e1
      subst e2
      obtain ⟨t', rfl, h'⟩ := sp_word w y _ (fun x hx => hw x (List.mem_cons_of_mem _ hx)) h
      exact ⟨t', rfl, h'⟩
    | nl h => injection hr with e1 e2; exact absurd e1 h2
    | note h => injection hr with e1 e2; exact absurd e1 h2
    | blank _ h => injection hr with e1 e2; exact absurd e1 h3
    | zero _ _ h => injection hr with e1 e2; exact absurd e1 h3
def Zr (z : List UInt8) : Prop := z = [] ∨ z = [48] ∨ z = [48, 48]
def Bl (b : List UInt8) : Prop := b ≠ [] ∧ ∀ c ∈ b, blankC c = true ∧ c ≠ 10
theorem bl_lit {l : List UInt8} (h : (!l.isEmpty && l.all (fun c => blankC c && c != 10)) = true) : Bl l := by
  rw [Bool.and_eq_true] at h
  refine ⟨fun e => by rw [e] at h; exact absurd h.1 (by decide), fun c hc => ?_⟩
  have := List.all_eq_true.1 h.2 c hc
  simpa using this
theorem sp_space {y t : List UInt8} (h : Sp (32 :: y) t) : ∃ b z t', t = b ++ (z ++ t') ∧ Sp y t' ∧ Bl b ∧ Zr z ∧ (z ≠ [] → ∃ d r, y = d :: r ∧ digC d = true) := by
  generalize hr : (32 : UInt8) :: y = R at h
  cases h with
  | nil => cases hr
  | keep _ h =>
    injection hr with e1 e2
    subst e1; subst e2
    exact ⟨[32], [], _, rfl, h, bl_lit (by decide), Or.inl rfl, fun h => absurd rfl h⟩
  | nl h => injection hr with e1 e2; exact absurd e1 (by decide)
  | note h => injection hr with e1 e2; exact absurd e1 (by decide)
  | blank hb h =>
    injection hr with e1 e2
    subst e2
    refine ⟨_, [], _, rfl, h, ?_, Or.inl rfl, fun h => absurd rfl h⟩
    simp only [blanks4, List.mem_cons, List.not_mem_nil, or_false] at hb
    rcases hb with rfl | rfl | rfl | rfl <;> exact bl_lit (by decide)
  | zero hb hd h =>
    injection hr with e1 e2
    subst e2
    simp only [zeros2, List.mem_cons, List.not_mem_nil, or_false] at hb
    rcases hb with rfl | rfl
    · exact ⟨[9, 9, 32], [48], _, rfl, h, bl_lit (by decide), Or.inr (Or.inl rfl), fun _ => ⟨_, _, rfl, hd⟩⟩
    · exact ⟨[32], [48, 48], _, rfl, h, bl_lit (by decide), Or.inr (Or.inr rfl), fun _ => ⟨_, _, rfl, hd⟩⟩
theorem sp_nl {y t : List UInt8} (h : Sp (10 :: y) t) : ∃ t', Sp y t' ∧ (t = 10 :: t' ∨ t = 10 :: (noteB ++ t')) := by
  generalize hr : (10 : UInt8) :: y = R at h
  cases h with
  | nil => cases hr
  | keep hc h => injection hr with e1 e2; exact absurd e1.symm hc
  | nl h => injection hr with e1 e2; subst e2; exact ⟨_, h, Or.inl rfl⟩
  | note h => injection hr with e1 e2; subst e2; exact ⟨_, h, Or.inr rfl⟩
  | blank _ h => injection hr with e1 e2; exact absurd e1 (by decide)
  | zero _ _ h => injection hr with e1 e2; exact absurd e1 (by decide)
theorem words_bl {w : List UInt8} (hw : Word w) {b : List UInt8} (hb : Bl b) (u : List UInt8) : wordsL (w ++ (b ++ u)) = w :: wordsL u := by
  obtain ⟨hb0, hb1⟩ := hb
  obtain ⟨c, b, rfl⟩ := List.exists_cons_of_ne_nil hb0
  rw [List.cons_append, wordsL_cons hw c (hb1 c (List.mem_cons_self ..)).1]
  congr 1
  have : ∀ b : List UInt8, (∀ c ∈ b, blankC c = true) → wordsL (b ++ u) = wordsL u := by
    intro b
    induction b with
    | nil => intro _; rfl
    | cons x b ih => intro h; rw [List.cons_append, wordsL_skip x (h x (List.mem_cons_self ..)), ih (fun c hc => h c (List.mem_cons_of_mem _ hc))]
  exact this b (fun c hc => (hb1 c (List.mem_cons_of_mem _ hc)).1)
/-- a word, noughts ahead of it if it begins with a digit -/
def Zf (f u : List UInt8) : Prop := ∃ z, u = z ++ f ∧ Zr z ∧ (z ≠ [] → ∃ d r, f = d :: r ∧ digC d = true)
def Zfs : List (List UInt8) → List (List UInt8) → Prop
  | [], [] => True
  | f :: fs, u :: us => Zf f u ∧ Zfs fs us
  | _, _ => False
theorem zr_plain {z : List UInt8} (h : Zr z) : Plain z := by
  rcases h with rfl | rfl | rfl
  · intro c hc; cases hc
  · intro c hc; simp only [List.mem_cons, List.not_mem_nil, or_false] at hc; subst hc; decide
  · intro c hc; simp only [List.mem_cons, List.not_mem_nil, or_false, or_self] at hc; subst hc; decide
theorem zf_plain {f u : List UInt8} (hf : Plain f) (h : Zf f u) : Plain u := by
  obtain ⟨z, rfl, hz, _⟩ := h
  intro c hc
  rcases List.mem_append.1 hc with hc | hc
  · exact zr_plain hz c hc
  · exact hf c hc
theorem sp_fields : ∀ (fs : List (List UInt8)) (y t : List UInt8), (∀ f ∈ fs, Plain f ∧ f ≠ []) → Sp (fs.flatMap (fun f => 32 :: f) ++ y) t →
    ∃ us m t', t = m ++ t' ∧ Sp y t' ∧ NoNl m ∧ Zfs fs us ∧ ∀ w, Word w → wordsL (w ++ m) = w :: us
  | [], y, t, _, h => ⟨[], [], t, rfl, h, (fun c hc => by cases hc), trivial, fun w hw => by rw [List.append_nil, wordsL_word hw]⟩
  | f :: fs, y, t, hf, h => by
    obtain ⟨hp, hn⟩ := hf f (List.mem_cons_self ..)
    rw [List.flatMap_cons, List.cons_append, List.cons_append, List.append_assoc] at h
    obtain ⟨b, z, t1, rfl, h1, hb, hz, hd⟩ := sp_space h
    obtain ⟨t2, rfl, h2⟩ := sp_word f _ t1 hp h1
    obtain ⟨us, m, t3, rfl, h3, hm, hus, hw⟩ := sp_fields fs y t2 (fun x hx => hf x (List.mem_cons_of_mem _ hx)) h2
    have hzf : Zf f (z ++ f) := ⟨z, rfl, hz, fun hz0 => by
      obtain ⟨d, r, e, hdd⟩ := hd hz0
      obtain ⟨c, f', rfl⟩ := List.exists_cons_of_ne_nil hn
      rw [List.cons_append] at e
      injection e with e1 e2
      exact ⟨c, f', rfl, by rw [e1]; exact hdd⟩⟩
    have hpz := zf_plain hp hzf
    refine ⟨(z ++ f) :: us, b ++ ((z ++ f) ++ m), t3, by simp, h3, ?_, ⟨hzf, hus⟩, fun w hw' => ?_⟩
    · intro c hc
      rcases List.mem_append.1 hc with hc | hc
      · exact (hb.2 c hc).2
      · rcases List.mem_append.1 hc with hc | hc
        · exact (hpz c hc).2
        · exact hm c hc
    · rw [words_bl hw' hb, hw (z ++ f) ⟨by simp [hn], fun c hc => (hpz c hc).1⟩]
theorem zf_num {n : Int} (h0 : 0 ≤ n) (h1 : n ≤ 9223372036854775807) {u : List UInt8} (h : Zf (itoa n) u) : numL u = (n, 0) := by
  obtain ⟨z, rfl, hz, _⟩ := h
  have e : itoa n = decDigits n.toNat := by unfold itoa; rw [if_neg (by omega)]
  obtain ⟨a, b, c⟩ := decDigits_val n.toNat
  have hall : (z ++ itoa n).all digC = true := by
    rw [List.all_append, e, b, Bool.and_true]
    rcases hz with rfl | rfl | rfl <;> decide
  have hval : val 0 (z ++ itoa n) = n.toNat := by
    rw [e]
    rcases hz with rfl | rfl | rfl
    · exact a
    · rw [List.cons_append, val_cons]; exact a
    · rw [List.cons_append, val_cons, List.cons_append, val_cons]; exact a
  have hh := head_not_minus hall
  have hb : body (z ++ itoa n) = z ++ itoa n := by unfold body; rw [if_neg hh]
  have hs : Go.Proofs.TX.signed (z ++ itoa n) = n := by
    unfold Go.Proofs.TX.signed
    rw [if_neg hh, hb, hval]; omega
  unfold numL
  rw [hb, hs, if_neg (by rw [hall]; simp [e, c]), if_pos ⟨by omega, h1⟩]
theorem zf_same {f u : List UInt8} {c : UInt8} {r : List UInt8} (hf : f = c :: r) (hc : digC c = false) (h : Zf f u) : u = f := by
  obtain ⟨z, rfl, _, hd⟩ := h
  by_cases hz : z = []
  · rw [hz]; rfl
  · obtain ⟨d, r', e, hdd⟩ := hd hz
    rw [hf] at e
    injection e with e1 e2
    rw [e1, hdd] at hc
    cases hc
theorem itoa_pl (n : Int) : Plain (itoa n) ∧ itoa n ≠ [] := ⟨itoa_plain n, itoa_ne n⟩
theorem lit_pl {l : List UInt8} (h : (!l.isEmpty && l.all (fun c => !blankC c && c != 10)) = true) : Plain l ∧ l ≠ [] := by
  rw [Bool.and_eq_true] at h
  refine ⟨fun c hc => ?_, fun e => by rw [e] at h; exact absurd h.1 (by decide)⟩
  have := List.all_eq_true.1 h.2 c hc
  simpa using this
theorem nl_word {w : List UInt8} (h : Plain w) : NoNl w := fun c hc => (h c hc).2
/-- a line of three words behind the first -/
theorem sp_line {w : List UInt8} {fs : List (List UInt8)} {y t : List UInt8} (hw : Plain w ∧ w ≠ []) (hf : ∀ f ∈ fs, Plain f ∧ f ≠ []) (h : Sp (w ++ fs.flatMap (fun f => 32 :: f) ++ 10 :: y) t) :
    ∃ us t', Zfs fs us ∧ Sp y t' ∧ ∀ s s1, stepP s (w :: us) = (0, s1) → okP s (linesL t) = okP s1 (linesL t') := by
  rw [List.append_assoc] at h
  obtain ⟨t1, rfl, h1⟩ := sp_word w _ t hw.1 h
  obtain ⟨us, m, t2, rfl, h2, hm, hus, hws⟩ := sp_fields fs _ t1 hf h1
  obtain ⟨t3, h3, ht⟩ := sp_nl h2
  have hW := hws w ⟨hw.2, fun c hc => (hw.1 c hc).1⟩
  have hN : NoNl (w ++ m) := nl_app (nl_word hw.1) hm
  refine ⟨us, t3, hus, h3, fun s s1 hs => ?_⟩
  have go : ∀ X : List (List UInt8), okP s ((w ++ m) :: X) = okP s1 X := by
    intro X
    conv => lhs; unfold okP
    rw [hW, hs, if_pos rfl]
  rw [← List.append_assoc]
  rcases ht with rfl | rfl
  · rw [linesL_line hN, go]
  · rw [linesL_line hN, go]
    have e : noteB ++ t3 = [99, 32, 112, 32, 109, 97, 120, 32, 57, 32, 57] ++ 10 :: ([9] ++ 10 :: t3) := rfl
    rw [e, linesL_line (nl_lit (by decide)), linesL_line (nl_lit (by decide))]
    have w1 : wordsL [99, 32, 112, 32, 109, 97, 120, 32, 57, 32, 57] = [[99], [112], [109, 97, 120], [57], [57]] := by kernel_rfl
    have w2 : wordsL [9] = [] := by kernel_rfl
    conv => lhs; unfold okP
    rw [w1, step_note, if_pos rfl]
    conv => lhs; unfold okP
    rw [w2, step_empty, if_pos rfl]
theorem sp_arcs : ∀ (l : List S44) (no so si n sum : Int) (done : List S44) (t : List UInt8), no ≤ 500 → (∀ a ∈ l, 1 ≤ a.f0 ∧ a.f0 ≤ no ∧ 1 ≤ a.f1 ∧ a.f1 ≤ no ∧ 0 ≤ a.f2) → so ≠ 0 → si ≠ 0 → (done.length : Int) + l.length ≤ n → 0 ≤ sum → sum + sumC l ≤ 4611686018427387903 → Sp (unlines (l.map aL)) t →
    okP ⟨no, so, si, done, n, sum⟩ (linesL t) = some ⟨no, so, si, done ++ l, n, sum + sumC l⟩
  | [], no, so, si, n, sum, done, t, _, _, _, _, _, _, _, h => by
    have : t = [] := by
      have h' : Sp [] t := h
      generalize hr : ([] : List UInt8) = R at h'
      cases h' with
      | nil => rfl
      | _ => cases hr
    subst this
    simp [linesL, okP, sumC]
  | a :: l, no, so, si, n, sum, done, t, hno, h, hso, hsi, hn, h0, h1, hsp => by
    have ha := h a (List.mem_cons_self ..)
    have hl := sumC_nonneg l (fun x hx => (h x (List.mem_cons_of_mem _ hx)).2.2.2.2)
    simp only [sumC] at h1
    rw [List.length_cons] at hn
    rw [List.map_cons, unlines_cons] at hsp
    have e : aL a = [97] ++ [itoa a.f0, itoa a.f1, itoa a.f2].flatMap (fun f => 32 :: f) := by simp [aL]
    rw [e] at hsp
    obtain ⟨us, t', hus, hsp', hok⟩ := sp_line (lit_pl (by decide)) (by
      intro f hf
      simp only [List.mem_cons, List.not_mem_nil, or_false] at hf
      rcases hf with rfl | rfl | rfl <;> exact itoa_pl _) hsp
    match us, hus with
    | [u, v, x], ⟨hu, hv, hx, _⟩ =>
    rw [hok _ _ (step_arc ⟨no, so, si, done, n, sum⟩ (zf_num (by omega) (by omega) hu) (zf_num (by omega) (by omega) hv) (zf_num (by omega) (by omega) hx) hso hsi ha.1 ha.2.1 ha.2.2.1 ha.2.2.2.1 ha.2.2.2.2 (by show (done.length : Int) ≠ n; omega) h0 (by show sum + a.f2 ≤ _; omega))]
    have := sp_arcs l no so si n (sum + a.f2) (done ++ [a]) t' hno (fun x hx => h x (List.mem_cons_of_mem _ hx)) hso hsi (by simp only [List.length_append, List.length_cons, List.length_nil]; omega) (by omega) (by omega) hsp'
    rw [show (⟨a.f0, a.f1, a.f2⟩ : S44) = a from rfl]
    refine this.trans ?_
    simp only [List.append_assoc, List.cons_append, List.nil_append, sumC]
    rw [Int.add_assoc]
theorem Right.spaced {no so si : Int} {l : List S44} (h : Right no so si l) {t : List UInt8} (hsp : Sp (unlines (netL no so si l)) t) : parseP t = (no, so, si, l, 0, 0) := by
  have := h.n0; have := h.n1; have := h.len; have := h.s0; have := h.s1; have := h.t0; have := h.t1; have := h.ne; have hsum := h.sum
  unfold netL at hsp
  rw [unlines_cons, unlines_cons, unlines_cons] at hsp
  rw [show pL no l.length = [112] ++ [[109, 97, 120], itoa no, itoa (l.length : Int)].flatMap (fun f => 32 :: f) from by simp [pL]] at hsp
  obtain ⟨us, t1, hus, h1, k1⟩ := sp_line (lit_pl (by decide)) (by
    intro f hf
    simp only [List.mem_cons, List.not_mem_nil, or_false] at hf
    rcases hf with rfl | rfl | rfl
    · exact lit_pl (by decide)
    · exact itoa_pl _
    · exact itoa_pl _) hsp
  rw [show sL so = [110] ++ [itoa so, [115]].flatMap (fun f => 32 :: f) from by simp [sL]] at h1
  obtain ⟨us2, t2, hus2, h2, k2⟩ := sp_line (lit_pl (by decide)) (by
    intro f hf
    simp only [List.mem_cons, List.not_mem_nil, or_false] at hf
    rcases hf with rfl | rfl
    · exact itoa_pl _
    · exact lit_pl (by decide)) h1
  rw [show tL si = [110] ++ [itoa si, [116]].flatMap (fun f => 32 :: f) from by simp [tL]] at h2
  obtain ⟨us3, t3, hus3, h3, k3⟩ := sp_line (lit_pl (by decide)) (by
    intro f hf
    simp only [List.mem_cons, List.not_mem_nil, or_false] at hf
    rcases hf with rfl | rfl
    · exact itoa_pl _
    · exact lit_pl (by decide)) h2
  match us, hus, us2, hus2, us3, hus3 with
  | [m, u, v], ⟨hm, hu, hv, _⟩, [u2, x2], ⟨hu2, hx2, _⟩, [u3, x3], ⟨hu3, hx3, _⟩ =>
  obtain rfl := zf_same rfl (by decide) hm
  obtain rfl := zf_same rfl (by decide) hx2
  obtain rfl := zf_same rfl (by decide) hx3
  have e1 := k1 RS.init _ (step_problem RS.init (zf_num (by omega) (by omega) hu) (zf_num (by omega) (by omega) hv) rfl (by omega) (by omega) (by omega) (by omega))
  have e2 := k2 _ _ (step_source ⟨no, 0, 0, [], l.length, 0⟩ (zf_num (by omega) (by omega) hu2) (by show (l.length : Int) ≠ -1; omega) rfl rfl (by omega) h.s1 (by show so ≠ 0; omega))
  have e3 := k3 _ _ (step_sink ⟨no, so, 0, [], l.length, 0⟩ (zf_num (by omega) (by omega) hu3) (by show (l.length : Int) ≠ -1; omega) rfl rfl (by omega) h.t1 (by show si ≠ so; omega))
  have e4 := sp_arcs l no so si l.length 0 [] t3 h.n1 h.arcs (by omega) (by omega) (by simp only [List.length_nil]; omega) (by omega) (by omega) h3
  exact parse_ok t rfl (e1.trans (e2.trans (e3.trans e4))) (by omega) (by omega)
end Go.Proofs.YtgpeppnbgfdaaaaGreatDoor.R
