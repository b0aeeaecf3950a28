/-
  Plain laws on numbers: what a word says, and what is written is read. By an AI agent.
-/
import Derived.Test.YtgpeppnbgfdaaaaGreatDoorTextA
namespace Go.Proofs.TX
open Go.Lib

def digC (c : UInt8) : Bool := decide (48 ≤ c.toNat) && decide (c.toNat ≤ 57)
def digs : List UInt8 := [48, 49, 50, 51, 52, 53, 54, 55, 56, 57]
theorem digC_iff (c : UInt8) : digC c = true ↔ 48 ≤ c.toNat ∧ c.toNat ≤ 57 := by
  unfold digC; rw [Bool.and_eq_true, decide_eq_true_iff, decide_eq_true_iff]
theorem digs_contains (c : UInt8) : digs.contains c = digC c := by
  have h : ∀ c : Fin 256, digs.contains (UInt8.ofNat c.val) = digC (UInt8.ofNat c.val) := by decide +kernel
  have := h ⟨c.toNat, c.toNat_lt⟩
  simpa using this

theorem dropWhile_nil {p : UInt8 → Bool} : ∀ {l : List UInt8}, l.dropWhile p = [] ↔ l.all p = true
  | [] => by simp
  | c :: r => by
    rw [List.dropWhile_cons]
    cases h : p c with
    | true => simp [h, dropWhile_nil]
    | false => simp [h]
theorem trimS_nil (l : List UInt8) : trimS l digs = [] ↔ l.all digC = true := by
  unfold trimS trimLeftS trimRightS
  have e : (digs.contains · : UInt8 → Bool) = digC := by funext c; exact digs_contains c
  rw [e, dropWhile_nil]
  constructor
  · intro h
    by_cases hn : l.reverse.dropWhile digC = []
    · rw [dropWhile_nil] at hn; simpa using hn
    · exfalso
      obtain ⟨c, r, hcr⟩ := List.exists_cons_of_ne_nil hn
      have h0 : digC c = true := by
        rw [hcr] at h
        simp only [List.reverse_cons, List.all_append, List.all_cons, Bool.and_eq_true] at h
        exact h.2.1
      have := List.head?_dropWhile_not digC l.reverse
      rw [hcr] at this
      simp at this
      rw [h0] at this
      cases this
  · intro h
    have : l.reverse.dropWhile digC = [] := by rw [dropWhile_nil]; simpa using h
    rw [this]; rfl

def vstep (a : Nat) (c : UInt8) : Nat := a * 10 + (c.toNat - 48)
def val (a : Nat) (l : List UInt8) : Nat := l.foldl vstep a
theorem val_nil (a : Nat) : val a [] = a := rfl
theorem vstep_eq (a : Nat) (c : UInt8) : vstep a c = a * 10 + (c.toNat - 48) := by unfold vstep; exact Eq.refl _
theorem val_cons (a : Nat) (c : UInt8) (r : List UInt8) : val a (c :: r) = val (a * 10 + (c.toNat - 48)) r := by
  unfold val; rw [List.foldl_cons, vstep_eq]
theorem val_ge : ∀ (l : List UInt8) (a : Nat), a ≤ val a l
  | [], a => Nat.le_refl _
  | c :: r, a => by have := val_ge r (a * 10 + (c.toNat - 48)); rw [val_cons]; omega
theorem parseUintM_val (M : Nat) (hM : M < 18446744073709551620) (l : List UInt8) : ∀ (a : Nat), l.all digC = true → a ≤ M →
    parseUintM M a l = if val a l ≤ M then .ok (val a l) else .range := by
  induction l with
  | nil => intro a _ h; rw [val_nil, parseUintM, if_pos h]
  | cons c r ih =>
    intro a h ha
    rw [List.all_cons, Bool.and_eq_true, digC_iff] at h
    have h1 := h.1.1
    have h2 := h.1.2
    have h3 := h.2
    have hg := val_ge r (a * 10 + (c.toNat - 48))
    unfold parseUintM
    rw [val_cons]
    rw [if_pos ⟨h1, h2⟩]
    by_cases hb : 1844674407370955162 ≤ a
    · rw [if_pos hb, if_neg (by omega)]
    · rw [if_neg hb]
      by_cases hc : M < a * 10 + (c.toNat - 48)
      · rw [if_pos hc, if_neg (by omega)]
      · rw [if_neg hc]
        exact ih _ h3 (by omega)
/-- what is ok, handed on -/
def okThen (e : NumEnd Nat) (f : Nat → NumEnd Int) : NumEnd Int := NumEnd.casesOn (motive := fun _ => NumEnd Int) e f (parseIntB 64 []) .range
theorem okThen_ok (v : Nat) (f : Nat → NumEnd Int) : okThen (.ok v) f = f v := rfl
theorem okThen_range (f : Nat → NumEnd Int) : okThen .range f = .range := rfl
theorem parseIntB_minus (B : Nat) (r : List UInt8) (h : r ≠ []) : parseIntB B (45 :: r) =
    okThen (parseUintM (2 ^ B - 1) 0 r) fun u => if 2 ^ (B - 1) < u then .range else .ok (-(u : Int)) := by
  unfold parseIntB parseUintB
  simp [h]
  cases parseUintM (2 ^ B - 1) 0 r <;> rfl
theorem parseIntB_plain (B : Nat) (c : UInt8) (r : List UInt8) (h1 : c.toNat ≠ 43) (h2 : c.toNat ≠ 45) : parseIntB B (c :: r) =
    okThen (parseUintM (2 ^ B - 1) 0 (c :: r)) fun u => if 2 ^ (B - 1) ≤ u then .range else .ok (u : Int) := by
  unfold parseIntB parseUintB
  simp [h1, h2]
  cases parseUintM (2 ^ B - 1) 0 (c :: r) <;> rfl
def big64 : Nat := 2 ^ 64 - 1
def big63 : Nat := 2 ^ 63
theorem big64_eq : (big64 : Int) = 18446744073709551615 := by decide +kernel
theorem big63_eq : (big63 : Int) = 9223372036854775808 := by decide +kernel

/-- text.Number, as the library reckons it -/
def numF (l : List UInt8) : Int × Int :=
  if trimPrefix l [45] = [] then (0, 2) else if trimS (trimPrefix l [45]) digs ≠ [] then (0, 2) else
    match parseIntB 64 l with
    | .ok v => (v, 0)
    | _ => (0, 3)
def body (l : List UInt8) : List UInt8 := if l.head? = some 45 then l.tail else l
def signed (l : List UInt8) : Int := if l.head? = some 45 then -(val 0 (body l) : Int) else (val 0 (body l) : Int)
/-- T2 -/
def numL (l : List UInt8) : Int × Int :=
  if body l = [] ∨ (body l).all digC = false then (0, 2) else
    if -9223372036854775808 ≤ signed l ∧ signed l ≤ 9223372036854775807 then (signed l, 0) else (0, 3)

theorem trimPrefix_body (l : List UInt8) : trimPrefix l [45] = body l := by
  unfold trimPrefix body hasPrefix
  cases l with
  | nil => rfl
  | cons c r =>
    by_cases h : c = 45
    · subst h; simp [List.isPrefixOf]
    · have : (45 == c) = false := by rw [beq_eq_false_iff_ne]; exact fun e => h e.symm
      simp [List.isPrefixOf, h, this]

theorem numF_eq (l : List UInt8) : numF l = numL l := by
  unfold numF numL
  rw [trimPrefix_body]
  by_cases h0 : body l = []
  · simp [h0]
  · rw [if_neg h0]
    by_cases h1 : (body l).all digC = true
    · rw [if_neg (by rw [ne_eq, Classical.not_not]; exact (trimS_nil _).2 h1), if_neg (by simp [h0, h1])]
      cases l with
      | nil => exact absurd rfl h0
      | cons c r =>
        by_cases hc : c = 45
        · subst hc
          have hb : body (45 :: r) = r := rfl
          rw [hb] at h0 h1
          have hs : Go.Proofs.TX.signed (45 :: r) = -(val 0 r : Int) := rfl
          rw [hs]
          have h64 := big64_eq
          have h63 := big63_eq
          rw [parseIntB_minus 64 r h0, show 2 ^ 64 - 1 = big64 from rfl, show 2 ^ (64 - 1) = big63 from rfl, parseUintM_val big64 (by omega) r 0 h1 (by omega)]
          generalize big64 = M at *
          generalize big63 = K at *
          by_cases hv : val 0 r ≤ M
          · rw [if_pos hv, okThen_ok]
            by_cases hw : K < val 0 r
            · rw [if_pos hw, if_neg (by omega)]
            · rw [if_neg hw, if_pos (by omega)]
          · rw [if_neg hv, okThen_range, if_neg (by omega)]
        · have hb : body (c :: r) = c :: r := by simp [body, hc]
          rw [hb] at h0 h1
          have hs : Go.Proofs.TX.signed (c :: r) = (val 0 (c :: r) : Int) := by simp [Go.Proofs.TX.signed, body, hc]
          rw [hs]
          have hd : digC c = true := by simp only [List.all_cons, Bool.and_eq_true] at h1; exact h1.1
          have hr : 48 ≤ c.toNat ∧ c.toNat ≤ 57 := (digC_iff c).1 hd
          have h64 := big64_eq
          have h63 := big63_eq
          rw [parseIntB_plain 64 c r (by omega) (by omega), show 2 ^ 64 - 1 = big64 from rfl, show 2 ^ (64 - 1) = big63 from rfl, parseUintM_val big64 (by omega) (c :: r) 0 h1 (by omega)]
          generalize big64 = M at *
          generalize big63 = K at *
          by_cases hv : val 0 (c :: r) ≤ M
          · rw [if_pos hv, okThen_ok]
            by_cases hw : K ≤ val 0 (c :: r)
            · rw [if_pos hw, if_neg (by omega)]
            · rw [if_neg hw, if_pos (by omega)]
          · rw [if_neg hv, okThen_range, if_neg (by omega)]
    · rw [if_pos (by rw [ne_eq, trimS_nil]; exact h1), if_pos (.inr (by simpa using h1))]

/-! ### what is written is read -/
theorem val_append : ∀ (l : List UInt8) (a : Nat) (c : UInt8), val a (l ++ [c]) = val a l * 10 + (c.toNat - 48)
  | [], a, c => rfl
  | d :: r, a, c => by rw [List.cons_append, val_cons, val_cons, val_append r]
theorem decDigits_big {u : Nat} (h : ¬ u < 10) : decDigits u = decDigits (u / 10) ++ [UInt8.ofNat (48 + u % 10)] := by
  rw [decDigits, dif_neg h]
theorem ofNat_dig (d : Nat) (h : d < 10) : (UInt8.ofNat (48 + d)).toNat = 48 + d := by simp; omega
theorem decDigits_val (u : Nat) : val 0 (decDigits u) = u ∧ (decDigits u).all digC = true ∧ decDigits u ≠ [] := by
  induction u using Nat.strongRecOn with
  | _ u ih =>
    by_cases h : u < 10
    · rw [decDigits_one h]
      refine ⟨?_, ?_, by simp⟩
      · rw [val_cons, val_nil, ofNat_dig u h]; omega
      · rw [List.all_cons, List.all_nil, Bool.and_true, digC_iff, ofNat_dig u h]; omega
    · obtain ⟨h1, h2, h3⟩ := ih (u / 10) (by omega)
      have hd := ofNat_dig (u % 10) (by omega)
      rw [decDigits_big h]
      refine ⟨?_, ?_, by simp⟩
      · rw [val_append, h1, hd]; omega
      · rw [List.all_append, h2]
        rw [List.all_cons, List.all_nil, Bool.and_true, Bool.true_and, digC_iff, hd]; omega
theorem head_not_minus {l : List UInt8} (h : l.all digC = true) : l.head? ≠ some 45 := by
  cases l with
  | nil => simp
  | cons c r =>
    rw [List.all_cons, Bool.and_eq_true, digC_iff] at h
    intro e
    simp only [List.head?_cons, Option.some.injEq] at e
    subst e
    have := h.1.1
    simp at this
theorem numL_itoa (n : Int) (h0 : -9223372036854775808 ≤ n) (h1 : n ≤ 9223372036854775807) : numL (itoa n) = (n, 0) := by
  unfold itoa
  by_cases hn : n < 0
  · rw [if_pos hn]
    obtain ⟨a, b, c⟩ := decDigits_val n.natAbs
    have hb : body (45 :: decDigits n.natAbs) = decDigits n.natAbs := rfl
    have hs : Go.Proofs.TX.signed (45 :: decDigits n.natAbs) = n := by
      show -(val 0 (decDigits n.natAbs) : Int) = n
      rw [a]; omega
    unfold numL
    rw [hb, hs, if_neg (by simp [b, c]), if_pos ⟨h0, h1⟩]
  · rw [if_neg hn]
    obtain ⟨a, b, c⟩ := decDigits_val n.toNat
    have hh := head_not_minus b
    have hb : body (decDigits n.toNat) = decDigits n.toNat := by unfold body; rw [if_neg hh]
    have hs : Go.Proofs.TX.signed (decDigits n.toNat) = n := by
      unfold Go.Proofs.TX.signed
      rw [if_neg hh, hb, a]; omega
    unfold numL
    rw [hb, hs, if_neg (by simp [b, c]), if_pos ⟨h0, h1⟩]
end Go.Proofs.TX
