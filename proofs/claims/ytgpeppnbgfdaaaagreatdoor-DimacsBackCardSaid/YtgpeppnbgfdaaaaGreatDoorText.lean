/-
  The contracts of package text over the library's: Number, Write, Join, Words, Lines. By an AI agent.
-/
import Derived.Test.YtgpeppnbgfdaaaaGreatDoorShelf
import Derived.Test.YtgpeppnbgfdaaaaGreatDoorTextB
import Derived.Test.YtgpeppnbgfdaaaaGreatDoorWWords
import Derived.Test.YtgpeppnbgfdaaaaGreatDoorWLast
import Derived.Test.YtgpeppnbgfdaaaaGreatDoorWMore
import Derived.Shelf.Strings.SlTrimAscii
import Derived.Shelf.GgClosure.Gives
import Derived.WalkKit
import Derived.Deep.DeepFit
import Derived.Below
namespace Go.Proofs.YtgpeppnbgfdaaaaGreatDoor.H
open Go.RowKit Go.Lib Go.Proofs.TX Go.Proofs.YtgpeppnbgfdaaaaGreatDoorW.PrintWords Go.Proofs.YtgpeppnbgfdaaaaGreatDoorW.PrintLast

/-! ### what the listed variables hold -/
structure LaidG (w : World) : Prop where
  maxlen : ∃ m : Int, w.cell? ⟨0, 0, none⟩ = some (.int .i64 m)
  pow : Lib.TabIs Tryz.prog w "internal/strconv.uint64pow10" .u64 Lib.pow10Tab
  syn : ∃ tp p, w.var? Tryz.prog "strconv.ErrSyntax" = some #[.iface tp p]
  rng : ∃ tp p, w.var? Tryz.prog "strconv.ErrRange" = some #[.iface tp p]

theorem var_kept {P : Program} {n : String} {w w' : World} {cs : Array Value} (h : w.var? P n = some cs) (hb : Below w.heap.size w w') : w'.var? P n = some cs := by
  unfold World.var? at h ⊢
  cases hg : P.globalNamed n with
  | none => simp [hg] at h
  | some g =>
    simp only [hg, Option.bind_some] at h ⊢
    have hlt : g < w.heap.size := by
      rcases Nat.lt_or_ge g w.heap.size with h' | h'
      · exact h'
      · simp [Array.getElem?_eq_none h'] at h
    rw [hb.block g hlt]
    exact h
theorem LaidG.below {w w' : World} (h : LaidG w) (hb : Below w.heap.size w w') : LaidG w' := by
  obtain ⟨⟨m, hm⟩, hp, ⟨t1, p1, h1⟩, ⟨t2, p2, h2⟩⟩ := h
  exact ⟨⟨m, pw_cell_below hb hm⟩, var_kept hp hb, ⟨t1, p1, var_kept h1 hb⟩, ⟨t2, p2, var_kept h2 hb⟩⟩
theorem LaidG.le {w0 w' : World} (h : LaidG w0) (hb : Below w0.heap.size w0 w') : LaidG w' := h.below hb

theorem below_grow (w : World) (k : Nat) (os : Array Obj) : Below w.heap.size w (Sort.grow (w.drewN k) os) :=
  ⟨rfl, rfl, rfl, by show w.heap.size ≤ (w.heap ++ os).size; rw [Array.size_append]; omega, fun j hj => by show (w.heap ++ os)[j]? = w.heap[j]?; rw [Array.getElem?_append_left hj]⟩

/-! ### Number -/
def text_Number.f (a0 : ByteArray) : Option (Int × Int) := if a0.size ≤ 281474976710656 then some (numL a0.data.toList) else none

theorem str_eq_nil {l : List UInt8} : ((⟨l.toArray⟩ : ByteArray) == ByteArray.empty) = l.isEmpty := by cases l <;> rfl

set_option maxHeartbeats 1000000 in
theorem text_Number.calls (a0 : ByteArray) (r1 r2 : Int) (w : World) (h : text_Number.f a0 = some (r1, r2)) (hG : LaidG w) :
    Calls Tryz.prog 56 #[.string a0] w fun e w' => e = .returned (.tuple #[.int .i64 r1, .int .i64 r2]) ∧ Below w.heap.size w w' := by
  unfold text_Number.f at h
  split at h
  case isFalse => cases h
  case isTrue hsz =>
  injection h with h
  rw [← numF_eq] at h
  unfold numF at h
  have cP := Tryz.strings_TrimPrefix a0 ⟨#[45]⟩ w
  rw [show (⟨#[45]⟩ : ByteArray).data.toList = [45] from rfl] at cP
  by_cases h1 : trimPrefix a0.data.toList [45] = []
  · rw [if_pos h1] at h
    obtain ⟨rfl, rfl⟩ := Prod.mk.inj h
    clear h
    rw [h1] at cP
    have H1 := Lib.hid h1
    clear h1
    go_enter Tryz.func56, Tryz.ntmps56
    go_wp2_with (go_at_call 67; refine cP.mono ?_; rintro e w' ⟨rfl, rfl⟩)
    go_ret2
    exact ⟨rfl, Below.refl _ _⟩
  · rw [if_neg h1] at h
    have hle : (trimPrefix a0.data.toList [45]).length ≤ 281474976710656 := by
      have := trimPrefix_le a0.data.toList [45]
      rw [size_eq] at hsz
      omega
    generalize hd : trimPrefix a0.data.toList [45] = d at *
    have cT := fun W => Any.strings_Trim_laid Tryz.lays160 (by kernel_rfl) (mkB d) ⟨#[48, 49, 50, 51, 52, 53, 54, 55, 56, 57]⟩ W (by rw [mkB_size]; omega) (by decide) (ascii_of_all (by decide))
    rw [mkB_data, show (⟨#[48, 49, 50, 51, 52, 53, 54, 55, 56, 57]⟩ : ByteArray).data.toList = digs from rfl] at cT
    have HD := Lib.hid hd
    clear hd
    have hE : d.isEmpty = false := by cases d with
      | nil => exact absurd rfl h1
      | cons => rfl
    by_cases h2 : trimS d digs = []
    · rw [if_neg (by simpa using h2)] at h
      rw [h2] at cT
      have H2 := Lib.hid h2
      clear h2
      rcases hp : parseIntB 64 a0.data.toList with v | _ | _
      · rw [hp] at h
        obtain ⟨rfl, rfl⟩ := Prod.mk.inj h
        clear h
        have cI := fun W => Tryz.strconv_ParseInt_10_at64_ok a0 (by omega) v hp W
        have H3 := Lib.hid hp
        clear hp
        go_enter Tryz.func56, Tryz.ntmps56
        go_wp2_with (first
          | (go_at_call 67; refine cP.mono ?_; rintro e w' ⟨rfl, rfl⟩)
          | (go_at_call 68; refine (cT _).mono ?_; rintro e w1 ⟨rfl, hb1⟩)
          | (go_at_call 69; refine (cI _).mono ?_; rintro e w2 ⟨rfl, hb2⟩))
        go_ret2
        refine ⟨rfl, ?_⟩
        rcases hb2 with rfl | ⟨t, rfl⟩
        · exact hb1
        · exact hb1.trans ((Lib.bytesWorld_below _ _ _).mono hb1.size)
      · rw [hp] at h
        obtain ⟨rfl, rfl⟩ := Prod.mk.inj h
        clear h
        have cI : ∀ W, LaidG W → Calls Tryz.prog 69 #[.string a0, .int .i64 10, .int .i64 64] W fun e w' => ∃ (N : Nat) (m : Int), e = .returned (.tuple #[.int .i64 m, .iface 136 (.pointer (some ⟨N, 0, none⟩))]) ∧ Below W.heap.size W w' := by
          intro W hg
          obtain ⟨tp, p, hv⟩ := hg.syn
          refine (Tryz.strconv_ParseInt_10_at64_syntax_var a0 hsz hp tp p W hv).mono ?_
          rintro e w' ⟨N, he, _, _, hb⟩
          exact ⟨N, _, he, hb⟩
        have H3 := Lib.hid hp
        clear hp
        go_enter Tryz.func56, Tryz.ntmps56
        go_wp2_with (first
          | (go_at_call 67; refine cP.mono ?_; rintro e w' ⟨rfl, rfl⟩)
          | (go_at_call 68; refine (cT _).mono ?_; rintro e w1 ⟨rfl, hb1⟩)
          | (go_at_call 69; refine (cI _ (hG.below hb1)).mono ?_; rintro e w2 ⟨N, m, rfl, hb2⟩))
        go_ret2
        exact ⟨rfl, hb1.trans (hb2.mono hb1.size)⟩
      · rw [hp] at h
        obtain ⟨rfl, rfl⟩ := Prod.mk.inj h
        clear h
        have cI : ∀ W, LaidG W → Calls Tryz.prog 69 #[.string a0, .int .i64 10, .int .i64 64] W fun e w' => ∃ (N : Nat) (m : Int), e = .returned (.tuple #[.int .i64 m, .iface 136 (.pointer (some ⟨N, 0, none⟩))]) ∧ Below W.heap.size W w' := by
          intro W hg
          obtain ⟨tp, p, hv⟩ := hg.rng
          refine (Tryz.strconv_ParseInt_10_at64_range_var a0 hsz hp tp p W hv).mono ?_
          rintro e w' ⟨N, he, _, _, hb⟩
          exact ⟨N, _, he, hb⟩
        have H3 := Lib.hid hp
        clear hp
        go_enter Tryz.func56, Tryz.ntmps56
        go_wp2_with (first
          | (go_at_call 67; refine cP.mono ?_; rintro e w' ⟨rfl, rfl⟩)
          | (go_at_call 68; refine (cT _).mono ?_; rintro e w1 ⟨rfl, hb1⟩)
          | (go_at_call 69; refine (cI _ (hG.below hb1)).mono ?_; rintro e w2 ⟨N, m, rfl, hb2⟩))
        go_ret2
        exact ⟨rfl, hb1.trans (hb2.mono hb1.size)⟩
    · rw [if_pos (by simpa using h2)] at h
      obtain ⟨rfl, rfl⟩ := Prod.mk.inj h
      clear h
      have hE2 : (trimS d digs).isEmpty = false := by cases hq : trimS d digs with
        | nil => exact absurd hq h2
        | cons => rfl
      generalize trimS d digs = q at *
      go_enter Tryz.func56, Tryz.ntmps56
      go_wp2_with (first
        | (go_at_call 67; refine cP.mono ?_; rintro e w' ⟨rfl, rfl⟩)
        | (go_at_call 68; refine (cT _).mono ?_; rintro e w1 ⟨rfl, hb1⟩))
      go_ret2
      exact ⟨rfl, hb1⟩

/-! ### Write, Join -/
def text_Write.f (a0 : Int) : Option ByteArray := if -9223372036854775808 ≤ a0 then if a0 ≤ 9223372036854775807 then some (mkB (itoa a0)) else none else none
theorem text_Write.calls (a0 : Int) (r : ByteArray) (w : World) (h : text_Write.f a0 = some r) (hG : LaidG w) :
    Calls Tryz.prog 30 #[.int .i64 a0] w fun e w' => e = .returned (.string r) ∧ Below w.heap.size w w' := by
  unfold text_Write.f at h
  split at h
  case isFalse => cases h
  case isTrue h0 =>
  split at h
  case isFalse => cases h
  case isTrue h1 =>
  obtain rfl := Option.some.inj h
  have cF := fun W (hg : LaidG W) => Tryz.strconv_FormatInt_10 a0 h0 h1 W hg.pow
  go_enter Tryz.func30, Tryz.ntmps30
  go_wp2_with (go_at_call 42; refine (cF _ hG).mono ?_; rintro e w1 ⟨rfl, k, os, rfl⟩)
  go_ret
  exact ⟨rfl, below_grow _ _ _⟩

def text_Join.f (l0 : List ByteArray) : Option ByteArray :=
  if l0.length ≤ 140737488355328 then if (join (l0.map (·.data.toList)) [32]).length ≤ 140737488355328 then some (mkB (join (l0.map (·.data.toList)) [32])) else none else none
theorem text_Join.calls (A0 : Option Addr) (c0 : Nat) (l0 : List ByteArray) (r : ByteArray) (w : World) (hr0 : Kd.C Kd.string w A0 l0.length l0) (hc0 : l0.length ≤ c0) (h : text_Join.f l0 = some r) :
    Calls Tryz.prog 31 #[.slice A0 l0.length c0] w fun e w' => e = .returned (.string r) ∧ Below w.heap.size w w' := by
  unfold text_Join.f at h
  split at h
  case isFalse => cases h
  case isTrue h0 =>
  split at h
  case isFalse => cases h
  case isTrue h1 =>
  obtain rfl := Option.some.inj h
  cases l0 with
  | nil =>
    have cJ := fun W => Tryz.strings_Join_none A0 c0 ⟨#[32]⟩ W
    go_enter Tryz.func31, Tryz.ntmps31
    go_wp2_with (go_at_call 43; refine (cJ _).mono ?_; rintro e w1 ⟨rfl, rfl⟩)
    go_ret
    exact ⟨rfl, Below.refl _ _⟩
  | cons x xs =>
    obtain ⟨_, _, hc⟩ := hr0
    obtain ⟨ad, rfl, hc2⟩ := hc (by simp)
    have hcell : ∀ (j : Nat) y, (x :: xs)[j]? = some y → w.cell? (ad.add j) = some (.string y) := by
      intro j y hj
      obtain ⟨c, _, rfl, hu⟩ := hc2 j y hj
      have := hu 0 (.string y) rfl
      simpa [Kd.string, Kd.scalar] using this
    have hs := World.cell?_spot (hcell 0 x rfl)
    obtain ⟨bk, o, spot⟩ := ad
    have hspot : spot = none := by simpa [Addr.add] using hs
    subst hspot
    have hcell' : ∀ (j : Nat) y, (x :: xs)[j]? = some y → w.cell? ⟨bk, o + j, none⟩ = some (.string y) := by
      intro j y hj
      have := hcell j y hj
      unfold Addr.add at this
      split at this
      · rename_i h0; subst h0; exact this
      · exact this
    have hbk : bk < w.heap.size := World.block_lt_of_cell? w ⟨bk, o + 0, none⟩ (hcell' 0 x rfl)
    have cJ := Tryz.strings_Join bk o c0 (x :: xs) ⟨#[32]⟩ w hcell' hbk h0 hc0 h1
    rw [show (⟨#[32]⟩ : ByteArray).data.toList = [32] from rfl] at cJ
    clear hcell hcell' hc hc2
    generalize x :: xs = l at *
    go_enter Tryz.func31, Tryz.ntmps31
    go_wp2_with (go_at_call 43; refine cJ.mono ?_; rintro e w1 ⟨rfl, hb⟩)
    go_ret
    exact ⟨rfl, hb⟩

/-! ### Words -/
def text_Words.f (a0 : ByteArray) : Option (List ByteArray) := if a0.size ≤ 4294967296 then some (wordsB a0) else none

theorem blank_pays (w : World) : PredAt Tryz.prog 40 #[] encR blankP w := by
  intro W x _
  show Calls Tryz.prog 40 #[.int .i32 (x : Int)] W fun e w' => e = .returned (.bool (blankP x)) ∧ ∃ q, w' = W.drewN q
  have go : ∀ n : Int, ((n == 32) = true ∨ (n == 32) = false ∧ (n == 9) = true ∨ (n == 32) = false ∧ (n == 9) = false) →
      Calls Tryz.prog 40 #[.int .i32 n] W fun e w' => e = .returned (.bool (n == 32 || n == 9 || n == 13)) ∧ ∃ q, w' = W.drewN q := by
    intro n hn
    rcases hn with h | ⟨h, h'⟩ | ⟨h, h'⟩
    all_goals
      go_enter Tryz.func40, Tryz.ntmps40
      go_wp2
      go_ret
      exact ⟨by simp_all, 0, rfl⟩
  have e1 (k : Nat) : ((x : Int) == (k : Int)) = (x == k) := by rw [Bool.eq_iff_iff, beq_iff_eq, beq_iff_eq]; omega
  have h32 : ((x : Int) == 32) = (x == 32) := e1 32
  have h9 : ((x : Int) == 9) = (x == 9) := e1 9
  have h13 : ((x : Int) == 13) = (x == 13) := e1 13
  unfold blankP
  rw [← h32, ← h9, ← h13]
  exact go x (by cases ((x : Int) == 32) <;> cases ((x : Int) == 9) <;> simp)
theorem text_Words.calls (a0 : ByteArray) (r : List ByteArray) (w : World) (h : text_Words.f a0 = some r) :
    Calls Tryz.prog 24 #[.string a0] w fun e w' => ∃ v0_ : Value, e = .returned (v0_) ∧ Kd.R Kd.string 9 w' w.heap.size (fun _ => True) v0_ r ∧ Below w.heap.size w w' := by
  unfold text_Words.f at h
  split at h
  case isFalse => cases h
  case isTrue h0 =>
  obtain rfl := Option.some.inj h
  have cF := Tryz.strings_FieldsFunc 40 #[] (enters_of Tryz.func40 (by kernel_rfl) rfl) blankP a0 w h0 (blank_pays w)
  rw [goFieldsP_words] at cF
  generalize wordsB a0 = q at *
  go_enter Tryz.func24, Tryz.ntmps24
  go_wp2_with (go_at_call 39; refine cF.mono ?_; rintro e w1 ⟨B, rfl, hB, hown, hb⟩)
  go_ret
  exact ⟨_, rfl, Kd.R_of_own hown (fun _ _ => trivial), hb⟩

/-! ### Lines -/
theorem own_of_alloc (w : World) (t : Nat) (l : List ByteArray) (h : l.length ≤ 9223372036854775807) :
    (w.alloc (.cells (l.map Value.string).toArray t)).ownsRow w.heap.size t 1 (.slice (some ⟨w.heap.size, 0, none⟩) l.length l.length) l.length (encs Value.string l) :=
  ⟨by simp [encs], .inr ⟨w.heap.size, l.length, (l.map Value.string).toArray, rfl, Nat.le_refl _, heap_alloc_new w _, Nat.le_refl _, h, by simp, by simp only [Nat.mul_one, encs]; exact List.take_of_length_le (by simp)⟩⟩
def text_Lines.f (a0 : ByteArray) : Option (List ByteArray) := if a0.size < 4294967281 then some (linesB a0) else none
theorem text_Lines.calls (a0 : ByteArray) (r : List ByteArray) (w : World) (h : text_Lines.f a0 = some r) (hG : LaidG w) :
    Calls Tryz.prog 11 #[.string a0] w fun e w' => ∃ v0_ : Value, e = .returned (v0_) ∧ Kd.R Kd.string 9 w' w.heap.size (fun _ => True) v0_ r ∧ Below w.heap.size w w' := by
  unfold text_Lines.f at h
  split at h
  case isFalse => cases h
  case isTrue h0 =>
  obtain rfl := Option.some.inj h
  obtain ⟨m, hm⟩ := hG.maxlen
  by_cases h1 : a0.data.toList = []
  · have hE : a0.toList.isEmpty = true := by rw [toList_data, h1]; rfl
    have hr : linesB a0 = [] := by unfold linesB; rw [h1]; rfl
    rw [hr]
    have H1 := Lib.hid h1
    clear h1 hr hm h0 h
    go_enter Tryz.func11, Tryz.ntmps11
    go_wp2
    go_ret
    exact ⟨_, rfl, Kd.R_nil _ _ _ _ _, Below.refl _ _⟩
  · have hE : a0.toList.isEmpty = false := by
      rw [toList_data]
      cases hq : a0.data.toList with
      | nil => exact absurd hq h1
      | cons => rfl
    have cT := Tryz.strings_TrimSuffix a0 ⟨#[10]⟩ w (by omega)
    rw [show (⟨#[10]⟩ : ByteArray).data.toList = [10] from rfl] at cT
    have hle : (mkB (trimSuffix a0.data.toList [10])).size < 4294967281 := by
      rw [mkB_size]
      have := trimSuffix_le a0.data.toList [10]
      rw [size_eq] at h0
      omega
    have cS := fun W hm' => Tryz.strings_Split (mkB (trimSuffix a0.data.toList [10])) ⟨#[10]⟩ m W hle hm' (by decide)
    have hlen : countB (mkB (trimSuffix a0.data.toList [10])) ⟨#[10]⟩ + 1 = (linesB a0).length := by
      rw [← splitB_lines a0 (by intro e; apply h1; rw [size_eq] at e; exact List.length_eq_zero_iff.1 e), splitB_all _ (by decide) _ _ _ rfl]
    rw [splitB_lines a0 (by intro e; apply h1; rw [size_eq] at e; exact List.length_eq_zero_iff.1 e), hlen] at cS
    have hmax : (linesB a0).length ≤ 9223372036854775807 := by
      have := countB_le ⟨#[10]⟩ (by decide) _ (mkB (trimSuffix a0.data.toList [10])) (Nat.le_refl _)
      omega
    clear hlen hle h0 h
    generalize linesB a0 = q at *
    generalize trimSuffix a0.data.toList [10] = d at *
    go_enter Tryz.func11, Tryz.ntmps11
    go_wp2_with (first
      | (go_at_call 22; refine cT.mono ?_; rintro e w' ⟨rfl, rfl⟩)
      | (go_at_call 21; refine (cS _ hm).mono ?_; rintro e w1 ⟨rfl, rfl⟩))
    go_ret
    exact ⟨_, rfl, Kd.R_of_own (own_of_alloc _ _ q hmax) (fun _ _ => trivial), below_alloc (Below.refl _ _) _⟩
end Go.Proofs.YtgpeppnbgfdaaaaGreatDoor.H
