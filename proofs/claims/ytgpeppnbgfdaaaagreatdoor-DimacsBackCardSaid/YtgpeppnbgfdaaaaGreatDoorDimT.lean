/-
  dimacs.Parse as a plain function of the text's bytes, and plain laws on it. By an AI agent.
-/
import Derived.Test.YtgpeppnbgfdaaaaGreatDoorDimQ
import Derived.Test.YtgpeppnbgfdaaaaGreatDoorTextC
namespace Go.Proofs.YtgpeppnbgfdaaaaGreatDoor.R
open Go.RowKit Go.Lib Go.Proofs.TX Go.Proofs.YtgpeppnbgfdaaaaGreatDoor.H Go.Proofs.YtgpeppnbgfdaaaaGreatDoor.PL Go.Proofs.YtgpeppnbgfdaaaaGreatDoorW.PrintWords Go.Proofs.YtgpeppnbgfdaaaaGreatDoorW.PrintLast

/-! ### words and lines -/
def Word (u : List UInt8) : Prop := u ≠ [] ∧ ∀ c ∈ u, blankC c = false
def NoNl (l : List UInt8) : Prop := ∀ c ∈ l, c ≠ 10
theorem wordsGo_all (u cur : List UInt8) (h : ∀ c ∈ u, blankC c = false) : wordsGo cur u = wordsGo (cur ++ u) [] := by
  have := wordsGo_run u cur [] h
  rwa [List.append_nil] at this
theorem wordsL_word {u : List UInt8} (h : Word u) : wordsL u = [u] := by
  unfold wordsL
  rw [wordsGo_all u [] h.2, List.nil_append]
  obtain ⟨c, r, rfl⟩ := List.exists_cons_of_ne_nil h.1
  simp [wordsGo]
theorem wordsL_cons {u : List UInt8} (h : Word u) (b : UInt8) (hb : blankC b = true) (t : List UInt8) : wordsL (u ++ b :: t) = u :: wordsL t := by
  rw [wordsL_append b hb, wordsL_word h]; rfl
theorem wordsL_nil : wordsL [] = [] := by simp [wordsL, wordsGo]
theorem wordsL_skip (b : UInt8) (hb : blankC b = true) (t : List UInt8) : wordsL (b :: t) = wordsL t := by
  have := wordsL_append b hb [] t
  rwa [List.nil_append, wordsL_nil, List.nil_append] at this
theorem linesL_one : ∀ (l : List UInt8), NoNl l → linesL (l ++ [10]) = [l]
  | [], _ => by simp [linesL]
  | c :: r, h => by
    have ih := linesL_one r (fun x hx => h x (List.mem_cons_of_mem _ hx))
    have hc : c ≠ 10 := h c (List.mem_cons_self ..)
    rw [List.cons_append]
    simp only [linesL, if_neg hc, ih]
theorem linesL_line {l : List UInt8} (h : NoNl l) (t : List UInt8) : linesL (l ++ 10 :: t) = l :: linesL t := by
  rw [linesL_append, linesL_one l h]; rfl
theorem linesL_unlines (ls : List (List UInt8)) (t : List UInt8) (h : ∀ l ∈ ls, NoNl l) : linesL (unlines ls ++ t) = ls ++ linesL t := by
  induction ls with
  | nil => rfl
  | cons l ls ih =>
    have e : unlines (l :: ls) ++ t = l ++ 10 :: (unlines ls ++ t) := by simp [unlines]
    rw [e, linesL_line (h l (List.mem_cons_self ..)), ih (fun x hx => h x (List.mem_cons_of_mem _ hx))]
    rfl
theorem linesL_mem_le : ∀ (l : List UInt8) (x : List UInt8), x ∈ linesL l → x.length ≤ l.length
  | [], x, h => by simp [linesL] at h
  | c :: r, x, h => by
    unfold linesL at h
    split at h
    · rcases List.mem_cons.1 h with rfl | h
      · simp
      · have := linesL_mem_le r x h
        simp only [List.length_cons]; omega
    · split at h
      · rcases List.mem_cons.1 h with rfl | h
        · simp
        · cases h
      · rename_i y ys hy
        rcases List.mem_cons.1 h with rfl | h
        · have := linesL_mem_le r y (by rw [hy]; exact List.mem_cons_self ..)
          simp only [List.length_cons]; omega
        · have := linesL_mem_le r x (by rw [hy]; exact List.mem_cons_of_mem _ h)
          simp only [List.length_cons]; omega
theorem wordsGo_mem_le : ∀ (l cur : List UInt8) (x : List UInt8), x ∈ wordsGo cur l → x.length ≤ cur.length + l.length
  | [], cur, x, h => by
    unfold wordsGo at h
    split at h
    · cases h
    · rcases List.mem_cons.1 h with rfl | h
      · simp
      · cases h
  | c :: r, cur, x, h => by
    unfold wordsGo at h
    split at h
    · rcases List.mem_append.1 h with h | h
      · split at h
        · cases h
        · rcases List.mem_cons.1 h with rfl | h
          · omega
          · cases h
      · have := wordsGo_mem_le r [] x h
        simp only [List.length_cons, List.length_nil] at this ⊢; omega
    · have := wordsGo_mem_le r (cur ++ [c]) x h
      simp only [List.length_append, List.length_cons, List.length_nil] at this ⊢; omega
theorem wordsL_mem_le (l : List UInt8) (x : List UInt8) (h : x ∈ wordsL l) : x.length ≤ l.length := by
  have := wordsGo_mem_le l [] x h
  simpa using this
theorem digC_plain {c : UInt8} (h : digC c = true) : blankC c = false ∧ c ≠ 10 := by
  have h1 := (digC_iff c).1 h
  constructor
  · cases hb : blankC c with
    | false => rfl
    | true =>
      have := (blank_cases c).1 hb
      omega
  · rintro rfl
    exact absurd h1.1 (by decide)
theorem all_mem {u : List UInt8} (h : u.all digC = true) : ∀ c ∈ u, digC c = true := fun c hc => List.all_eq_true.1 h c hc
theorem itoa_plain (n : Int) : ∀ c ∈ itoa n, blankC c = false ∧ c ≠ 10 := by
  intro c hc
  unfold itoa at hc
  split at hc
  · rcases List.mem_cons.1 hc with rfl | hc
    · exact ⟨by decide, by decide⟩
    · exact digC_plain (all_mem (decDigits_val _).2.1 c hc)
  · exact digC_plain (all_mem (decDigits_val _).2.1 c hc)
theorem itoa_ne (n : Int) : itoa n ≠ [] := by
  unfold itoa
  split
  · simp
  · exact (decDigits_val _).2.2
theorem itoa_word (n : Int) : Word (itoa n) := ⟨itoa_ne n, fun c hc => (itoa_plain n c hc).1⟩
theorem itoa_nl (n : Int) : NoNl (itoa n) := fun c hc => (itoa_plain n c hc).2

/-! ### the reader -/
def numsL : List (List UInt8) → List Int × Int
  | [] => ([], 0)
  | x :: xs => if (numL x).2 = 0 then if (numsL xs).2 = 0 then ((numL x).1 :: (numsL xs).1, 0) else ([], (numsL xs).2) else ([], (numL x).2)
theorem numsF_map : ∀ (l : List (List UInt8)), (∀ x ∈ l, x.length ≤ 281474976710656) → numsF (l.map mkB) = some (numsL l)
  | [], _ => rfl
  | x :: xs, h => by
    have ih := numsF_map xs (fun y hy => h y (List.mem_cons_of_mem _ hy))
    rw [List.map_cons]
    unfold numsF numsL
    rw [num_some _ (by rw [mkB_size]; exact h x (List.mem_cons_self ..)), mkB_data, ih]
    simp only [Option.bind_some]
    split
    · split <;> rfl
    · rfl
def addP (a b : Int) : Int × Int := if ((decide ((wrap64 (a + b)) > a)) != (decide (b > 0))) = true then (if b = 0 then (wrap64 (a + b), 0) else (0, 3)) else (wrap64 (a + b), 0)
theorem addF_eq (a b : Int) : M.num_Add.f a b = some (addP a b) := by
  unfold M.num_Add.f addP
  split
  · split <;> rfl
  · rfl
def problemP (no most : Int) (ws : List (List UInt8)) : Int × Int × Int :=
  if ws.length = 4 then
    if (ws.getD 1 [] == [109, 97, 120]) = true then
      if most = -1 then
        if (numsL (ws.drop 2)).2 = 0 then
          if (numsL (ws.drop 2)).1.getD 0 0 < 2 then (3, no, most)
          else if (numsL (ws.drop 2)).1.getD 0 0 > 500 then (3, no, most)
          else if (numsL (ws.drop 2)).1.getD 1 0 < 0 then (3, no, most)
          else if (numsL (ws.drop 2)).1.getD 1 0 > 2000 then (3, no, most)
          else (0, (numsL (ws.drop 2)).1.getD 0 0, (numsL (ws.drop 2)).1.getD 1 0)
        else ((numsL (ws.drop 2)).2, no, most)
      else (2, no, most)
    else (2, no, most)
  else (2, no, most)
def endNP (no so si : Int) (x : List UInt8) (f : Int → Int × Int × Int) (bad : Int → Int × Int × Int) : Int × Int × Int :=
  if (numsL [x]).2 = 0 then
    if thereB no ((numsL [x]).1.getD 0 0) = true then
      if (numsL [x]).1.getD 0 0 = so then bad 5
      else if (numsL [x]).1.getD 0 0 = si then bad 5
      else f ((numsL [x]).1.getD 0 0)
    else bad 4
  else bad (numsL [x]).2
def endP (no so si most : Int) (na : Nat) (ws : List (List UInt8)) : Int × Int × Int :=
  if ws.length = 3 then
    if most = -1 then (2, so, si)
    else if na = 0 then
      if (ws.getD 2 [] == [115]) = true then
        if so = 0 then endNP no so si (ws.getD 1 []) (fun a => (0, a, si)) (fun e => (e, so, si)) else (2, so, si)
      else if (ws.getD 2 [] == [116]) = true then
        if si = 0 then endNP no so si (ws.getD 1 []) (fun a => (0, so, a)) (fun e => (e, so, si)) else (2, so, si)
      else (2, so, si)
    else (2, so, si)
  else (2, so, si)
def arcP (no so si most sum : Int) (na : Nat) (ws : List (List UInt8)) : Int × Option (Int × S44) :=
  if ws.length = 4 then
    if so = 0 then (2, none)
    else if si = 0 then (2, none)
    else if (numsL (ws.drop 1)).2 = 0 then
      if thereB no ((numsL (ws.drop 1)).1.getD 0 0) = true then
        if thereB no ((numsL (ws.drop 1)).1.getD 1 0) = true then
          if (numsL (ws.drop 1)).1.getD 2 0 < 0 then (3, none)
          else if (na : Int) = most then (6, none)
          else if (addP sum ((numsL (ws.drop 1)).1.getD 2 0)).2 = 0 then
            if (addP sum ((numsL (ws.drop 1)).1.getD 2 0)).1 > 4611686018427387903 then (7, none)
            else (0, some ((addP sum ((numsL (ws.drop 1)).1.getD 2 0)).1, ⟨(numsL (ws.drop 1)).1.getD 0 0, (numsL (ws.drop 1)).1.getD 1 0, (numsL (ws.drop 1)).1.getD 2 0⟩))
          else (7, none)
        else (4, none)
      else (4, none)
    else ((numsL (ws.drop 1)).2, none)
  else (2, none)
theorem wAt_map (ws : List (List UInt8)) (i : Nat) : wAt (ws.map mkB) i = mkB (ws.getD i []) := by
  unfold wAt
  rw [List.getD_eq_getElem?_getD, List.getD_eq_getElem?_getD, List.getElem?_map]
  cases ws[i]? <;> rfl
theorem mkB_toList (l : List UInt8) : (mkB l).toList = l := by rw [toList_data, mkB_data]
theorem drop_short {l : List (List UInt8)} {B n : Nat} (h : ∀ x ∈ l, x.length ≤ B) : ∀ x ∈ l.drop n, x.length ≤ B := fun x hx => h x (List.mem_of_mem_drop hx)
theorem problemF_P (no most : Int) (ws : List (List UInt8)) (h : ∀ x ∈ ws, x.length ≤ 281474976710656) : problemF no most (ws.map mkB) = some (problemP no most ws) := by
  unfold problemF problemP
  rw [List.length_map, wAt_map, mkB_toList, ← List.map_drop, numsF_map _ (drop_short h)]
  simp only [Option.bind_some]
  repeat' split
  all_goals rfl
theorem endN_P (no so si : Int) (x : List UInt8) (f bad : Int → Int × Int × Int) (h : x.length ≤ 281474976710656) : endN no so si (mkB x) f bad = some (endNP no so si x f bad) := by
  unfold endN endNP
  have := numsF_map [x] (by intro y hy; rw [List.mem_singleton.1 hy]; exact h)
  rw [List.map_cons, List.map_nil] at this
  rw [this]
  simp only [Option.bind_some]
  repeat' split
  all_goals rfl
theorem getD_short {l : List (List UInt8)} {B i : Nat} (h : ∀ x ∈ l, x.length ≤ B) : (l.getD i []).length ≤ B := by
  rw [List.getD_eq_getElem?_getD]
  cases hq : l[i]? with
  | none => simp
  | some y => exact h y (List.mem_of_getElem? hq)
theorem endF_P (no so si most : Int) (na : Nat) (ws : List (List UInt8)) (h : ∀ x ∈ ws, x.length ≤ 281474976710656) : endF no so si most na (ws.map mkB) = some (endP no so si most na ws) := by
  unfold endF endP
  rw [List.length_map, wAt_map, wAt_map, mkB_toList, endN_P _ _ _ _ _ _ (getD_short h), endN_P _ _ _ _ _ _ (getD_short h)]
  repeat' split
  all_goals rfl
theorem arcF_P (no so si most sum : Int) (na : Nat) (ws : List (List UInt8)) (h : ∀ x ∈ ws, x.length ≤ 281474976710656) : arcF no so si most sum na (ws.map mkB) = some (arcP no so si most sum na ws) := by
  unfold arcF arcP
  rw [List.length_map, ← List.map_drop, numsF_map _ (drop_short h)]
  simp only [Option.bind_some, addF_eq]
  simp only [apply_ite some]

def stepP (s : RS) (ws : List (List UInt8)) : Int × RS :=
  match ws with
  | [] => (0, s)
  | x :: _ =>
    if (x == [99]) = true then (0, s)
    else if (x == [112]) = true then ((problemP s.no s.most ws).1, { s with no := (problemP s.no s.most ws).2.1, most := (problemP s.no s.most ws).2.2 })
    else if (x == [110]) = true then ((endP s.no s.so s.si s.most s.arcs.length ws).1, { s with so := (endP s.no s.so s.si s.most s.arcs.length ws).2.1, si := (endP s.no s.so s.si s.most s.arcs.length ws).2.2 })
    else if (x == [97]) = true then
      match arcP s.no s.so s.si s.most s.sum s.arcs.length ws with
      | (e, none) => (e, s)
      | (e, some p) => (e, { s with sum := p.1, arcs := s.arcs ++ [p.2] })
    else (2, s)
theorem stepF_P (s : RS) (ws : List (List UInt8)) (h : ∀ x ∈ ws, x.length ≤ 281474976710656) : stepF s (ws.map mkB) = some (stepP s ws) := by
  cases ws with
  | nil => rfl
  | cons x xs =>
    have h1 := problemF_P s.no s.most (x :: xs) h
    have h2 := endF_P s.no s.so s.si s.most s.arcs.length (x :: xs) h
    have h3 := arcF_P s.no s.so s.si s.most s.sum s.arcs.length (x :: xs) h
    rw [List.map_cons] at h1 h2 h3 ⊢
    unfold stepF stepP
    simp only [mkB_toList, h1, h2, h3, Option.bind_some]
    split
    · rfl
    · split
      · rfl
      · split
        · rfl
        · split
          · rcases arcP s.no s.so s.si s.most s.sum s.arcs.length (x :: xs) with ⟨e, _ | p⟩ <;> rfl
          · rfl
def runP (s : RS) : Nat → List (List UInt8) → Int × Int × RS
  | _, [] => (0, 0, s)
  | i, x :: xs => if (stepP s (wordsL x)).1 = 0 then runP (stepP s (wordsL x)).2 (i + 1) xs else (((i + 1 : Nat) : Int), (stepP s (wordsL x)).1, (stepP s (wordsL x)).2)
theorem runF_P : ∀ (ls : List (List UInt8)) (s : RS) (i : Nat), (∀ x ∈ ls, x.length ≤ 4294967296) → runF s i (ls.map mkB) = some (runP s i ls)
  | [], _, _, _ => rfl
  | x :: xs, s, i, h => by
    have hx := h x (List.mem_cons_self ..)
    rw [List.map_cons]
    unfold runF runP
    rw [words_some _ (by rw [mkB_size]; exact hx)]
    have e : wordsB (mkB x) = (wordsL x).map mkB := by unfold wordsB; rw [mkB_data]
    rw [Option.bind_some, e, stepF_P s (wordsL x) (fun y hy => by have := wordsL_mem_le x y hy; omega), Option.bind_some, runF_P xs _ _ (fun y hy => h y (List.mem_cons_of_mem _ hy))]
    split <;> rfl
def parseP (l : List UInt8) : Int × Int × Int × List S44 × Int × Int :=
  if (runP RS.init 0 (linesL l)).2.1 = 0 then
    if (runP RS.init 0 (linesL l)).2.2.most = -1 then (0, 0, 0, [], ((linesL l).length : Int) + 1, 2)
    else if (runP RS.init 0 (linesL l)).2.2.so = 0 then (0, 0, 0, [], ((linesL l).length : Int) + 1, 2)
    else if (runP RS.init 0 (linesL l)).2.2.si = 0 then (0, 0, 0, [], ((linesL l).length : Int) + 1, 2)
    else if ((runP RS.init 0 (linesL l)).2.2.arcs.length : Int) < (runP RS.init 0 (linesL l)).2.2.most then (0, 0, 0, [], ((linesL l).length : Int) + 1, 6)
    else ((runP RS.init 0 (linesL l)).2.2.no, (runP RS.init 0 (linesL l)).2.2.so, (runP RS.init 0 (linesL l)).2.2.si, (runP RS.init 0 (linesL l)).2.2.arcs, 0, 0)
  else (0, 0, 0, [], (runP RS.init 0 (linesL l)).1, (runP RS.init 0 (linesL l)).2.1)
theorem parse_some (s : ByteArray) (h : s.size < 4294967281) : dimacs_Parse.f s = some (parseP s.data.toList) := by
  unfold dimacs_Parse.f parseP
  rw [lines_some s h, Option.bind_some]
  have e : linesB s = (linesL s.data.toList).map mkB := rfl
  rw [e, runF_P _ _ _ (fun x hx => by have := linesL_mem_le _ x hx; rw [size_eq] at h; omega), Option.bind_some, List.length_map]
  repeat' split
  all_goals rfl

/-! ### going on -/
def okP (s : RS) : List (List UInt8) → Option RS
  | [] => some s
  | x :: xs => if (stepP s (wordsL x)).1 = 0 then okP (stepP s (wordsL x)).2 xs else none
theorem runP_ok : ∀ (xs ys : List (List UInt8)) (s s' : RS) (i : Nat), okP s xs = some s' → runP s i (xs ++ ys) = runP s' (i + xs.length) ys
  | [], ys, s, s', i, h => by
    have := Option.some.inj h
    subst this
    rfl
  | x :: xs, ys, s, s', i, h => by
    unfold okP at h
    split at h
    case isFalse => cases h
    case isTrue h1 =>
    rw [List.cons_append]
    conv => lhs; unfold runP
    rw [if_pos h1, runP_ok xs ys _ s' (i + 1) h, List.length_cons, show i + 1 + xs.length = i + (xs.length + 1) by omega]
theorem okP_append : ∀ (xs ys : List (List UInt8)) (s : RS), okP s (xs ++ ys) = (okP s xs).bind fun s' => okP s' ys
  | [], ys, s => rfl
  | x :: xs, ys, s => by
    rw [List.cons_append]
    have e1 : okP s (x :: (xs ++ ys)) = if (stepP s (wordsL x)).1 = 0 then okP (stepP s (wordsL x)).2 (xs ++ ys) else none := rfl
    have e2 : okP s (x :: xs) = if (stepP s (wordsL x)).1 = 0 then okP (stepP s (wordsL x)).2 xs else none := rfl
    rw [e1, e2]
    split
    · exact okP_append xs ys _
    · rfl
theorem runP_bad (x : List UInt8) (ys : List (List UInt8)) (s : RS) (i : Nat) (h : (stepP s (wordsL x)).1 ≠ 0) : runP s i (x :: ys) = (((i + 1 : Nat) : Int), (stepP s (wordsL x)).1, (stepP s (wordsL x)).2) := by
  unfold runP
  rw [if_neg h]

/-! ### the lines by their words -/
theorem step_note (s : RS) (ws : List (List UInt8)) : stepP s ([99] :: ws) = (0, s) := rfl
theorem step_empty (s : RS) : stepP s [] = (0, s) := rfl
theorem nums_two {u v : List UInt8} {n m : Int} (hu : numL u = (n, 0)) (hv : numL v = (m, 0)) : numsL [u, v] = ([n, m], 0) := by simp [numsL, hu, hv]
theorem nums_one {u : List UInt8} {n : Int} (hu : numL u = (n, 0)) : numsL [u] = ([n], 0) := by simp [numsL, hu]
theorem nums_three {u v x : List UInt8} {n m k : Int} (hu : numL u = (n, 0)) (hv : numL v = (m, 0)) (hx : numL x = (k, 0)) : numsL [u, v, x] = ([n, m, k], 0) := by simp [numsL, hu, hv, hx]
theorem len4 (a b c d : List UInt8) : [a, b, c, d].length = 4 := rfl
theorem len3 (a b c : List UInt8) : [a, b, c].length = 3 := rfl
theorem beqr (l : List UInt8) : (l == l) = true := by simp
theorem step_problem (s : RS) {u v : List UInt8} {n m : Int} (hu : numL u = (n, 0)) (hv : numL v = (m, 0)) (h0 : s.most = -1) (h1 : 2 ≤ n) (h2 : n ≤ 500) (h3 : 0 ≤ m) (h4 : m ≤ 2000) :
    stepP s [[112], [109, 97, 120], u, v] = (0, { s with no := n, most := m }) := by
  have e : problemP s.no s.most [[112], [109, 97, 120], u, v] = (0, n, m) := by
    unfold problemP
    simp only [List.drop_succ_cons, List.drop_zero, nums_two hu hv, List.getD_cons_zero, List.getD_cons_succ]
    rw [if_pos (len4 _ _ _ _), if_pos (beqr _), if_pos h0, if_true, if_neg (by omega), if_neg (by omega), if_neg (by omega), if_neg (by omega)]
  unfold stepP
  simp only [e]
  rfl
theorem step_problem_again (s : RS) (u v : List UInt8) (h0 : s.most ≠ -1) : (stepP s [[112], [109, 97, 120], u, v]).1 = 2 := by
  have e : problemP s.no s.most [[112], [109, 97, 120], u, v] = (2, s.no, s.most) := by
    unfold problemP
    simp only [List.getD_cons_zero, List.getD_cons_succ]
    rw [if_pos (len4 _ _ _ _), if_pos (beqr _), if_neg h0]
  unfold stepP
  simp only [e]
  rfl
theorem there_iff (no a : Int) : thereB no a = true ↔ 1 ≤ a ∧ a ≤ no := by
  unfold thereB
  rw [Bool.and_eq_true, decide_eq_true_iff, decide_eq_true_iff]
theorem step_source (s : RS) {u : List UInt8} {n : Int} (hu : numL u = (n, 0)) (h0 : s.most ≠ -1) (ha : s.arcs.length = 0) (hs : s.so = 0) (h1 : 1 ≤ n) (h2 : n ≤ s.no) (h3 : n ≠ s.si) :
    stepP s [[110], u, [115]] = (0, { s with so := n }) := by
  have e : endP s.no s.so s.si s.most s.arcs.length [[110], u, [115]] = (0, n, s.si) := by
    unfold endP endNP
    simp only [nums_one hu, List.getD_cons_zero, List.getD_cons_succ]
    rw [if_pos (len3 _ _ _), if_neg h0, if_pos ha, if_pos (beqr _), if_pos hs, if_true, if_pos ((there_iff _ _).2 ⟨h1, h2⟩), if_neg (by omega), if_neg h3]
  unfold stepP
  simp only [e]
  rfl
theorem step_sink (s : RS) {u : List UInt8} {n : Int} (hu : numL u = (n, 0)) (h0 : s.most ≠ -1) (ha : s.arcs.length = 0) (hs : s.si = 0) (h1 : 1 ≤ n) (h2 : n ≤ s.no) (h3 : n ≠ s.so) :
    stepP s [[110], u, [116]] = (0, { s with si := n }) := by
  have e : endP s.no s.so s.si s.most s.arcs.length [[110], u, [116]] = (0, s.so, n) := by
    unfold endP endNP
    simp only [nums_one hu, List.getD_cons_zero, List.getD_cons_succ]
    rw [if_pos (len3 _ _ _), if_neg h0, if_pos ha, if_neg (by decide), if_pos (beqr _), if_pos hs, if_true, if_pos ((there_iff _ _).2 ⟨h1, h2⟩), if_neg h3, if_neg (by omega)]
  unfold stepP
  simp only [e]
  rfl
theorem step_end_bad (s : RS) (u x : List UInt8) (h : s.most = -1 ∨ s.arcs.length ≠ 0 ∨ (x = [115] ∧ s.so ≠ 0) ∨ (x = [116] ∧ s.si ≠ 0)) : (stepP s [[110], u, x]).1 = 2 := by
  have e : (endP s.no s.so s.si s.most s.arcs.length [[110], u, x]).1 = 2 := by
    unfold endP
    rw [if_pos (len3 _ _ _)]
    split
    · rfl
    · rename_i h0
      split
      · rename_i ha
        simp only [List.getD_cons_zero, List.getD_cons_succ]
        rcases h with h | h | ⟨rfl, h⟩ | ⟨rfl, h⟩
        · exact absurd h h0
        · exact absurd ha h
        · rw [if_pos (beqr _), if_neg h]
        · rw [if_neg (by decide), if_pos (beqr _), if_neg h]
      · rfl
  unfold stepP
  simp only []
  rw [if_neg (by decide), if_neg (by decide), if_pos (by decide)]
  exact e
theorem addP_lt {a b : Int} (h0 : 0 ≤ a) (h1 : a ≤ 4611686018427387903) (h2 : 0 ≤ b) (h3 : b ≤ 9223372036854775807) :
    (a + b ≤ 4611686018427387903 → addP a b = (a + b, 0)) ∧ (4611686018427387903 < a + b → (addP a b).2 = 0 → 4611686018427387903 < (addP a b).1) := by
  by_cases hb : b = 0
  · subst hb
    constructor
    · intro _
      unfold addP
      rw [if_pos rfl, wrapS (by omega) (by omega)]
      split <;> rfl
    · intro h
      omega
  · by_cases hw : a + b ≤ 9223372036854775807
    · have e : addP a b = (a + b, 0) := by
        unfold addP
        rw [wrapS (by omega) (by omega), decide_eq_true (show a + b > a by omega), decide_eq_true (show b > 0 by omega)]
        rfl
      exact ⟨fun _ => e, fun h _ => by rw [e]; exact h⟩
    · have hw2 : wrap64 (a + b) = a + b - 18446744073709551616 := by unfold wrap64; omega
      have e : addP a b = (0, 3) := by
        unfold addP
        rw [hw2, decide_eq_false (show ¬ a + b - 18446744073709551616 > a by omega), decide_eq_true (show b > 0 by omega), if_pos (by decide), if_neg hb]
      exact ⟨fun h => by omega, fun _ h => by rw [e] at h; exact absurd h (by decide)⟩
theorem step_arc (s : RS) {u v x : List UInt8} {a b c : Int} (hu : numL u = (a, 0)) (hv : numL v = (b, 0)) (hx : numL x = (c, 0)) (hso : s.so ≠ 0) (hsi : s.si ≠ 0) (ha1 : 1 ≤ a) (ha2 : a ≤ s.no) (hb1 : 1 ≤ b) (hb2 : b ≤ s.no) (hc : 0 ≤ c)
    (hna : (s.arcs.length : Int) ≠ s.most) (h0 : 0 ≤ s.sum) (hsum : s.sum + c ≤ 4611686018427387903) :
    stepP s [[97], u, v, x] = (0, { s with sum := s.sum + c, arcs := s.arcs ++ [⟨a, b, c⟩] }) := by
  have e : arcP s.no s.so s.si s.most s.sum s.arcs.length [[97], u, v, x] = (0, some (s.sum + c, ⟨a, b, c⟩)) := by
    unfold arcP
    simp only [List.drop_succ_cons, List.drop_zero, nums_three hu hv hx, List.getD_cons_zero, List.getD_cons_succ, (addP_lt (a := s.sum) (b := c) h0 (by omega) hc (by omega)).1 hsum]
    rw [if_pos (len4 _ _ _ _), if_neg hso, if_neg hsi, if_true, if_pos ((there_iff _ _).2 ⟨ha1, ha2⟩), if_pos ((there_iff _ _).2 ⟨hb1, hb2⟩), if_neg (by omega), if_neg hna, if_true, if_neg (by omega)]
  unfold stepP
  simp only [e]
  rfl
theorem step_arc_count (s : RS) {u v x : List UInt8} {a b c : Int} (hu : numL u = (a, 0)) (hv : numL v = (b, 0)) (hx : numL x = (c, 0)) (hso : s.so ≠ 0) (hsi : s.si ≠ 0) (ha1 : 1 ≤ a) (ha2 : a ≤ s.no) (hb1 : 1 ≤ b) (hb2 : b ≤ s.no) (hc : 0 ≤ c)
    (hna : (s.arcs.length : Int) = s.most) : stepP s [[97], u, v, x] = (6, s) := by
  have e : arcP s.no s.so s.si s.most s.sum s.arcs.length [[97], u, v, x] = (6, none) := by
    unfold arcP
    simp only [List.drop_succ_cons, List.drop_zero, nums_three hu hv hx, List.getD_cons_zero, List.getD_cons_succ]
    rw [if_pos (len4 _ _ _ _), if_neg hso, if_neg hsi, if_true, if_pos ((there_iff _ _).2 ⟨ha1, ha2⟩), if_pos ((there_iff _ _).2 ⟨hb1, hb2⟩), if_neg (by omega), if_pos hna]
  unfold stepP
  simp only [e]
  rfl
theorem step_arc_sum (s : RS) {u v x : List UInt8} {a b c : Int} (hu : numL u = (a, 0)) (hv : numL v = (b, 0)) (hx : numL x = (c, 0)) (hso : s.so ≠ 0) (hsi : s.si ≠ 0) (ha1 : 1 ≤ a) (ha2 : a ≤ s.no) (hb1 : 1 ≤ b) (hb2 : b ≤ s.no) (hc : 0 ≤ c) (hc2 : c ≤ 9223372036854775807)
    (hna : (s.arcs.length : Int) ≠ s.most) (h0 : 0 ≤ s.sum) (h1 : s.sum ≤ 4611686018427387903) (hsum : 4611686018427387903 < s.sum + c) : stepP s [[97], u, v, x] = (7, s) := by
  have e : arcP s.no s.so s.si s.most s.sum s.arcs.length [[97], u, v, x] = (7, none) := by
    have hh := (addP_lt (a := s.sum) (b := c) h0 h1 hc hc2).2 hsum
    unfold arcP
    simp only [List.drop_succ_cons, List.drop_zero, nums_three hu hv hx, List.getD_cons_zero, List.getD_cons_succ]
    rw [if_pos (len4 _ _ _ _), if_neg hso, if_neg hsi, if_true, if_pos ((there_iff _ _).2 ⟨ha1, ha2⟩), if_pos ((there_iff _ _).2 ⟨hb1, hb2⟩), if_neg (by omega), if_neg hna]
    split
    · rename_i h2
      rw [if_pos (hh h2)]
    · rfl
  unfold stepP
  simp only [e]
  rfl
end Go.Proofs.YtgpeppnbgfdaaaaGreatDoor.R
