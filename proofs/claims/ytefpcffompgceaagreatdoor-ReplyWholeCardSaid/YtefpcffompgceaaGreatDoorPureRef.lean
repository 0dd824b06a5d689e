import Derived.Test.YtefpcffompgceaaGreatDoorTake
/- Which reply any bytes begin with, by the document: the definition's answer. -/
namespace Go.Proofs.YtefpcffompgceaaGreatDoor.PureRef
open Go Go.RowKit Go.Lib Go.Proofs.Dig Go.Proofs.Tk Go.Proofs.YtefpcffompgceaaGreatDoor.Pure1 Go.Proofs.YtefpcffompgceaaGreatDoor.Pure5 Go.Proofs.YtefpcffompgceaaGreatDoor.Pure6
open Go.Proofs.YtefpcffompgceaaGreatDoorW.PrintWords Go.Proofs.YtefpcffompgceaaGreatDoor.Zr
set_option linter.unusedVariables false
set_option linter.unusedSimpArgs false
theorem rd_at (l : List Int) (a j : Nat) : rd l ((a + j : Nat) : Int) = (l.drop a).getD j 0 := by
  unfold rd
  rw [Int.toNat_natCast, List.getD_eq_getElem?_getD, List.getD_eq_getElem?_getD, List.getElem?_drop]
def lineR (l : List Int) (a : Nat) : ByteArray × Int := match eol (l.drop a) with | some n => (strOfNums ((l.drop a).take n), ((a + n + 2 : Nat) : Int)) | none => (⟨#[]⟩, -1)
theorem line_go (l : List Int) (a : Nat) (ha : a ≤ l.length) (hl : l.length ≤ 1000000) : ∀ (d j : Nat), l.length - (a + j) = d → a + j ≤ l.length → (∀ i, i < j → ¬ ((l.drop a).getD i 0 = 13 ∧ (l.drop a).getD (i + 1) 0 = 10)) → Ev (fun k => tipstaffref05_line.l0 k l a ((a + j : Nat) : Int)) (lineR l a) := by
  intro d
  induction d with
  | zero =>
    intro j hd hj hb
    have he : eol (l.drop a) = none := eol_no fun i hi => hb i (by rw [List.length_drop] at hi; omega)
    have e1 : wrap64 (((a + j : Nat) : Int) + 1) = ((a + j + 1 : Nat) : Int) := by rw [w64 (n := ((a + j : Nat) : Int) + 1) (by omega) (by omega)]; omega
    refine Ev.step (f := fun _ => some (lineR l a)) (fun k => ?_) (Ev.now _)
    rw [tipstaffref05_line.l0, e1, if_neg (by omega)]
    unfold lineR
    rw [he]
  | succ d ih =>
    intro j hd hj hb
    have e1 : wrap64 (((a + j : Nat) : Int) + 1) = ((a + (j + 1) : Nat) : Int) := by rw [w64 (n := ((a + j : Nat) : Int) + 1) (by omega) (by omega)]; omega
    have e2 : wrap64 (((a + j : Nat) : Int) + 2) = ((a + j + 2 : Nat) : Int) := by rw [w64 (n := ((a + j : Nat) : Int) + 2) (by omega) (by omega)]; omega
    by_cases hlt : a + (j + 1) < l.length
    · by_cases hq : (l.drop a).getD j 0 = 13 ∧ (l.drop a).getD (j + 1) 0 = 10
      · have he : eol (l.drop a) = some j := eol_of (by rw [List.length_drop]; omega) hq.1 hq.2 hb
        refine Ev.step (f := fun _ => some (lineR l a)) (fun k => ?_) (Ev.now _)
        rw [tipstaffref05_line.l0, e1, if_pos (by omega), if_pos (by omega), if_pos (by omega), rd_at, if_pos hq.1, if_pos (by omega), rd_at, if_pos hq.2, if_pos (by omega), if_pos (by omega), if_pos (by omega), e2]
        unfold lineR
        rw [he, Int.toNat_natCast, Int.toNat_natCast, List.drop_take, Nat.add_sub_cancel_left]
      · have := ih (j + 1) (by omega) (by omega) (fun i hi => by
          rcases Nat.lt_or_ge i j with h | h
          · exact hb i h
          · obtain rfl : i = j := by omega
            exact hq)
        refine Ev.step (f := fun k => tipstaffref05_line.l0 k l a ((a + (j + 1) : Nat) : Int)) (fun k => ?_) this
        rw [tipstaffref05_line.l0, e1, if_pos (by omega), if_pos (by omega), if_pos (by omega), rd_at]
        by_cases h13 : (l.drop a).getD j 0 = 13
        · rw [if_pos h13, if_pos (by omega), rd_at, if_neg (fun h => hq ⟨h13, h⟩)]
        · rw [if_neg h13]
    · have he : eol (l.drop a) = none := eol_no fun i hi => hb i (by rw [List.length_drop] at hi; omega)
      refine Ev.step (f := fun _ => some (lineR l a)) (fun k => ?_) (Ev.now _)
      rw [tipstaffref05_line.l0, e1, if_neg (by omega)]
      unfold lineR
      rw [he]
theorem line_ev (l : List Int) (a : Nat) (ha : a ≤ l.length) (hl : l.length ≤ 1000000) : Ev (fun k => tipstaffref05_line.f k l a) (lineR l a) :=
  line_go l a ha hl _ 0 rfl ha (fun i hi => absurd hi (by omega))
theorem clean_go (l : List Int) (h : Byt l) (hl : l.length ≤ 1000000) : ∀ (d i : Nat), l.length - i = d → i ≤ l.length → Ev (fun k => tipstaffref05_clean.l0 k (strOfNums l) i) (lf (l.drop i))
  | 0, i, hd, hi => by
    obtain rfl : i = l.length := by omega
    refine Ev.step (f := fun _ => some (lf (l.drop l.length))) (fun k => ?_) (Ev.now _)
    rw [tipstaffref05_clean.l0, if_neg (by rw [strOfNums_size]; omega), List.drop_length]
    rfl
  | d + 1, i, hd, hi => by
    have hlt : i < l.length := by omega
    have hb := bt_str l h i hlt
    have hg : l.getD i 0 = l[i] := by rw [List.getD_eq_getElem?_getD, List.getElem?_eq_getElem hlt]; rfl
    rw [hg] at hb
    have e : l.drop i = l[i] :: l.drop (i + 1) := List.drop_eq_getElem_cons hlt
    have e1 : wrap64 ((i : Int) + 1) = ((i + 1 : Nat) : Int) := by rw [w64 (n := (i : Int) + 1) (by omega) (by omega)]; omega
    by_cases h13 : l[i] = 13
    · refine Ev.step (f := fun _ => some (lf (l.drop i))) (fun k => ?_) (Ev.now _)
      rw [tipstaffref05_clean.l0, if_pos (by rw [strOfNums_size]; omega), if_pos (by omega), hb, if_pos h13, e, lf, List.all_cons, decide_eq_false (by rw [h13]; simp)]
      rfl
    · by_cases h10 : l[i] = 10
      · refine Ev.step (f := fun _ => some (lf (l.drop i))) (fun k => ?_) (Ev.now _)
        rw [tipstaffref05_clean.l0, if_pos (by rw [strOfNums_size]; omega), if_pos (by omega), hb, if_neg h13, if_pos h10, e, lf, List.all_cons, decide_eq_false (by rw [h10]; simp)]
        rfl
      · have ih := clean_go l h hl d (i + 1) (by omega) (by omega)
        rw [e, lf, List.all_cons, decide_eq_true ⟨h13, h10⟩, Bool.true_and]
        refine Ev.step (f := fun k => tipstaffref05_clean.l0 k (strOfNums l) ((i + 1 : Nat) : Int)) (fun k => ?_) ih
        rw [tipstaffref05_clean.l0, if_pos (by rw [strOfNums_size]; omega), if_pos (by omega), hb, if_neg h13, if_neg h10, e1]
theorem clean_ev (l : List Int) (h : Byt l) (hl : l.length ≤ 1000000) : Ev (fun k => tipstaffref05_clean.f k (strOfNums l)) (lf l) := by
  have := clean_go l h hl l.length 0 (by omega) (by omega)
  rwa [List.drop_zero] at this
/-- as the definition's, with the bound of an array's replies told ahead -/
def oneR (B : Nat) (l : List Int) : Option (Nat × Nat) :=
  match eol l with
  | none => none
  | some n =>
    if n = 0 then none else
    let p := parseO (strOfNums ((l.take n).drop 1)); let m := l.headD 0
    if m = 43 ∨ m = 45 then (if lf (l.take n) = true then some (n + 2, 0) else none)
    else if m = 58 then (if p.isSome = true then some (n + 2, 0) else none)
    else if m = 36 then
      match p with
      | none => none
      | some v => if v = -1 then some (n + 2, 0) else if 0 ≤ v ∧ n + 2 + v.toNat + 2 ≤ l.length ∧ l.getD (n + 2 + v.toNat) 0 = 13 ∧ l.getD (n + 2 + v.toNat + 1) 0 = 10 then some (n + 2 + v.toNat + 2, 0) else none
    else if m = 42 then
      match p with
      | none => none
      | some v => if v = -1 then some (n + 2, 0) else if 0 ≤ v ∧ v ≤ (B : Int) then some (n + 2, v.toNat) else none
    else none
theorem oneR_S (l : List Int) : oneR l.length l = oneS l := rfl
theorem oneR_of {B : Nat} {l : List Int} (hB : l.length ≤ B) {x : Nat × Nat} (h : oneS l = some x) : oneR B l = some x := by
  unfold oneS at h
  unfold oneR
  cases hn : eol l with
  | none => rw [hn] at h; cases h
  | some n =>
    rw [hn] at h
    simp only at h ⊢
    by_cases h0 : n = 0
    · rw [if_pos h0] at h; cases h
    rw [if_neg h0] at h ⊢
    generalize parseO (strOfNums ((l.take n).drop 1)) = p at h ⊢
    generalize l.headD 0 = c at h ⊢
    by_cases c1 : c = 43 ∨ c = 45
    · rw [if_pos c1] at h ⊢; exact h
    rw [if_neg c1] at h ⊢
    by_cases c2 : c = 58
    · rw [if_pos c2] at h ⊢; exact h
    rw [if_neg c2] at h ⊢
    by_cases c3 : c = 36
    · rw [if_pos c3] at h ⊢; exact h
    rw [if_neg c3] at h ⊢
    by_cases c4 : c = 42
    · rw [if_pos c4] at h ⊢
      cases p with
      | none => exact h
      | some v =>
        simp only at h ⊢
        by_cases hv : v = -1
        · rw [if_pos hv] at h ⊢; exact h
        rw [if_neg hv] at h ⊢
        by_cases hq : 0 ≤ v ∧ v ≤ (l.length : Int)
        · rw [if_pos hq] at h
          rw [if_pos ⟨hq.1, by omega⟩]; exact h
        · rw [if_neg hq] at h; cases h
    · rw [if_neg c4] at h; cases h
theorem oneR_more {B : Nat} {l : List Int} {m k : Nat} (hB : l.length ≤ B) (h : oneR B l = some (m, k)) : 3 ≤ m ∧ m ≤ l.length ∧ k ≤ B ∧ (oneS l = some (m, k) ∨ l.length < k) := by
  by_cases hS : oneS l = none
  · have hS' := hS
    unfold oneS at hS'
    unfold oneR at h
    cases hn : eol l with
    | none => rw [hn] at h; cases h
    | some n =>
      have hl := (eol_at hn).1
      rw [hn] at h hS'
      simp only at h hS'
      by_cases h0 : n = 0
      · rw [if_pos h0] at h; cases h
      rw [if_neg h0] at h hS'
      generalize parseO (strOfNums ((l.take n).drop 1)) = p at h hS'
      generalize l.headD 0 = c at h hS'
      by_cases c1 : c = 43 ∨ c = 45
      · rw [if_pos c1] at h hS'; cases (h.symm.trans hS')
      rw [if_neg c1] at h hS'
      by_cases c2 : c = 58
      · rw [if_pos c2] at h hS'; cases (h.symm.trans hS')
      rw [if_neg c2] at h hS'
      by_cases c3 : c = 36
      · rw [if_pos c3] at h hS'; cases (h.symm.trans hS')
      rw [if_neg c3] at h hS'
      by_cases c4 : c = 42
      · rw [if_pos c4] at h hS'
        cases p with
        | none => cases h
        | some v =>
          simp only at h hS'
          by_cases hv : v = -1
          · rw [if_pos hv] at h hS'; cases (h.symm.trans hS')
          rw [if_neg hv] at h hS'
          by_cases hq : 0 ≤ v ∧ v ≤ (B : Int)
          · rw [if_pos hq] at h
            by_cases hq2 : 0 ≤ v ∧ v ≤ (l.length : Int)
            · rw [if_pos hq2] at hS'; cases hS'
            · injection h with h
              injection h with h1 h2
              exact ⟨by omega, by omega, by omega, .inr (by omega)⟩
          · rw [if_neg hq] at h; cases h
      · rw [if_neg c4] at h; cases h
  · cases ho : oneS l with
    | none => exact absurd ho hS
    | some x =>
      have e := oneR_of hB ho
      rw [h] at e
      injection e with e
      subst e
      have hp := one_pos ho
      exact ⟨hp.1, hp.2.1, by omega, .inl rfl⟩
def goR (l : List Int) : Nat → Nat → Nat → Option Nat
  | 0, _, _ => none
  | f + 1, a, left => if left = 0 then some a else match oneR l.length (l.drop a) with | none => none | some (m, k) => goR l f (a + m) (left - 1 + k)
theorem goR_left {l : List Int} : ∀ {f a left x : Nat}, a ≤ l.length → goR l f a left = some x → a + 3 * left ≤ x ∧ x ≤ l.length
  | 0, _, _, _, _, h => by simp [goR] at h
  | f + 1, a, left, x, ha, h => by
    rw [goR] at h
    split at h
    · injection h with h
      subst h
      omega
    · split at h
      · cases h
      · rename_i m k hm
        have hp := oneR_more (by rw [List.length_drop]; omega) hm
        rw [List.length_drop] at hp
        have := goR_left (by omega) h
        omega
theorem goR_eq {l : List Int} : ∀ (f a left : Nat), a ≤ l.length → goR l f a left = takeGo l f a left
  | 0, _, _, _ => rfl
  | f + 1, a, left, ha => by
    rw [goR, takeGo]
    by_cases h0 : left = 0
    · rw [if_pos h0, if_pos h0]
    · rw [if_neg h0, if_neg h0]
      have hB : (l.drop a).length ≤ l.length := by rw [List.length_drop]; omega
      cases ho : oneS (l.drop a) with
      | some x =>
        obtain ⟨m, k⟩ := x
        have hp := one_pos ho
        rw [List.length_drop] at hp
        rw [oneR_of hB ho]
        exact goR_eq f (a + m) (left - 1 + k) (by omega)
      | none =>
        cases hr : oneR l.length (l.drop a) with
        | none => rfl
        | some x =>
          obtain ⟨m, k⟩ := x
          have hp := oneR_more hB hr
          rw [ho, List.length_drop] at hp
          simp only
          cases hg : goR l f (a + m) (left - 1 + k) with
          | none => rfl
          | some y =>
            have := goR_left (by omega) hg
            rcases hp.2.2.2 with h | h
            · cases h
            · omega
def resR (a : Nat) : Option (Nat × Nat) → Int × Int
  | none => (-1, 0)
  | some (m, k) => (((a + m : Nat) : Int), (k : Int))
set_option maxHeartbeats 4000000 in
theorem one_ev (l : List Int) (h : Byt l) (hs : l.length ≤ 1000000) (a : Nat) (ha : a ≤ l.length) : Ev (fun k => tipstaffref05_one.f k l a) (resR a (oneR l.length (l.drop a))) := by
  unfold tipstaffref05_one.f
  refine Ev.bind (line_ev l a ha hs) ?_
  have hLB : Byt (l.drop a) := byt_drop h a
  have hLl : (l.drop a).length = l.length - a := List.length_drop
  have hrd : ∀ j : Nat, rd l ((a + j : Nat) : Int) = (l.drop a).getD j 0 := rd_at l a
  unfold lineR oneR
  generalize hL : l.drop a = L at hLB hLl hrd ⊢
  clear hL
  cases he : eol L with
  | none =>
    refine Ev.congr (f := fun k => tipstaffref05_one.j0 k l ⟨#[]⟩ (-1) true) (fun k => by show (if (-1 : Int) < 0 then _ else _) = _; rw [if_pos (by decide)]) ?_
    refine Ev.step (f := fun _ => some (-1, 0)) (fun k => ?_) (Ev.now _)
    rw [tipstaffref05_one.j0, if_pos rfl]
  | some n =>
    have hn := eol_at he
    have hz : (strOfNums (L.take n)).size = n := by rw [strOfNums_size, List.length_take]; omega
    refine Ev.congr (f := fun k => tipstaffref05_one.j0 k l (strOfNums (L.take n)) ((a + n + 2 : Nat) : Int) ((n : Int) == 0)) (fun k => by simp only; rw [if_neg (by omega), hz]) ?_
    by_cases h0 : n = 0
    · subst h0
      simp only [if_true]
      refine Ev.step (f := fun _ => some (-1, 0)) (fun k => ?_) (Ev.now _)
      rw [tipstaffref05_one.j0, if_pos (by rfl)]
    · have hnz : ((n : Int) == 0) = false := beq_eq_false_iff_ne.2 (by omega)
      have hBt : Byt (L.take n) := fun x hx => hLB x (List.mem_of_mem_take hx)
      have hlt : (L.take n).length = n := by rw [List.length_take]; omega
      have hx : (strOfNums (L.take n)).extract 1 n = strOfNums ((L.take n).drop 1) := by
        have := str_drop (L.take n) 1 (by omega)
        rwa [hz] at this
      have hm : bt (strOfNums (L.take n)) 0 = L.headD 0 := by
        have := bt_str (L.take n) hBt 0 (by omega)
        have e0 : ((0 : Nat) : Int) = 0 := rfl
        rw [e0] at this
        rw [this]
        obtain ⟨x, r, rfl⟩ : ∃ x r, L = x :: r := by
          cases L with
          | nil => simp at hn
          | cons x r => exact ⟨x, r, rfl⟩
        obtain ⟨n, rfl⟩ : ∃ m, n = m + 1 := ⟨n - 1, by omega⟩
        simp
      simp only [if_neg h0]
      refine Ev.step (f := fun k => (tipstaffref01_Parse.f k (strOfNums ((L.take n).drop 1))).bind fun bt122 => (if L.headD 0 = 43 then (tipstaffref05_one.j1 k l (strOfNums (L.take n)) ((a + n + 2 : Nat) : Int) bt122.1 bt122.2 (L.headD 0) (L.headD 0 == 43)) else (tipstaffref05_one.j1 k l (strOfNums (L.take n)) ((a + n + 2 : Nat) : Int) bt122.1 bt122.2 (L.headD 0) (L.headD 0 == 45)))) (fun k => ?_) ?_
      · rw [tipstaffref05_one.j0, hnz, if_neg (by decide), hz, if_pos (by omega), hx, hm]
        simp only [show (0 : Int) < (n : Int) by omega, if_true]
      refine Ev.bind (parse_ev _) ?_
      have hcl := clean_ev (L.take n) hBt (by omega)
      generalize parseO (strOfNums ((L.take n).drop 1)) = p
      generalize L.headD 0 = m
      have e2 : ((a + n + 2 : Nat) : Int) = ((a + (n + 2) : Nat) : Int) := by omega
      have hline : ∀ p1 p2 c, Ev (fun k => tipstaffref05_one.j1 k l (strOfNums (L.take n)) ((a + n + 2 : Nat) : Int) p1 p2 c true) (resR a (if lf (L.take n) = true then some (n + 2, 0) else none)) := fun p1 p2 c => by
        refine Ev.step (f := fun k => (tipstaffref05_clean.f k (strOfNums (L.take n))).bind fun t => if t = true then some (((a + n + 2 : Nat) : Int), 0) else some (-1, 0)) (fun k => by rw [tipstaffref05_one.j1, if_pos rfl]) ?_
        refine Ev.bind hcl ?_
        cases lf (L.take n)
        · exact Ev.now _
        · exact Ev.now _
      have hj2 : ∀ p1 p2, Ev (fun k => tipstaffref05_one.j2 k l ((a + n + 2 : Nat) : Int) p1 p2 true) (resR a (some (n + 2, 0))) := fun p1 p2 => by
        refine Ev.step (f := fun _ => some (((a + n + 2 : Nat) : Int), 0)) (fun k => by rw [tipstaffref05_one.j2, if_pos rfl]) (Ev.now _)
      have hj3 : ∀ p1 p2, Ev (fun k => tipstaffref05_one.j3 k l ((a + n + 2 : Nat) : Int) p1 p2 true) (resR a (some (n + 2, 0))) := fun p1 p2 => by
        refine Ev.step (f := fun _ => some (((a + n + 2 : Nat) : Int), 0)) (fun k => by rw [tipstaffref05_one.j3, if_pos rfl]) (Ev.now _)
      by_cases c43 : m = 43
      · subst c43
        rw [if_pos (Or.inl rfl)]
        refine Ev.congr (fun k => by rw [if_pos rfl]; rfl) (hline (pairO p).1 (pairO p).2 43)
      by_cases c45 : m = 45
      · subst c45
        rw [if_pos (Or.inr rfl)]
        refine Ev.congr (fun k => by rw [if_neg (by decide)]; rfl) (hline (pairO p).1 (pairO p).2 45)
      have hmm : (m == 45) = false := beq_eq_false_iff_ne.2 c45
      rw [if_neg (by omega), hmm]
      refine Ev.congr (f := fun k => tipstaffref05_one.j1 k l (strOfNums (L.take n)) ((a + n + 2 : Nat) : Int) (pairO p).1 (pairO p).2 m false) (fun k => by rw [if_neg c43]) ?_
      by_cases c58 : m = 58
      · subst c58
        rw [if_pos rfl]
        refine Ev.step (f := fun _ => if (pairO p).2 = true then some (((a + n + 2 : Nat) : Int), 0) else some (-1, 0)) (fun k => by rw [tipstaffref05_one.j1, if_neg (by decide), if_pos rfl]) ?_
        cases p
        · exact Ev.now _
        · exact Ev.now _
      rw [if_neg c58]
      by_cases c36 : m = 36
      · subst c36
        rw [if_pos rfl]
        refine Ev.step (f := fun k => if (pairO p).2 = true then tipstaffref05_one.j2 k l ((a + n + 2 : Nat) : Int) (pairO p).1 (pairO p).2 ((pairO p).1 == -1) else tipstaffref05_one.j2 k l ((a + n + 2 : Nat) : Int) (pairO p).1 (pairO p).2 false) (fun k => by rw [tipstaffref05_one.j1, if_neg (by decide), if_neg (by decide), if_pos rfl]) ?_
        cases p with
        | none =>
          refine Ev.congr (f := fun k => tipstaffref05_one.j2 k l ((a + n + 2 : Nat) : Int) 0 false false) (fun k => rfl) ?_
          refine Ev.step (f := fun _ => some (-1, 0)) (fun k => by rw [tipstaffref05_one.j2, if_neg (by decide), if_neg (by decide)]) (Ev.now _)
        | some v =>
          refine Ev.congr (f := fun k => tipstaffref05_one.j2 k l ((a + n + 2 : Nat) : Int) v true (v == -1)) (fun k => rfl) ?_
          simp only
          by_cases hv : v = -1
          · subst hv
            rw [if_pos rfl]
            exact hj2 _ _
          · have hne : (v == -1) = false := beq_eq_false_iff_ne.2 hv
            rw [if_neg hv, hne]
            by_cases hv0 : 0 ≤ v
            · obtain ⟨u, rfl⟩ : ∃ u : Nat, v = (u : Int) := ⟨v.toNat, by omega⟩
              have e3 : Aside0 (wrap64 (wrap64 ((l.length : Int) - ((a + n + 2 : Nat) : Int)) - 2) = (l.length : Int) - ((a + n + 2 : Nat) : Int) - 2) := ⟨w3 (l.length : Int) ((a + n + 2 : Nat) : Int) (by omega) (by omega) (by omega) (by omega)⟩
              by_cases hle : (u : Int) ≤ (l.length : Int) - ((a + n + 2 : Nat) : Int) - 2
              · have f1 : Aside0 (wrap64 (((a + n + 2 : Nat) : Int) + (u : Int)) = ((a + (n + 2 + u) : Nat) : Int)) := ⟨by rw [w64 (n := ((a + n + 2 : Nat) : Int) + (u : Int)) (by omega) (by omega)]; omega⟩
                have f2 : Aside0 (wrap64 (((a + (n + 2 + u) : Nat) : Int) + 1) = ((a + (n + 2 + u + 1) : Nat) : Int)) := ⟨by rw [w64 (n := ((a + (n + 2 + u) : Nat) : Int) + 1) (by omega) (by omega)]; omega⟩
                have f3 : Aside0 (wrap64 (((a + (n + 2 + u) : Nat) : Int) + 2) = ((a + (n + 2 + u + 2) : Nat) : Int)) := ⟨by rw [w64 (n := ((a + (n + 2 + u) : Nat) : Int) + 2) (by omega) (by omega)]; omega⟩
                refine Ev.step (f := fun _ => if L.getD (n + 2 + u) 0 = 13 then (if L.getD (n + 2 + u + 1) 0 = 10 then some (((a + (n + 2 + u + 2) : Nat) : Int), 0) else some (-1, 0)) else some (-1, 0)) (fun k => ?_) ?_
                · rw [tipstaffref05_one.j2, if_neg (by decide), if_pos rfl, if_pos (show (u : Int) ≥ 0 by omega), e3.out, if_pos hle, f1.out, if_pos (show (0 : Int) ≤ ((a + (n + 2 + u) : Nat) : Int) by omega), if_pos (show ((a + (n + 2 + u) : Nat) : Int) < (l.length : Int) by omega), hrd, f2.out, if_pos (show (0 : Int) ≤ ((a + (n + 2 + u + 1) : Nat) : Int) by omega), if_pos (show ((a + (n + 2 + u + 1) : Nat) : Int) < (l.length : Int) by omega), hrd, f3.out]
                · rw [Int.toNat_natCast]
                  by_cases q1 : L.getD (n + 2 + u) 0 = 13
                  · by_cases q2 : L.getD (n + 2 + u + 1) 0 = 10
                    · rw [if_pos q1, if_pos q2, if_pos ⟨hv0, by omega, q1, q2⟩]
                      exact Ev.now _
                    · rw [if_pos q1, if_neg q2, if_neg (fun hh => q2 hh.2.2.2)]
                      exact Ev.now _
                  · rw [if_neg q1, if_neg (fun hh => q1 hh.2.2.1)]
                    exact Ev.now _
              · rw [if_neg (fun hh => hle (by rw [Int.toNat_natCast] at hh; omega))]
                refine Ev.step (f := fun _ => some (-1, 0)) (fun k => by rw [tipstaffref05_one.j2, if_neg (by decide), if_pos rfl, if_pos (show (u : Int) ≥ 0 by omega), e3.out, if_neg hle]) (Ev.now _)
            · rw [if_neg (fun hh => hv0 hh.1)]
              refine Ev.step (f := fun _ => some (-1, 0)) (fun k => by rw [tipstaffref05_one.j2, if_neg (by decide), if_pos rfl, if_neg (by omega)]) (Ev.now _)
      rw [if_neg c36]
      by_cases c42 : m = 42
      · subst c42
        rw [if_pos rfl]
        refine Ev.step (f := fun k => if (pairO p).2 = true then tipstaffref05_one.j3 k l ((a + n + 2 : Nat) : Int) (pairO p).1 (pairO p).2 ((pairO p).1 == -1) else tipstaffref05_one.j3 k l ((a + n + 2 : Nat) : Int) (pairO p).1 (pairO p).2 false) (fun k => by rw [tipstaffref05_one.j1, if_neg (by decide), if_neg (by decide), if_neg (by decide), if_pos rfl]) ?_
        cases p with
        | none =>
          refine Ev.congr (f := fun k => tipstaffref05_one.j3 k l ((a + n + 2 : Nat) : Int) 0 false false) (fun k => rfl) ?_
          refine Ev.step (f := fun _ => some (-1, 0)) (fun k => by rw [tipstaffref05_one.j3, if_neg (by decide), if_neg (by decide)]) (Ev.now _)
        | some v =>
          refine Ev.congr (f := fun k => tipstaffref05_one.j3 k l ((a + n + 2 : Nat) : Int) v true (v == -1)) (fun k => rfl) ?_
          simp only
          by_cases hv : v = -1
          · subst hv
            rw [if_pos rfl]
            exact hj3 _ _
          · have hne : (v == -1) = false := beq_eq_false_iff_ne.2 hv
            rw [if_neg hv, hne]
            by_cases hq : 0 ≤ v ∧ v ≤ (l.length : Int)
            · rw [if_pos hq]
              refine Ev.step (f := fun _ => some (((a + n + 2 : Nat) : Int), v)) (fun k => by rw [tipstaffref05_one.j3, if_neg (by decide), if_pos rfl, if_pos (by omega), if_pos hq.2]) ?_
              have e5 : resR a (some (n + 2, v.toNat)) = (((a + n + 2 : Nat) : Int), v) := by
                show (((a + (n + 2) : Nat) : Int), ((v.toNat : Nat) : Int)) = _
                rw [Int.toNat_of_nonneg hq.1]
                rfl
              rw [e5]
              exact Ev.now _
            · rw [if_neg hq]
              refine Ev.step (f := fun _ => some (-1, 0)) (fun k => ?_) (Ev.now _)
              rw [tipstaffref05_one.j3, if_neg (by decide), if_pos rfl]
              by_cases hv0 : v ≥ 0
              · rw [if_pos hv0, if_neg (fun hh => hq ⟨hv0, hh⟩)]
              · rw [if_neg hv0]
      rw [if_neg c42]
      refine Ev.step (f := fun _ => some (-1, 0)) (fun k => by rw [tipstaffref05_one.j1, if_neg (by decide), if_neg c58, if_neg c36, if_neg c42]) (Ev.now _)
theorem rgo_ev (l : List Int) (h : Byt l) (hs : l.length ≤ 1000000) : ∀ (f a left : Nat), a ≤ l.length → l.length + 1 ≤ f + a → left ≤ 1 + a * 1000000 → Ev (fun k => tipstaffref05_Take.l0 k l a left) (resT l (goR l f a left))
  | 0, a, left, ha, hf, _ => by omega
  | f + 1, a, left, ha, hf, hleft => by
    have hlb : a * 1000000 ≤ 1000000000000 := by
      have : a ≤ 1000000 := by omega
      calc a * 1000000 ≤ 1000000 * 1000000 := Nat.mul_le_mul_right _ this
        _ = 1000000000000 := rfl
    by_cases h0 : left = 0
    · subst h0
      rw [goR, if_pos rfl]
      refine Ev.step (f := fun _ => some (l.take a, l.drop a, true)) (fun k => ?_) (Ev.now _)
      show tipstaffref05_Take.l0 (k + 1) l a ((0 : Nat) : Int) = _
      rw [tipstaffref05_Take.l0, if_neg (by omega), Option.bind_some, if_pos (by omega), if_pos (by omega), Int.toNat_natCast, if_pos (by rw [List.length_take]; simp only [List.length_nil]; omega), Option.bind_some, if_pos (by rw [List.length_drop]; simp only [List.length_nil]; omega)]
      rfl
    · rw [goR, if_neg h0]
      refine Ev.step (f := fun k => (tipstaffref05_one.f k l a).bind fun bt => (if bt.1 < 0 then (some (([] : List Int), ([] : List Int), false)) else (tipstaffref05_Take.l0 k l bt.1 (wrap64 ((wrap64 (left + bt.2)) - 1))))) (fun k => ?_) ?_
      · rw [tipstaffref05_Take.l0, if_pos (by omega)]
      · refine Ev.bind (one_ev l h hs a ha) ?_
        cases ho : oneR l.length (l.drop a) with
        | none => exact Ev.now _
        | some mk =>
          obtain ⟨m, k⟩ := mk
          have hp := oneR_more (by rw [List.length_drop]; omega) ho
          rw [List.length_drop] at hp
          have ih := rgo_ev l h hs f (a + m) (left - 1 + k) (by omega) (by omega) (by
            have : (a + m) * 1000000 = a * 1000000 + m * 1000000 := Nat.add_mul _ _ _
            omega)
          refine Ev.congr (fun n => ?_) ih
          show (if ((a + m : Nat) : Int) < 0 then (some (([] : List Int), ([] : List Int), false)) else tipstaffref05_Take.l0 n l ((a + m : Nat) : Int) (wrap64 (wrap64 ((left : Int) + (k : Int)) - 1))) = _
          rw [if_neg (by omega)]
          have e2 : wrap64 (wrap64 ((left : Int) + (k : Int)) - 1) = ((left - 1 + k : Nat) : Int) := by
            rw [w64 (n := (left : Int) + k) (by omega) (by omega), w64 (n := (left : Int) + k - 1) (by omega) (by omega)]; omega
          rw [e2]
theorem rtake_ev (l : List Int) (h : Byt l) (hs : l.length ≤ 1000000) : Ev (fun k => tipstaffref05_Take.f k l) (takeS l) := by
  have := rgo_ev l h hs (l.length + 1) 0 1 (by omega) (by omega) (by omega)
  refine Ev.congr (fun k => rfl) ?_
  have e : takeS l = resT l (goR l (l.length + 1) 0 1) := by
    rw [goR_eq _ _ _ (by omega)]
    unfold takeS takeE
    cases takeGo l (l.length + 1) 0 1 <;> rfl
  rw [e]
  exact this
end Go.Proofs.YtefpcffompgceaaGreatDoor.PureRef
