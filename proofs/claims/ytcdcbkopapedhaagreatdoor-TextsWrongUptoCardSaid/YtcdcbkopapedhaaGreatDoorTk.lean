import Derived.Lib.AtoiAll
import Derived.Lib.AtoiAllCases
import Derived.Lib.ItoaLen
import Derived.Lib.ItoaMem
import Derived.Laws.BytesArg
/- Numbers and their digits: what is told of a number is taken as that number, and of no other text. -/
namespace Go.Proofs.Dig
open Go Go.Lib
set_option linter.unusedVariables false

theorem ub_val (i : Nat) (h : i < 10) : (UInt8.ofNat (48 + i)).toNat = 48 + i := by
  simp
  omega
theorem dec_lt (u : Nat) (h : u < 10) : decDigits u = [UInt8.ofNat (48 + u)] := decDigits_one h
theorem dec_ge (u : Nat) (h : ¬ u < 10) : decDigits u = decDigits (u / 10) ++ [UInt8.ofNat (48 + u % 10)] := by
  rw [decDigits, dif_neg h]
theorem dec_ne (u : Nat) : decDigits u ≠ [] := by
  by_cases h : u < 10
  · rw [dec_lt u h]; simp
  · rw [dec_ge u h]; simp
theorem dec_digit : ∀ (u : Nat), ∀ c ∈ decDigits u, 48 ≤ c.toNat ∧ c.toNat ≤ 57 := by
  intro u
  induction u using Nat.strongRecOn with
  | _ u ih =>
    intro c hc
    by_cases h : u < 10
    · rw [dec_lt u h, List.mem_singleton] at hc
      subst hc
      rw [ub_val u h]; omega
    · rw [dec_ge u h, List.mem_append, List.mem_singleton] at hc
      rcases hc with hc | hc
      · exact ih (u / 10) (by omega) c hc
      · subst hc
        rw [ub_val _ (by omega)]; omega
theorem parse_snoc (c : UInt8) : ∀ (l : List UInt8) (acc : Nat), parseUint10 acc (l ++ [c]) = match parseUint10 acc l with | .ok a => parseUint10 a [c] | e => e
  | [], acc => by simp [parseUint10]
  | d :: l, acc => by
    rw [List.cons_append, parseUint10, parseUint10]
    split
    · split
      · rfl
      · split
        · rfl
        · exact parse_snoc c l _
    · rfl
theorem parse_dec : ∀ (u : Nat), u < 18446744073709551616 → parseUint10 0 (decDigits u) = .ok u := by
  intro u
  induction u using Nat.strongRecOn with
  | _ u ih =>
    intro hu
    by_cases h : u < 10
    · rw [dec_lt u h, parseUint10, ub_val u h, if_pos (by omega), if_neg (by omega), if_neg (by omega), parseUint10]
      congr 1
      omega
    · rw [dec_ge u h, parse_snoc, ih (u / 10) (by omega) (by omega)]
      show parseUint10 (u / 10) [_] = _
      rw [parseUint10, ub_val _ (by omega), if_pos (by omega), if_neg (by omega), if_neg (by omega), parseUint10]
      congr 1
      omega
theorem mag_dec (u : Nat) (hu : u < 18446744073709551616) : parseMag (decDigits u) = .ok u := by
  rw [parseMag, if_neg (dec_ne u), parse_dec u hu]
def I64 (n : Int) : Prop := -9223372036854775808 ≤ n ∧ n ≤ 9223372036854775807
instance i64_dec (n : Int) : Decidable (I64 n) := inferInstanceAs (Decidable (_ ∧ _))
theorem atoi_itoa (n : Int) (h : I64 n) : atoiAll (itoa n) = .ok n := by
  obtain ⟨h0, h1⟩ := h
  unfold itoa
  by_cases hn : n < 0
  · rw [if_pos hn, atoiAll]
    have e : (45 : UInt8).toNat = 45 := rfl
    simp only [e, or_true, if_true, not_true_eq_false, false_and, if_false, true_and]
    rw [mag_dec _ (by omega)]
    simp only
    rw [if_neg (by omega)]
    congr 1
    omega
  · rw [if_neg hn]
    obtain ⟨c, r, hc⟩ : ∃ c r, decDigits n.toNat = c :: r := by
      cases h : decDigits n.toNat with
      | nil => exact absurd h (dec_ne _)
      | cons c r => exact ⟨c, r, rfl⟩
    have hd := dec_digit n.toNat c (by rw [hc]; simp)
    have hm := mag_dec n.toNat (by omega)
    rw [hc] at hm ⊢
    rw [atoiAll]
    have e2 : (c.toNat = 45) = False := by simp; omega
    have e1 : (c.toNat = 43) = False := by simp; omega
    simp only [e1, e2, or_self, if_false, hm, not_false_eq_true, true_and, false_and]
    rw [if_neg (by omega)]
    congr 1
    omega
/-- a number as a text -/
def numB (n : Int) : ByteArray := ⟨(itoa n).toArray⟩
theorem numB_list (n : Int) : (numB n).data.toList = itoa n := by simp [numB]
/-- the number that a text is, if it is one's own text -/
def parseO (s : ByteArray) : Option Int := match atoiAll s.data.toList with | .ok v => if numB v = s then some v else none | _ => none
theorem parse_num (n : Int) (h : I64 n) : parseO (numB n) = some n := by
  rw [parseO, numB_list, atoi_itoa n h]
  simp
theorem parse_some {s : ByteArray} {n : Int} (h : parseO s = some n) : I64 n ∧ numB n = s := by
  unfold parseO at h
  split at h
  · rename_i v hv
    split at h
    · rename_i e
      injection h with h
      subst h
      exact ⟨atoiAll_bounds hv, e⟩
    · cases h
  · cases h
theorem num_inj {a b : Int} (ha : I64 a) (hb : I64 b) (h : numB a = numB b) : a = b := by
  have := parse_num a ha
  rw [h, parse_num b hb] at this
  exact (Option.some.inj this).symm
theorem parse_none {s : ByteArray} (h : parseO s = none) (n : Int) (hn : I64 n) : numB n ≠ s := by
  rintro rfl
  rw [parse_num n hn] at h
  cases h
end Go.Proofs.Dig
/- Which reply any bytes begin with: by definition. -/
namespace Go.Proofs.Tk
open Go Go.Proofs.Dig
set_option linter.unusedVariables false
/-- where the first line's end is -/
def eol : List Int → Option Nat
  | a :: b :: r => if a = 13 ∧ b = 10 then some 0 else (eol (b :: r)).map (· + 1)
  | _ => none
/-- no line's end within -/
def lf (s : List Int) : Bool := s.all fun c => decide (c ≠ 13 ∧ c ≠ 10)
/-- how many bytes the first line has (or the bulk), and how many replies follow -/
def oneS (l : List Int) : Option (Nat × Nat) :=
  match eol l with
  | none => none
  | some n =>
    if n = 0 then none else
    let p := parseO (strOfNums ((l.take n).drop 1)); let m := l.headD 0
    if m = 43 ∨ m = 45 then (if lf (l.take n) = true then some (n + 2, 0) else none)
    else if m = 58 then (if p.isSome = true then some (n + 2, 0) else none)
    else if m = 36 then
      match p with
      | none => none
      | some v => if v = -1 then some (n + 2, 0) else if 0 ≤ v ∧ n + 2 + v.toNat + 2 ≤ l.length ∧ l.getD (n + 2 + v.toNat) 0 = 13 ∧ l.getD (n + 2 + v.toNat + 1) 0 = 10 then some (n + 2 + v.toNat + 2, 0) else none
    else if m = 42 then
      match p with
      | none => none
      | some v => if v = -1 then some (n + 2, 0) else if 0 ≤ v ∧ v ≤ l.length then some (n + 2, v.toNat) else none
    else none
/-- so many replies, from a place on: where they end -/
def takeGo (l : List Int) : Nat → Nat → Nat → Option Nat
  | 0, _, _ => none
  | f + 1, a, left => if left = 0 then some a else match oneS (l.drop a) with | none => none | some (m, k) => takeGo l f (a + m) (left - 1 + k)
def takeE (l : List Int) : Option Nat := takeGo l (l.length + 1) 0 1
def takeS (l : List Int) : List Int × List Int × Bool := match takeE l with | none => ([], [], false) | some e => (l.take e, l.drop e, true)

theorem eol_at : ∀ {l : List Int} {n : Nat}, eol l = some n → n + 2 ≤ l.length ∧ l.getD n 0 = 13 ∧ l.getD (n + 1) 0 = 10
  | [], n, h => by simp [eol] at h
  | [a], n, h => by simp [eol] at h
  | a :: b :: r, n, h => by
    rw [eol] at h
    split at h
    · rename_i e
      injection h with h
      subst h
      simp [e.1, e.2]
    · cases h' : eol (b :: r) with
      | none => simp [h'] at h
      | some m =>
        rw [h'] at h
        simp at h
        subst h
        have := eol_at h'
        simp only [List.length_cons, List.getD_cons_succ] at this ⊢
        refine ⟨by omega, this.2.1, this.2.2⟩
theorem eol_before : ∀ {l : List Int} {n : Nat}, eol l = some n → ∀ i, i < n → ¬ (l.getD i 0 = 13 ∧ l.getD (i + 1) 0 = 10)
  | [], n, h => by simp [eol] at h
  | [a], n, h => by simp [eol] at h
  | a :: b :: r, n, h => by
    rw [eol] at h
    split at h
    · injection h with h
      subst h
      intro i hi
      omega
    · rename_i hne
      cases h' : eol (b :: r) with
      | none => simp [h'] at h
      | some m =>
        rw [h'] at h
        simp at h
        subst h
        intro i hi
        cases i with
        | zero => simpa using hne
        | succ i =>
          have := eol_before h' i (by omega)
          simpa using this
theorem eol_none : ∀ {l : List Int}, eol l = none → ∀ i, i + 1 < l.length → ¬ (l.getD i 0 = 13 ∧ l.getD (i + 1) 0 = 10)
  | [], h => by simp
  | [a], h => by intro i hi; simp at hi
  | a :: b :: r, h => by
    rw [eol] at h
    split at h
    · cases h
    · rename_i hne
      have h' : eol (b :: r) = none := by simpa using h
      intro i hi
      cases i with
      | zero => simpa using hne
      | succ i =>
        have := eol_none h' i (by simpa using hi)
        simpa using this
theorem eol_of {l : List Int} {n : Nat} (h1 : n + 2 ≤ l.length) (h2 : l.getD n 0 = 13) (h3 : l.getD (n + 1) 0 = 10) (hb : ∀ i, i < n → ¬ (l.getD i 0 = 13 ∧ l.getD (i + 1) 0 = 10)) : eol l = some n := by
  cases h : eol l with
  | none => exact absurd ⟨h2, h3⟩ (eol_none h n (by omega))
  | some m =>
    have hm := eol_at h
    have hm2 := eol_before h
    rcases Nat.lt_trichotomy m n with e | e | e
    · exact absurd ⟨hm.2.1, hm.2.2⟩ (hb m e)
    · rw [e]
    · exact absurd ⟨h2, h3⟩ (hm2 n e)
theorem eol_no {l : List Int} (hb : ∀ i, i + 1 < l.length → ¬ (l.getD i 0 = 13 ∧ l.getD (i + 1) 0 = 10)) : eol l = none := by
  cases h : eol l with
  | none => rfl
  | some m =>
    have hm := eol_at h
    exact absurd ⟨hm.2.1, hm.2.2⟩ (hb m (by omega))
/-- a reply has three bytes at least, within what is there -/
theorem one_pos {l : List Int} {m k : Nat} (h : oneS l = some (m, k)) : 3 ≤ m ∧ m ≤ l.length ∧ k ≤ l.length := by
  unfold oneS at h
  split at h
  · cases h
  · rename_i n hn
    have hl := (eol_at hn).1
    split at h
    · cases h
    · dsimp only at h
      split at h
      · split at h
        · cases h; omega
        · cases h
      · split at h
        · split at h
          · cases h; omega
          · cases h
        · split at h
          · split at h
            · cases h
            · split at h
              · cases h; omega
              · split at h
                · rename_i hh
                  cases h; omega
                · cases h
          · split at h
            · split at h
              · cases h
              · split at h
                · cases h; omega
                · split at h
                  · cases h; omega
                  · cases h
            · cases h
theorem go_le {l : List Int} : ∀ {f a left e : Nat}, a ≤ l.length → takeGo l f a left = some e → a ≤ e ∧ e ≤ l.length
  | 0, _, _, _, _, h => by simp [takeGo] at h
  | f + 1, a, left, e, ha, h => by
    rw [takeGo] at h
    split at h
    · injection h with h
      subst h
      exact ⟨Nat.le_refl _, ha⟩
    · split at h
      · cases h
      · rename_i m k hm
        have := one_pos hm
        rw [List.length_drop] at this
        have := go_le (by omega) h
        omega
theorem takeE_le {l : List Int} {e : Nat} (h : takeE l = some e) : e ≤ l.length := (go_le (Nat.zero_le _) h).2
end Go.Proofs.Tk
/- What is taken of a reply with something behind it, and of a part of one. -/
namespace Go.Proofs.Tk
open Go Go.Proofs.Dig
set_option linter.unusedVariables false
theorem getD_app {l e : List Int} {i : Nat} (h : i < l.length) : (l ++ e).getD i 0 = l.getD i 0 := by
  rw [List.getD_eq_getElem?_getD, List.getD_eq_getElem?_getD, List.getElem?_append_left h]
theorem eol_app {l : List Int} {n : Nat} (h : eol l = some n) (e : List Int) : eol (l ++ e) = some n := by
  have h1 := eol_at h
  have h2 := eol_before h
  refine eol_of (by rw [List.length_append]; omega) ?_ ?_ fun i hi => ?_
  · rw [getD_app (by omega)]; exact h1.2.1
  · rw [getD_app (by omega)]; exact h1.2.2
  · rw [getD_app (by omega), getD_app (by omega)]; exact h2 i hi
theorem take_app {l e : List Int} {n : Nat} (h : n ≤ l.length) : (l ++ e).take n = l.take n := by
  rw [List.take_append_of_le_length h]
theorem head_app {l e : List Int} (h : 0 < l.length) : (l ++ e).headD 0 = l.headD 0 := by
  cases l with
  | nil => simp at h
  | cons x r => rfl
/-- more behind changes nothing -/
theorem one_app {l : List Int} {m k : Nat} (h : oneS l = some (m, k)) (e : List Int) : oneS (l ++ e) = some (m, k) := by
  unfold oneS at h ⊢
  cases hn : eol l with
  | none => rw [hn] at h; cases h
  | some n =>
    have hl := (eol_at hn).1
    rw [hn] at h
    rw [eol_app hn e]
    simp only at h ⊢
    by_cases h0 : n = 0
    · rw [if_pos h0] at h; cases h
    rw [if_neg h0] at h ⊢
    rw [take_app (by omega), head_app (by omega)]
    generalize parseO (strOfNums ((l.take n).drop 1)) = p at h ⊢
    generalize l.headD 0 = c at h ⊢
    by_cases c1 : c = 43 ∨ c = 45
    · rw [if_pos c1] at h ⊢; exact h
    rw [if_neg c1] at h ⊢
    by_cases c2 : c = 58
    · rw [if_pos c2] at h ⊢; exact h
    rw [if_neg c2] at h ⊢
    by_cases c3 : c = 36
    · rw [if_pos c3] at h ⊢
      cases p with
      | none => exact h
      | some v =>
        simp only at h ⊢
        by_cases hv : v = -1
        · rw [if_pos hv] at h ⊢; exact h
        rw [if_neg hv] at h ⊢
        by_cases hq : 0 ≤ v ∧ n + 2 + v.toNat + 2 ≤ l.length ∧ l.getD (n + 2 + v.toNat) 0 = 13 ∧ l.getD (n + 2 + v.toNat + 1) 0 = 10
        · rw [if_pos hq] at h
          rw [if_pos ⟨hq.1, by rw [List.length_append]; omega, by rw [getD_app (by omega)]; exact hq.2.2.1, by rw [getD_app (by omega)]; exact hq.2.2.2⟩]
          exact h
        · rw [if_neg hq] at h; cases h
    rw [if_neg c3] at h ⊢
    by_cases c4 : c = 42
    · rw [if_pos c4] at h ⊢
      cases p with
      | none => exact h
      | some v =>
        simp only at h ⊢
        by_cases hv : v = -1
        · rw [if_pos hv] at h ⊢; exact h
        rw [if_neg hv] at h ⊢
        by_cases hq : 0 ≤ v ∧ v ≤ (l.length : Int)
        · rw [if_pos hq] at h
          rw [if_pos ⟨hq.1, by rw [List.length_append]; omega⟩]
          exact h
        · rw [if_neg hq] at h; cases h
    · rw [if_neg c4] at h; cases h
theorem drop_app {l e : List Int} {a : Nat} (h : a ≤ l.length) : (l ++ e).drop a = l.drop a ++ e := by
  rw [List.drop_append_of_le_length h]
theorem go_app {l : List Int} : ∀ {f a left x : Nat}, a ≤ l.length → takeGo l f a left = some x → ∀ (e : List Int) (g : Nat), takeGo (l ++ e) (f + g) a left = some x
  | 0, _, _, _, _, h, _, _ => by simp [takeGo] at h
  | f + 1, a, left, x, ha, h, e, g => by
    rw [takeGo] at h
    rw [show f + 1 + g = (f + g) + 1 from by omega, takeGo]
    split at h
    · rename_i h0
      rw [if_pos h0]; exact h
    · rename_i h0
      rw [if_neg h0]
      split at h
      · cases h
      · rename_i m k hm
        have hp := one_pos hm
        rw [List.length_drop] at hp
        rw [drop_app ha, one_app hm e]
        exact go_app (by omega) h e g
/-- as many replies as were asked for took three bytes each -/
theorem go_left {l : List Int} : ∀ {f a left x : Nat}, a ≤ l.length → takeGo l f a left = some x → a + 3 * left ≤ x
  | 0, _, _, _, _, h => by simp [takeGo] at h
  | f + 1, a, left, x, ha, h => by
    rw [takeGo] at h
    split at h
    · injection h with h
      omega
    · split at h
      · cases h
      · rename_i m k hm
        have hp := one_pos hm
        rw [List.length_drop] at hp
        have := go_left (by omega) h
        omega
/-- what is behind a reply doesn't matter -/
theorem one_cut {l : List Int} {m k q : Nat} (h : oneS l = some (m, k)) (hq : m + k ≤ q) (hl : q ≤ l.length) : oneS (l.take q) = some (m, k) := by
  have hp := one_pos h
  have e : l = l.take q ++ l.drop q := (List.take_append_drop q l).symm
  have hlen : (l.take q).length = q := by rw [List.length_take]; omega
  -- by what it would be otherwise
  unfold oneS at h ⊢
  cases hn : eol l with
  | none => rw [hn] at h; cases h
  | some n =>
    have h1 := eol_at hn
    have h2 := eol_before hn
    rw [hn] at h
    simp only at h
    have gt : ∀ i, i < q → (l.take q).getD i 0 = l.getD i 0 := fun i hi => by
      rw [List.getD_eq_getElem?_getD, List.getD_eq_getElem?_getD, List.getElem?_take, if_pos hi]
    have hnm : n + 2 ≤ m := by
      by_cases h0 : n = 0
      · rw [if_pos h0] at h; cases h
      rw [if_neg h0] at h
      repeat' split at h
      all_goals first | (cases h; omega) | cases h
    have hn' : eol (l.take q) = some n := by
      refine eol_of (by omega) ?_ ?_ fun i hi => ?_
      · rw [gt n (by omega)]; exact h1.2.1
      · rw [gt (n + 1) (by omega)]; exact h1.2.2
      · rw [gt i (by omega), gt (i + 1) (by omega)]; exact h2 i hi
    rw [hn']
    simp only
    by_cases h0 : n = 0
    · rw [if_pos h0] at h; cases h
    rw [if_neg h0] at h ⊢
    have t1 : (l.take q).take n = l.take n := by rw [List.take_take]; congr 1; omega
    have t2 : (l.take q).headD 0 = l.headD 0 := by
      have : (l.take q ++ l.drop q).headD 0 = (l.take q).headD 0 := head_app (by omega)
      rw [← e] at this
      exact this.symm
    rw [t1, t2, hlen]
    generalize parseO (strOfNums ((l.take n).drop 1)) = p at h ⊢
    generalize l.headD 0 = c at h ⊢
    by_cases c1 : c = 43 ∨ c = 45
    · rw [if_pos c1] at h ⊢; exact h
    rw [if_neg c1] at h ⊢
    by_cases c2 : c = 58
    · rw [if_pos c2] at h ⊢; exact h
    rw [if_neg c2] at h ⊢
    by_cases c3 : c = 36
    · rw [if_pos c3] at h ⊢
      cases p with
      | none => exact h
      | some v =>
        simp only at h ⊢
        by_cases hv : v = -1
        · rw [if_pos hv] at h ⊢; exact h
        rw [if_neg hv] at h ⊢
        by_cases hz : 0 ≤ v ∧ n + 2 + v.toNat + 2 ≤ l.length ∧ l.getD (n + 2 + v.toNat) 0 = 13 ∧ l.getD (n + 2 + v.toNat + 1) 0 = 10
        · rw [if_pos hz] at h
          have hm : n + 2 + v.toNat + 2 = m := by injection h with h; injection h
          rw [if_pos ⟨hz.1, by omega, by rw [gt _ (by omega)]; exact hz.2.2.1, by rw [gt _ (by omega)]; exact hz.2.2.2⟩]
          exact h
        · rw [if_neg hz] at h; cases h
    rw [if_neg c3] at h ⊢
    by_cases c4 : c = 42
    · rw [if_pos c4] at h ⊢
      cases p with
      | none => exact h
      | some v =>
        simp only at h ⊢
        by_cases hv : v = -1
        · rw [if_pos hv] at h ⊢; exact h
        rw [if_neg hv] at h ⊢
        by_cases hz : 0 ≤ v ∧ v ≤ (l.length : Int)
        · rw [if_pos hz] at h
          have hk : v.toNat = k := by injection h with h; injection h
          rw [if_pos ⟨hz.1, by omega⟩]
          exact h
        · rw [if_neg hz] at h; cases h
    · rw [if_neg c4] at h; cases h
theorem drop_take' (l : List Int) (a q : Nat) : (l.take q).drop a = (l.drop a).take (q - a) := List.drop_take
/-- what was taken is one by itself -/
theorem go_cut {l : List Int} : ∀ {f a left x : Nat}, a ≤ l.length → takeGo l f a left = some x → takeGo (l.take x) f a left = some x
  | 0, _, _, _, _, h => by simp [takeGo] at h
  | f + 1, a, left, x, ha, h => by
    rw [takeGo] at h ⊢
    split at h
    · rename_i h0
      rw [if_pos h0]; exact h
    · rename_i h0
      rw [if_neg h0]
      split at h
      · cases h
      · rename_i m k hm
        have hp := one_pos hm
        rw [List.length_drop] at hp
        have hle := go_le (show a + m ≤ l.length by omega) h
        have hlf := go_left (show a + m ≤ l.length by omega) h
        rw [drop_take', one_cut hm (by omega) (by rw [List.length_drop]; omega)]
        exact go_cut (by omega) h
/-- fuel enough is enough -/
theorem go_fuel {l : List Int} : ∀ {f a left x : Nat}, a ≤ l.length → takeGo l f a left = some x → ∀ g, x + 1 ≤ g + a → takeGo l g a left = some x
  | 0, _, _, _, _, h, _, _ => by simp [takeGo] at h
  | f + 1, a, left, x, ha, h, g, hg => by
    rw [takeGo] at h
    split at h
    · rename_i h0
      injection h with h
      subst h
      obtain ⟨g, rfl⟩ : ∃ m, g = m + 1 := ⟨g - 1, by omega⟩
      rw [takeGo, if_pos h0]
    · rename_i h0
      split at h
      · cases h
      · rename_i m k hm
        have hp := one_pos hm
        rw [List.length_drop] at hp
        have hle := go_le (show a + m ≤ l.length by omega) h
        obtain ⟨g, rfl⟩ : ∃ m, g = m + 1 := ⟨g - 1, by omega⟩
        rw [takeGo, if_neg h0, hm]
        exact go_fuel (by omega) h g (by omega)
theorem takeE_app {l : List Int} {x : Nat} (h : takeE l = some x) (e : List Int) : takeE (l ++ e) = some x := by
  have hx := takeE_le h
  have := go_app (Nat.zero_le _) h e 0
  exact go_fuel (Nat.zero_le _) this _ (by rw [List.length_append]; omega)
theorem takeE_cut {l : List Int} {x : Nat} (h : takeE l = some x) : takeE (l.take x) = some x := by
  have hx := takeE_le h
  exact go_fuel (Nat.zero_le _) (go_cut (Nat.zero_le _) h) _ (by rw [List.length_take]; omega)
/-- a reply: taken whole -/
def Rep (r : List Int) : Prop := takeE r = some r.length
theorem rep_take {r : List Int} (h : Rep r) (e : List Int) : takeS (r ++ e) = (r, e, true) := by
  unfold takeS
  rw [takeE_app h e]
  simp
/-- of a part none is taken -/
theorem rep_part {r : List Int} (h : Rep r) (q : Nat) (hq : q < r.length) : takeS (r.take q) = ([], [], false) := by
  cases hE : takeE (r.take q) with
  | none => unfold takeS; rw [hE]
  | some x =>
    have h1 := takeE_app hE (r.drop q)
    have h2 := takeE_le hE
    rw [List.take_append_drop] at h1
    unfold Rep at h
    rw [h] at h1
    injection h1 with h1
    rw [List.length_take] at h2
    omega
theorem rep_one {r : List Int} (h : oneS r = some (r.length, 0)) : Rep r := by
  have hp := one_pos h
  unfold Rep takeE
  obtain ⟨n, hn⟩ : ∃ n, r.length = n + 1 := ⟨r.length - 1, by omega⟩
  rw [takeGo, if_neg (by omega), List.drop_zero, h]
  simp only
  rw [hn, takeGo, if_pos rfl, Nat.zero_add]
theorem rep_len {r : List Int} (h : Rep r) : 3 ≤ r.length := by
  have := go_left (Nat.zero_le _) h
  omega
/-- what is taken of a piece is taken where the piece lies, and so many more behind it -/
theorem go_seq {r : List Int} : ∀ {f b p x : Nat}, b ≤ r.length → takeGo r f b p = some x → ∀ {L : List Int} {a : Nat} {e : List Int}, L.drop a = r ++ e → ∀ {left y g : Nat}, takeGo L g (a + x) left = some y → ∃ g', takeGo L g' (a + b) (p + left) = some y
  | 0, _, _, _, _, h, _, _, _, _, _, _, _, _ => by simp [takeGo] at h
  | f + 1, b, p, x, hb, h, L, a, e, hd, left, y, g, hy => by
    rw [takeGo] at h
    split at h
    · rename_i h0
      injection h with h
      subst h
      exact ⟨g, by rw [h0, Nat.zero_add]; exact hy⟩
    · rename_i h0
      split at h
      · cases h
      · rename_i m k hm
        have hp := one_pos hm
        rw [List.length_drop] at hp
        obtain ⟨g', hg⟩ := go_seq (show b + m ≤ r.length by omega) h hd hy
        refine ⟨g' + 1, ?_⟩
        have hdd : L.drop (a + b) = r.drop b ++ e := by
          rw [← List.drop_drop, hd, drop_app hb]
        rw [takeGo, if_neg (by omega), hdd, one_app hm e]
        simp only
        rw [show a + b + m = a + (b + m) from by omega, show p + left - 1 + k = p - 1 + k + left from by omega]
        exact hg
theorem go_rows {L : List Int} : ∀ (rs : List (List Int)) (a : Nat) (e : List Int), (∀ r ∈ rs, Rep r) → L.drop a = rs.flatten ++ e → ∃ g, takeGo L g a rs.length = some (a + rs.flatten.length)
  | [], a, e, _, _ => ⟨1, by simp [takeGo]⟩
  | r :: rs, a, e, hr, hd => by
    have h1 := hr r (by simp)
    have hd' : L.drop a = r ++ (rs.flatten ++ e) := by rw [hd, List.flatten_cons, List.append_assoc]
    have hd2 : L.drop (a + r.length) = rs.flatten ++ e := by
      rw [← List.drop_drop, hd', List.drop_left]
    obtain ⟨g, hg⟩ := go_rows rs (a + r.length) e (fun x hx => hr x (by simp [hx])) hd2
    obtain ⟨g', hg'⟩ := go_seq (Nat.zero_le _) h1 hd' hg
    refine ⟨g', ?_⟩
    rw [Nat.add_zero] at hg'
    rw [List.length_cons, Nat.add_comm rs.length 1, hg', List.flatten_cons, List.length_append]
    congr 1
    omega
theorem rep_arr {hd : List Int} {rs : List (List Int)} (h : oneS (hd ++ rs.flatten) = some (hd.length, rs.length)) (hr : ∀ r ∈ rs, Rep r) : Rep (hd ++ rs.flatten) := by
  obtain ⟨g, hg⟩ := go_rows (L := hd ++ rs.flatten) rs hd.length [] hr (by rw [List.drop_left, List.append_nil])
  have hp := one_pos h
  have : takeGo (hd ++ rs.flatten) (g + 1) 0 1 = some (hd ++ rs.flatten).length := by
    rw [takeGo, if_neg (by omega), List.drop_zero, h]
    simp only
    rw [Nat.zero_add, show 1 - 1 + rs.length = rs.length from by omega, hg, List.length_append]
  exact go_fuel (Nat.zero_le _) this _ (by omega)
theorem rows_len : ∀ (rs : List (List Int)), (∀ r ∈ rs, Rep r) → 3 * rs.length ≤ rs.flatten.length
  | [], _ => by simp
  | r :: rs, h => by
    have h1 := rep_len (h r (by simp))
    have h2 := rows_len rs (fun x hx => h x (by simp [hx]))
    rw [List.length_cons, List.flatten_cons, List.length_append]
    omega
end Go.Proofs.Tk
