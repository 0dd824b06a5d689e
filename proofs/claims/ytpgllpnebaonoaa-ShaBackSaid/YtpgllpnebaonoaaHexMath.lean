import Derived.Lib.Bytealg
import Derived.Lib.IndexLaws
/- Digits of bytes, in plain words. -/
namespace Hex2
/-- the digit of a number below 16 -/
def hx (n : Int) : UInt8 := (if n < 10 then 48 + n else 87 + n).toNat.toUInt8
def hexU (xs : List Int) : List UInt8 := xs.flatMap fun c => [hx (c / 16), hx (c % 16)]
/-- a digit's number -/
def dg (c : UInt8) : Int := if 48 ≤ c.toNat ∧ c.toNat ≤ 57 then (c.toNat : Int) - 48 else if 97 ≤ c.toNat ∧ c.toNat ≤ 102 then (c.toNat : Int) - 87 else -1
def unhexU : List UInt8 → Option (List Int)
  | [] => some []
  | [_] => none
  | a :: b :: r => if dg a < 0 then none else if dg b < 0 then none else (unhexU r).map fun ys => (16 * dg a + dg b) :: ys
def DIG : List UInt8 := [48, 49, 50, 51, 52, 53, 54, 55, 56, 57, 97, 98, 99, 100, 101, 102]

theorem hexU_snoc (xs : List Int) (c : Int) : hexU (xs ++ [c]) = hexU xs ++ [hx (c / 16), hx (c % 16)] := by simp [hexU]
theorem hexU_cons (xs : List Int) (c : Int) : hexU (c :: xs) = hx (c / 16) :: hx (c % 16) :: hexU xs := by simp [hexU]
theorem hexU_length (xs : List Int) : (hexU xs).length = 2 * xs.length := by
  induction xs with
  | nil => rfl
  | cons c r ih => rw [hexU_cons]; simp [ih]; omega
theorem all16 : ∀ n : Fin 16, DIG[n.val]? = some (hx (n.val : Int)) ∧ dg (hx (n.val : Int)) = (n.val : Int) := by decide
theorem dig_at (n : Int) (h0 : 0 ≤ n) (h : n < 16) : DIG[n.toNat]? = some (hx n) := by
  have := (all16 ⟨n.toNat, by omega⟩).1
  simpa [Int.toNat_of_nonneg h0] using this
theorem dg_hx (n : Int) (h0 : 0 ≤ n) (h : n < 16) : dg (hx n) = n := by
  have := (all16 ⟨n.toNat, by omega⟩).2
  simpa [Int.toNat_of_nonneg h0] using this
theorem all256 : ∀ c : Fin 256, Go.Lib.indexByte DIG c.val.toUInt8 = dg c.val.toUInt8 ∧ (0 ≤ dg c.val.toUInt8 → dg c.val.toUInt8 < 16 ∧ hx (dg c.val.toUInt8) = c.val.toUInt8) := by decide +kernel
theorem dg_index (c : UInt8) : Go.Lib.indexByte DIG c = dg c := by
  have := (all256 ⟨c.toNat, c.toNat_lt⟩).1
  simpa using this
theorem dg_lt (c : UInt8) (h : 0 ≤ dg c) : dg c < 16 := by
  have := (all256 ⟨c.toNat, c.toNat_lt⟩).2
  simp only [Nat.toUInt8_eq, UInt8.ofNat_toNat] at this
  exact (this h).1
theorem hx_dg (c : UInt8) (h : 0 ≤ dg c) : hx (dg c) = c := by
  have := (all256 ⟨c.toNat, c.toNat_lt⟩).2
  simp only [Nat.toUInt8_eq, UInt8.ofNat_toNat] at this
  exact (this h).2
theorem unhex_hex (xs : List Int) (h : ∀ x ∈ xs, 0 ≤ x ∧ x ≤ 255) : unhexU (hexU xs) = some xs := by
  induction xs with
  | nil => rfl
  | cons c r ih =>
    obtain ⟨h0, h1⟩ := h c (by simp)
    rw [hexU_cons, unhexU, dg_hx _ (by omega) (by omega), dg_hx _ (by omega) (by omega), if_neg (by omega), if_neg (by omega), ih fun x hx => h x (by simp [hx])]
    simp only [Option.map_some]
    congr 2
    omega
/-- what is taken: its bytes, its digits, its length -/
theorem unhex_some : ∀ (n : Nat) (l : List UInt8) (ys : List Int), l.length ≤ n → unhexU l = some ys → hexU ys = l ∧ (∀ y ∈ ys, 0 ≤ y ∧ y ≤ 255) ∧ l.length = 2 * ys.length
  | 0, l, ys, hn, h => by
    obtain rfl : l = [] := List.eq_nil_of_length_eq_zero (by omega)
    simp [unhexU] at h
    subst h
    exact ⟨rfl, by simp, rfl⟩
  | n + 1, l, ys, hn, h => by
    match l, hn, h with
    | [], _, h => simp [unhexU] at h; subst h; exact ⟨rfl, by simp, rfl⟩
    | [_], _, h => simp [unhexU] at h
    | a :: b :: r, hn, h =>
      rw [unhexU] at h
      by_cases ha : dg a < 0
      · rw [if_pos ha] at h; cases h
      · by_cases hb : dg b < 0
        · rw [if_neg ha, if_pos hb] at h; cases h
        · rw [if_neg ha, if_neg hb] at h
          obtain ⟨zs, hz, rfl⟩ := Option.map_eq_some_iff.1 h
          obtain ⟨h1, h2, h3⟩ := unhex_some n r zs (by simp at hn; omega) hz
          have la := dg_lt a (by omega)
          have lb := dg_lt b (by omega)
          refine ⟨?_, ?_, ?_⟩
          · rw [hexU_cons, h1, show (16 * dg a + dg b) / 16 = dg a by omega, show (16 * dg a + dg b) % 16 = dg b by omega, hx_dg a (by omega), hx_dg b (by omega)]
          · intro y hy
            rcases List.mem_cons.1 hy with rfl | hy
            · omega
            · exact h2 y hy
          · simp [h3]; omega
theorem unhex_odd (l : List UInt8) (h : l.length % 2 = 1) : unhexU l = none := by
  cases hu : unhexU l with
  | none => rfl
  | some ys => have := (unhex_some _ l ys (Nat.le_refl _) hu).2.2; omega
/-- what is taken of the first 2 k bytes, for a walk from ahead -/
theorem unhex_append : ∀ (n : Nat) (l r : List UInt8), l.length = 2 * n → unhexU (l ++ r) = (unhexU l).bind fun xs => (unhexU r).map fun ys => xs ++ ys
  | 0, l, r, h => by
    obtain rfl : l = [] := List.eq_nil_of_length_eq_zero (by omega)
    simp [unhexU]
  | n + 1, l, r, h => by
    match l, h with
    | a :: b :: t, h =>
      have ih := unhex_append n t r (by simp at h; omega)
      simp only [List.cons_append, unhexU]
      by_cases ha : dg a < 0
      · simp [ha]
      · by_cases hb : dg b < 0
        · simp [ha, hb]
        · simp only [ha, hb, if_false, ih]
          cases unhexU t <;> cases unhexU r <;> simp
    | [_], h => simp at h; omega
    | [], h => simp at h
theorem unhex_pair (a b : UInt8) : unhexU [a, b] = if dg a < 0 then none else if dg b < 0 then none else some [16 * dg a + dg b] := by
  simp [unhexU]
end Hex2
