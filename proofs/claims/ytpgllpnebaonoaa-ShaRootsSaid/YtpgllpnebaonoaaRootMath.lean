/- Digits to the base 2^16, their products, and roots, in plain words. -/
namespace Rt2
set_option linter.unusedVariables false
def B : Nat := 65536
def val : List Nat → Nat
  | [] => 0
  | a :: r => a + 65536 * val r
def Dig (l : List Nat) : Prop := ∀ d ∈ l, d < 65536

theorem val_lt : ∀ {l : List Nat}, Dig l → val l < 65536 ^ l.length
  | [], _ => by simp [val]
  | a :: r, h => by
    have ih := val_lt (l := r) fun d hd => h d (by simp [hd])
    have ha := h a (by simp)
    simp only [val, List.length_cons, Nat.pow_succ]
    omega
theorem val_append : ∀ (l m : List Nat), val (l ++ m) = val l + 65536 ^ l.length * val m
  | [], m => by simp [val]
  | a :: r, m => by
    simp only [List.cons_append, val, val_append r m, List.length_cons, Nat.pow_succ]
    rw [Nat.mul_add, ← Nat.add_assoc, Nat.mul_comm (65536 ^ r.length) 65536, Nat.mul_assoc]
theorem val_split (l : List Nat) (i : Nat) (h : i ≤ l.length) : val l = val (l.take i) + 65536 ^ i * val (l.drop i) := by
  conv => lhs; rw [← List.take_append_drop i l, val_append, List.length_take, Nat.min_eq_left h]
theorem val_take_succ (l : List Nat) (i : Nat) (h : i < l.length) : val (l.take (i + 1)) = val (l.take i) + 65536 ^ i * l.getD i 0 := by
  rw [List.take_succ_eq_append_getElem h, val_append, List.length_take, Nat.min_eq_left (by omega)]
  simp [val, List.getD_eq_getElem?_getD, h]
theorem val_zeros (n : Nat) : val (List.replicate n 0) = 0 := by
  induction n with
  | zero => rfl
  | succ n ih => rw [List.replicate_succ]; simp [val, ih]
theorem val_set (l : List Nat) (j x : Nat) (h : j < l.length) : val (l.set j x) + 65536 ^ j * l.getD j 0 = val l + 65536 ^ j * x := by
  induction l generalizing j with
  | nil => simp at h
  | cons a r ih =>
    cases j with
    | zero => simp [val]; omega
    | succ j =>
      have := ih j (by simpa using h)
      simp only [List.set_cons_succ, val, Nat.pow_succ, List.getD_cons_succ]
      rw [Nat.mul_comm (65536 ^ j) 65536, Nat.mul_assoc, Nat.mul_assoc]
      omega
theorem dig_set {l : List Nat} (h : Dig l) (j x : Nat) (hx : x < 65536) : Dig (l.set j x) := fun d hd => by
  rcases List.mem_or_eq_of_mem_set hd with h1 | rfl
  · exact h d h1
  · exact hx
theorem dig_at {l : List Nat} (h : Dig l) (j : Nat) : l.getD j 0 < 65536 := by
  rw [List.getD_eq_getElem?_getD]
  cases hj : l[j]? with
  | none => simp
  | some d => exact h d (List.mem_of_getElem? hj)
theorem dig_take {l : List Nat} (h : Dig l) (i : Nat) : Dig (l.take i) := fun d hd => h d (List.mem_of_mem_take hd)
theorem dig_drop {l : List Nat} (h : Dig l) (i : Nat) : Dig (l.drop i) := fun d hd => h d (List.mem_of_mem_drop hd)

/-- one step of the inner loop -/
theorem inner_step {out b : List Nat} {i k ai carry V n : Nat} (ho : out.length = 16) (hb : b.length = 16) (hi : i + k < 16) (hn : n = out.getD (i + k) 0 + ai * b.getD k 0 + carry)
    (h : val out + 65536 ^ (i + k) * carry = V + ai * val (b.take k) * 65536 ^ i) :
    val (out.set (i + k) (n % 65536)) + 65536 ^ (i + (k + 1)) * (n / 65536) = V + ai * val (b.take (k + 1)) * 65536 ^ i := by
  have h1 := val_set out (i + k) (n % 65536) (by omega)
  have h2 := val_take_succ b k (by omega)
  have e : 65536 ^ (i + (k + 1)) = 65536 ^ (i + k) * 65536 := by rw [← Nat.add_assoc, Nat.pow_succ]
  have h3 : 65536 ^ (i + k) * (n % 65536) + 65536 ^ (i + k) * 65536 * (n / 65536) = 65536 ^ (i + k) * n := by
    rw [Nat.mul_assoc, ← Nat.mul_add, Nat.mod_add_div]
  have h4 : 65536 ^ (i + k) * n = 65536 ^ (i + k) * out.getD (i + k) 0 + 65536 ^ (i + k) * (ai * b.getD k 0) + 65536 ^ (i + k) * carry := by rw [hn, Nat.mul_add, Nat.mul_add]
  have h5 : ai * val (b.take (k + 1)) * 65536 ^ i = ai * val (b.take k) * 65536 ^ i + 65536 ^ (i + k) * (ai * b.getD k 0) := by
    rw [h2, Nat.mul_add, Nat.add_mul]
    congr 1
    rw [Nat.pow_add]
    simp only [Nat.mul_assoc, Nat.mul_comm, Nat.mul_left_comm]
  rw [e, h5]
  omega
theorem inner_end {out out0 b : List Nat} {i ai carry : Nat} (ho : out.length = 16) (hd : Dig out) (hb : b.length = 16) (hi : i ≤ 16)
    (h : val out + 65536 ^ (i + (16 - i)) * carry = val out0 + ai * val (b.take (16 - i)) * 65536 ^ i) :
    val out = (val out0 + ai * val b * 65536 ^ i) % 65536 ^ 16 := by
  have hlt := val_lt hd
  rw [ho] at hlt
  have hs := val_split b (16 - i) (by omega)
  rw [show i + (16 - i) = 16 by omega] at h
  have e : ai * val b * 65536 ^ i = ai * val (b.take (16 - i)) * 65536 ^ i + 65536 ^ 16 * (ai * val (b.drop (16 - i))) := by
    rw [hs, Nat.mul_add, Nat.add_mul]
    congr 1
    rw [show (65536 : Nat) ^ 16 = 65536 ^ (16 - i) * 65536 ^ i by rw [← Nat.pow_add]; congr 1; omega]
    simp only [Nat.mul_assoc, Nat.mul_comm, Nat.mul_left_comm]
  rw [e, ← Nat.add_assoc, ← h, Nat.add_assoc, ← Nat.mul_add, Nat.add_mul_mod_self_left, Nat.mod_eq_of_lt hlt]
theorem outer_step {a b out0 out : List Nat} {i : Nat} (ha : a.length = 16) (hi : i < 16) (h0 : val out0 = (val (a.take i) * val b) % 65536 ^ 16) (h : val out = (val out0 + a.getD i 0 * val b * 65536 ^ i) % 65536 ^ 16) :
    val out = (val (a.take (i + 1)) * val b) % 65536 ^ 16 := by
  rw [h, h0, val_take_succ a i (by omega), Nat.add_mul, Nat.mod_add_mod]
  congr 2
  simp only [Nat.mul_assoc, Nat.mul_comm, Nat.mul_left_comm]
/-- the digits of a number -/
def digTo (x i : Nat) : List Nat := (List.range i).map fun j => x / 65536 ^ j % 65536
theorem digTo_succ (x i : Nat) : digTo x (i + 1) = digTo x i ++ [x / 65536 ^ i % 65536] := by simp [digTo, List.range_succ]
def digs (x i : Nat) : List Nat := digTo x i ++ List.replicate (16 - i) 0
theorem digTo_len (x i : Nat) : (digTo x i).length = i := by simp [digTo]
theorem digs_len (x i : Nat) (h : i ≤ 16) : (digs x i).length = 16 := by simp [digs, digTo_len]; omega
theorem digs_set (x i : Nat) (h : i < 16) : (digs x i).set i (x / 65536 ^ i % 65536) = digs x (i + 1) := by
  obtain ⟨d, hd⟩ : ∃ d, 16 - i = d + 1 := ⟨15 - i, by omega⟩
  rw [digs, digs, hd, show 16 - (i + 1) = d by omega, List.set_append_right _ _ (by rw [digTo_len]; omega), digTo_len, Nat.sub_self, List.replicate_succ, List.set_cons_zero, digTo_succ]
  simp
theorem digTo_dig (x i : Nat) : Dig (digTo x i) := fun d hd => by
  simp only [digTo, List.mem_map] at hd
  obtain ⟨j, _, rfl⟩ := hd
  exact Nat.mod_lt _ (by omega)
theorem digs_dig (x i : Nat) : Dig (digs x i) := fun d hd => by
  rcases List.mem_append.1 hd with h | h
  · exact digTo_dig x i d h
  · rw [List.mem_replicate] at h; omega
theorem digTo_val (x i : Nat) : val (digTo x i) = x % 65536 ^ i := by
  induction i with
  | zero => simp [digTo, val, Nat.mod_one]
  | succ i ih =>
    rw [digTo_succ, val_append, ih, digTo_len]
    simp only [val]
    rw [Nat.pow_succ, Nat.mod_mul, Nat.mul_zero, Nat.add_zero]
theorem digs_val (x i : Nat) : val (digs x i) = x % 65536 ^ i := by rw [digs, val_append, digTo_val, val_zeros]; simp

/-- the greater one is told by the highest digit that is not the same -/
theorem cmp_lt {l m : List Nat} {i : Nat} (hl : l.length = 16) (hm : m.length = 16) (dl : Dig l) (dm : Dig m) (hi : i < 16) (h : l.drop (i + 1) = m.drop (i + 1)) (hlt : l.getD i 0 < m.getD i 0) : val l < val m := by
  rw [val_split l (i + 1) (by omega), val_split m (i + 1) (by omega), h, val_take_succ l i (by omega), val_take_succ m i (by omega)]
  have h1 := val_lt (dig_take dl i)
  rw [List.length_take, Nat.min_eq_left (by omega)] at h1
  have h2 : 65536 ^ i * (l.getD i 0 + 1) ≤ 65536 ^ i * m.getD i 0 := Nat.mul_le_mul_left _ hlt
  rw [Nat.mul_add] at h2
  omega
theorem drop_same {l m : List Nat} {i : Nat} (hl : l.length = 16) (hm : m.length = 16) (hi : i < 16) (h : l.drop (i + 1) = m.drop (i + 1)) (he : l.getD i 0 = m.getD i 0) : l.drop i = m.drop i := by
  rw [List.drop_eq_getElem_cons (show i < l.length by omega), List.drop_eq_getElem_cons (show i < m.length by omega), h]
  simp [List.getD_eq_getElem?_getD, hl, hm, hi] at he
  rw [he]

/-- how far a root is known behind so many bits -/
def rl (p k : Nat) : Nat → Nat
  | 0 => 0
  | j + 1 => if (rl p k j + 68719476736 / 2 ^ j) ^ k ≤ p * 65536 ^ (2 * k) then rl p k j + 68719476736 / 2 ^ j else rl p k j
theorem rl_bound (p k : Nat) (j : Nat) : rl p k j + 68719476736 / 2 ^ j ≤ 68719476736 * (j + 1) := by
  induction j with
  | zero => simp [rl]
  | succ j ih =>
    have h1 : 68719476736 / 2 ^ (j + 1) ≤ 68719476736 / 2 ^ j := by
      rw [Nat.pow_succ, ← Nat.div_div_eq_div_mul]; exact Nat.div_le_self _ _
    have h2 : 68719476736 / 2 ^ (j + 1) ≤ 68719476736 := Nat.div_le_self _ _
    simp only [rl]
    split <;> omega
def PR : List Nat := [2, 3, 5, 7, 11, 13, 17, 19, 23, 29, 31, 37, 41, 43, 47, 53, 59, 61, 67, 71, 73, 79, 83, 89, 97, 101, 103, 107, 109, 113, 127, 131, 137, 139, 149, 151, 157, 163, 167, 173, 179, 181, 191, 193, 197, 199, 211, 223, 227, 229, 233, 239, 241, 251, 257, 263, 269, 271, 277, 281, 283, 293, 307, 311]
def root (p k : Nat) : Nat := rl p k 37 % 4294967296
/-- how many primes are below a number -/
def cnt (p : Nat) : Nat := (PR.filter fun q => q < p).length
def outp (p : Nat) : List Nat := PR.take (cnt p) ++ List.replicate (64 - cnt p) 0
/-- no number from 2 on, below d, divides p -/
def none_below (p d : Nat) : Bool := (List.range d).all fun j => decide (j < 2) || decide (p % j ≠ 0)
theorem none_succ (p d : Nat) (hd : 2 ≤ d) : none_below p (d + 1) = (none_below p d && decide (p % d ≠ 0)) := by
  simp only [none_below, List.range_succ, List.all_append, List.all_cons, List.all_nil, Bool.and_true]
  rw [show decide (d < 2) = false by simp; omega]
  simp
theorem cnt_all : ∀ p : Fin 312, (2 ≤ p.val → none_below p.val p.val = true → cnt (p.val + 1) = cnt p.val + 1 ∧ PR[cnt p.val]? = some p.val) ∧ (2 ≤ p.val → none_below p.val p.val = false → cnt (p.val + 1) = cnt p.val) ∧ cnt p.val < 64 := by decide +kernel
theorem cnt_end : cnt 312 = 64 ∧ cnt 2 = 0 := by decide
theorem roots3 : ∀ i : Fin 64, root (PR.getD i.val 0) 3 = [0x428a2f98, 0x71374491, 0xb5c0fbcf, 0xe9b5dba5, 0x3956c25b, 0x59f111f1, 0x923f82a4, 0xab1c5ed5, 0xd807aa98, 0x12835b01, 0x243185be, 0x550c7dc3, 0x72be5d74, 0x80deb1fe, 0x9bdc06a7, 0xc19bf174, 0xe49b69c1, 0xefbe4786, 0x0fc19dc6, 0x240ca1cc, 0x2de92c6f, 0x4a7484aa, 0x5cb0a9dc, 0x76f988da, 0x983e5152, 0xa831c66d, 0xb00327c8, 0xbf597fc7, 0xc6e00bf3, 0xd5a79147, 0x06ca6351, 0x14292967, 0x27b70a85, 0x2e1b2138, 0x4d2c6dfc, 0x53380d13, 0x650a7354, 0x766a0abb, 0x81c2c92e, 0x92722c85, 0xa2bfe8a1, 0xa81a664b, 0xc24b8b70, 0xc76c51a3, 0xd192e819, 0xd6990624, 0xf40e3585, 0x106aa070, 0x19a4c116, 0x1e376c08, 0x2748774c, 0x34b0bcb5, 0x391c0cb3, 0x4ed8aa4a, 0x5b9cca4f, 0x682e6ff3, 0x748f82ee, 0x78a5636f, 0x84c87814, 0x8cc70208, 0x90befffa, 0xa4506ceb, 0xbef9a3f7, 0xc67178f2].getD i.val 0 := by decide +kernel
theorem roots2 : ∀ i : Fin 8, root (PR.getD i.val 0) 2 = [0x6a09e667, 0xbb67ae85, 0x3c6ef372, 0xa54ff53a, 0x510e527f, 0x9b05688c, 0x1f83d9ab, 0x5be0cd19].getD i.val 0 := by decide +kernel
theorem outp_set (p : Nat) (hp : p < 312) (h2 : 2 ≤ p) (h : none_below p p = true) : (outp p).set (cnt p) p = outp (p + 1) := by
  obtain ⟨h1, _, h3⟩ := cnt_all ⟨p, hp⟩
  obtain ⟨e1, e2⟩ := h1 h2 h
  simp only at e1 e2 h3
  have hl : PR.length = 64 := rfl
  obtain ⟨d, hd⟩ : ∃ d, 64 - cnt p = d + 1 := ⟨63 - cnt p, by omega⟩
  have hk : cnt p < PR.length := by rw [hl]; exact h3
  rw [outp, outp, e1, hd, show 64 - (cnt p + 1) = d by omega, List.set_append_right _ _ (by rw [List.length_take]; omega), List.length_take, Nat.min_eq_left (by omega), Nat.sub_self, List.replicate_succ, List.set_cons_zero, List.take_succ_eq_append_getElem hk]
  rw [List.getElem?_eq_getElem hk] at e2
  injection e2 with e2
  rw [e2]
  simp
theorem outp_len (p : Nat) : (outp p).length = 64 := by
  have hl : PR.length = 64 := rfl
  have : cnt p ≤ 64 := by unfold cnt; have := List.length_filter_le (fun q => decide (q < p)) PR; omega
  simp [outp, hl]; omega
end Rt2
