namespace Sha2
abbrev W := BitVec 32

def rotr (x : W) (n : Nat) : W := x <<< (32 - n) ||| x >>> n
def sig0 (x : W) : W := rotr x 7 ^^^ rotr x 18 ^^^ x >>> 3
def sig1 (x : W) : W := rotr x 17 ^^^ rotr x 19 ^^^ x >>> 10
def Sig1 (x : W) : W := rotr x 6 ^^^ rotr x 11 ^^^ rotr x 25
def Sig0 (x : W) : W := rotr x 2 ^^^ rotr x 13 ^^^ rotr x 22

theorem rotr_sum (x : W) (n : Nat) (h0 : 0 < n) (h : n < 32) : x >>> n + x <<< (32 - n) = rotr x n := by
  unfold rotr
  rw [BitVec.add_comm, BitVec.add_eq_or_of_and_eq_zero]
  apply BitVec.eq_of_getLsbD_eq
  intro i hi
  simp only [BitVec.getLsbD_and, BitVec.getLsbD_shiftLeft, BitVec.getLsbD_ushiftRight, BitVec.getLsbD_zero]
  by_cases h1 : i < 32 - n
  · simp [h1]
  · have : x.getLsbD (n + i) = false := BitVec.getLsbD_of_ge _ _ (by omega)
    simp [this]

theorem pick_sum (e f g : W) : (e &&& f) + (~~~e &&& g) = (e &&& f) ^^^ (g &&& ~~~e) := by
  rw [BitVec.add_eq_or_of_and_eq_zero]
  · apply BitVec.eq_of_getLsbD_eq
    intro i hi
    simp only [BitVec.getLsbD_or, BitVec.getLsbD_xor, BitVec.getLsbD_and, BitVec.getLsbD_not]
    cases e.getLsbD i <;> cases f.getLsbD i <;> cases g.getLsbD i <;> simp
  · apply BitVec.eq_of_getLsbD_eq
    intro i hi
    simp only [BitVec.getLsbD_and, BitVec.getLsbD_not, BitVec.getLsbD_zero]
    cases e.getLsbD i <;> cases f.getLsbD i <;> cases g.getLsbD i <;> simp

theorem two_sum (a b c : W) : (a &&& b) ||| (a &&& c) ||| (b &&& c) = (a &&& b) ^^^ (a &&& c) ^^^ (b &&& c) := by
  apply BitVec.eq_of_getLsbD_eq
  intro i hi
  simp only [BitVec.getLsbD_or, BitVec.getLsbD_xor, BitVec.getLsbD_and]
  cases a.getLsbD i <;> cases b.getLsbD i <;> cases c.getLsbD i <;> simp

def K : List Nat := [0x428a2f98, 0x71374491, 0xb5c0fbcf, 0xe9b5dba5, 0x3956c25b, 0x59f111f1, 0x923f82a4, 0xab1c5ed5, 0xd807aa98, 0x12835b01, 0x243185be, 0x550c7dc3, 0x72be5d74, 0x80deb1fe, 0x9bdc06a7, 0xc19bf174, 0xe49b69c1, 0xefbe4786, 0x0fc19dc6, 0x240ca1cc, 0x2de92c6f, 0x4a7484aa, 0x5cb0a9dc, 0x76f988da, 0x983e5152, 0xa831c66d, 0xb00327c8, 0xbf597fc7, 0xc6e00bf3, 0xd5a79147, 0x06ca6351, 0x14292967, 0x27b70a85, 0x2e1b2138, 0x4d2c6dfc, 0x53380d13, 0x650a7354, 0x766a0abb, 0x81c2c92e, 0x92722c85, 0xa2bfe8a1, 0xa81a664b, 0xc24b8b70, 0xc76c51a3, 0xd192e819, 0xd6990624, 0xf40e3585, 0x106aa070, 0x19a4c116, 0x1e376c08, 0x2748774c, 0x34b0bcb5, 0x391c0cb3, 0x4ed8aa4a, 0x5b9cca4f, 0x682e6ff3, 0x748f82ee, 0x78a5636f, 0x84c87814, 0x8cc70208, 0x90befffa, 0xa4506ceb, 0xbef9a3f7, 0xc67178f2]
def H0 : List Nat := [0x6a09e667, 0xbb67ae85, 0x3c6ef372, 0xa54ff53a, 0x510e527f, 0x9b05688c, 0x1f83d9ab, 0x5be0cd19]

/-- the word that some bytes come to, one behind the other -/
def accW (bs : Nat → Nat) (k : Nat) : W := (List.range k).foldl (fun w j => w <<< 8 ||| BitVec.ofNat 32 (bs j)) 0
theorem accW_succ (bs : Nat → Nat) (k : Nat) : accW bs (k + 1) = accW bs k <<< 8 ||| BitVec.ofNat 32 (bs k) := by
  unfold accW; rw [List.range_succ, List.foldl_append]; rfl

/-- the word at a place of bytes -/
def wordAt (bs : Nat → Nat) (i : Nat) : W := accW (fun j => bs (4 * i + j)) 4

theorem or_byte (w : W) (b : Nat) (h : b ≤ 255) : (w <<< 8 ||| BitVec.ofNat 32 b).toNat = w.toNat * 256 % 4294967296 + b := by
  have h2 : w <<< 8 &&& BitVec.ofNat 32 b = 0#32 := by
    apply BitVec.eq_of_getLsbD_eq
    intro i hi
    simp only [BitVec.getLsbD_and, BitVec.getLsbD_shiftLeft, BitVec.getLsbD_ofNat]
    by_cases h8 : i < 8
    · simp [h8]
    · have : b.testBit i = false := Nat.testBit_lt_two_pow (Nat.lt_of_lt_of_le (show b < 2 ^ 8 by omega) (Nat.pow_le_pow_right (by decide) (by omega)))
      simp [this]
  rw [← BitVec.add_eq_or_of_and_eq_zero _ _ h2, BitVec.toNat_add, BitVec.toNat_shiftLeft, Nat.shiftLeft_eq]
  simp only [BitVec.toNat_ofNat]
  have := w.isLt
  omega

theorem wordAt_sum (bs : Nat → Nat) (hb : ∀ j, bs j ≤ 255) (i : Nat) : (wordAt bs i).toNat = bs (4 * i) * 16777216 + bs (4 * i + 1) * 65536 + bs (4 * i + 2) * 256 + bs (4 * i + 3) := by
  unfold wordAt
  rw [accW_succ, accW_succ, accW_succ, accW_succ]
  have h0 := hb (4 * i); have h1 := hb (4 * i + 1); have h2 := hb (4 * i + 2); have h3 := hb (4 * i + 3)
  rw [or_byte _ _ (hb _), or_byte _ _ (hb _), or_byte _ _ (hb _), or_byte _ _ (hb _)]
  simp only [accW, List.range_zero, List.foldl_nil, Nat.add_zero]
  simp
  omega

/-- one more of the words W -/
def stepW (bs : Nat → Nat) (w : List W) (i : Nat) : List W :=
  w.set i (if i < 16 then wordAt bs i else sig0 (w.getD (i - 15) 0) + w.getD (i - 7) 0 + sig1 (w.getD (i - 2) 0) + w.getD (i - 16) 0)
def schedTo (bs : Nat → Nat) (i : Nat) : List W := (List.range i).foldl (stepW bs) (List.replicate 64 0)
theorem schedTo_succ (bs : Nat → Nat) (i : Nat) : schedTo bs (i + 1) = stepW bs (schedTo bs i) i := by
  unfold schedTo; rw [List.range_succ, List.foldl_append]; rfl
theorem schedTo_length (bs : Nat → Nat) (i : Nat) : (schedTo bs i).length = 64 := by
  induction i with
  | zero => rfl
  | succ i ih => rw [schedTo_succ]; simp [stepW, ih]

structure St where
  a : W
  b : W
  c : W
  d : W
  e : W
  f : W
  g : W
  h : W

def round (w : List W) (s : St) (i : Nat) : St :=
  let t := s.h + Sig1 s.e + ((s.e &&& s.f) ^^^ (s.g &&& ~~~s.e)) + BitVec.ofNat 32 (K.getD i 0) + w.getD i 0
  let u := Sig0 s.a + ((s.a &&& s.b) ^^^ (s.a &&& s.c) ^^^ (s.b &&& s.c))
  { a := t + u, b := s.a, c := s.b, d := s.c, e := s.d + t, f := s.e, g := s.f, h := s.g }
def roundsTo (w : List W) (s : St) (i : Nat) : St := (List.range i).foldl (round w) s
theorem roundsTo_succ (w : List W) (s : St) (i : Nat) : roundsTo w s (i + 1) = round w (roundsTo w s i) i := by
  unfold roundsTo; rw [List.range_succ, List.foldl_append]; rfl

def ofSt (s : St) : List W := [s.a, s.b, s.c, s.d, s.e, s.f, s.g, s.h]
def toSt (h : List W) : St := ⟨h.getD 0 0, h.getD 1 0, h.getD 2 0, h.getD 3 0, h.getD 4 0, h.getD 5 0, h.getD 6 0, h.getD 7 0⟩
def block (h : List W) (bs : Nat → Nat) : List W := List.zipWith (· + ·) h (ofSt (roundsTo (schedTo bs 64) (toSt h) 64))
theorem block_length (h : List W) (bs : Nat → Nat) (hh : h.length = 8) : (block h bs).length = 8 := by simp [block, ofSt, hh]

/-- the words behind so many blocks -/
def blocks (p : Nat → Nat) (h : List W) (n : Nat) : List W := (List.range n).foldl (fun h i => block h fun j => p (64 * i + j)) h
theorem blocks_succ (p : Nat → Nat) (h : List W) (n : Nat) : blocks p h (n + 1) = block (blocks p h n) fun j => p (64 * n + j) := by
  unfold blocks; rw [List.range_succ, List.foldl_append]; rfl
theorem blocks_length (p : Nat → Nat) (h : List W) (hh : h.length = 8) (n : Nat) : (blocks p h n).length = 8 := by
  induction n with
  | zero => exact hh
  | succ n ih => rw [blocks_succ]; exact block_length _ _ ih

/-- what follows the bytes -/
def zeros (n : Nat) : Nat := (119 - n % 64) % 64
def pad (b : List Nat) : List Nat :=
  b ++ [128] ++ List.replicate (zeros b.length) 0 ++ (List.range 8).map fun i => b.length * 8 / 2 ^ (56 - 8 * i) % 256
def init : List W := H0.map (BitVec.ofNat 32)
def bytesOf (h : List W) : List Nat := (List.range 32).map fun i => (h.getD (i / 4) 0).toNat / 2 ^ (24 - 8 * (i % 4)) % 256
def sum (b : List Nat) : List Nat := bytesOf (blocks (fun j => (pad b).getD j 0) init ((pad b).length / 64))

theorem nil_head : (sum []).take 4 = [0xe3, 0xb0, 0xc4, 0x42] := by decide +kernel
theorem abc_head : (sum [97, 98, 99]).take 4 = [0xba, 0x78, 0x16, 0xbf] := by decide +kernel
end Sha2
