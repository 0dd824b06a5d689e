import Derived.Test.YtpgllpnebaonoaaMem
import Derived.Test.YtpgllpnebaonoaaRead
namespace Go.Proofs.Sha
open Go Go.RowKit Sha2
set_option linter.unusedVariables false

theorem wrap64u (n : Int) : IntKind.u64.wrap n = n % 18446744073709551616 := IntKind.wrap_u64 n
theorem of64 (a : W) : (BitVec.ofInt 64 (a.toNat : Int)).toNat = a.toNat := by
  have := a.isLt
  simp; omega
theorem wrap64_self (a : W) : IntKind.u64.wrap (a.toNat : Int) = (a.toNat : Int) := by
  rw [wrap64u]; have := a.isLt; omega
theorem bits_or64 (a b : W) : bits .or .u64 (a.toNat : Int) (b.toNat : Int) = ((a ||| b).toNat : Int) := by
  show IntKind.u64.wrap ((BitVec.ofInt 64 (a.toNat : Int) ||| BitVec.ofInt 64 (b.toNat : Int)).toNat : Int) = _
  rw [BitVec.toNat_or, of64, of64, ← BitVec.toNat_or, wrap64_self]
theorem bits_xor64 (a b : W) : bits .xor .u64 (a.toNat : Int) (b.toNat : Int) = ((a ^^^ b).toNat : Int) := by
  show IntKind.u64.wrap ((BitVec.ofInt 64 (a.toNat : Int) ^^^ BitVec.ofInt 64 (b.toNat : Int)).toNat : Int) = _
  rw [BitVec.toNat_xor, of64, of64, ← BitVec.toNat_xor, wrap64_self]
theorem bits_and64 (a b : W) : bits .and .u64 (a.toNat : Int) (b.toNat : Int) = ((a &&& b).toNat : Int) := by
  show IntKind.u64.wrap ((BitVec.ofInt 64 (a.toNat : Int) &&& BitVec.ofInt 64 (b.toNat : Int)).toNat : Int) = _
  rw [BitVec.toNat_and, of64, of64, ← BitVec.toNat_and, wrap64_self]
theorem not64 (a : W) : (4294967295 : Int) - (a.toNat : Int) = ((~~~a).toNat : Int) := by
  have := a.isLt
  rw [BitVec.toNat_not]; omega

theorem whole_any (n : Int) (w : World) (h0 : 0 ≤ n) :
    Calls Try.prog 30 #[.int .u64 n] w fun e w' => e = .returned (.int .u64 (n % 4294967296)) ∧ w = w' := by
  go_enter Try.func30, Try.ntmps30
  go_wp2
  go_ret
  exact ⟨rfl, rfl⟩
theorem odd_any (a b c : Int) (w : World) :
    Calls Try.prog 31 #[.int .u64 a, .int .u64 b, .int .u64 c] w fun e w' => e = .returned (.int .u64 (bits .xor .u64 (bits .xor .u64 a b) c)) ∧ w = w' := by
  go_enter Try.func31, Try.ntmps31
  go_wp2
  go_ret
  exact ⟨rfl, rfl⟩
theorem rturn_val (x : W) (n : Nat) (h0 : 0 < n) (h1 : n < 32) : ((x.toNat : Int) / 2 ^ n + (x.toNat : Int) * 2 ^ (32 - n) % 18446744073709551616 % 4294967296) % 18446744073709551616 = ((rotr x n).toNat : Int) := by
  have h := rotr_sum x n h0 h1
  have h2 : ((x >>> n).toNat : Int) = (x.toNat : Int) / 2 ^ n := (shr32 x n).symm
  have h3 : ((x <<< (32 - n)).toNat : Int) = (x.toNat : Int) * 2 ^ (32 - n) % 4294967296 := (shl32 x _).symm
  rw [← h2]
  have h4 : (x.toNat : Int) * 2 ^ (32 - n) % 18446744073709551616 % 4294967296 = ((x <<< (32 - n)).toNat : Int) := by rw [h3]; omega
  rw [h4]
  have h5 : (x >>> n).toNat + (x <<< (32 - n)).toNat < 4294967296 := by
    have hz : x >>> n &&& x <<< (32 - n) = 0#32 := by
      apply BitVec.eq_of_getLsbD_eq
      intro i hi
      simp only [BitVec.getLsbD_and, BitVec.getLsbD_shiftLeft, BitVec.getLsbD_ushiftRight, BitVec.getLsbD_zero]
      by_cases h1 : i < 32 - n
      · simp [h1]
      · have : x.getLsbD (n + i) = false := BitVec.getLsbD_of_ge _ _ (by omega)
        simp [this]
    have := BitVec.add_eq_or_of_and_eq_zero _ _ hz
    have hl1 := (x >>> n).isLt
    have hl2 := (x <<< (32 - n)).isLt
    have hx : (x >>> n).toNat < 2 ^ (32 - n) := by
      rw [BitVec.toNat_ushiftRight, Nat.shiftRight_eq_div_pow]
      exact Nat.div_lt_of_lt_mul (by rw [← Nat.pow_add, show n + (32 - n) = 32 by omega]; exact x.isLt)
    have hy : (x <<< (32 - n)).toNat % 2 ^ (32 - n) = 0 := by
      rw [BitVec.toNat_shiftLeft, Nat.shiftLeft_eq]
      have : 2 ^ (32 - n) ∣ 2 ^ 32 := Nat.pow_dvd_pow 2 (by omega)
      rw [Nat.mod_mod_of_dvd _ this, Nat.mul_mod_left]
    obtain ⟨m, hm⟩ : 2 ^ (32 - n) ∣ (x <<< (32 - n)).toNat := Nat.dvd_of_mod_eq_zero hy
    have h32 : 2 ^ (32 - n) * 2 ^ n = 4294967296 := by rw [← Nat.pow_add, show 32 - n + n = 32 by omega]
    have hml : m < 2 ^ n := by
      rcases Nat.lt_or_ge m (2 ^ n) with h | h
      · exact h
      · have := Nat.mul_le_mul_left (2 ^ (32 - n)) h
        omega
    have := Nat.mul_le_mul_left (2 ^ (32 - n)) (show m + 1 ≤ 2 ^ n from hml)
    rw [Nat.mul_add] at this
    omega
  rw [← h, BitVec.toNat_add]
  omega
theorem rturn_any (x : W) (n : Int) (w : World) (h0 : 0 < n) (h1 : n < 32) :
    Calls Try.prog 32 #[.int .u64 x.toNat, .int .i64 n] w fun e w' => e = .returned (.int .u64 (rotr x n.toNat).toNat) ∧ ∃ q, w' = w.drewN q := by
  obtain ⟨m, rfl⟩ := Int.eq_ofNat_of_zero_le (show 0 ≤ n by omega)
  have a1 : IntKind.i64.wrap (32 - (m : Int)) = 32 - (m : Int) := IntWalk.i64_in _ (by omega)
  have a2 : (0 : Int) ≤ 32 - (m : Int) := by omega
  have a3 : (32 - (m : Int)).toNat = 32 - m := by omega
  have a4 : min m 64 = m := by omega
  have a5 : min (32 - m) 64 = 32 - m := by omega
  go_enter Try.func32, Try.ntmps32
  go_wp2_with fail
  go_quiet ((go_at_call 30; exact Calls.quiet_of_same ((whole_any _ _ (by first | omega | exact Int.emod_nonneg _ (by decide))).mono fun e w' h => ⟨h.1, h.2.symm⟩)))
  go_wp2
  go_ret
  exact ⟨ret_int (by rw [wrap64u, wrap64u, Int.toNat_natCast]; exact rturn_val x m (by omega) (by omega)), ⟨_, rfl⟩⟩
theorem odd_same (a b c : Int) (w : World) :
    Calls Try.prog 31 #[.int .u64 a, .int .u64 b, .int .u64 c] w fun e w' => e = .returned (.int .u64 (bits .xor .u64 (bits .xor .u64 a b) c)) ∧ w' = w :=
  (odd_any a b c w).mono fun _ _ h => ⟨h.1, h.2.symm⟩
theorem whole_same (n : Int) (w : World) (h0 : 0 ≤ n) :
    Calls Try.prog 30 #[.int .u64 n] w fun e w' => e = .returned (.int .u64 (n % 4294967296)) ∧ w' = w :=
  (whole_any n w h0).mono fun _ _ h => ⟨h.1, h.2.symm⟩
theorem wrap64u_nonneg (n : Int) : 0 ≤ IntKind.u64.wrap n := by rw [wrap64u]; omega
theorem shr64 (x : W) (d : Int) (n : Nat) (h : d = 2 ^ n) : (x.toNat : Int) / d = ((x >>> n).toNat : Int) := by rw [h, shr32]
end Go.Proofs.Sha
