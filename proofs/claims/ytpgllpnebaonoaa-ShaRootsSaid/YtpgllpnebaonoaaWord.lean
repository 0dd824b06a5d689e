import Derived.Test.YtpgllpnebaonoaaProg
import Derived.Test.YtpgllpnebaonoaaMath
import Derived.WalkKit
import Derived.KernelRfl
import Derived.BigQuiet
import Derived.StillTailTactics
import Derived.Deep.RegionHeld3
import Derived.Lib.Hide
namespace Go.Proofs.Sha
open Go Go.RowKit Sha2
set_option linter.unusedVariables false

/-- a fact that neither the walk nor 'contradiction' looks into -/
structure Veil (p : Prop) : Prop where mk :: (out : p)
theorem veil {p : Prop} (h : p) : Veil p := ⟨h⟩

theorem rot_idx_all : ∀ k : Fin 32, 0 < k.val → bits .and .u64 (IntKind.u64.wrap (-(k.val : Int))) 31 = 32 - (k.val : Int) := by decide +kernel
theorem rot_idx (n : Int) (h0 : 0 < n) (h1 : n < 32) : bits .and .u64 (IntKind.u64.wrap (-n)) 31 = 32 - n := by
  have := rot_idx_all ⟨n.toNat, by omega⟩ (by simp; omega)
  simp only [Int.toNat_of_nonneg (show 0 ≤ n by omega)] at this
  exact this

theorem of32 (a : W) : BitVec.ofInt 32 (a.toNat : Int) = a := by
  apply BitVec.eq_of_toNat_eq; simp
theorem wrap32_self (a : W) : IntKind.u32.wrap (a.toNat : Int) = (a.toNat : Int) := by
  rw [IntKind.wrap_u32]; have := a.isLt; omega
theorem bits_or32 (a b : W) : bits .or .u32 (a.toNat : Int) (b.toNat : Int) = ((a ||| b).toNat : Int) := by
  show IntKind.u32.wrap ((BitVec.ofInt 32 (a.toNat : Int) ||| BitVec.ofInt 32 (b.toNat : Int)).toNat : Int) = _
  rw [of32, of32, wrap32_self]
theorem bits_xor32 (a b : W) : bits .xor .u32 (a.toNat : Int) (b.toNat : Int) = ((a ^^^ b).toNat : Int) := by
  show IntKind.u32.wrap ((BitVec.ofInt 32 (a.toNat : Int) ^^^ BitVec.ofInt 32 (b.toNat : Int)).toNat : Int) = _
  rw [of32, of32, wrap32_self]
theorem bits_and32 (a b : W) : bits .and .u32 (a.toNat : Int) (b.toNat : Int) = ((a &&& b).toNat : Int) := by
  show IntKind.u32.wrap ((BitVec.ofInt 32 (a.toNat : Int) &&& BitVec.ofInt 32 (b.toNat : Int)).toNat : Int) = _
  rw [of32, of32, wrap32_self]
theorem bits_andNot32 (a b : W) : bits .andNot .u32 (a.toNat : Int) (b.toNat : Int) = ((a &&& ~~~b).toNat : Int) := by
  show IntKind.u32.wrap ((BitVec.ofInt 32 (a.toNat : Int) &&& ~~~BitVec.ofInt 32 (b.toNat : Int)).toNat : Int) = _
  rw [of32, of32, wrap32_self]
theorem add32 (a b : W) : ((a.toNat : Int) + (b.toNat : Int)) % 4294967296 = ((a + b).toNat : Int) := by
  simp [BitVec.toNat_add]
theorem shl32 (a : W) (n : Nat) : (a.toNat : Int) * 2 ^ n % 4294967296 = ((a <<< n).toNat : Int) := by
  simp [BitVec.toNat_shiftLeft, Nat.shiftLeft_eq]
theorem shr32 (a : W) (n : Nat) : (a.toNat : Int) / 2 ^ n = ((a >>> n).toNat : Int) := by
  simp [BitVec.toNat_ushiftRight, Nat.shiftRight_eq_div_pow]

theorem ret_int {k : IntKind} {a b : Int} (h : a = b) : Ending.returned (.int k a) = .returned (.int k b) := by rw [h]

theorem rotl (x : W) (n : Int) (w : World) (h0 : 0 < n) (h1 : n < 32) :
    Calls Try.prog 36 #[.int .u32 x.toNat, .int .i64 (-n)] w fun e w' => e = .returned (.int .u32 (rotr x n.toNat).toNat) ∧ w = w' := by
  have hi := rot_idx n h0 h1
  have hm : min (32 - n).toNat 32 = (32 - n).toNat := by omega
  have hm2 : min n.toNat 32 = n.toNat := by omega
  have h3 : 0 ≤ 32 - n := by omega
  have h4 : n ≤ 32 := by omega
  have h5 : 32 - (32 - n) = n := by omega
  go_enter Try.func36, Try.ntmps36
  go_wp2
  go_ret
  exact ⟨ret_int (by rw [shl32, shr32, bits_or32]; unfold rotr; rw [show (32 - n).toNat = 32 - n.toNat by omega]), rfl⟩

theorem turn_any (x : W) (n : Int) (w : World) (h0 : 0 < n) (h1 : n < 32) :
    Calls Try.prog 28 #[.int .u32 x.toNat, .int .i64 n] w fun e w' => e = .returned (.int .u32 (rotr x n.toNat).toNat) ∧ w = w' := by
  go_enter Try.func28, Try.ntmps28
  go_wp2_with (go_at_call 36; refine (rotl _ _ _ (by omega) (by omega)).mono ?_; rintro e w' ⟨rfl, rfl⟩)
  go_ret
  exact ⟨rfl, rfl⟩
end Go.Proofs.Sha
namespace Go.Proofs.Sha
open Go Go.RowKit Sha2
theorem turn_same (x : W) (n : Int) (w : World) (h0 : 0 < n) (h1 : n < 32) :
    Calls Try.prog 28 #[.int .u32 x.toNat, .int .i64 n] w fun e w' => e = .returned (.int .u32 (rotr x n.toNat).toNat) ∧ w' = w :=
  (turn_any x n w h0 h1).mono fun _ _ ⟨h1, h2⟩ => ⟨h1, h2.symm⟩
end Go.Proofs.Sha
