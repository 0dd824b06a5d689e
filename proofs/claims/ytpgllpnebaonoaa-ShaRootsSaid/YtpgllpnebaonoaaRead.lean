import Derived.Test.YtpgllpnebaonoaaWord
namespace Go.Proofs.Sha
open Go Go.RowKit Sha2
set_option linter.unusedVariables false

theorem shl32w (a : W) : (a.toNat : Int) * (256 : Int) % (4294967296 : Int) = ((a <<< 8).toNat : Int) := shl32 a 8
theorem byte32 (b : Nat) : (b : Int) % (4294967296 : Int) = ((BitVec.ofNat 32 b).toNat : Int) := by simp

theorem read_any (b off n c : Nat) (bs : Nat → Nat) (w : World) (hc : 4 ≤ c) (hc2 : c ≤ 9223372036854775807) (hn : n ≤ c) (hb : ∀ j, bs j ≤ 255)
    (hcell : ∀ j, j < 4 → w.cell? ⟨b, off + j, none⟩ = some (.int .u8 (bs j))) :
    Calls Try.prog 27 #[.slice (some ⟨b, off, none⟩) n c] w fun e w' => e = .returned (.int .u32 (accW bs 4).toNat) ∧ w = w' := by
  go_enter Try.func27, Try.ntmps27
  go_wp2
  go_loop [3, 9] (fun v i => ∃ k : Nat, k ≤ 4 ∧ i = .int .i64 k ∧ v = .int .u32 (accW bs k).toNat) (fun _ i => 4 - (intOf i).toNat)
  case atStart => exact ⟨0, by omega, rfl, rfl⟩
  case round =>
    obtain ⟨k, hk, rfl, rfl⟩ := hrel
    by_cases hlt : k < 4
    · have g := hcell k hlt
      clear hcell
      go_wp2
      go_round
      case rel => exact ⟨k + 1, by omega, by go_num, by rw [accW_succ]; exact congrArg _ (by rw [byte32, shl32w, bits_or32])⟩
      case measure => simp [intOf]; omega
    · obtain rfl : k = 4 := by omega
      clear hcell
      go_wp2
      go_ret
      exact ⟨rfl, rfl⟩
end Go.Proofs.Sha
