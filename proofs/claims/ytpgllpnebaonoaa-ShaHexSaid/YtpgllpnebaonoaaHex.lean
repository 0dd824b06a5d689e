import Derived.Test.YtpgllpnebaonoaaShown
import Derived.Test.YtpgllpnebaonoaaShelf
import Derived.Test.YtpgllpnebaonoaaBuild
import Derived.Test.YtpgllpnebaonoaaHexMath
/- What sha.Hex tells. -/
namespace Go.Proofs.Sha
open Go Go.RowKit Hex2 Mem
open Go.Proofs.YtpgllpnebaonoaaW.PrintWords
set_option linter.unusedVariables false

theorem dig_byte (n : Int) (h0 : 0 ≤ n) (h1 : n < 16) : ∀ h : n.toNat < (⟨#[48, 49, 50, 51, 52, 53, 54, 55, 56, 57, 97, 98, 99, 100, 101, 102]⟩ : ByteArray).size, (((⟨#[48, 49, 50, 51, 52, 53, 54, 55, 56, 57, 97, 98, 99, 100, 101, 102]⟩ : ByteArray)[n.toNat]'h).toNat : Int) = ((hx n).toNat : Int) := by
  intro h
  have := dig_at n h0 h1
  rw [show DIG = (#[48, 49, 50, 51, 52, 53, 54, 55, 56, 57, 97, 98, 99, 100, 101, 102] : Array UInt8).toList from rfl, Array.getElem?_toList] at this
  obtain ⟨_, h3⟩ := Array.getElem?_eq_some_iff.1 this
  exact congrArg (fun u : UInt8 => (u.toNat : Int)) h3
theorem cells_snoc (xs : List Int) (k : Nat) (h : k < xs.length) (x : Int) (hxe : rd xs k = x) : Lib.byteCells (hexU (xs.take k)) ++ [.int .u8 ((hx (x / 16)).toNat : Int)] ++ [.int .u8 ((hx (x % 16)).toNat : Int)] = Lib.byteCells (hexU (xs.take (k + 1))) := by
  rw [List.take_succ_eq_append_getElem h, hexU_snoc]
  have : xs[k] = x := by rw [← hxe]; simp [rd, List.getD_eq_getElem?_getD, h]
  rw [this]
  simp [Lib.byteCells]
theorem fresh_builder (w : World) : Lib.IsBuilder 48 5 w.heap.size w.heap.size [] (w.alloc (.cells #[.pointer none, .slice none 0 0] 48)) := by
  refine Or.inl ⟨Nat.le_refl _, .slice none 0 0, heap_alloc_last w _, own_nil _ _ _ _, by simp [Value.ownBlock]⟩
set_option maxHeartbeats 1000000 in
theorem hex_any (A : Option Addr) (n c : Nat) (xs : List Int) (w : World) (hn : n ≤ 300) (hc : n ≤ c) (HR : ReadsInt w .u8 A n xs) (hx : Bytes xs) :
    Calls Try.prog 14 #[.slice A n c] w fun e w' => e = .returned (.string ⟨(hexU xs).toArray⟩) ∧ Below w.heap.size w w' := by
  have HR' := veil HR
  have hx' := veil hx
  have hlen := veil HR.1
  clear HR hx
  have hf := veil (fresh_builder w)
  have hb0 := veil (below_alloc (Below.refl w.heap.size w) (.cells #[.pointer none, .slice none 0 0] 48))
  go_enter Try.func14, Try.ntmps14
  go_wp2
  go_loopw [8] (fun i wr => ∃ k : Nat, k ≤ n ∧ i = .int .i64 k ∧ Lib.IsBuilder 48 5 w.heap.size w.heap.size (Lib.byteCells (hexU (xs.take k))) wr ∧ Below w.heap.size w wr) (fun i _ => n - (intOf i).toNat)
  case atStart => exact ⟨0, by omega, rfl, by simpa [hexU, Lib.byteCells] using hf.out, hb0.out⟩
  case round =>
    obtain ⟨k, hk, rfl, hB, hb⟩ := hrel
    have hB' := veil hB
    have hb' := veil hb
    clear hB hb
    by_cases hlt : k < n
    · obtain ⟨ad, rfl, hcell⟩ := (HR'.out.below hb'.out).at_ k (by omega) (by omega)
      rw [Int.toNat_natCast] at hcell
      obtain ⟨x, hxx⟩ : ∃ x, rd xs k = x := ⟨_, rfl⟩
      rw [hxx] at hcell
      have hr := hx'.out x (by rw [← hxx]; unfold rd; rw [Int.toNat_natCast, List.getD_eq_getElem?_getD, List.getElem?_eq_getElem (by rw [hlen.out]; exact hlt)]; simp)
      have hxx' := veil hxx
      clear hxx
      obtain ⟨hr0, hr1⟩ := hr
      have hl : (Lib.byteCells (hexU (xs.take k))).length ≤ 600 := by rw [Lib.byteCells_length, hexU_length, List.length_take]; omega
      go_wp2_with fail
      rw [dig_byte _ (by omega) (by omega)]
      refine (Try.Build.WriteByte_any w.heap.size w.heap.size _ _ _ hB'.out (by omega) hb'.out.size).mono ?_
      rintro e w1 ⟨rfl, hB1, hb1⟩
      have hB1' := veil hB1
      have hb1' := veil (hb'.out.trans hb1)
      clear hB1 hb1
      go_wp2_with fail
      rw [dig_byte _ (by omega) (by omega)]
      refine (Try.Build.WriteByte_any w.heap.size w.heap.size _ _ _ (Or.inr hB1'.out) (by simp; omega) hb1'.out.size).mono ?_
      rintro e w2 ⟨rfl, hB2, hb2⟩
      rw [cells_snoc xs k (by rw [hlen.out]; exact hlt) x hxx'.out] at hB2
      have hB2' := veil hB2
      have hb2' := veil (hb1'.out.trans hb2)
      clear hB2 hb2
      go_wp2_with fail
      go_roundw
      case rel => exact ⟨k + 1, by omega, by go_num, Or.inr hB2'.out, hb2'.out⟩
      case measure => simp [intOf]; omega
    · obtain rfl : k = n := by omega
      have hB3 := hB'.out
      rw [show xs.take k = xs from by rw [← hlen.out, List.take_length]] at hB3
      clear hB'
      have hB' := veil hB3
      clear hB3
      go_wp2_with fail
      refine (Try.Builder_String_any w.heap.size w.heap.size _ _ hB'.out hb'.out.size).mono ?_
      rintro e w1 ⟨rfl, hb1⟩
      have hb1' := veil (hb'.out.trans hb1)
      clear hb1
      go_wp2_with fail
      go_ret
      exact ⟨rfl, hb1'.out⟩
end Go.Proofs.Sha
