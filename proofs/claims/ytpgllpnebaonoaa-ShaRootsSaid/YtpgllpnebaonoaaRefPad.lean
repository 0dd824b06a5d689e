import Derived.Test.YtpgllpnebaonoaaRefTab
import Derived.Test.YtpgllpnebaonoaaWWords
/- What the reference's padded tells. -/
namespace Go.Proofs.Sha
open Go Go.RowKit Sha2 Mem
open Go.Proofs.YtpgllpnebaonoaaW.PrintWords
set_option linter.unusedVariables false

theorem info5 : (Try.prog.info? 5).map (fun i => (i.zero, i.size, i.bytes)) = some (some (.int .u8 0), 1, 1) := by kernel_rfl
def lenV : Value → Nat
  | .slice _ m _ => m
  | _ => 0
/-- the bytes, the mark, and so many zeros -/
def lenB (n j : Nat) : Int := ((n * 8 / 2 ^ (56 - 8 * j) % 256 : Nat) : Int)
def padB (xs : List Int) (n k : Nat) : List Int := xs ++ [128] ++ List.replicate (zeros n) 0 ++ (List.range k).map (lenB n)
theorem padB_len (xs : List Int) (n k : Nat) : (padB xs n k).length = xs.length + 1 + zeros n + k := by simp [padB]; omega
theorem padB_succ (xs : List Int) (n k : Nat) : padB xs n k ++ [lenB n k] = padB xs n (k + 1) := by
  simp [padB, List.range_succ]
theorem lenB_val (n k e : Nat) (he : e = 7 - k) (hk : k < 8) : ((n : Int) * 8 / 2 ^ (8 * e)).tmod 256 % 256 = lenB n k := by
  have h1 : 56 - 8 * k = 8 * e := by omega
  have h2 : ((n : Int) * 8 / 2 ^ (8 * e)) = ((n * 8 / 2 ^ (8 * e) : Nat) : Int) := by simp
  rw [h2, Int.tmod_eq_emod_of_nonneg (Int.natCast_nonneg _)]
  unfold lenB
  rw [h1]
  omega
def padZ (xs : List Int) (k : Nat) : List Int := xs ++ [128] ++ List.replicate k 0
theorem padZ_len (xs : List Int) (k : Nat) : (padZ xs k).length = xs.length + 1 + k := by simp [padZ]; omega
theorem padZ_succ (xs : List Int) (k : Nat) : padZ xs k ++ [0] = padZ xs (k + 1) := by
  simp [padZ, List.replicate_succ']
/-- a slice of the call's own, of these bytes -/
def OwnsBytes (w : World) (ys : List Int) (e : Ending) (w' : World) : Prop := ∃ v, e = .returned v ∧ w'.ownsRow w.heap.size 5 1 v ys.length (nums .u8 ys) ∧ Below w.heap.size w w'
set_option maxHeartbeats 1000000 in
theorem rpadded_any (A : Option Addr) (n c : Nat) (xs : List Int) (w : World) (hn : n ≤ 300) (hc : n ≤ c) (HR : ReadsInt w .u8 A n xs) :
    Calls Try.prog 17 #[.slice A n c] w (OwnsBytes w (padB xs n 8)) := by
  have HR' := veil HR
  have hlen : xs.length = n := HR.1
  have hlen' := veil hlen
  clear HR hlen
  have HB0 := veil (below_alloc (Below.refl w.heap.size w) (.cells #[] 5))
  go_enter Try.func17, Try.ntmps17
  go_wp2_with (first
    | (at_builtin; (refine print_append_row (w0 := w) w.heap.size rfl (.tmp 6) (.tmp 7) 22 5 .u8 1 rfl Try.underlying22 info5 (by omega) _ [] xs A n c rfl rfl (own_lit w w.heap.size 5 .u8 [] (Nat.le_refl _) (by simp)) (HR'.out.below HB0.out) HB0.out (by simp) (by simp; omega) ?_); intro v1 w1 hown1 hb1 hg1 hat1)
    | (at_builtin; refine print_append_num (w0 := w) w.heap.size rfl (.tmp 8) (.tmp 9) 22 5 .u8 1 rfl Try.underlying22 info5 (by omega) _ ([] ++ xs) 128 rfl rfl hown1 hb1 (hb1.size) (by have := hlen'.out; simp; omega) ?_; intro v2 w2 hown2 hb2 hg2 hat2))
  have hown3 : w2.ownsRow w.heap.size 5 1 v2 (padZ xs 0).length (nums .u8 (padZ xs 0)) := by simpa [padZ] using hown2
  have hown3' := veil hown3
  have hb2' := veil hb2
  clear hown1 hb1 hg1 hat1 hown2 hb2 hg2 hat2 hown3
  go_loopw [3] (fun v wr => ∃ k : Nat, k ≤ zeros n ∧ wr.ownsRow w.heap.size 5 1 v (padZ xs k).length (nums .u8 (padZ xs k)) ∧ Below w.heap.size w wr) (fun v _ => n + 1 + zeros n - lenV v)
  case atStart => exact ⟨0, by omega, hown3'.out, hb2'.out⟩
  case round =>
    obtain ⟨k, hk, hown, hb⟩ := hrel
    obtain ⟨A1, c1, rfl⟩ := own_slice hown
    have hm : (padZ xs k).length = n + 1 + k := by rw [padZ_len, hlen'.out]
    obtain ⟨m, hm2⟩ : ∃ m, (padZ xs k).length = m := ⟨_, rfl⟩
    have hmn : m = n + 1 + k := by rw [← hm2]; exact hm
    have hown' : Veil (wr.ownsRow w.heap.size 5 1 (.slice A1 m c1) (padZ xs k).length (nums .u8 (padZ xs k))) := veil (by have h := hown; rw [hm2] at h ⊢; exact h)
    have hb' := veil hb
    rw [hm2]
    have hm2' := veil hm2
    have hmn' := veil hmn
    have hm0 : m ≤ 1000 := by rw [hmn]; unfold zeros at hk; omega
    clear hown hm hm2 hown3' hb2'
    by_cases hlt : k < zeros n
    · have ht : ((m : Int) % 64 != 56) = true := by
        rw [bne_iff_ne]; unfold zeros at hlt; omega
      clear hmn hb
      go_wp2_with (at_builtin; refine print_append_num (w0 := w) w.heap.size rfl (.tmp 15) (.tmp 16) 22 5 .u8 1 rfl Try.underlying22 info5 (by omega) _ (padZ xs k) 0 rfl rfl hown'.out hb'.out (hb'.out.size) (by rw [hm2'.out]; omega) ?_; intro v3 w3 hown4 hb4 hg4 hat4)
      have hown5 : w3.ownsRow w.heap.size 5 1 v3 (padZ xs (k + 1)).length (nums .u8 (padZ xs (k + 1))) := by rw [← padZ_succ]; exact hown4
      have hl5 : lenV v3 = m + 1 := by
        obtain ⟨A2, c2, rfl⟩ := own_slice hown5
        show (padZ xs (k + 1)).length = m + 1
        rw [padZ_len, hlen'.out, hmn'.out]; omega
      have hown5' := veil hown5
      have hb4' := veil hb4
      have hl5' := veil hl5
      clear hown4 hb4 hg4 hat4 hown5 hl5
      go_wp2
      go_roundw
      case rel => exact ⟨k + 1, by omega, hown5'.out, hb4'.out⟩
      case measure =>
        have h1 := hl5'.out
        have h2 := hmn'.out
        rw [h1]
        show _ < n + 1 + zeros n - m
        omega
    · have hke : k = zeros n := by omega
      have ht : ((m : Int) % 64 != 56) = false := by
        rw [bne_eq_false_iff_eq]; rw [hke] at hmn; unfold zeros at hmn; omega
      clear hmn hb
      have hown6 : wr.ownsRow w.heap.size 5 1 (.slice A1 m c1) (padB xs n 0).length (nums .u8 (padB xs n 0)) := by
        have h := hown'.out; rw [hke] at h; simpa [padB, padZ] using h
      have hown6' := veil hown6
      clear hown6
      obtain ⟨wo, rfl⟩ : ∃ wo : World, wo = wr := ⟨_, rfl⟩
      go_wp2_with fail
      go_loopw [3, 5] (fun v i wr => ∃ k : Nat, k ≤ 8 ∧ i = .int .i64 (7 - (k : Int)) ∧ wr.ownsRow w.heap.size 5 1 v (padB xs n k).length (nums .u8 (padB xs n k)) ∧ Below w.heap.size w wr) (fun v _ _ => n + 9 + zeros n - lenV v)
      case atStart => exact ⟨0, by omega, rfl, hown6'.out, hb'.out⟩
      case round =>
        obtain ⟨k, hk, rfl, hown, hb⟩ := hrel
        obtain ⟨A3, c3, rfl⟩ := own_slice hown
        have hm : (padB xs n k).length = n + 1 + zeros n + k := by rw [padB_len, hlen'.out]
        obtain ⟨m3, hm3⟩ : ∃ m, (padB xs n k).length = m := ⟨_, rfl⟩
        have hm3n : Veil (m3 = n + 1 + zeros n + k) := veil (by rw [← hm3]; exact hm)
        have hown' : Veil (wr.ownsRow w.heap.size 5 1 (.slice A3 m3 c3) (padB xs n k).length (nums .u8 (padB xs n k))) := veil (by have h := hown; rw [hm3] at h ⊢; exact h)
        have hb' := veil hb
        rw [hm3]
        have hm3' := veil hm3
        have hz9 : zeros n < 64 := by unfold zeros; omega
        have hm0 : m3 ≤ 1000 := by rw [hm3n.out]; omega
        clear hown hm hm3 hb
        by_cases hlt : k < 8
        · obtain ⟨e, he⟩ : ∃ e : Nat, (7 - (k : Int)) = (e : Int) := ⟨7 - k, by omega⟩
          have hek : e = 7 - k := by omega
          have he7 : e ≤ 7 := by omega
          have hmin : min (8 * e) 64 = 8 * e := by omega
          rw [he]
          have hek' := veil hek
          have he' := veil he
          clear he hek
          go_wp2_with (at_builtin; refine print_append_num (w0 := w) w.heap.size rfl (.tmp 26) (.tmp 33) 22 5 .u8 1 rfl Try.underlying22 info5 (by omega) _ (padB xs n k) _ rfl rfl hown'.out hb'.out (hb'.out.size) (by rw [hm3'.out]; omega) ?_; intro v3 w3 hown4 hb4 hg4 hat4)
          rw [lenB_val n k e hek'.out hlt] at hown4
          have hown5 : w3.ownsRow w.heap.size 5 1 v3 (padB xs n (k + 1)).length (nums .u8 (padB xs n (k + 1))) := by rw [← padB_succ]; exact hown4
          have hl5 : lenV v3 = m3 + 1 := by
            obtain ⟨A2, c2, rfl⟩ := own_slice hown5
            show (padB xs n (k + 1)).length = m3 + 1
            rw [padB_len, hlen'.out, hm3n.out]; omega
          have hown5' := veil hown5
          have hb4' := veil hb4
          have hl5' := veil hl5
          clear hown4 hb4 hg4 hat4 hown5 hl5
          go_wp2
          go_roundw
          case rel => exact ⟨k + 1, by omega, by have := he'.out; rw [show (e : Int) - 1 = 7 - ((k + 1 : Nat) : Int) by omega], hown5'.out, hb4'.out⟩
          case measure =>
            have h1 := hl5'.out
            have h2 := hm3n.out
            rw [h1]
            show _ < n + 9 + zeros n - m3
            omega
        · obtain rfl : k = 8 := by omega
          go_wp2
          go_ret
          exact ⟨_, rfl, by have h := hown'.out; rw [hm3'.out] at h ⊢; exact h, hb'.out⟩
end Go.Proofs.Sha
