import Derived.Test.YtpgllpnebaonoaaDig
/- What the reference's fits and root tell. -/
namespace Go.Proofs.Sha
open Go Go.RowKit Rt2 Mem QTail
open Go.Proofs.YtpgllpnebaonoaaW.PrintWords
set_option linter.unusedVariables false

def want (p k : Nat) : List Nat := (List.replicate 16 0).set (2 * k) p
theorem rep_getD (n : Nat) : (List.replicate 16 0).getD n 0 = 0 := by
  rw [List.getD_eq_getElem?_getD, List.getElem?_replicate]; split <;> rfl
theorem want_len (p k : Nat) : (want p k).length = 16 := by simp [want]
theorem want_dig (p k : Nat) (h : p < 65536) : Dig (want p k) := dig_set (fun d hd => by rw [List.mem_replicate] at hd; omega) _ _ h
theorem want_val (p k : Nat) (hk : k ≤ 3) : val (want p k) = p * 65536 ^ (2 * k) := by
  have h := val_set (List.replicate 16 0) (2 * k) p (by simp; omega)
  rw [val_zeros] at h
  have e : (List.replicate 16 0).getD (2 * k) 0 = 0 := by
    rw [List.getD_eq_getElem?_getD, List.getElem?_replicate]; split <;> rfl
  rw [e] at h
  rw [want, Nat.mul_comm p]
  omega
theorem pow_fits (x k : Nat) (hx : x < 18446744073709551616) (hk : k ≤ 3) : x ^ k % 65536 ^ 16 = x ^ k := by
  apply Nat.mod_eq_of_lt
  have h1 : x ^ k ≤ 18446744073709551616 ^ k := Nat.pow_le_pow_left (by omega) k
  have h2 : 18446744073709551616 ^ k ≤ 18446744073709551616 ^ 3 := Nat.pow_le_pow_right (by omega) hk
  have h3 : 18446744073709551616 ^ 3 < 65536 ^ 16 := by decide
  omega
theorem pow_step {x i : Nat} {l a : List Nat} (hl : val l = x ^ i % 65536 ^ 16) (ha : val a = x) : (val l * val a) % 65536 ^ 16 = x ^ (i + 1) % 65536 ^ 16 := by
  rw [hl, ha, Nat.mod_mul_mod, ← Nat.pow_succ (n := x)]
def Fit (b : Bool) (w : World) (e : Ending) (w' : World) : Prop := e = .returned (.bool b) ∧ Below w.heap.size w w'
set_option maxRecDepth 100000 in
set_option maxHeartbeats 8000000 in
theorem fits_any (x p k : Nat) (w : World) (hx : x < 18446744073709551616) (hp : p < 65536) (hk1 : 1 ≤ k) (hk : k ≤ 3) :
    Calls Try.prog 33 #[.int .u64 x, .int .u64 p, .int .i64 k] w (Fit (decide (x ^ k ≤ p * 65536 ^ (2 * k))) w) := by
  have hx' := veil hx
  have hp' := veil hp
  obtain ⟨R, hR⟩ : ∃ R, decide (x ^ k ≤ p * 65536 ^ (2 * k)) = R := ⟨_, rfl⟩
  rw [hR]
  have hR' := veil hR
  clear hx hp hR
  have hav : val (digs x 4) = x := by rw [digs_val]; exact Nat.mod_eq_of_lt (by have := hx'.out; omega)
  obtain ⟨a, ha⟩ : ∃ a, digs x 4 = a := ⟨_, rfl⟩
  have hal : a.length = 16 := by rw [← ha]; exact digs_len x 4 (by omega)
  have had : Dig a := by rw [← ha]; exact digs_dig x 4
  rw [ha] at hav
  have ha' := veil ha
  have hav' := veil hav
  have hal' := veil hal
  have had' := veil had
  have ia := veil (info61 a hal)
  clear ha hav hal had
  go_enter Try.func33, Try.ntmps33
  go_wp2_with fail
  refine (digits_any x _ hx'.out).mono ?_
  rintro e w1 ⟨rfl, hb1⟩
  rw [ha'.out]
  have hb1' := veil hb1
  clear hb1
  go_wp2_with (first | (refine wpList_store_at rfl 61 _ _ rfl (nvs a) z16 61 _ rfl (by simp only [World.size_alloc]) rfl ia.out (by rw [nvs_size, hal'.out]; rfl) (nvs_one _) ?_) | (refine wpList_load_row rfl 61 _ rfl w1.heap.size rfl 61 (nvs a) (0, 0) (.array 16 35) (heap_alloc_last w1 _) (by kernel_rfl) rfl ia.out ?_))
  have hB0 := veil ((hb1'.out.alloc hb1'.out.size (.cells (nvs a) 61)).alloc (by have := hb1'.out.size; simp only [World.size_alloc]; omega) (.cells (nvs a) 61))
  go_loopw [9] (fun i wr => ∃ (j : Nat) (l : List Nat), 1 ≤ j ∧ j ≤ k ∧ i = .int .i64 j ∧ l.length = 16 ∧ Dig l ∧ val l = x ^ j % 65536 ^ 16 ∧ Below w.heap.size w wr ∧ w1.heap.size + 1 + 1 ≤ wr.heap.size ∧ wr.heap[w1.heap.size]? = some (.cells (nvs a) 61 (0, 0)) ∧ wr.heap[w1.heap.size + 1]? = some (.cells (nvs l) 61 (0, 0))) (fun i _ => k - (intOf i).toNat)
  case atStart => exact ⟨1, a, by omega, hk1, rfl, hal'.out, had'.out, by rw [hav'.out, Nat.pow_one, Nat.mod_eq_of_lt (by have := hx'.out; omega)], hB0.out, by simp only [World.size_alloc]; omega, heap_alloc2_old _ _ _, heap_alloc2_new _ _ _⟩
  case round =>
    obtain ⟨j, l, hj1, hj, rfl, hl, hd, hv, hb, hs, h7, h8⟩ := hrel
    have hl' := veil hl
    have hd' := veil hd
    have hv' := veil hv
    have hb' := veil hb
    have h7' := veil h7
    have h8' := veil h8
    have il := veil (info61 l hl)
    clear hl hd hv hb h7 h8
    by_cases hlt : j < k
    · go_wp2_with (first | (refine wpList_load_row rfl 61 _ rfl (w1.heap.size + 1) rfl 61 (nvs l) (0, 0) (.array 16 35) h8'.out (by kernel_rfl) rfl il.out ?_) | (refine wpList_load_row rfl 61 _ rfl w1.heap.size rfl 61 (nvs a) (0, 0) (.array 16 35) h7'.out (by kernel_rfl) rfl ia.out ?_))
      refine (times_any l a _ hl'.out hal'.out hd'.out had'.out).mono ?_
      rintro e w2 ⟨r, rfl, hr, hdr, hvr, hb2⟩
      have ir := veil (info61 r hr)
      have h72 := veil ((hb2.block _ (by omega)).trans h7'.out)
      have h82 := veil ((hb2.block _ (by omega)).trans h8'.out)
      have hb2' := veil (hb'.out.trans (hb2.mono hb'.out.size))
      have hs2 : w1.heap.size + 1 + 1 ≤ w2.heap.size := by have := hb2.size; omega
      have hr' := veil hr
      have hdr' := veil hdr
      have hvr' := veil hvr
      have hg : w.heap.size ≤ w1.heap.size := hb1'.out.size
      clear hr hdr hvr hb2
      go_wp2_with (refine wpList_store_row rfl 61 _ _ rfl (w1.heap.size + 1) (nvs r) rfl rfl 61 (nvs l) h82.out ir.out (by rw [nvs_size, nvs_size, hr'.out, hl'.out]) (nvs_one _) ?_)
      go_roundw
      case rel => exact ⟨j + 1, r, by omega, by omega, by go_num, hr'.out, hdr'.out, by rw [hvr'.out]; exact pow_step hv'.out hav'.out, below_setRow hb2'.out _ _ (by omega), by rw [setRow_size]; exact hs2, by rw [setRow_other _ _ _ _ (by omega)]; exact h72.out, setRow_heap _ _ _ _ _ _ h82.out⟩
      case measure => simp [intOf]; omega
    · obtain rfl : j = k := by omega
      obtain ⟨wp, rfl⟩ : ∃ wp : World, wp = wr := ⟨_, rfl⟩
      have hvx := hv'.out
      rw [pow_fits x j hx'.out hk] at hvx
      have hR2 : decide (val l ≤ val (want p j)) = R := by rw [hvx, want_val p j hk]; exact hR'.out
      have hR3 := veil hR2
      have iw := veil (info61 (want p j) (want_len p j))
      have gz : (wp.alloc (.cells z16 61)).cell? ⟨wp.heap.size, 2 * j, none⟩ = some (.int .u64 0) := by
        rw [cell_of_row _ _ _ _ _ _ (heap_alloc_last wp _), z16_zero, nvs_at _ _ (by simp; omega)]
        rw [rep_getD]; rfl
      clear hvx hR2
      go_wp2_with (first | (refine wpList_build_to rfl 61 _ rfl z16 (by kernel_rfl) ?_) | (refine wpList_store_at rfl 61 _ _ rfl z16 z16 61 _ rfl rfl rfl (by kernel_rfl) rfl (by kernel_rfl) ?_))
      rw [show z16.setIfInBounds (2 * j) (.int .u64 (p : Int)) = nvs (want p j) from by rw [z16_zero, nvs_set]; rfl]
      have o8 : (wp.alloc (.cells (nvs (want p j)) 61)).heap[w1.heap.size + 1]? = some (.cells (nvs l) 61 (0, 0)) := by rw [heap_alloc_old _ _ (by omega)]; exact h8'.out
      have o9 := heap_alloc_last wp (.cells (nvs (want p j)) 61)
      have hB2 := veil (hb'.out.alloc hb'.out.size (.cells (nvs (want p j)) 61))
      generalize wp.alloc (.cells (nvs (want p j)) 61) = W2 at o8 o9 hB2 ⊢
      have o8' := veil o8
      have o9' := veil o9
      clear o8 o9 gz
      go_loopw [11] (fun i wr => ∃ n q : Nat, n ≤ 16 ∧ i = .int .i64 ((n : Int) - 1) ∧ l.drop n = (want p j).drop n ∧ wr = W2.drewN q) (fun i _ => (intOf i + 1).toNat)
      case atStart => exact ⟨16, 0, by omega, rfl, by rw [List.drop_of_length_le (by rw [hl'.out]; omega), List.drop_of_length_le (by rw [want_len]; omega)], rfl⟩
      case round =>
        obtain ⟨n, q, hn, rfl, he, rfl⟩ := hrel
        have he' := veil he
        clear he
        rcases Nat.eq_zero_or_pos n with rfl | hpos
        · have hRt : Veil (R = true) := veil (by
            have h := he'.out
            rw [List.drop_zero, List.drop_zero] at h
            rw [← hR3.out, h]
            simp)
          go_wp2_with fail
          go_ret
          exact ⟨by rw [hRt.out]; rfl, pw_below_drewN hB2.out q⟩
        · obtain ⟨m, rfl⟩ : ∃ m, n = m + 1 := ⟨n - 1, by omega⟩
          rw [show (((m + 1 : Nat) : Int) - 1) = (m : Int) by omega]
          obtain ⟨y, hy⟩ : ∃ y, l.getD m 0 = y := ⟨_, rfl⟩
          obtain ⟨z, hz⟩ : ∃ z, (want p j).getD m 0 = z := ⟨_, rfl⟩
          have g8 : W2.cell? ⟨w1.heap.size + 1, m, none⟩ = some (.int .u64 (y : Int)) := by rw [cell_of_row _ _ _ _ _ _ o8'.out, ← hy]; exact nvs_at _ _ (by rw [hl'.out]; omega)
          have g9 : W2.cell? ⟨wp.heap.size, m, none⟩ = some (.int .u64 (z : Int)) := by rw [cell_of_row _ _ _ _ _ _ o9'.out, ← hz]; exact nvs_at _ _ (by rw [want_len]; omega)
          have hy' := veil hy
          have hz' := veil hz
          clear hy hz
          have m0 : (0 : Int) ≤ m := by omega
          have m16 : (m : Int) < 16 := by omega
          by_cases hyz : y = z
          · subst hyz
            have hne : ((y : Int) != (y : Int)) = false := by simp
            have hdr := veil (drop_same hl'.out (want_len p j) (by omega) he'.out (by rw [hy'.out, hz'.out]))
            go_wp2_with fail
            go_quiet (fail)
            go_wp2_with fail
            go_roundw
            case rel => exact ⟨m, q + nq, by omega, by rfl, hdr.out, by rfl⟩
            case measure => simp [intOf]
          · have hne : ((y : Int) != (z : Int)) = true := by rw [bne_iff_ne]; omega
            have hRd : Veil (R = decide (y < z)) := veil (by
              rw [← hR3.out]
              by_cases hlt2 : y < z
              · have h := cmp_lt hl'.out (want_len p j) hd'.out (want_dig p j hp'.out) (by omega) he'.out (by rw [hy'.out, hz'.out]; exact hlt2)
                rw [decide_eq_true (Nat.le_of_lt h), decide_eq_true hlt2]
              · have h := cmp_lt (want_len p j) hl'.out (want_dig p j hp'.out) hd'.out (by omega) he'.out.symm (by rw [hy'.out, hz'.out]; omega)
                rw [decide_eq_false (by omega), decide_eq_false hlt2])
            go_wp2_with fail
            go_quiet (fail)
            go_wp2_with fail
            go_quiet (fail)
            go_wp2_with fail
            go_ret
            exact ⟨by rw [hRd.out]; rfl, pw_below_drewN (pw_below_drewN (pw_below_drewN hB2.out _) _) _⟩
/-- a root, and what was stays -/
def RootIs (p k : Nat) (w : World) (e : Ending) (w' : World) : Prop := e = .returned (.int .u64 ((Rt2.root p k : Nat) : Int)) ∧ Below w.heap.size w w'
theorem whole_nat (x : Nat) (w : World) : Calls Try.prog 30 #[.int .u64 (x : Int)] w fun e w' => e = .returned (.int .u64 ((x % 4294967296 : Nat) : Int)) ∧ w' = w := by
  have h := whole_same (x : Int) w (by omega)
  rwa [show ((x : Int) % 4294967296) = ((x % 4294967296 : Nat) : Int) by omega] at h
set_option maxHeartbeats 4000000 in
theorem root_any (p k : Nat) (w : World) (hp : p < 65536) (hk1 : 1 ≤ k) (hk : k ≤ 3) : Calls Try.prog 22 #[.int .u64 p, .int .i64 k] w (RootIs p k w) := by
  have hp' := veil hp
  clear hp
  go_enter Try.func22, Try.ntmps22
  go_wp2_with fail
  go_loopw [5, 6] (fun lo b wr => ∃ j : Nat, j ≤ 37 ∧ lo = .int .u64 ((Rt2.rl p k j : Nat) : Int) ∧ b = .int .u64 ((68719476736 / 2 ^ j : Nat) : Int) ∧ Below w.heap.size w wr) (fun _ b _ => (intOf b).toNat)
  case atStart => exact ⟨0, by omega, rfl, by simp, Below.refl _ _⟩
  case round =>
    obtain ⟨j, hj, rfl, rfl, hb⟩ := hrel
    have hb' := veil hb
    clear hb
    obtain ⟨bit, hbit⟩ : ∃ b, 68719476736 / 2 ^ j = b := ⟨_, rfl⟩
    obtain ⟨lo, hlo⟩ : ∃ b, Rt2.rl p k j = b := ⟨_, rfl⟩
    have hbd := rl_bound p k j
    rw [hbit, hlo] at hbd
    rw [hbit, hlo]
    have hbd' := veil hbd
    have hbit' := veil hbit
    have hlo' := veil hlo
    clear hbit hlo hbd
    by_cases hlt : j < 37
    · have hpos : 0 < bit := by
        rw [← hbit'.out]
        exact Nat.div_pos (by have : (2 : Nat) ^ j ≤ 2 ^ 36 := Nat.pow_le_pow_right (by omega) (by omega); omega) (Nat.pow_pos (by omega))
      have hb0 : (0 : Int) < bit := by omega
      have hl0 : (0 : Int) ≤ lo := by omega
      obtain ⟨x, hxx⟩ : ∃ x, lo + bit = x := ⟨_, rfl⟩
      have hx9 : x < 18446744073709551616 := by have := hbd'.out; omega
      have e1 : IntKind.u64.wrap ((lo : Int) + (bit : Int)) = (x : Int) := by rw [IntKind.wrap_u64]; omega
      have hx9' := veil hx9
      have hxx' := veil hxx
      have e2 : Veil (68719476736 / 2 ^ (j + 1) = bit / 2) := veil (by rw [← hbit'.out, Nat.pow_succ, Nat.div_div_eq_div_mul])
      have e3 : Veil (IntKind.u64.wrap ((bit : Int) / 2) = ((bit / 2 : Nat) : Int)) := veil (by
        rw [IntKind.wrap_u64]
        have : bit ≤ 68719476736 := by rw [← hbit'.out]; exact Nat.div_le_self _ _
        omega)
      clear hx9 hxx hpos
      by_cases hfit : x ^ k ≤ p * 65536 ^ (2 * k)
      · have hd := veil (decide_eq_true hfit)
        have hr : Veil (Rt2.rl p k (j + 1) = x) := veil (by simp only [Rt2.rl]; rw [hlo'.out, hbit'.out, hxx'.out, if_pos hfit])
        clear hfit
        go_wp2_with fail
        refine (fits_any x p k _ hx9'.out hp'.out hk1 hk).mono ?_
        rintro e w2 ⟨rfl, hb2⟩
        rw [hd.out]
        have hb2' := veil (hb'.out.trans (hb2.mono hb'.out.size))
        clear hb2
        go_wp2_with fail
        refine ⟨⟨j + 1, by omega, by rw [hr.out], by rw [e2.out]; first | rw [e3.out] | (congr 1; omega), hb2'.out⟩, ?_⟩
        simp only [intOf]
        have := e3.out
        omega
      · have hd := veil (decide_eq_false hfit)
        have hr : Veil (Rt2.rl p k (j + 1) = lo) := veil (by simp only [Rt2.rl]; rw [hlo'.out, hbit'.out, hxx'.out, if_neg hfit])
        clear hfit
        go_wp2_with fail
        refine (fits_any x p k _ hx9'.out hp'.out hk1 hk).mono ?_
        rintro e w2 ⟨rfl, hb2⟩
        rw [hd.out]
        have hb2' := veil (hb'.out.trans (hb2.mono hb'.out.size))
        clear hb2
        go_wp2_with fail
        refine ⟨⟨j + 1, by omega, by rw [hr.out], by rw [e2.out]; first | rw [e3.out] | (congr 1; omega), hb2'.out⟩, ?_⟩
        simp only [intOf]
        have := e3.out
        omega
    · obtain rfl : j = 37 := by omega
      obtain rfl : bit = 0 := by rw [← hbit'.out]
      go_wp2_with fail
      refine (whole_nat lo _).mono ?_
      rintro e w2 ⟨rfl, rfl⟩
      go_wp2_with fail
      go_ret
      exact ⟨by rw [← hlo'.out]; rfl, hb'.out⟩
end Go.Proofs.Sha
