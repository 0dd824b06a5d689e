import Derived.Test.YtpgllpnebaonoaaFits
import Derived.Test.YtpgllpnebaonoaaNear
/- What the reference's primes and Roots tell; the law of the roots tells true. -/
namespace Go.Proofs.Sha
open Go Go.RowKit Rt2 Mem QTail Near
open Go.Proofs.YtpgllpnebaonoaaW.PrintWords
set_option linter.unusedVariables false

def KL : List Nat := [0x428a2f98, 0x71374491, 0xb5c0fbcf, 0xe9b5dba5, 0x3956c25b, 0x59f111f1, 0x923f82a4, 0xab1c5ed5, 0xd807aa98, 0x12835b01, 0x243185be, 0x550c7dc3, 0x72be5d74, 0x80deb1fe, 0x9bdc06a7, 0xc19bf174, 0xe49b69c1, 0xefbe4786, 0x0fc19dc6, 0x240ca1cc, 0x2de92c6f, 0x4a7484aa, 0x5cb0a9dc, 0x76f988da, 0x983e5152, 0xa831c66d, 0xb00327c8, 0xbf597fc7, 0xc6e00bf3, 0xd5a79147, 0x06ca6351, 0x14292967, 0x27b70a85, 0x2e1b2138, 0x4d2c6dfc, 0x53380d13, 0x650a7354, 0x766a0abb, 0x81c2c92e, 0x92722c85, 0xa2bfe8a1, 0xa81a664b, 0xc24b8b70, 0xc76c51a3, 0xd192e819, 0xd6990624, 0xf40e3585, 0x106aa070, 0x19a4c116, 0x1e376c08, 0x2748774c, 0x34b0bcb5, 0x391c0cb3, 0x4ed8aa4a, 0x5b9cca4f, 0x682e6ff3, 0x748f82ee, 0x78a5636f, 0x84c87814, 0x8cc70208, 0x90befffa, 0xa4506ceb, 0xbef9a3f7, 0xc67178f2]
def HL : List Nat := [0x6a09e667, 0xbb67ae85, 0x3c6ef372, 0xa54ff53a, 0x510e527f, 0x9b05688c, 0x1f83d9ab, 0x5be0cd19]
theorem kqs_nvs : kqs = nvs KL := rfl
theorem hqs_nvs : hqs = nvs HL := rfl
theorem z64_nvs : z64 = nvs (outp 2) := by rw [show outp 2 = List.replicate 64 0 from by unfold outp; rw [cnt_end.2]; rfl]; rfl
theorem outp_end : outp 312 = PR := by unfold outp; rw [cnt_end.1]; rfl
theorem info41 (l : List Nat) (h : l.length = 64) : (Try.prog.info? 41).map (·.size) = some (nvs l).size := by rw [nvs_size, h]; kernel_rfl
theorem root_k (j : Nat) (h : j < 64) : Rt2.root (PR.getD j 0) 3 = KL.getD j 0 := roots3 ⟨j, h⟩
theorem root_h (j : Nat) (h : j < 8) : Rt2.root (PR.getD j 0) 2 = HL.getD j 0 := roots2 ⟨j, h⟩
theorem PR_small : ∀ j : Fin 64, PR.getD j.val 0 < 65536 := by decide
def pl (p : Nat) : List Obj := [.cells z64 41, .cells (nvs (outp p)) 41]
theorem none_two (p : Nat) : none_below p 2 = true := by simp [none_below, List.range_succ]
set_option maxRecDepth 100000 in
set_option maxHeartbeats 8000000 in
theorem primes_any (w : World) : Calls Try.prog 20 #[] w fun e w' => e = .returned (.agg (nvs PR)) ∧ Below w.heap.size w w' := by
  go_enter Try.func20, Try.ntmps20
  go_wp2_with (first | (refine wpList_build_to rfl 41 _ rfl z64 (by kernel_rfl) ?_) | (refine wpList_store_at rfl 41 _ _ rfl z64 _ 41 _ rfl (by simp only [World.size_alloc]) rfl (by kernel_rfl) rfl (by kernel_rfl) ?_))
  go_loopw [2, 3] (fun n v wr => ∃ p : Nat, 2 ≤ p ∧ p ≤ 312 ∧ n = .int .i64 ((cnt p : Nat) : Int) ∧ v = .int .u64 (p : Int) ∧ wr = plus w (pl p) 0) (fun _ v _ => 312 - (intOf v).toNat)
  case atStart => exact ⟨2, by omega, by omega, by rw [cnt_end.2]; rfl, rfl, by unfold pl; rw [← z64_nvs]; rfl⟩
  case round =>
    obtain ⟨p, hp2, hp, rfl, rfl, hwr⟩ := hrel
    have hwr' := veil hwr
    clear hwr
    by_cases hlt : p < 312
    · obtain ⟨h1, h2, h3⟩ := cnt_all ⟨p, hlt⟩
      simp only at h1 h2 h3
      obtain ⟨c, hc⟩ : ∃ c, cnt p = c := ⟨_, rfl⟩
      have hol := outp_len p
      have g1 : wr.cell? ⟨w.heap.size + 1, c, none⟩ = some (.int .u64 (((outp p).getD c 0 : Nat) : Int)) := by
        rw [hwr'.out]; exact plus_cell w (pl p) 0 1 c _ 41 _ rfl (nvs_at _ _ (by rw [hol]; omega))
      have gf : wr.frozen? ⟨w.heap.size + 1, c, none⟩ = false := by rw [hwr'.out]; exact plus_free w (pl p) 0 1 c _ 41 rfl
      have hset := plus_setCell w (pl p) 0 1 c (nvs (outp p)) 41 (.int .u64 (p : Int)) rfl
      rw [nvs_set] at hset
      have hset' := veil hset
      rw [hc] at h1 h2 h3 ⊢
      have h1' := veil h1
      have h2' := veil h2
      have hc' := veil hc
      have c0 : (0 : Int) ≤ c := by omega
      have c64 : (c : Int) < 64 := by omega
      clear hset h1 h2 h3 hc hol
      obtain ⟨wo, rfl⟩ : ∃ wo : World, wo = wr := ⟨_, rfl⟩
      go_wp2_with fail
      go_loop [4, 5] (fun b d => ∃ j : Nat, 2 ≤ j ∧ j ≤ p ∧ b = .bool (none_below p j) ∧ d = .int .u64 (j : Int)) (fun _ d => 312 - (intOf d).toNat)
      case atStart => exact ⟨2, by omega, hp2, by rw [none_two], rfl⟩
      case round =>
        obtain ⟨j, hj2, hj, rfl, rfl⟩ := hrel
        have hs := none_succ p j hj2
        by_cases hlj : j < p
        · obtain ⟨b, hb⟩ : ∃ b, none_below p j = b := ⟨_, rfl⟩
          rw [hb] at hs ⊢
          have d0 : (0 : Int) < j := by omega
          have d1 : (j : Int) ≠ 0 := by omega
          have p0 : (0 : Int) ≤ p := by omega
          cases b
          · have hs' := veil hs
            clear hs hb
            go_wp2_with fail
            go_round
            case rel => exact ⟨j + 1, by omega, by omega, by rw [hs'.out]; simp, by go_num⟩
            case measure => simp [intOf]; omega
          · by_cases hz : p % j = 0
            · have hs' := veil hs
              have hz' := veil hz
              have hzi : ((p : Int) % (j : Int) != 0) = false := by rw [bne_eq_false_iff_eq]; omega
              clear hs hb hz
              go_wp2_with fail
              go_round
              case rel => exact ⟨j + 1, by omega, by omega, by rw [hs'.out, decide_eq_false (by rw [hz'.out]; simp)]; rfl, by go_num⟩
              case measure => simp [intOf]; omega
            · have hs' := veil hs
              have hz' := veil hz
              have hzi : ((p : Int) % (j : Int) != 0) = true := by rw [bne_iff_ne]; omega
              clear hs hb hz
              go_wp2_with fail
              go_round
              case rel => exact ⟨j + 1, by omega, by omega, by rw [hs'.out, decide_eq_true hz'.out]; rfl, by go_num⟩
              case measure => simp [intOf]; omega
        · obtain rfl : j = p := by omega
          obtain ⟨b, hb⟩ : ∃ b, none_below j j = b := ⟨_, rfl⟩
          rw [hb]
          have p0 : (0 : Int) ≤ j := by omega
          clear hs
          cases b
          · have hn := veil (h2'.out hp2 hb)
            have ho : Veil (outp (j + 1) = outp j) := veil (by unfold outp; rw [hn.out, hc'.out])
            clear hb
            go_wp2_with fail
            refine ⟨⟨j + 1, by omega, by omega, by rw [hn.out], by go_num, by rw [hwr'.out]; unfold pl; rw [ho.out]⟩, ?_⟩
            simp [intOf]; omega
          · have hn := veil (h1'.out hp2 hb).1
            have ho := veil (outp_set j hlt hp2 hb)
            clear hb
            go_wp2_with fail
            refine ⟨⟨j + 1, by omega, by omega, by rw [hn.out]; go_num, by go_num, ?_⟩, ?_⟩
            · rw [hwr'.out]
              have h := hset'.out
              rw [← hc'.out] at h ⊢
              rw [ho.out] at h
              exact h
            · simp [intOf]; omega
    · obtain rfl : p = 312 := by omega
      rw [cnt_end.1]
      have hO := veil (show wr.heap[w.heap.size + 1]? = some (.cells (nvs PR) 41 (0, 0)) by rw [hwr'.out, ← outp_end]; exact plus_at' w (pl 312) 0 1 _ rfl)
      have hR := veil (show wr.heap[w.heap.size]? = some (.cells z64 41 (0, 0)) by rw [hwr'.out]; exact plus_at' w (pl 312) 0 0 _ rfl)
      have ip := veil (info41 PR rfl)
      go_wp2_with (first | (refine wpList_load_row rfl 41 _ rfl (w.heap.size + 1) rfl 41 (nvs PR) (0, 0) (.array 64 35) hO.out (by kernel_rfl) rfl ip.out ?_) | (refine wpList_store_row rfl 41 _ _ rfl w.heap.size (nvs PR) rfl rfl 41 z64 hR.out ip.out (by rw [nvs_size]; rfl) (nvs_one _) ?_))
      have hB : Below w.heap.size w (wr.setRow w.heap.size (nvs PR)) := by
        rw [hwr'.out]
        exact below_setRow (plus_below w _ 0) _ _ (Nat.le_refl _)
      refine bodyPost_ret (v := .agg (nvs PR)) ?_ rfl ⟨rfl, hB⟩
      exact results_cell_row (p := 0) (ty := 41) Try.results20 _ _ w.heap.size 41 (nvs PR) (0, 0) (.array 64 35) rfl (setRow_heap _ _ z64 _ 41 (0, 0) hR.out) (by kernel_rfl) rfl ip.out
theorem root3_any (p r : Nat) (w : World) (hp : p < 65536) (h : Rt2.root p 3 = r) : Calls Try.prog 22 #[.int .u64 p, .int .i64 3] w fun e w' => e = .returned (.int .u64 (r : Int)) ∧ Below w.heap.size w w' := by
  have := root_any p 3 w hp (by omega) (by omega)
  unfold RootIs at this
  rw [h] at this
  exact this
theorem root2_any (p r : Nat) (w : World) (hp : p < 65536) (h : Rt2.root p 2 = r) : Calls Try.prog 22 #[.int .u64 p, .int .i64 2] w fun e w' => e = .returned (.int .u64 (r : Int)) ∧ Below w.heap.size w w' := by
  have := root_any p 2 w hp (by omega) (by omega)
  unfold RootIs at this
  rw [h] at this
  exact this
theorem two_below {a b c : World} (h1 : Below a.heap.size a b) (h2 : Below b.heap.size b c) : Below a.heap.size a c := h1.trans (h2.mono h1.size)
set_option maxRecDepth 100000 in
set_option maxHeartbeats 8000000 in
theorem roots_any (w : World) : Calls Try.prog 11 #[] w (Fit true w) := by
  have ip := veil (info41 PR rfl)
  go_enter Try.func11, Try.ntmps11
  go_wp2_with fail
  refine (primes_any _).mono ?_
  rintro e w1 ⟨rfl, hb1⟩
  have hb1' := veil hb1
  clear hb1
  go_wp2_with (first | (go_at_call 21; refine (rtable_any _).mono ?_; rintro e w' ⟨rfl, rfl⟩) | (go_at_call 18; refine (rfirst_any _).mono ?_; rintro e w' ⟨rfl, rfl⟩) | (refine wpList_store_at rfl 41 _ _ rfl (nvs PR) z64 41 _ rfl rfl rfl ip.out (by rw [nvs_size]; rfl) (nvs_one _) ?_) | (refine wpList_store_at rfl 41 _ _ rfl kqs _ 41 _ rfl (by simp only [World.size_alloc]) rfl (by kernel_rfl) rfl (by kernel_rfl) ?_) | (refine wpList_store_at rfl 38 _ _ rfl hqs _ 38 _ rfl (by simp only [World.size_alloc]) rfl (by kernel_rfl) rfl (by kernel_rfl) ?_))
  go_loopw [4] (fun i wr => ∃ j : Nat, j ≤ 64 ∧ i = .int .i64 j ∧ Below w.heap.size w wr ∧ wr.heap[w1.heap.size]? = some (.cells (nvs PR) 41 (0, 0)) ∧ wr.heap[w1.heap.size + 1 + 1]? = some (.cells kqs 41 (0, 0)) ∧ wr.heap[w1.heap.size + 1 + 1 + 1 + 1]? = some (.cells hqs 38 (0, 0))) (fun i _ => 64 - (intOf i).toNat)
  case atStart =>
    have hp := plus_below w1 [.cells (nvs PR) 41, .cells kqs 41, .cells kqs 41, .cells hqs 38, .cells hqs 38] 0
    exact ⟨0, by omega, rfl, hb1'.out.trans (hp.mono hb1'.out.size), plus_at' w1 [.cells (nvs PR) 41, .cells kqs 41, .cells kqs 41, .cells hqs 38, .cells hqs 38] 0 0 _ rfl, plus_at' w1 [.cells (nvs PR) 41, .cells kqs 41, .cells kqs 41, .cells hqs 38, .cells hqs 38] 0 2 _ rfl, plus_at' w1 [.cells (nvs PR) 41, .cells kqs 41, .cells kqs 41, .cells hqs 38, .cells hqs 38] 0 4 _ rfl⟩
  case round =>
    obtain ⟨j, hj, rfl, hb, h1, h2, h3⟩ := hrel
    have hb' := veil hb
    have h1' := veil h1
    have h2' := veil h2
    have h3' := veil h3
    clear hb h1 h2 h3
    by_cases hlt : j < 64
    · obtain ⟨p, hp⟩ : ∃ p, PR.getD j 0 = p := ⟨_, rfl⟩
      obtain ⟨x, hx⟩ : ∃ x, KL.getD j 0 = x := ⟨_, rfl⟩
      have r3 := veil (root_k j hlt)
      rw [hp, hx] at r3
      have hps : p < 65536 := by rw [← hp]; exact PR_small ⟨j, hlt⟩
      have c1 : wr.cell? ⟨w1.heap.size, j, none⟩ = some (.int .u64 (p : Int)) := by rw [cell_of_row _ _ _ _ _ _ h1'.out, ← hp]; exact nvs_at _ _ hlt
      have c2 : wr.cell? ⟨w1.heap.size + 1 + 1, j, none⟩ = some (.int .u64 (x : Int)) := by rw [cell_of_row _ _ _ _ _ _ h2'.out, ← hx, kqs_nvs]; exact nvs_at _ _ hlt
      have hp' := veil hp
      have hx' := veil hx
      have hps' := veil hps
      clear hp hx hps
      have j0 : (0 : Int) ≤ j := by omega
      have j64 : (j : Int) < 64 := by omega
      have n1 : ((x : Int) != (x : Int)) = false := by simp
      by_cases h8 : j < 8
      · obtain ⟨y, hy⟩ : ∃ y, HL.getD j 0 = y := ⟨_, rfl⟩
        have r2 := veil (root_h j h8)
        rw [hp'.out, hy] at r2
        have c3 : wr.cell? ⟨w1.heap.size + 1 + 1 + 1 + 1, j, none⟩ = some (.int .u64 (y : Int)) := by rw [cell_of_row _ _ _ _ _ _ h3'.out, ← hy, hqs_nvs]; exact nvs_at _ _ h8
        have hy' := veil hy
        have n2 : ((y : Int) != (y : Int)) = false := by simp
        have j8 : (j : Int) < 8 := by omega
        have d1 : w1.heap.size ≠ w1.heap.size + 1 + 1 := by omega
        clear hy d1
        have s1 := near_cell c1
        have s2 := near_cell c2
        have s3 := near_cell c3
        go_wp2_with fail
        refine wp_region_near (by kernel_rfl) (by kernel_rfl) ?_
        repeat (go_big_quiet_step (first | (go_at_call_of 22 (Value.int .i64 3); exact near_call (root3_any p x _ hps'.out r3.out)) | (go_at_call_of 22 (Value.int .i64 2); exact near_call (root2_any p y _ hps'.out r2.out))))
        refine wpQuiet_nil ?_
        intro un
        have hX' := veil un.2
        generalize un.1 = wx at hX' ⊢
        clear un c1 c2 c3 s1 s2 s3
        go_wp2_with fail
        go_roundw
        case rel => exact ⟨j + 1, by omega, by go_num, two_below hb'.out hX'.out, (hX'.out.block _ (blk_lt h1'.out)).trans h1'.out, (hX'.out.block _ (blk_lt h2'.out)).trans h2'.out, (hX'.out.block _ (blk_lt h3'.out)).trans h3'.out⟩
        case measure => simp [intOf]; omega
      · have j8 : ¬ (j : Int) < 8 := by omega
        have j9 : decide ((j : Int) < 8) = false := by simp; omega
        have j10 : decide (j < 8) = false := by simp; omega
        have s1 := near_cell c1
        have s2 := near_cell c2
        go_wp2_with fail
        refine wp_region_near (by kernel_rfl) (by kernel_rfl) ?_
        repeat (go_big_quiet_step (first | (go_at_call_of 22 (Value.int .i64 3); exact near_call (root3_any p x _ hps'.out r3.out))))
        refine wpQuiet_nil ?_
        intro un
        have hX' := veil un.2
        generalize un.1 = wx at hX' ⊢
        clear un c1 c2 s1 s2
        go_wp2_with fail
        go_roundw
        case rel => exact ⟨j + 1, by omega, by go_num, two_below hb'.out hX'.out, (hX'.out.block _ (blk_lt h1'.out)).trans h1'.out, (hX'.out.block _ (blk_lt h2'.out)).trans h2'.out, (hX'.out.block _ (blk_lt h3'.out)).trans h3'.out⟩
        case measure => simp [intOf]; omega
    · obtain rfl : j = 64 := by omega
      go_wp2_with fail
      go_ret
      exact ⟨rfl, hb'.out⟩
theorem fit_true {w w' : World} {e : Ending} (h : Fit true w e w') : e = .returned (.bool true) ∧ Below w.heap.size w w' := h
set_option maxHeartbeats 4000000 in
theorem lawRoots_any (c n : Int) (w : World) (hc0 : 0 ≤ c) (hc : c ≤ 255) (hn0 : 0 ≤ n) (hn : n ≤ 255) :
    Calls Try.prog 4 #[.int .u8 c, .int .u8 n] w (YesBelow w) := by
  obtain ⟨m, hm⟩ : ∃ m : Nat, n % 131 = (m : Int) := ⟨(n % 131).toNat, by omega⟩
  have hm9 : m ≤ 130 := by omega
  go_enter Try.func4, Try.ntmps4
  go_wp2_with fail
  refine (shown_any _).mono ?_
  rintro e w1 ⟨rfl, hb1⟩
  have hb1' := veil hb1
  have hm' := veil hm
  clear hb1 hm
  have hown0 : Veil ((w1.alloc (.cells #[] 5)).ownsRow w.heap.size 5 1 (.slice (some ⟨w1.heap.size, 0, none⟩) 0 0) 0 (nums .u8 [])) := veil (own_lit w1 w.heap.size 5 .u8 [] hb1'.out.size (by simp))
  have hb0 := veil (below_alloc hb1'.out (.cells #[] 5))
  go_wp2_with fail
  go_loopw [6, 7] (fun v i wr => ∃ k : Nat, k ≤ m ∧ i = .int .i64 k ∧ wr.ownsRow w.heap.size 5 1 v (List.replicate k c).length (nums .u8 (List.replicate k c)) ∧ Below w.heap.size w wr) (fun _ i _ => m - (intOf i).toNat)
  case atStart => exact ⟨0, by omega, rfl, hown0.out, hb0.out⟩
  case round =>
    obtain ⟨k, hk, rfl, hown, hb⟩ := hrel
    obtain ⟨A1, c1, rfl⟩ := own_slice hown
    have hcap := Go.Proofs.YtpgllpnebaonoaaW.PrintWords.own_cap hown
    have hown' : Veil (wr.ownsRow w.heap.size 5 1 (.slice A1 k c1) (List.replicate k c).length (nums .u8 (List.replicate k c))) := veil (by have h := hown; rw [List.length_replicate] at h ⊢; exact h)
    have hb' := veil hb
    rw [List.length_replicate] at hcap ⊢
    clear hown hb
    by_cases hlt : k < m
    · have t1 : (k : Int) < n % 131 := by rw [hm'.out]; omega
      go_wp2_with (at_builtin; refine print_append_num (w0 := w) w.heap.size rfl (.tmp 18) (.tmp 20) 22 5 .u8 1 rfl Try.underlying22 info5 (by omega) _ (List.replicate k c) c rfl rfl hown'.out hb'.out (hb'.out.size) (by simp; omega) ?_; intro v3 w3 hown4 hb4 hg4 hat4)
      rw [show List.replicate k c ++ [c] = List.replicate (k + 1) c from by rw [List.replicate_succ']] at hown4
      have hown5 := veil hown4
      have hb5 := veil hb4
      clear hown4 hb4 hg4 hat4
      go_wp2_with fail
      go_roundw
      case rel => exact ⟨k + 1, by omega, by go_num, hown5.out, hb5.out⟩
      case measure => simp [intOf]; omega
    · obtain rfl : k = m := by omega
      have t1 : ¬ (k : Int) < n % 131 := by rw [hm'.out]; omega
      have hr := own_reads' (A := A1) (c := c1) (by have h := hown'.out; rw [List.length_replicate] at h; exact h)
      have hr' := veil hr
      have hx : Veil (Bytes (List.replicate k c)) := veil (fun x hx => by rw [List.mem_replicate] at hx; omega)
      obtain ⟨z, hz⟩ : ∃ z, outCells (Sha2.sum ((List.replicate k c).map Int.toNat)) = z := ⟨_, rfl⟩
      have hz' := veil hz
      clear hr hz
      go_wp2_with fail
      refine (roots_any _).mono ?_
      rintro e w2 h2
      obtain ⟨rfl, hb2⟩ := fit_true h2
      have hr2 := veil (hr'.out.below hb2)
      have hb2' := veil (two_below hb'.out hb2)
      clear h2 hb2 hr'
      go_wp2_with fail
      refine (sum_any A1 k c1 _ _ (by omega) hcap hr2.out hx.out).mono ?_
      rintro e w3 ⟨rfl, hb3⟩
      rw [hz'.out]
      have hr3 := veil (hr2.out.below hb3)
      have hb3' := veil (two_below hb2'.out hb3)
      clear hb3 hr2
      go_wp2_with fail
      refine (rsum_any A1 k c1 _ _ (by omega) hcap hr3.out hx.out).mono ?_
      rintro e w4 ⟨rfl, hb4⟩
      rw [hz'.out]
      have hb4' := veil (two_below hb3'.out hb4)
      clear hb4
      have hq := eql_same z (fun i hi => by rw [← hz'.out]; exact outCells_at _ i (by rw [sum_length]; exact hi))
      go_wp2_with fail
      go_ret
      exact ⟨rfl, hb4'.out⟩
theorem roots_walk (a b : Int) (w : World) (ha : (Lit.int .u8 a).wf = true) (hb : (Lit.int .u8 b).wf = true) :
    Calls Try.prog 4 #[.int .u8 a, .int .u8 b] w fun e w' => e = .returned (.bool true) ∧ Below w.heap.size w w' := by
  have h1 := bytes_of_wf (l := [a, b]) (by intro x hx; simp at hx; rcases hx with rfl | rfl <;> assumption)
  have h2 := h1 a (by simp)
  have h3 := h1 b (by simp)
  exact lawRoots_any a b w h2.1 h2.2 h3.1 h3.2
end Go.Proofs.Sha
