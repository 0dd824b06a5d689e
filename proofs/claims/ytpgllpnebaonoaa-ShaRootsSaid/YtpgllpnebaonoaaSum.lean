import Derived.Test.YtpgllpnebaonoaaRefSum
import Derived.Test.YtpgllpnebaonoaaBlock
/- What sha.Sum tells. -/
namespace Go.Proofs.Sha
open Go Go.RowKit Sha2 Mem QTail
open Go.Proofs.YtpgllpnebaonoaaW.PrintWords
set_option linter.unusedVariables false

theorem make_cap (c : Nat) (hc : c ≤ 1000) : ∀ W : World, (Instr.makeSlice 22 (.int .i64 0) (.int .i64 (c : Int))).run Try.prog W = .ok (.slice (some ⟨W.heap.size, 0, none⟩) 0 c) (W.alloc (.cells (madeCells #[.int .u8 0] c) 5)) := by
  intro W
  obtain ⟨i, hi, hzz⟩ := Option.map_eq_some_iff.1 info5
  simp only [Prod.mk.injEq] at hzz
  obtain ⟨hz, hs, hb⟩ := hzz
  have hr := run_make (P := Try.prog) W 22 5 i (.int .u8 0) Try.underlying22 hi hz .i64 .i64 0 c (by omega) (by omega) (by rw [hb]; omega) (by omega)
  simp only [Int.toNat_natCast, hs, Nat.mul_one] at hr; exact hr
theorem own_cap0 (W : World) (base c : Nat) (hb : base ≤ W.heap.size) (hc : c ≤ 1000) : (W.alloc (.cells (madeCells #[.int .u8 0] c) 5)).ownsRow base 5 1 (.slice (some ⟨W.heap.size, 0, none⟩) 0 c) 0 (nums .u8 []) := by
  have h := own_take (own_made W base 5 .u8 c hb (by omega)) (m := 0) (Nat.zero_le _)
  simpa [nums] using h
def hws : Array Value := #[.int .u32 1779033703, .int .u32 3144134277, .int .u32 1013904242, .int .u32 2773480762, .int .u32 1359893119, .int .u32 2600822924, .int .u32 528734635, .int .u32 1541459225]
theorem hws_eq : hws = wvs Sha2.init := rfl
set_option maxRecDepth 100000 in
set_option maxHeartbeats 4000000 in
theorem sum_any (A : Option Addr) (n c : Nat) (xs : List Int) (w : World) (hn : n ≤ 300) (hc : n ≤ c) (HR : ReadsInt w .u8 A n xs) (hx : Bytes xs) :
    Calls Try.prog 9 #[.slice A n c] w fun e w' => e = .returned (.agg (outCells (Sha2.sum (xs.map Int.toNat)))) ∧ Below w.heap.size w w' := by
  have HR' := veil HR
  have hlen : xs.length = n := HR.1
  have hlen' := veil hlen
  have hx' := veil hx
  clear HR hlen hx
  obtain ⟨wz, hwz⟩ : ∃ wz : World, wz = (w.alloc (.cells z32 25)).alloc (.cells hws 34) := ⟨_, rfl⟩
  have hwz' := veil hwz
  obtain ⟨mc, hmc⟩ : ∃ mc : Nat, n + 128 = mc := ⟨_, rfl⟩
  have hmc1 : IntKind.i64.wrap ((n : Int) + 128) = (mc : Int) := by rw [IntWalk.i64_in _ (by omega)]; omega
  have hmc9 : mc ≤ 1000 := by omega
  have hmk := make_cap mc hmc9
  clear hwz hmc
  have e2 : ((w.alloc (.cells z32 25)).alloc (.cells hws 34)).heap.size = w.heap.size + 1 + 1 := by simp only [World.size_alloc]
  have hown0 := veil (show (((w.alloc (.cells z32 25)).alloc (.cells hws 34)).alloc (.cells (madeCells #[.int .u8 0] mc) 5)).ownsRow (w.heap.size + 1 + 1) 5 1 (.slice (some ⟨w.heap.size + 1 + 1, 0, none⟩) 0 mc) 0 (nums .u8 []) by
    have h := own_cap0 ((w.alloc (.cells z32 25)).alloc (.cells hws 34)) (w.heap.size + 1 + 1) mc (by rw [e2]; exact Nat.le_refl _) hmc9
    rw [e2] at h; exact h)
  have HB0 := veil (show Below (w.heap.size + 1 + 1) ((w.alloc (.cells z32 25)).alloc (.cells hws 34)) (((w.alloc (.cells z32 25)).alloc (.cells hws 34)).alloc (.cells (madeCells #[.int .u8 0] mc) 5)) from by
    have h := below_alloc (Below.refl ((w.alloc (.cells z32 25)).alloc (.cells hws 34)).heap.size _) (.cells (madeCells #[.int .u8 0] mc) 5)
    rw [e2] at h; exact h)
  have HRz := veil (show ReadsInt (((w.alloc (.cells z32 25)).alloc (.cells hws 34)).alloc (.cells (madeCells #[.int .u8 0] mc) 5)) .u8 A n xs from
    ((HR'.out.below (below_alloc (Below.refl w.heap.size w) (.cells z32 25))).below (below_alloc (Below.refl _ _) (.cells hws 34))).below (below_alloc (Below.refl _ _) _))
  clear e2
  go_enter Try.func9, Try.ntmps9
  go_wp2_with (first
    | (refine wpList_store_at rfl 34 _ _ rfl hws #[.int .u32 0, .int .u32 0, .int .u32 0, .int .u32 0, .int .u32 0, .int .u32 0, .int .u32 0, .int .u32 0] 34 _ rfl (by simp only [World.size_alloc]) rfl (by kernel_rfl) rfl (by kernel_rfl) ?_)
    | (at_builtin; (refine print_append_row (w0 := (w.alloc (.cells z32 25)).alloc (.cells hws 34)) (w.heap.size + 1 + 1) rfl (.tmp 12) (.tmp 13) 22 5 .u8 1 rfl Try.underlying22 info5 (by omega) _ [] xs A n c rfl rfl hown0.out HRz.out HB0.out (by simp only [World.size_alloc]; omega) (by simp; omega) ?_); intro v1 w1 hown1 hb1 hg1 hat1)
    | (at_builtin; refine print_append_num (w0 := (w.alloc (.cells z32 25)).alloc (.cells hws 34)) (w.heap.size + 1 + 1) rfl (.tmp 14) (.tmp 15) 22 5 .u8 1 rfl Try.underlying22 info5 (by omega) _ ([] ++ xs) 128 rfl rfl hown1 hb1 (by have := hb1.size; simp only [World.size_alloc] at this; exact this) (by have := hlen'.out; simp; omega) ?_; intro v2 w2 hown2 hb2 hg2 hat2))
  have hwz2 : wz.heap.size = w.heap.size + 1 + 1 := by rw [hwz'.out]; simp only [World.size_alloc]
  have hown3 : w2.ownsRow wz.heap.size 5 1 v2 (padZ xs 0).length (nums .u8 (padZ xs 0)) := by rw [hwz2]; simpa [padZ] using hown2
  have hb2 : Below wz.heap.size wz w2 := by rw [hwz2, hwz'.out]; exact hb2
  have hwz2' := veil hwz2
  clear hown0 HB0 HRz hmk hmc1 hmc9 hwz2
  have hown3' := veil hown3
  have hb2' := veil hb2
  clear hown1 hb1 hg1 hat1 hown2 hb2 hg2 hat2 hown3
  go_loopw [4] (fun v wr => ∃ k : Nat, k ≤ zeros n ∧ wr.ownsRow wz.heap.size 5 1 v (padZ xs k).length (nums .u8 (padZ xs k)) ∧ Below wz.heap.size wz wr) (fun v _ => n + 1 + zeros n - lenV v)
  case atStart => exact ⟨0, by omega, hown3'.out, hb2'.out⟩
  case round =>
    obtain ⟨k, hk, hown, hb⟩ := hrel
    obtain ⟨A1, c1, rfl⟩ := own_slice hown
    have hm : (padZ xs k).length = n + 1 + k := by rw [padZ_len, hlen'.out]
    obtain ⟨m, hm2⟩ : ∃ m, (padZ xs k).length = m := ⟨_, rfl⟩
    have hmn : m = n + 1 + k := by rw [← hm2]; exact hm
    have hown' : Veil (wr.ownsRow wz.heap.size 5 1 (.slice A1 m c1) (padZ xs k).length (nums .u8 (padZ xs k))) := veil (by have h := hown; rw [hm2] at h ⊢; exact h)
    have hb' := veil hb
    rw [hm2]
    have hm2' := veil hm2
    have hmn' := veil hmn
    have hm0 : m ≤ 1000 := by rw [hmn]; unfold zeros at hk; omega
    clear hown hm hm2 hown3' hb2'
    by_cases hlt : k < zeros n
    · have ht : ((m : Int) % 64 != 56) = true := by
        rw [bne_iff_ne]; unfold zeros at hlt; omega
      clear hmn hb
      go_wp2_with (at_builtin; refine print_append_num (w0 := wz) wz.heap.size rfl (.tmp 21) (.tmp 22) 22 5 .u8 1 rfl Try.underlying22 info5 (by omega) _ (padZ xs k) 0 rfl rfl hown'.out hb'.out (hb'.out.size) (by rw [hm2'.out]; omega) ?_; intro v3 w3 hown4 hb4 hg4 hat4)
      have hown5 : w3.ownsRow wz.heap.size 5 1 v3 (padZ xs (k + 1)).length (nums .u8 (padZ xs (k + 1))) := by rw [← padZ_succ]; exact hown4
      have hl5 : lenV v3 = m + 1 := by
        obtain ⟨A2, c2, rfl⟩ := own_slice hown5
        show (padZ xs (k + 1)).length = m + 1
        rw [padZ_len, hlen'.out, hmn'.out]; omega
      have hown5' := veil hown5
      have hb4' := veil hb4
      have hl5' := veil hl5
      clear hown4 hb4 hg4 hat4 hown5 hl5
      go_wp2
      go_roundw
      case rel => exact ⟨k + 1, by omega, hown5'.out, hb4'.out⟩
      case measure =>
        have h1 := hl5'.out
        have h2 := hmn'.out
        rw [h1]
        show _ < n + 1 + zeros n - m
        omega
    · have hke : k = zeros n := by omega
      have ht : ((m : Int) % 64 != 56) = false := by
        rw [bne_eq_false_iff_eq]; rw [hke] at hmn; unfold zeros at hmn; omega
      clear hmn hb
      have hown6 : wr.ownsRow wz.heap.size 5 1 (.slice A1 m c1) (padB xs n 0).length (nums .u8 (padB xs n 0)) := by
        have h := hown'.out; rw [hke] at h; simpa [padB, padZ] using h
      have hown6' := veil hown6
      clear hown6
      obtain ⟨wo, rfl⟩ : ∃ wo : World, wo = wr := ⟨_, rfl⟩
      go_wp2_with fail
      go_loopw [4, 5] (fun v i wr => ∃ k : Nat, k ≤ 8 ∧ i = .int .i64 (56 - 8 * (k : Int)) ∧ wr.ownsRow wz.heap.size 5 1 v (padB xs n k).length (nums .u8 (padB xs n k)) ∧ Below wz.heap.size wz wr) (fun v _ _ => n + 9 + zeros n - lenV v)
      case atStart => exact ⟨0, by omega, rfl, hown6'.out, hb'.out⟩
      case round =>
        obtain ⟨k, hk, rfl, hown, hb⟩ := hrel
        obtain ⟨A3, c3, rfl⟩ := own_slice hown
        have hm : (padB xs n k).length = n + 1 + zeros n + k := by rw [padB_len, hlen'.out]
        obtain ⟨m3, hm3⟩ : ∃ m, (padB xs n k).length = m := ⟨_, rfl⟩
        have hm3n : Veil (m3 = n + 1 + zeros n + k) := veil (by rw [← hm3]; exact hm)
        have hown' : Veil (wr.ownsRow wz.heap.size 5 1 (.slice A3 m3 c3) (padB xs n k).length (nums .u8 (padB xs n k))) := veil (by have h := hown; rw [hm3] at h ⊢; exact h)
        have hb' := veil hb
        rw [hm3]
        have hm3' := veil hm3
        have hz9 : zeros n < 64 := by unfold zeros; omega
        have hm0 : m3 ≤ 1000 := by rw [hm3n.out]; omega
        clear hown hm hm3 hb
        by_cases hlt : k < 8
        · obtain ⟨e, he⟩ : ∃ e : Nat, (56 - 8 * (k : Int)) = (e : Int) := ⟨56 - 8 * k, by omega⟩
          have hek : e = 56 - 8 * k := by omega
          have he7 : e ≤ 56 := by omega
          have hmin : min e 64 = e := by omega
          rw [he]
          have hek' := veil hek
          have he' := veil he
          clear he hek
          go_wp2_with (at_builtin; refine print_append_num (w0 := wz) wz.heap.size rfl (.tmp 28) (.tmp 36) 22 5 .u8 1 rfl Try.underlying22 info5 (by omega) _ (padB xs n k) _ rfl rfl hown'.out hb'.out (hb'.out.size) (by rw [hm3'.out]; omega) ?_; intro v3 w3 hown4 hb4 hg4 hat4)
          rw [show (n : Int) * 8 / 2 ^ e % 256 = lenB n k by rw [hek'.out]; unfold lenB; simp] at hown4
          have hown5 : w3.ownsRow wz.heap.size 5 1 v3 (padB xs n (k + 1)).length (nums .u8 (padB xs n (k + 1))) := by rw [← padB_succ]; exact hown4
          have hl5 : lenV v3 = m3 + 1 := by
            obtain ⟨A2, c2, rfl⟩ := own_slice hown5
            show (padB xs n (k + 1)).length = m3 + 1
            rw [padB_len, hlen'.out, hm3n.out]; omega
          have hown5' := veil hown5
          have hb4' := veil hb4
          have hl5' := veil hl5
          clear hown4 hb4 hg4 hat4 hown5 hl5
          go_wp2
          go_roundw
          case rel => exact ⟨k + 1, by omega, by have := he'.out; rw [show (e : Int) - 8 = 56 - 8 * ((k + 1 : Nat) : Int) by omega], hown5'.out, hb4'.out⟩
          case measure =>
            have h1 := hl5'.out
            have h2 := hm3n.out
            rw [h1]
            show _ < n + 9 + zeros n - m3
            omega
        · obtain rfl : k = 8 := by omega
          obtain ⟨wp, rfl⟩ : ∃ wp : World, wp = wr := ⟨_, rfl⟩
          obtain ⟨P, hP⟩ : ∃ P, padB xs n 8 = P := ⟨_, rfl⟩
          have hown6 := hown'.out
          have hm9 := hm3'.out
          have hbz := hb'.out
          rw [hP] at hown6 hm9
          rw [hm9] at hown6
          have hPb : Bytes P := by rw [← hP]; exact padB_bytes hx'.out _ _
          obtain ⟨nb, hnb⟩ : ∃ nb, m3 = 64 * nb := ⟨m3 / 64, by rw [hm3n.out]; have := pad_len n; omega⟩
          have hpos : 0 < m3 := by rw [hm3n.out]; omega
          have hnb9 : nb ≤ 9 := by have := hm3n.out; omega
          obtain ⟨g, c1, hsl, hgb, hgl⟩ := hown6.form hpos
          rw [hsl] at hown6 ⊢
          obtain ⟨hc1, hc2⟩ := own_cap hown6
          have hbw : Below w.heap.size w wz := by rw [hwz'.out]; exact (below_alloc (Below.refl w.heap.size w) (.cells z32 25)).alloc (by simp) _
          have t1 := veil (show wp.heap[w.heap.size + 1]? = some (.cells (wvs Sha2.init) 34 (0, 0)) by
            rw [hbz.block _ (by rw [hwz2'.out]; omega), hwz'.out, ← hws_eq]; exact heap_alloc2_new w _ _)
          have t2 := veil (show wp.heap[w.heap.size]? = some (.cells z32 25 (0, 0)) by
            rw [hbz.block _ (by rw [hwz2'.out]; omega), hwz'.out, heap_alloc_old _ _ (by simp only [World.size_alloc]; omega)]; exact heap_alloc_last w _)
          have t3 := veil (hbw.trans (hbz.mono hbw.size))
          have t4 := veil hown6
          have hP' := veil hP
          have hPb' := veil hPb
          have hnb' := veil hnb
          have hm' := veil hm9
          have hgb' : w.heap.size + 1 + 1 ≤ g := by have := hwz2'.out; omega
          clear hP hPb hnb hm9 hown6 hbz hbw hown' hb' hm3' hm3n hsl hm0
          go_wp2_with fail
          go_loopw [4] (fun v wr => ∃ k off c' : Nat, k ≤ nb ∧ v = .slice (some ⟨g, off, none⟩) (m3 - 64 * k) c' ∧ (k < nb → off = 64 * k) ∧ m3 - 64 * k ≤ c' ∧ c' ≤ c1 ∧ wr.ownsRow wz.heap.size 5 1 (.slice (some ⟨g, 0, none⟩) m3 c1) m3 (nums .u8 P) ∧ Below w.heap.size w wr ∧ wr.heap[w.heap.size + 1]? = some (.cells (wvs (blocks (fnOf P) Sha2.init k)) 34 (0, 0)) ∧ wr.heap[w.heap.size]? = some (.cells z32 25 (0, 0))) (fun v _ => lenV v)
          case atStart => exact ⟨0, 0, c1, by omega, rfl, fun _ => rfl, hc1, Nat.le_refl _, t4.out, t3.out, t1.out, t2.out⟩
          case round =>
            obtain ⟨k, off, c', hk, rfl, hoff, hlc, hcc, hown, hb, hh, hr⟩ := hrel
            clear t1 t2 t3 t4
            have hown' := veil hown
            have hb' := veil hb
            have hr' := veil hr
            have hHl : Veil ((blocks (fnOf P) Sha2.init k).length = 8) := veil (blocks_length _ _ rfl _)
            obtain ⟨H, hH⟩ : ∃ H, blocks (fnOf P) Sha2.init k = H := ⟨_, rfl⟩
            rw [hH] at hh hHl
            have hh' := veil hh
            have hH' := veil hH
            have hcs : g < wr.heap.size := by have := own_lt hown g rfl; exact this
            clear hown hb hh hr hH
            by_cases hlt : k < nb
            · obtain rfl := hoff hlt
              obtain ⟨l, hl⟩ : ∃ l, m3 - 64 * k = l := ⟨_, rfl⟩
              have hl64 : 64 ≤ l := by have := hnb'.out; omega
              have hlm : l ≤ m3 := by omega
              have hl' := veil hl
              rw [hl] at hlc ⊢
              clear hl hoff
              obtain ⟨j, hj⟩ : ∃ j, 64 * k = j := ⟨_, rfl⟩
              rw [hj]
              have hj' := veil hj
              clear hj
              have hj9 : (j : Int) ≤ 576 := by have := hj'.out; omega
              have hsz := veil (show (Try.prog.info? 34).map (·.size) = some (wvs H).size by rw [wvs_size, hHl.out]; kernel_rfl)
              have hcl := veil (show ∀ i, i < 64 → wr.cell? ⟨g, j + i, none⟩ = some (.int .u8 ((fnOf P (j + i) : Nat) : Int)) from fun i hi => by
                rw [fnOf_cast hPb'.out]
                exact (own_at hown'.out ((j + i : Nat) : Int) (by omega) (by have := hj'.out; have := hl'.out; omega)).1)
              have hB2 := veil (blk_lt hh'.out)
              go_wp2_with (first | (refine wpList_load_row rfl 34 _ rfl (w.heap.size + 1) rfl 34 (wvs H) (0, 0) (.array 8 33) hh'.out (by kernel_rfl) rfl hsz.out ?_) | (go_at_call 16; refine (block_any H hHl.out g j l c' (fun i => fnOf P (j + i)) wr (by omega) (by omega) (by omega) (fun i => fnOf_le hPb'.out _) hcl.out).mono ?_; rintro e w3 ⟨rfl, hb3⟩) | (refine wpList_store_row rfl 34 _ _ rfl (w.heap.size + 1) (wvs (Sha2.block H fun i => fnOf P (j + i))) rfl rfl 34 (wvs H) ((hb3.block _ hB2.out).trans hh'.out) (by rw [wvs_size, block_length _ _ hHl.out]; kernel_rfl) (by rw [wvs_size, wvs_size, block_length _ _ hHl.out, hHl.out]) (wvs_one _) ?_))
              all_goals
                have g3 : w3.heap[w.heap.size + 1]? = some (.cells (wvs H) 34 (0, 0)) := (hb3.block _ hB2.out).trans hh'.out
                have o3 := pw_own_below hown'.out hb3
                have r3 := (hb3.block _ (blk_lt hr'.out)).trans hr'.out
                have q1 := hl'.out
                have q2 := hj'.out
                have q3 := hnb'.out
                have b3 := below_setRow (hb'.out.trans (hb3.mono hb'.out.size)) (w.heap.size + 1) (wvs (Sha2.block H fun i => fnOf P (j + i))) (by omega)
                refine ⟨⟨k + 1, by omega, _, _, ⟨rfl, by omega, rfl⟩, fun h => by omega, by omega, by omega, own_setRow o3 g3 (by decide), b3, ?_, ?_⟩, ?_⟩
                · rw [setRow_heap _ _ _ _ _ _ g3, blocks_succ, hH'.out, hj'.out]
                · rw [setRow_other _ _ _ _ (by omega)]; exact r3
                · simp only [lenV]; omega
            · obtain rfl : k = nb := by omega
              have hl0 : m3 - 64 * k = 0 := by have := hnb'.out; omega
              rw [hl0]
              clear hl0 hlc hoff
              obtain ⟨wp, rfl⟩ : ∃ wp : World, wp = wr := ⟨_, rfl⟩
              go_wp2_with fail
              go_loopw [46] (fun i wi => ∃ k q : Nat, k ≤ 32 ∧ i = .int .i64 k ∧ wi = plus wp [.cells (fill (Sha2.bytesOf H) k) 25 (0, 0)] q) (fun i _ => 32 - (intOf i).toNat)
              case atStart => exact ⟨0, 0, by omega, rfl, rfl⟩
              case round =>
                obtain ⟨k, q, hk, rfl, hwi⟩ := hrel
                have hwi' := veil hwi
                clear hwi
                by_cases hlt : k < 32
                · obtain ⟨x, hx⟩ : ∃ x, H.getD (k / 4) 0 = x := ⟨_, rfl⟩
                  have hx' := veil hx
                  have gh : wr.cell? ⟨w.heap.size + 1, k / 4, none⟩ = some (.int .u32 x.toNat) := by
                    rw [hwi'.out, plus_cell_old _ _ _ _ _ (blk_lt hh'.out), cell_of_row _ _ _ _ _ _ hh'.out, ← hx]; exact wvs_at _ _ (by rw [hHl.out]; omega)
                  have gc : wr.cell? ⟨wp.heap.size, k, none⟩ = some (.int .u8 0) := by rw [hwi'.out]; exact plus_cell wp _ q 0 k _ 25 _ rfl (fill_at _ _ _ (Nat.le_refl _) hlt)
                  have gf : wr.frozen? ⟨wp.heap.size, k, none⟩ = false := by rw [hwi'.out]; exact plus_free wp _ q 0 k _ 25 rfl
                  clear hx
                  have hk0 : (0 : Int) ≤ k := by omega
                  have hk1 : (k : Int) < 32 := by omega
                  go_wp2_with fail
                  go_roundw
                  case rel =>
                    refine ⟨k + 1, q, by omega, by go_num, ?_⟩
                    have hset := plus_setCell wp [.cells (fill (Sha2.bytesOf H) k) 25 (0, 0)] q 0 k (fill (Sha2.bytesOf H) k) 25 (.int .u8 (((Sha2.bytesOf H).getD k 0 : Nat) : Int)) rfl
                    rw [fill_set] at hset
                    rw [hwi'.out, show ((x.toNat : Int) / 2 ^ (24 - 8 * (k % 4)) % 256) = ((x.toNat / 2 ^ (24 - 8 * (k % 4)) % 256 : Nat) : Int) by simp, ← hx'.out, ← bytesOf_at H k hlt]
                    exact hset
                  case measure => simp [intOf]; omega
                · obtain rfl : k = 32 := by omega
                  have hF : Veil (fill (Sha2.bytesOf H) 32 = outCells (Sha2.bytesOf H)) := veil (fill_all _ (bytesOf_length _))
                  have hO := veil (show wr.heap[wp.heap.size]? = some (.cells (outCells (Sha2.bytesOf H)) 25 (0, 0)) by rw [hwi'.out, hF.out]; exact plus_at' wp _ q 0 _ rfl)
                  have hR := veil (show wr.heap[w.heap.size]? = some (.cells z32 25 (0, 0)) by rw [hwi'.out, plus_old _ _ _ _ (blk_lt hr'.out)]; exact hr'.out)
                  have hsz := veil (show (Try.prog.info? 25).map (·.size) = some (outCells (Sha2.bytesOf H)).size by rw [← hF.out]; simp only [fill]; kernel_rfl)
                  go_wp2_with (first | (refine wpList_load_row rfl 25 _ rfl wp.heap.size rfl 25 (outCells (Sha2.bytesOf H)) (0, 0) (.array 32 5) hO.out (by kernel_rfl) rfl hsz.out ?_) | (refine wpList_store_row rfl 25 _ _ rfl w.heap.size (outCells (Sha2.bytesOf H)) rfl rfl 25 z32 hR.out hsz.out (by rw [← hF.out]; simp [fill, z32]) (outCells_one _) ?_))
                  have hS : Sha2.bytesOf H = Sha2.sum (xs.map Int.toNat) := by
                    rw [← hH'.out, ← hP'.out]
                    exact sum_eq hx'.out n _ hlen'.out (by rw [hP'.out, hm'.out]; exact hnb'.out)
                  have hB : Below w.heap.size w (wr.setRow w.heap.size (outCells (Sha2.bytesOf H))) := by
                    rw [hwi'.out]
                    exact below_setRow (hb'.out.trans ((plus_below wp _ q).mono hb'.out.size)) _ _ (by omega)
                  refine bodyPost_ret (v := .agg (outCells (Sha2.bytesOf H))) ?_ rfl ⟨by rw [hS], hB⟩
                  exact results_cell_row (p := 2) (ty := 25) Try.results9 _ _ w.heap.size 25 (outCells (Sha2.bytesOf H)) (0, 0) (.array 32 5) rfl (setRow_heap _ _ z32 _ 25 (0, 0) hR.out) (by kernel_rfl) rfl hsz.out
end Go.Proofs.Sha
