import Derived.Test.YtpgllpnebaonoaaRefTab
import Derived.StillTailTactics
import Derived.Test.YtpgllpnebaonoaaQTail
namespace Go.Proofs.Sha
open Go Go.RowKit Sha2 Mem QTail
set_option linter.unusedVariables false

def z8 : Array Value := #[.int .u64 0, .int .u64 0, .int .u64 0, .int .u64 0, .int .u64 0, .int .u64 0, .int .u64 0, .int .u64 0]
/-- the blocks of a call of the reference's block: h, the result, the table, k, w -/
def rl (H l : List W) : List Obj := [.cells (qvs H) 38, .cells z8 38, .cells kqs 41, .cells kqs 41, .cells (qvs l) 41]
theorem rl_cell (w : World) (H l : List W) (q j : Nat) (h : j < l.length) : (plus w (rl H l) q).cell? ⟨w.heap.size + 1 + 1 + 1 + 1, j, none⟩ = some (.int .u64 (l.getD j 0).toNat) :=
  plus_cell w (rl H l) q 4 j (qvs l) 41 _ rfl (qvs_at l j h)
theorem rl_free (w : World) (H l : List W) (q j : Nat) : (plus w (rl H l) q).frozen? ⟨w.heap.size + 1 + 1 + 1 + 1, j, none⟩ = false :=
  plus_free w (rl H l) q 4 j (qvs l) 41 rfl
theorem rl_set (w : World) (H l : List W) (q j : Nat) (x : W) : (plus w (rl H l) q).setCell ⟨w.heap.size + 1 + 1 + 1 + 1, j, none⟩ (.int .u64 x.toNat) = plus w (rl H (l.set j x)) q := by
  have := plus_setCell w (rl H l) q 4 j (qvs l) 41 (.int .u64 x.toNat) rfl
  rw [qvs_set] at this
  exact this

theorem rsched_val (x y z v : W) :
    IntKind.u64.wrap (IntKind.u64.wrap (IntKind.u64.wrap (bits .xor .u64 (bits .xor .u64 ((rotr x 7).toNat : Int) ((rotr x 18).toNat : Int)) ((x.toNat : Int) / 8) + (y.toNat : Int)) + bits .xor .u64 (bits .xor .u64 ((rotr z 17).toNat : Int) ((rotr z 19).toNat : Int)) ((z.toNat : Int) / 1024)) + (v.toNat : Int)) % 4294967296
      = ((sig0 x + y + sig1 z + v).toNat : Int) := by
  rw [shr64 x 8 3 rfl, shr64 z 1024 10 rfl, bits_xor64, bits_xor64, bits_xor64, bits_xor64, wrap64u, wrap64u, wrap64u]
  unfold sig0 sig1
  simp only [BitVec.toNat_add]
  omega
theorem pick64 (se sf sg : W) : IntKind.u64.wrap (bits .and .u64 (se.toNat : Int) (sf.toNat : Int) + bits .and .u64 (4294967295 - (se.toNat : Int)) (sg.toNat : Int)) = ((((se &&& sf) ^^^ (sg &&& ~~~se)) : W).toNat : Int) := by
  rw [not64, bits_and64, bits_and64, wrap64u, ← pick_sum, BitVec.toNat_add]
  have h1 : (se &&& sf).toNat + (~~~se &&& sg).toNat < 4294967296 := by
    have hz : (se &&& sf) &&& (~~~se &&& sg) = 0#32 := by
      apply BitVec.eq_of_getLsbD_eq
      intro i hi
      simp only [BitVec.getLsbD_and, BitVec.getLsbD_not, BitVec.getLsbD_zero]
      cases se.getLsbD i <;> cases sf.getLsbD i <;> cases sg.getLsbD i <;> simp
    rw [← BitVec.toNat_add_of_and_eq_zero hz]
    exact BitVec.isLt _
  omega
theorem two64 (a b c : W) : bits .or .u64 (bits .or .u64 (bits .and .u64 (a.toNat : Int) (b.toNat : Int)) (bits .and .u64 (a.toNat : Int) (c.toNat : Int))) (bits .and .u64 (b.toNat : Int) (c.toNat : Int)) = ((((a &&& b) ^^^ (a &&& c) ^^^ (b &&& c)) : W).toNat : Int) := by
  rw [bits_and64, bits_and64, bits_and64, bits_or64, bits_or64, two_sum]
theorem rt_val (sh se p z x : W) :
    IntKind.u64.wrap (IntKind.u64.wrap (IntKind.u64.wrap (IntKind.u64.wrap ((sh.toNat : Int) + bits .xor .u64 (bits .xor .u64 ((rotr se 6).toNat : Int) ((rotr se 11).toNat : Int)) ((rotr se 25).toNat : Int)) + (p.toNat : Int)) + (z.toNat : Int)) + (x.toNat : Int)) % 4294967296
      = ((sh + Sig1 se + p + z + x).toNat : Int) := by
  rw [bits_xor64, bits_xor64, wrap64u, wrap64u, wrap64u, wrap64u]
  unfold Sig1
  simp only [BitVec.toNat_add]
  omega
theorem ru_val (sa m : W) :
    IntKind.u64.wrap (bits .xor .u64 (bits .xor .u64 ((rotr sa 2).toNat : Int) ((rotr sa 13).toNat : Int)) ((rotr sa 22).toNat : Int) + (m.toNat : Int)) % 4294967296
      = ((Sig0 sa + m).toNat : Int) := by
  rw [bits_xor64, bits_xor64, wrap64u]
  unfold Sig0
  simp only [BitVec.toNat_add]
  omega
theorem radd_val (a b : W) : IntKind.u64.wrap ((a.toNat : Int) + (b.toNat : Int)) % 4294967296 = ((a + b).toNat : Int) := by
  rw [wrap64u, BitVec.toNat_add]
  omega
def rl5 (H l V : List W) : List Obj := rl H l ++ [.cells (qvs V) 38]
theorem ofSt_toSt (h : List W) (hh : h.length = 8) : ofSt (toSt h) = h := by
  match h, hh with
  | [a0, a1, a2, a3, a4, a5, a6, a7], _ => rfl
set_option maxRecDepth 100000 in
set_option maxHeartbeats 8000000 in
theorem rblock_any (H : List W) (hH : H.length = 8) (b off n c : Nat) (bs : Nat → Nat) (w : World) (hc : 64 ≤ n) (hc2 : c ≤ 9223372036854775807) (hn : n ≤ c) (hb : ∀ j, bs j ≤ 255)
    (hcell : ∀ j, j < 64 → w.cell? ⟨b, off + j, none⟩ = some (.int .u8 (bs j))) :
    Calls Try.prog 19 #[.agg (qvs H), .slice (some ⟨b, off, none⟩) n c] w fun e w' => e = .returned (.agg (qvs (Sha2.block H bs))) ∧ Below w.heap.size w w' := by
  have hH' := veil hH
  have hcell' := veil hcell
  have hb' := veil hb
  clear hcell hH hb
  have hbl : b < w.heap.size := by have := hcell'.out 0 (by omega); exact World.block_lt_of_cell? w _ this
  go_enter Try.func19, Try.ntmps19
  go_wp2_with (first | (go_at_call 21; refine (rtable_any _).mono ?_; rintro e w' ⟨rfl, rfl⟩) | (refine wpList_build_to rfl 41 _ rfl z64 (by kernel_rfl) ?_) | (refine wpList_store_at rfl 41 _ _ rfl kqs _ 41 _ rfl (by simp only [World.size_alloc]) rfl (by kernel_rfl) rfl (by kernel_rfl) ?_) | (refine wpList_store_at rfl 41 _ _ rfl z64 _ 41 _ rfl (by simp only [World.size_alloc]) rfl (by kernel_rfl) rfl (by kernel_rfl) ?_))
  go_loopw [7] (fun i wr => ∃ k q : Nat, k ≤ 16 ∧ i = .int .i64 k ∧ wr = plus w (rl H (schedTo bs k)) q) (fun i _ => 16 - (intOf i).toNat)
  case atStart => exact ⟨0, 0, by omega, rfl, rfl⟩
  case round =>
    obtain ⟨k, q, hk, rfl, hwr⟩ := hrel
    have hwr' := veil hwr
    clear hwr
    have hl' := veil (schedTo_length bs k)
    by_cases hlt : k < 16
    · have hr : ∀ j, j < 64 → wr.drew.cell? ⟨b, off + j, none⟩ = some (.int .u8 (bs j)) := fun j hj => by
        show wr.cell? _ = _
        rw [hwr'.out, plus_cell_old _ _ _ _ _ hbl]; exact hcell'.out _ hj
      obtain ⟨x0, hx0⟩ : ∃ x, bs (4 * k) = x := ⟨_, rfl⟩
      obtain ⟨x1, hx1⟩ : ∃ x, bs (4 * k + 1) = x := ⟨_, rfl⟩
      obtain ⟨x2, hx2⟩ : ∃ x, bs (4 * k + 2) = x := ⟨_, rfl⟩
      obtain ⟨x3, hx3⟩ : ∃ x, bs (4 * k + 3) = x := ⟨_, rfl⟩
      have hval : ((wordAt bs k).toNat : Int) = (x0 : Int) * 16777216 + (x1 : Int) * 65536 + (x2 : Int) * 256 + (x3 : Int) := by
        rw [wordAt_sum bs hb'.out, hx0, hx1, hx2, hx3]; simp
      have y0 : x0 ≤ 255 := by rw [← hx0]; exact hb'.out _
      have y1 : x1 ≤ 255 := by rw [← hx1]; exact hb'.out _
      have y2 : x2 ≤ 255 := by rw [← hx2]; exact hb'.out _
      have y3 : x3 ≤ 255 := by rw [← hx3]; exact hb'.out _
      have r0 := hr (4 * k) (by omega)
      have r1 := hr (4 * k + 1) (by omega)
      have r2 := hr (4 * k + 2) (by omega)
      have r3 := hr (4 * k + 3) (by omega)
      rw [hx0] at r0
      rw [hx1] at r1
      rw [hx2] at r2
      rw [hx3] at r3
      have g0 : wr.drew.cell? ⟨w.heap.size + 1 + 1 + 1 + 1, k, none⟩ = some (.int .u64 ((schedTo bs k).getD k 0).toNat) := by
        show wr.cell? _ = _
        rw [hwr'.out]; exact rl_cell _ _ _ _ _ (by rw [hl'.out]; omega)
      have gf : wr.drew.frozen? ⟨w.heap.size + 1 + 1 + 1 + 1, k, none⟩ = false := by
        show wr.frozen? _ = _
        rw [hwr'.out]; exact rl_free _ _ _ _ _
      have hval' := veil hval
      clear hr hx0 hx1 hx2 hx3 hval
      have e0 : IntKind.i64.wrap (4 * (k : Int)) = 4 * (k : Int) := IntWalk.i64_in _ (by omega)
      have e1 : IntKind.i64.wrap (4 * (k : Int) + 1) = 4 * (k : Int) + 1 := IntWalk.i64_in _ (by omega)
      have e2 : IntKind.i64.wrap (4 * (k : Int) + 2) = 4 * (k : Int) + 2 := IntWalk.i64_in _ (by omega)
      have e3 : IntKind.i64.wrap (4 * (k : Int) + 3) = 4 * (k : Int) + 3 := IntWalk.i64_in _ (by omega)
      have f0 : (0 : Int) ≤ 4 * (k : Int) := by omega
      have f1 : (0 : Int) ≤ 4 * (k : Int) + 1 := by omega
      have f2 : (0 : Int) ≤ 4 * (k : Int) + 2 := by omega
      have f3 : (0 : Int) ≤ 4 * (k : Int) + 3 := by omega
      have m0 : 4 * (k : Int) < (n : Int) := by omega
      have m1 : 4 * (k : Int) + 1 < (n : Int) := by omega
      have m2 : 4 * (k : Int) + 2 < (n : Int) := by omega
      have m3 : 4 * (k : Int) + 3 < (n : Int) := by omega
      have t0 : (4 * (k : Int)).toNat = 4 * k := by omega
      have t1 : (4 * (k : Int) + 1).toNat = 4 * k + 1 := by omega
      have t2 : (4 * (k : Int) + 2).toNat = 4 * k + 2 := by omega
      have t3 : (4 * (k : Int) + 3).toNat = 4 * k + 3 := by omega
      have k64 : (k : Int) < 64 := by omega
      have k0 : (0 : Int) ≤ (k : Int) := by omega
      go_wp2_with fail
      obtain ⟨w1, hw1⟩ : ∃ w1, w1 = wr.drew := ⟨_, rfl⟩
      rw [← hw1] at r0 r1 r2 r3 g0 gf
      refine wp_region_still_tail 35 (by kernel_rfl) (by kernel_rfl) ?_
      simp only [List.take_succ_cons, List.take_zero, List.drop_succ_cons, List.drop_zero]
      rw [show ({ heap := wr.heap, tape := wr.tape, drawn := wr.drawn + 1, os := wr.os, output := wr.output } : World) = w1 from hw1.symm]
      have hw1' := veil hw1
      clear hw1
      repeat still_step
      refine wpStill_nil ?_
      go_wp2
      go_roundw
      case rel =>
        refine ⟨k + 1, q + 1, by omega, by go_num, ?_⟩
        rw [← hval'.out, hw1'.out, hwr'.out, plus_drew, rl_set, schedTo_succ]
        unfold stepW
        rw [if_pos hlt]
      case measure => simp [intOf]; omega
    · obtain rfl : k = 16 := by omega
      clear hl'
      obtain ⟨wo, rfl⟩ : ∃ wo : World, wo = wr := ⟨_, rfl⟩
      go_wp2_with fail
      go_loopw [8] (fun i wr => ∃ k q : Nat, 16 ≤ k ∧ k ≤ 64 ∧ i = .int .i64 k ∧ wr = plus w (rl H (schedTo bs k)) q) (fun i _ => 64 - (intOf i).toNat)
      case atStart => exact ⟨16, q, by omega, by omega, rfl, hwr'.out⟩
      case round =>
        clear hwr'
        obtain ⟨k, q, h16, hk, rfl, hwr⟩ := hrel
        have hwr' := veil hwr
        clear hwr
        by_cases hlt : k < 64
        · have hg : ∀ j, j < 64 → wr.cell? ⟨w.heap.size + 1 + 1 + 1 + 1, j, none⟩ = some (.int .u64 ((schedTo bs k).getD j 0).toNat) := fun j hj => by
            rw [hwr'.out]; exact rl_cell _ _ _ _ _ (by rw [schedTo_length]; exact hj)
          obtain ⟨x, hx⟩ : ∃ x, (schedTo bs k).getD (k - 15) 0 = x := ⟨_, rfl⟩
          obtain ⟨y, hy⟩ : ∃ y, (schedTo bs k).getD (k - 7) 0 = y := ⟨_, rfl⟩
          obtain ⟨z, hz⟩ : ∃ z, (schedTo bs k).getD (k - 2) 0 = z := ⟨_, rfl⟩
          obtain ⟨v, hv⟩ : ∃ v, (schedTo bs k).getD (k - 16) 0 = v := ⟨_, rfl⟩
          obtain ⟨u, hu⟩ : ∃ u, (schedTo bs k).getD k 0 = u := ⟨_, rfl⟩
          have g15 := hg (k - 15) (by omega)
          have g2 := hg (k - 2) (by omega)
          have g7 := hg (k - 7) (by omega)
          have g16 := hg (k - 16) (by omega)
          have g0 := hg k hlt
          rw [hx] at g15
          rw [hy] at g7
          rw [hz] at g2
          rw [hv] at g16
          rw [hu] at g0
          have gf : wr.frozen? ⟨w.heap.size + 1 + 1 + 1 + 1, k, none⟩ = false := by rw [hwr'.out]; exact rl_free _ _ _ _ _
          have hx' := veil hx
          have hy' := veil hy
          have hz' := veil hz
          have hv' := veil hv
          clear hg hx hy hz hv hu
          have a15 : IntKind.i64.wrap ((k : Int) - 15) = (k : Int) - 15 := IntWalk.i64_in _ (by omega)
          have a2 : IntKind.i64.wrap ((k : Int) - 2) = (k : Int) - 2 := IntWalk.i64_in _ (by omega)
          have a7 : IntKind.i64.wrap ((k : Int) - 7) = (k : Int) - 7 := IntWalk.i64_in _ (by omega)
          have a16 : IntKind.i64.wrap ((k : Int) - 16) = (k : Int) - 16 := IntWalk.i64_in _ (by omega)
          have b15 : 0 ≤ (k : Int) - 15 := by omega
          have b2 : 0 ≤ (k : Int) - 2 := by omega
          have b7 : 0 ≤ (k : Int) - 7 := by omega
          have b16 : 0 ≤ (k : Int) - 16 := by omega
          have c15 : ((k : Int) - 15).toNat = k - 15 := by omega
          have c2 : ((k : Int) - 2).toNat = k - 2 := by omega
          have c7 : ((k : Int) - 7).toNat = k - 7 := by omega
          have c16 : ((k : Int) - 16).toNat = k - 16 := by omega
          have d15 : (k : Int) - 15 < 64 := by omega
          have d2 : (k : Int) - 2 < 64 := by omega
          have d7 : (k : Int) - 7 < 64 := by omega
          have d16 : (k : Int) - 16 < 64 := by omega
          have e15 : (15 : Int) ≤ k := by omega
          have e7 : (7 : Int) ≤ k := by omega
          have e2 : (2 : Int) ≤ k := by omega
          have e16 : (16 : Int) ≤ k := by omega
          have k64 : (k : Int) < 64 := by omega
          go_wp2_with fail
          refine wp_region_quiet_tail 28 (by kernel_rfl) (by kernel_rfl) ?_
          simp only [List.take_succ_cons, List.take_zero, List.drop_succ_cons, List.drop_zero]
          repeat (go_big_quiet_step ((first | (go_at_call 32; exact Calls.quiet_of (rturn_any _ _ _ (by omega) (by omega))) | (go_at_call 31; exact Calls.quiet_of_same (odd_same _ _ _ _)) | (go_at_call 30; exact Calls.quiet_of_same (whole_same _ _ (wrap64u_nonneg _))))))
          refine wpQuiet_nil ?_
          intro nq
          generalize hw1 : wr.drewN nq = w1
          have hw1' : Veil (w1 = plus w (rl H (schedTo bs k)) (q + nq)) := veil (by rw [← hw1, hwr'.out, plus_drewN])
          have g0' : w1.cell? ⟨w.heap.size + 1 + 1 + 1 + 1, k, none⟩ = some (.int .u64 u.toNat) := by rw [← hw1]; exact g0
          have gf' : w1.frozen? ⟨w.heap.size + 1 + 1 + 1 + 1, k, none⟩ = false := by rw [← hw1]; exact gf
          clear hw1 g0 gf g7 g16 g15 g2 a15 a2 a7 a16 b15 b2 b7 b16 c15 c2 c7 c16 d15 d2 d7 d16 e15 e2 e7 e16
          go_wp2
          go_roundw
          case rel =>
            refine ⟨k + 1, q + nq, by omega, by omega, by go_num, ?_⟩
            rw [rsched_val, hw1'.out, rl_set, schedTo_succ]
            unfold stepW
            rw [if_neg (by omega), hx'.out, hy'.out, hz'.out, hv'.out]
          case measure => simp [intOf]; omega
        · obtain rfl : k = 64 := by omega
          obtain ⟨wo, rfl⟩ : ∃ wo : World, wo = wr := ⟨_, rfl⟩
          have hl' := veil (schedTo_length bs 64)
          have hgH : wo.heap[w.heap.size]? = some (.cells (qvs H) 38 (0, 0)) := by rw [hwr'.out]; exact plus_at' w (rl H (schedTo bs 64)) q 0 _ rfl
          have hsz : (Try.prog.info? 38).map (·.size) = some (qvs H).size := by rw [qvs_size, hH'.out]; kernel_rfl
          have hsz2 : z8.size = (qvs H).size := by rw [qvs_size, hH'.out]; rfl
          have hos : wo.heap.size = w.heap.size + 1 + 1 + 1 + 1 + 1 := by rw [hwr'.out, plus_size]; rfl
          have v1 := veil hgH
          have v3 := veil hsz
          have v4 := veil hsz2
          have v5 := veil hos
          clear hgH hsz hsz2 hos
          go_wp2_with (first | (refine wpList_load_row rfl 38 _ rfl w.heap.size rfl 38 (qvs H) (0, 0) (.array 8 35) v1.out (by kernel_rfl) rfl v3.out ?_) | (refine wpList_store_at rfl 38 _ _ rfl (qvs H) z8 38 _ rfl rfl rfl v3.out v4.out (qvs_one H) ?_))
          have hst : wo.alloc (.cells (qvs H) 38) = plus w (rl5 H (schedTo bs 64) (ofSt (toSt H))) q := by rw [hwr'.out, ofSt_toSt H hH'.out]; exact plus_alloc _ _ _ _
          have hst' := veil hst
          clear hst v1 v3 v4 hwr'
          go_loopw [12] (fun i wr => ∃ k q : Nat, k ≤ 64 ∧ i = .int .i64 k ∧ wr = plus w (rl5 H (schedTo bs 64) (ofSt (roundsTo (schedTo bs 64) (toSt H) k))) q) (fun i _ => 64 - (intOf i).toNat)
          case atStart => exact ⟨0, q, by omega, rfl, hst'.out⟩
          case round =>
            clear hst'
            obtain ⟨i, q, hi, rfl, hwr⟩ := hrel
            obtain ⟨s, hs⟩ : ∃ s, roundsTo (schedTo bs 64) (toSt H) i = s := ⟨_, rfl⟩
            rw [hs] at hwr
            obtain ⟨sa, sb, sc, sd, se, sf, sg, sh⟩ := s
            have hwr' := veil hwr
            have hs' := veil hs
            clear hwr hs
            by_cases hlt : i < 64
            · obtain ⟨x, hx⟩ : ∃ x, (schedTo bs 64).getD i 0 = x := ⟨_, rfl⟩
              obtain ⟨z, hz⟩ : ∃ z : W, BitVec.ofNat 32 (K.getD i 0) = z := ⟨_, rfl⟩
              have gw : wr.cell? ⟨w.heap.size + 1 + 1 + 1 + 1, i, none⟩ = some (.int .u64 x.toNat) := by rw [hwr'.out, ← hx]; exact plus_cell w (rl5 _ _ _) q 4 i _ 41 _ rfl (qvs_at _ _ (by rw [hl'.out]; exact hlt))
              have gk : wr.cell? ⟨w.heap.size + 1 + 1 + 1, i, none⟩ = some (.int .u64 z.toNat) := by rw [hwr'.out, ← hz]; exact plus_cell w (rl5 _ _ _) q 3 i _ 41 _ rfl (kqs_at i hlt)
              have gv : ∀ j v, (ofSt ⟨sa, sb, sc, sd, se, sf, sg, sh⟩)[j]? = some v → wr.cell? ⟨wo.heap.size, j, none⟩ = some (.int .u64 v.toNat) := fun j v hv => by
                rw [hwr'.out, v5.out]
                obtain ⟨hj, rfl⟩ := List.getElem?_eq_some_iff.1 hv
                refine plus_cell w (rl5 _ _ _) q 5 j _ 38 _ rfl ?_
                rw [qvs_at _ _ hj]; simp [hj]
              have gv0 := gv 0 sa rfl
              have gv1 := gv 1 sb rfl
              have gv2 := gv 2 sc rfl
              have gv3 := gv 3 sd rfl
              have gv4 := gv 4 se rfl
              have gv5 := gv 5 sf rfl
              have gv6 := gv 6 sg rfl
              have gv7 := gv 7 sh rfl
              have gb : wr.heap[wo.heap.size]? = some (.cells (qvs (ofSt ⟨sa, sb, sc, sd, se, sf, sg, sh⟩)) 38 (0, 0)) := by rw [hwr'.out, v5.out]; exact plus_at' w (rl5 _ _ _) q 5 _ rfl
              have gb' := veil gb
              have hx' := veil hx
              have hz' := veil hz
              clear hx hz gv gb
              have hi0 : (0 : Int) ≤ i := by omega
              have hi1 : (i : Int) < 64 := by omega
              go_wp2_with fail
              rw [pick64, two64]
              obtain ⟨p, hp⟩ : ∃ p : W, (se &&& sf) ^^^ (sg &&& ~~~se) = p := ⟨_, rfl⟩
              obtain ⟨m2, hm2⟩ : ∃ p : W, (sa &&& sb) ^^^ (sa &&& sc) ^^^ (sb &&& sc) = p := ⟨_, rfl⟩
              rw [hp, hm2]
              have hp' := veil hp
              have hm2' := veil hm2
              clear hp hm2
              go_quiet ((first | (go_at_call 32; exact Calls.quiet_of (rturn_any _ _ _ (by omega) (by omega))) | (go_at_call 31; exact Calls.quiet_of_same (odd_same _ _ _ _)) | (go_at_call 30; exact Calls.quiet_of_same (whole_same _ _ (wrap64u_nonneg _)))))
              rw [rt_val]
              obtain ⟨T, hT⟩ : ∃ T : W, sh + Sig1 se + p + z + x = T := ⟨_, rfl⟩
              rw [hT]
              have hT' := veil hT
              clear hT
              go_wp2_with (first | (go_at_call 32; refine (rturn_any _ _ _ (by omega) (by omega)).mono ?_; rintro e w' ⟨rfl, q2, rfl⟩) | (go_at_call 31; refine (odd_any _ _ _ _).mono ?_; rintro e w' ⟨rfl, rfl⟩) | (go_at_call 30; refine (whole_any _ _ (by first | omega | exact wrap64u_nonneg _)).mono ?_; rintro e w' ⟨rfl, rfl⟩))
              rw [ru_val]
              obtain ⟨U, hU⟩ : ∃ U : W, Sig0 sa + m2 = U := ⟨_, rfl⟩
              rw [hU]
              have hU' := veil hU
              clear hU
              generalize hm9 : wr.drewN _ = w1
              obtain ⟨m9, hm9'⟩ : ∃ m, w1 = wr.drewN m := ⟨_, hm9.symm⟩
              clear hm9
              have hw1' : Veil (w1 = plus w (rl5 H (schedTo bs 64) (ofSt ⟨sa, sb, sc, sd, se, sf, sg, sh⟩)) (q + m9)) := veil (by rw [hm9', hwr'.out, plus_drewN])
              replace gv1 : w1.cell? ⟨wo.heap.size, 1, none⟩ = some (.int .u64 sb.toNat) := by rw [hm9']; exact gv1
              replace gv2 : w1.cell? ⟨wo.heap.size, 2, none⟩ = some (.int .u64 sc.toNat) := by rw [hm9']; exact gv2
              replace gv3 : w1.cell? ⟨wo.heap.size, 3, none⟩ = some (.int .u64 sd.toNat) := by rw [hm9']; exact gv3
              replace gv5 : w1.cell? ⟨wo.heap.size, 5, none⟩ = some (.int .u64 sf.toNat) := by rw [hm9']; exact gv5
              replace gv6 : w1.cell? ⟨wo.heap.size, 6, none⟩ = some (.int .u64 sg.toNat) := by rw [hm9']; exact gv6
              have gb : Veil (∀ m, (w1.drewN m).heap[wo.heap.size]? = some (.cells (qvs (ofSt ⟨sa, sb, sc, sd, se, sf, sg, sh⟩)) 38 (0, 0))) := veil (fun m => by rw [hm9']; exact gb'.out)
              clear hm9' gb' gw gk gv0 gv4 gv7
              refine wp_region_quiet_tail 19 (by kernel_rfl) (by kernel_rfl) ?_
              simp only [List.take_succ_cons, List.take_zero, List.drop_succ_cons, List.drop_zero]
              repeat (go_big_quiet_step ((first | (go_at_call 30; exact Calls.quiet_of_same (whole_same _ _ (by first | omega | exact wrap64u_nonneg _))))))
              refine wpQuiet_nil ?_
              intro nq2
              rw [add32, add32]
              refine wpList_build_to rfl 38 _ rfl (qvs (ofSt ⟨T + U, sa, sb, sc, sd + T, se, sf, sg⟩)) (by kernel_rfl) ?_
              refine wpList_store_row rfl 38 _ _ rfl wo.heap.size (qvs (ofSt ⟨T + U, sa, sb, sc, sd + T, se, sf, sg⟩)) rfl rfl 38 _ (gb.out nq2) (by kernel_rfl) rfl (qvs_one _) ?_
              go_wp2
              go_roundw
              case rel =>
                refine ⟨i + 1, q + m9 + nq2, by omega, by go_num, ?_⟩
                have hround : round (schedTo bs 64) ⟨sa, sb, sc, sd, se, sf, sg, sh⟩ i = ⟨T + U, sa, sb, sc, sd + T, se, sf, sg⟩ := by
                  unfold round
                  simp only
                  rw [← hU'.out, ← hT'.out, ← hp'.out, ← hm2'.out, ← hz'.out, ← hx'.out]
                rw [hw1'.out, plus_drewN, v5.out, roundsTo_succ, hs'.out, hround]
                exact plus_setRow w (rl5 H (schedTo bs 64) (ofSt ⟨sa, sb, sc, sd, se, sf, sg, sh⟩)) (q + m9 + nq2) 5 _ (qvs (ofSt ⟨T + U, sa, sb, sc, sd + T, se, sf, sg⟩)) 38 rfl
              case measure => simp [intOf]; omega
            · obtain rfl : i = 64 := by omega
              obtain ⟨S, hS⟩ : ∃ S, ofSt ⟨sa, sb, sc, sd, se, sf, sg, sh⟩ = S := ⟨_, rfl⟩
              have hSl : S.length = 8 := by rw [← hS]; rfl
              have hfin : addTo H S 8 = Sha2.block H bs := by rw [addTo_eight _ _ hH'.out hSl, ← hS, ← hs'.out]; rfl
              have hwr2 : wr = plus w (rl5 (addTo H S 0) (schedTo bs 64) S) q := by rw [hwr'.out, hS]; rfl
              have hfin' := veil hfin
              have hSl' := veil hSl
              have hwr2' := veil hwr2
              clear hS hfin hSl hwr2 hs' hwr'
              obtain ⟨wp, rfl⟩ : ∃ wp : World, wp = wr := ⟨_, rfl⟩
              go_wp2_with fail
              go_loopw [19] (fun i wr => ∃ k q : Nat, k ≤ 8 ∧ i = .int .i64 k ∧ wr = plus w (rl5 (addTo H S k) (schedTo bs 64) S) q) (fun i _ => 8 - (intOf i).toNat)
              case atStart => exact ⟨0, q, by omega, rfl, hwr2'.out⟩
              case round =>
                clear hwr2'
                obtain ⟨k, q, hk, rfl, hwr⟩ := hrel
                have hwr' := veil hwr
                have hal' : Veil ((addTo H S k).length = 8) := veil (by rw [addTo_length]; exact hH'.out)
                clear hwr
                by_cases hlt : k < 8
                · obtain ⟨x, hx⟩ : ∃ x, (addTo H S k).getD k 0 = x := ⟨_, rfl⟩
                  obtain ⟨y, hy⟩ : ∃ y, S.getD k 0 = y := ⟨_, rfl⟩
                  have gh : wr.cell? ⟨w.heap.size, k, none⟩ = some (.int .u64 x.toNat) := by rw [hwr'.out, ← hx]; exact plus_cell w (rl5 _ _ _) q 0 k _ 38 _ rfl (qvs_at _ _ (by rw [hal'.out]; exact hlt))
                  have gs : wr.cell? ⟨wo.heap.size, k, none⟩ = some (.int .u64 y.toNat) := by rw [hwr'.out, v5.out, ← hy]; exact plus_cell w (rl5 _ _ _) q 5 k _ 38 _ rfl (qvs_at _ _ (by rw [hSl'.out]; exact hlt))
                  have gf : wr.frozen? ⟨w.heap.size, k, none⟩ = false := by rw [hwr'.out]; exact plus_free w (rl5 _ _ _) q 0 k _ 38 rfl
                  have hx' := veil hx
                  have hy' := veil hy
                  clear hx hy
                  have hk0 : (0 : Int) ≤ k := by omega
                  have hk1 : (k : Int) < 8 := by omega
                  go_wp2_with fail
                  refine wp_region_quiet_tail 10 (by kernel_rfl) (by kernel_rfl) ?_
                  simp only [List.take_succ_cons, List.take_zero, List.drop_succ_cons, List.drop_zero]
                  repeat (go_big_quiet_step ((first | (go_at_call 30; exact Calls.quiet_of_same (whole_same _ _ (by first | omega | exact wrap64u_nonneg _))))))
                  refine wpQuiet_nil ?_
                  intro nq2
                  rw [add32]
                  generalize hm9 : wr.drewN nq2 = w1
                  have hw1' : Veil (w1 = plus w (rl5 (addTo H S k) (schedTo bs 64) S) (q + nq2)) := veil (by rw [← hm9, hwr'.out, plus_drewN])
                  replace gh : w1.cell? ⟨w.heap.size, k, none⟩ = some (.int .u64 x.toNat) := by rw [← hm9]; exact gh
                  replace gf : w1.frozen? ⟨w.heap.size, k, none⟩ = false := by rw [← hm9]; exact gf
                  clear hm9 gs
                  go_wp2
                  go_roundw
                  case rel =>
                    refine ⟨k + 1, q + nq2, by omega, by go_num, ?_⟩
                    have hset := plus_setCell w (rl5 (addTo H S k) (schedTo bs 64) S) (q + nq2) 0 k (qvs (addTo H S k)) 38 (.int .u64 (x + y).toNat) rfl
                    rw [qvs_set] at hset
                    rw [hw1'.out, addTo_succ, hx'.out, hy'.out]
                    exact hset
                  case measure => simp [intOf]; omega
                · obtain rfl : k = 8 := by omega
                  obtain ⟨F, hF⟩ : ∃ F, addTo H S 8 = F := ⟨_, rfl⟩
                  have hFl : F.length = 8 := by rw [← hF]; exact hal'.out
                  have hFb : F = Sha2.block H bs := by rw [← hF]; exact hfin'.out
                  have hgH : wr.heap[w.heap.size]? = some (.cells (qvs F) 38 (0, 0)) := by rw [hwr'.out, hF]; exact plus_at' w (rl5 F (schedTo bs 64) S) q 0 _ rfl
                  have hgR : wr.heap[w.heap.size + 1]? = some (.cells z8 38 (0, 0)) := by rw [hwr'.out]; exact plus_at' w (rl5 (addTo H S 8) (schedTo bs 64) S) q 1 _ rfl
                  have hsz : (Try.prog.info? 38).map (·.size) = some (qvs F).size := by rw [qvs_size, hFl]; kernel_rfl
                  have hsz2 : z8.size = (qvs F).size := by rw [qvs_size, hFl]; rfl
                  have hbel : Below w.heap.size w (wr.setRow (w.heap.size + 1) (qvs F)) := by rw [hwr'.out]; exact below_setRow (plus_below _ _ _) _ _ (by omega)
                  have hFb' := veil hFb
                  have v1 := veil hgH
                  have v2 := veil hgR
                  have v3 := veil hsz
                  have v4 := veil hsz2
                  have v6 := veil hbel
                  clear hF hFl hFb hgH hgR hsz hsz2 hbel
                  go_wp2_with (first | (refine wpList_load_row rfl 38 _ rfl w.heap.size rfl 38 (qvs F) (0, 0) (.array 8 35) v1.out (by kernel_rfl) rfl v3.out ?_) | (refine wpList_store_row rfl 38 _ _ rfl (w.heap.size + 1) (qvs F) rfl rfl 38 z8 v2.out v3.out v4.out (qvs_one F) ?_))
                  refine bodyPost_ret (v := .agg (qvs F)) ?_ rfl ⟨by rw [hFb'.out], v6.out⟩
                  exact results_cell_row (p := 4) (ty := 38) Try.results19 _ _ (w.heap.size + 1) 38 (qvs F) (0, 0) (.array 8 35) rfl (setRow_heap _ _ z8 _ 38 (0, 0) v2.out) (by kernel_rfl) rfl v3.out
end Go.Proofs.Sha
