import Derived.Test.YtpgllpnebaonoaaSumsLaw
import Derived.Test.YtpgllpnebaonoaaRootMath
/- What the reference's digits and times tell. -/
namespace Go.Proofs.Sha
open Go Go.RowKit Rt2 Mem QTail
open Go.Proofs.YtpgllpnebaonoaaW.PrintWords
set_option linter.unusedVariables false

def nvs (l : List Nat) : Array Value := (l.map fun (n : Nat) => Value.int .u64 (n : Int)).toArray
theorem nvs_at (l : List Nat) (j : Nat) (h : j < l.length) : (nvs l)[j]? = some (.int .u64 ((l.getD j 0 : Nat) : Int)) := by
  simp [nvs, h]
theorem nvs_set (l : List Nat) (j x : Nat) : (nvs l).setIfInBounds j (.int .u64 (x : Int)) = nvs (l.set j x) := by
  unfold nvs
  rw [List.map_set]
  simp
theorem nvs_size (l : List Nat) : (nvs l).size = l.length := by simp [nvs]
theorem nvs_one (l : List Nat) : (nvs l).all (·.oneCell') = true := by simp [nvs, Value.oneCell']
def z16 : Array Value := #[.int .u64 0, .int .u64 0, .int .u64 0, .int .u64 0, .int .u64 0, .int .u64 0, .int .u64 0, .int .u64 0, .int .u64 0, .int .u64 0, .int .u64 0, .int .u64 0, .int .u64 0, .int .u64 0, .int .u64 0, .int .u64 0]
theorem z16_digs (x : Nat) : z16 = nvs (digs x 0) := rfl
theorem z16_zero : z16 = nvs (List.replicate 16 0) := rfl
theorem info61 (l : List Nat) (h : l.length = 16) : (Try.prog.info? 61).map (·.size) = some (nvs l).size := by rw [nvs_size, h]; kernel_rfl
/-- the blocks of a call of digits -/
def dl (l : List Nat) : List Obj := [.cells z16 61, .cells (nvs l) 61]
set_option maxRecDepth 100000 in
set_option maxHeartbeats 4000000 in
theorem digits_any (x : Nat) (w : World) (hx : x < 18446744073709551616) :
    Calls Try.prog 37 #[.int .u64 x, .int .i64 4] w fun e w' => e = .returned (.agg (nvs (digs x 4))) ∧ Below w.heap.size w w' := by
  have hx' := veil hx
  clear hx
  go_enter Try.func37, Try.ntmps37
  go_wp2_with (first | (refine wpList_build_to rfl 61 _ rfl z16 (by kernel_rfl) ?_) | (refine wpList_store_at rfl 61 _ _ rfl z16 _ 61 _ rfl (by simp only [World.size_alloc]) rfl (by kernel_rfl) rfl (by kernel_rfl) ?_))
  go_loopw [0, 6] (fun v i wr => ∃ k q : Nat, k ≤ 4 ∧ i = .int .i64 k ∧ v = .int .u64 ((x / 65536 ^ k : Nat) : Int) ∧ wr = plus w (dl (digs x k)) q) (fun _ i _ => 4 - (intOf i).toNat)
  case atStart => exact ⟨0, 0, by omega, rfl, by simp, rfl⟩
  case round =>
    obtain ⟨k, q, hk, rfl, rfl, hwr⟩ := hrel
    have hwr' := veil hwr
    clear hwr
    have hl' := veil (digs_len x k (by omega))
    by_cases hlt : k < 4
    · obtain ⟨y, hy⟩ : ∃ y, x / 65536 ^ k = y := ⟨_, rfl⟩
      rw [hy]
      have hy' := veil hy
      clear hy
      have g0 : wr.cell? ⟨w.heap.size + 1, k, none⟩ = some (.int .u64 (((digs x k).getD k 0 : Nat) : Int)) := by
        rw [hwr'.out]; exact plus_cell w _ q 1 k _ 61 _ rfl (nvs_at _ _ (by rw [hl'.out]; omega))
      have gf : wr.frozen? ⟨w.heap.size + 1, k, none⟩ = false := by rw [hwr'.out]; exact plus_free w _ q 1 k _ 61 rfl
      have k0 : (0 : Int) ≤ k := by omega
      have k16 : (k : Int) < 16 := by omega
      have y0 : (0 : Int) ≤ y := by omega
      go_wp2_with fail
      have hst := plus_setCell w (dl (digs x k)) q 1 k (nvs (digs x k)) 61 (.int .u64 ((y % 65536 : Nat) : Int)) rfl
      rw [nvs_set, ← hy'.out, digs_set x k (by omega), hy'.out] at hst
      have hyx : y ≤ x := by rw [← hy'.out]; exact Nat.div_le_self _ _
      have hx2 := hx'.out
      refine ⟨⟨k + 1, q, by omega, by go_num, ?_, ?_⟩, ?_⟩
      · rw [Nat.pow_succ, ← Nat.div_div_eq_div_mul, hy'.out, IntKind.wrap_u64]
        congr 1
        omega
      · rw [hwr'.out, show ((y : Int) % 65536) = ((y % 65536 : Nat) : Int) by omega]
        exact hst
      · simp [intOf]; omega
    · obtain rfl : k = 4 := by omega
      have hO := veil (show wr.heap[w.heap.size + 1]? = some (.cells (nvs (digs x 4)) 61 (0, 0)) by rw [hwr'.out]; exact plus_at' w _ q 1 _ rfl)
      have hR := veil (show wr.heap[w.heap.size]? = some (.cells z16 61 (0, 0)) by rw [hwr'.out]; exact plus_at' w _ q 0 _ rfl)
      go_wp2_with (first | (refine wpList_load_row rfl 61 _ rfl (w.heap.size + 1) rfl 61 (nvs (digs x 4)) (0, 0) (.array 16 35) hO.out (by kernel_rfl) rfl (info61 _ hl'.out) ?_) | (refine wpList_store_row rfl 61 _ _ rfl w.heap.size (nvs (digs x 4)) rfl rfl 61 z16 hR.out (info61 _ hl'.out) (by rw [nvs_size, hl'.out]; rfl) (nvs_one _) ?_))
      have hB : Below w.heap.size w (wr.setRow w.heap.size (nvs (digs x 4))) := by
        rw [hwr'.out]
        exact below_setRow (plus_below w _ q) _ _ (Nat.le_refl _)
      refine bodyPost_ret (v := .agg (nvs (digs x 4))) ?_ rfl ⟨rfl, hB⟩
      exact results_cell_row (p := 4) (ty := 61) Try.results37 _ _ w.heap.size 61 (nvs (digs x 4)) (0, 0) (.array 16 35) rfl (setRow_heap _ _ z16 _ 61 (0, 0) hR.out) (by kernel_rfl) rfl (info61 _ hl'.out)
theorem mac_val (o x y c : Nat) (h1 : o < 65536) (h2 : x < 65536) (h3 : y < 65536) (h4 : c ≤ 65535) : IntKind.u64.wrap (IntKind.u64.wrap ((o : Int) + IntKind.u64.wrap ((x : Int) * (y : Int))) + (c : Int)) = ((o + x * y + c : Nat) : Int) ∧ o + x * y + c < 65536 * 65536 := by
  have h : x * y ≤ 65535 * 65535 := Nat.mul_le_mul (by omega) (by omega)
  have e : (x : Int) * (y : Int) = ((x * y : Nat) : Int) := by simp
  rw [e]
  generalize x * y = p at h
  rw [IntKind.wrap_u64, IntKind.wrap_u64, IntKind.wrap_u64]
  omega
theorem carry_val (n : Nat) (h : n < 65536 * 65536) : IntKind.u64.wrap ((n : Int) / 65536) = ((n / 65536 : Nat) : Int) ∧ n / 65536 ≤ 65535 := by
  rw [IntKind.wrap_u64]
  omega
/-- the blocks of a call of times -/
def tl (a b out : List Nat) : List Obj := [.cells (nvs a) 61, .cells (nvs b) 61, .cells z16 61, .cells (nvs out) 61]
/-- a product, and what was stays -/
def Product (a b : List Nat) (w : World) (e : Ending) (w' : World) : Prop := ∃ r : List Nat, e = .returned (.agg (nvs r)) ∧ r.length = 16 ∧ Dig r ∧ val r = (val a * val b) % 65536 ^ 16 ∧ Below w.heap.size w w'
set_option maxRecDepth 100000 in
set_option maxHeartbeats 8000000 in
theorem times_any (a b : List Nat) (w : World) (ha : a.length = 16) (hb : b.length = 16) (da : Dig a) (db : Dig b) :
    Calls Try.prog 38 #[.agg (nvs a), .agg (nvs b)] w (Product a b w) := by
  have ha' := veil ha
  have hb' := veil hb
  have da' := veil da
  have db' := veil db
  have ia := veil (info61 a ha)
  have ib := veil (info61 b hb)
  clear ha hb da db
  go_enter Try.func38, Try.ntmps38
  go_wp2_with (first | (refine wpList_build_to rfl 61 _ rfl z16 (by kernel_rfl) ?_) | (refine wpList_store_at rfl 61 _ _ rfl z16 _ 61 _ rfl (by simp only [World.size_alloc]) rfl (by kernel_rfl) rfl (by kernel_rfl) ?_))
  go_loopw [6] (fun i wr => ∃ (k : Nat) (out : List Nat) (q : Nat), k ≤ 16 ∧ i = .int .i64 k ∧ out.length = 16 ∧ Dig out ∧ val out = (val (a.take k) * val b) % 65536 ^ 16 ∧ wr = plus w (tl a b out) q) (fun i _ => 16 - (intOf i).toNat)
  case atStart => exact ⟨0, List.replicate 16 0, 0, by omega, rfl, by simp, (fun d hd => by rw [List.mem_replicate] at hd; omega), by rw [val_zeros, List.take_zero]; simp [val], rfl⟩
  case round =>
    obtain ⟨k, out0, q0, hk, rfl, ho0, hd0, hv0, hwr⟩ := hrel
    have hwr' := veil hwr
    have ho0' := veil ho0
    have hd0' := veil hd0
    have hv0' := veil hv0
    clear hwr ho0 hd0 hv0
    by_cases hlt : k < 16
    · obtain ⟨wo, rfl⟩ : ∃ wo : World, wo = wr := ⟨_, rfl⟩
      go_wp2_with fail
      go_loopw [7, 8] (fun c i wr => ∃ (j : Nat) (out : List Nat) (cy q : Nat), k + j ≤ 16 ∧ i = .int .i64 j ∧ c = .int .u64 (cy : Int) ∧ cy ≤ 65535 ∧ out.length = 16 ∧ Dig out ∧ val out + 65536 ^ (k + j) * cy = val out0 + a.getD k 0 * val (b.take j) * 65536 ^ k ∧ wr = plus w (tl a b out) q) (fun _ i _ => 16 - (intOf i).toNat)
      case atStart => exact ⟨0, out0, 0, q0, by omega, rfl, rfl, by omega, ho0'.out, hd0'.out, by rw [List.take_zero]; simp [val], hwr'.out⟩
      case round =>
        obtain ⟨j, out, cy, q, hj, rfl, rfl, hcy, ho, hd, hv, hwi⟩ := hrel
        have hwi' := veil hwi
        have ho' := veil ho
        have hd' := veil hd
        have hv' := veil hv
        clear hwi ho hd hv
        by_cases hlj : k + j < 16
        · obtain ⟨x, hx⟩ : ∃ x, a.getD k 0 = x := ⟨_, rfl⟩
          obtain ⟨y, hy⟩ : ∃ y, b.getD j 0 = y := ⟨_, rfl⟩
          obtain ⟨o, hoo⟩ : ∃ o, out.getD (k + j) 0 = o := ⟨_, rfl⟩
          have g0 : wr.cell? ⟨w.heap.size, k, none⟩ = some (.int .u64 (x : Int)) := by
            rw [hwi'.out, ← hx]; exact plus_cell w (tl a b out) q 0 k _ 61 _ rfl (nvs_at _ _ (by rw [ha'.out]; omega))
          have g1 : wr.cell? ⟨w.heap.size + 1, j, none⟩ = some (.int .u64 (y : Int)) := by
            rw [hwi'.out, ← hy]; exact plus_cell w (tl a b out) q 1 j _ 61 _ rfl (nvs_at _ _ (by rw [hb'.out]; omega))
          have g3 : wr.cell? ⟨w.heap.size + 1 + 1 + 1, k + j, none⟩ = some (.int .u64 (o : Int)) := by
            rw [hwi'.out, ← hoo]; exact plus_cell w (tl a b out) q 3 (k + j) _ 61 _ rfl (nvs_at _ _ (by rw [ho'.out]; omega))
          have gf : wr.frozen? ⟨w.heap.size + 1 + 1 + 1, k + j, none⟩ = false := by rw [hwi'.out]; exact plus_free w (tl a b out) q 3 (k + j) _ 61 rfl
          have x9 : x < 65536 := by rw [← hx]; exact dig_at da'.out k
          have y9 : y < 65536 := by rw [← hy]; exact dig_at db'.out j
          have o9 : o < 65536 := by rw [← hoo]; exact dig_at hd'.out (k + j)
          have hx' := veil hx
          have hy' := veil hy
          have hoo' := veil hoo
          clear hx hy hoo
          have e1 : IntKind.i64.wrap ((k : Int) + (j : Int)) = (k : Int) + (j : Int) := IntWalk.i64_in _ (by omega)
          have e2 : (0 : Int) ≤ (k : Int) + (j : Int) := by omega
          have e3 : (k : Int) + (j : Int) < 16 := by omega
          have e4 : ((k : Int) + (j : Int)).toNat = k + j := by omega
          have e5 : (0 : Int) ≤ k := by omega
          have e6 : (k : Int) < 16 := by omega
          have e7 : (0 : Int) ≤ j := by omega
          have e8 : (j : Int) < 16 := by omega
          go_wp2_with fail
          go_quiet (fail)
          obtain ⟨hn, hn9⟩ := mac_val o x y cy o9 x9 y9 hcy
          rw [hn]
          obtain ⟨n, hnn⟩ : ∃ n, o + x * y + cy = n := ⟨_, rfl⟩
          rw [hnn] at hn9 ⊢
          have hnn' := veil hnn
          clear hn hnn
          have hn0 : (0 : Int) ≤ n := by omega
          go_wp2_with fail
          obtain ⟨c1, c2⟩ := carry_val n hn9
          have hst := plus_setCell w (tl a b out) (q + nq) 3 (k + j) (nvs out) 61 (.int .u64 ((n % 65536 : Nat) : Int)) rfl
          rw [nvs_set] at hst
          refine ⟨⟨j + 1, out.set (k + j) (n % 65536), n / 65536, q + nq, by omega, by go_num, by rw [show ((n : Int) / 65536) = ((n / 65536 : Nat) : Int) by omega], c2, by rw [List.length_set]; exact ho'.out, dig_set hd'.out _ _ (Nat.mod_lt _ (by omega)), ?_, ?_⟩, ?_⟩
          · refine inner_step ho'.out hb'.out hlj ?_ hv'.out
            rw [hx'.out, hy'.out, hoo'.out]; exact hnn'.out.symm
          · rw [hwi'.out, plus_drewN, show ((n : Int) % 65536) = ((n % 65536 : Nat) : Int) by omega]
            exact hst
          · simp [intOf]; omega
        · obtain ⟨wp, rfl⟩ : ∃ wp : World, wp = wr := ⟨_, rfl⟩
          have hj6 : j = 16 - k := by omega
          have he := hv'.out
          rw [hj6] at he
          have hend := inner_end ho'.out hd'.out hb'.out hk he
          have hnext := veil (outer_step ha'.out hlt hv0'.out hend)
          have e1 : IntKind.i64.wrap ((k : Int) + (j : Int)) = (k : Int) + (j : Int) := IntWalk.i64_in _ (by omega)
          have e3 : ¬ (k : Int) + (j : Int) < 16 := by omega
          clear he hend hj6
          go_wp2_with fail
          go_roundw
          case rel => exact ⟨k + 1, out, q, by omega, by go_num, ho'.out, hd'.out, hnext.out, hwi'.out⟩
          case measure => simp [intOf]; omega
    · obtain rfl : k = 16 := by omega
      have io := veil (info61 out0 ho0'.out)
      have hO := veil (show wr.heap[w.heap.size + 1 + 1 + 1]? = some (.cells (nvs out0) 61 (0, 0)) by rw [hwr'.out]; exact plus_at' w (tl a b out0) q0 3 _ rfl)
      have hR := veil (show wr.heap[w.heap.size + 1 + 1]? = some (.cells z16 61 (0, 0)) by rw [hwr'.out]; exact plus_at' w (tl a b out0) q0 2 _ rfl)
      go_wp2_with (first | (refine wpList_load_row rfl 61 _ rfl (w.heap.size + 1 + 1 + 1) rfl 61 (nvs out0) (0, 0) (.array 16 35) hO.out (by kernel_rfl) rfl io.out ?_) | (refine wpList_store_row rfl 61 _ _ rfl (w.heap.size + 1 + 1) (nvs out0) rfl rfl 61 z16 hR.out io.out (by rw [nvs_size, ho0'.out]; rfl) (nvs_one _) ?_))
      have hB : Below w.heap.size w (wr.setRow (w.heap.size + 1 + 1) (nvs out0)) := by
        rw [hwr'.out]
        exact below_setRow (plus_below w _ q0) _ _ (by omega)
      refine bodyPost_ret (v := .agg (nvs out0)) ?_ rfl ⟨out0, rfl, ho0'.out, hd0'.out, ?_, hB⟩
      · exact results_cell_row (p := 4) (ty := 61) Try.results38 _ _ (w.heap.size + 1 + 1) 61 (nvs out0) (0, 0) (.array 16 35) rfl (setRow_heap _ _ z16 _ 61 (0, 0) hR.out) (by kernel_rfl) rfl io.out
      · have h := hv0'.out
        rwa [List.take_of_length_le (by rw [ha'.out]; omega)] at h
end Go.Proofs.Sha
