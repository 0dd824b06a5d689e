import Derived.Test.YtpgllpnebaonoaaMem
import Derived.Test.YtpgllpnebaonoaaRefWord
import Derived.Test.YtpgllpnebaonoaaTab
import Derived.Test.YtpgllpnebaonoaaBlock
namespace Go.Proofs.Sha
open Go Go.RowKit Sha2
set_option linter.unusedVariables false

def qv (x : W) : Value := .int .u64 x.toNat
def qvs (l : List W) : Array Value := (l.map qv).toArray
theorem qvs_at (l : List W) (j : Nat) (h : j < l.length) : (qvs l)[j]? = some (.int .u64 (l.getD j 0).toNat) := by
  simp [qvs, qv, h]
theorem qvs_set (l : List W) (j : Nat) (x : W) : (qvs l).setIfInBounds j (.int .u64 x.toNat) = qvs (l.set j x) := by
  unfold qvs
  rw [List.map_set]
  simp [qv]
theorem qvs_size (l : List W) : (qvs l).size = l.length := by simp [qvs]
theorem qvs_one (l : List W) : (qvs l).all (·.oneCell') = true := by simp [qvs, qv, Value.oneCell']
def kqs : Array Value := #[Value.int .u64 1116352408, Value.int .u64 1899447441, Value.int .u64 3049323471, Value.int .u64 3921009573, Value.int .u64 961987163, Value.int .u64 1508970993, Value.int .u64 2453635748, Value.int .u64 2870763221, Value.int .u64 3624381080, Value.int .u64 310598401, Value.int .u64 607225278, Value.int .u64 1426881987, Value.int .u64 1925078388, Value.int .u64 2162078206, Value.int .u64 2614888103, Value.int .u64 3248222580, Value.int .u64 3835390401, Value.int .u64 4022224774, Value.int .u64 264347078, Value.int .u64 604807628, Value.int .u64 770255983, Value.int .u64 1249150122, Value.int .u64 1555081692, Value.int .u64 1996064986, Value.int .u64 2554220882, Value.int .u64 2821834349, Value.int .u64 2952996808, Value.int .u64 3210313671, Value.int .u64 3336571891, Value.int .u64 3584528711, Value.int .u64 113926993, Value.int .u64 338241895, Value.int .u64 666307205, Value.int .u64 773529912, Value.int .u64 1294757372, Value.int .u64 1396182291, Value.int .u64 1695183700, Value.int .u64 1986661051, Value.int .u64 2177026350, Value.int .u64 2456956037, Value.int .u64 2730485921, Value.int .u64 2820302411, Value.int .u64 3259730800, Value.int .u64 3345764771, Value.int .u64 3516065817, Value.int .u64 3600352804, Value.int .u64 4094571909, Value.int .u64 275423344, Value.int .u64 430227734, Value.int .u64 506948616, Value.int .u64 659060556, Value.int .u64 883997877, Value.int .u64 958139571, Value.int .u64 1322822218, Value.int .u64 1537002063, Value.int .u64 1747873779, Value.int .u64 1955562222, Value.int .u64 2024104815, Value.int .u64 2227730452, Value.int .u64 2361852424, Value.int .u64 2428436474, Value.int .u64 2756734187, Value.int .u64 3204031479, Value.int .u64 3329325298]
theorem kqs_map : kqs.toList = kints.map (Value.int .u64) := rfl
theorem kqs_at (i : Nat) (h : i < 64) : kqs[i]? = some (.int .u64 (BitVec.ofNat 32 (K.getD i 0)).toNat) := by
  have hl : i < K.length := h
  rw [← Array.getElem?_toList, kqs_map, kints_map]
  simp [hl]
def z64 : Array Value := #[Value.int .u64 0, Value.int .u64 0, Value.int .u64 0, Value.int .u64 0, Value.int .u64 0, Value.int .u64 0, Value.int .u64 0, Value.int .u64 0, Value.int .u64 0, Value.int .u64 0, Value.int .u64 0, Value.int .u64 0, Value.int .u64 0, Value.int .u64 0, Value.int .u64 0, Value.int .u64 0, Value.int .u64 0, Value.int .u64 0, Value.int .u64 0, Value.int .u64 0, Value.int .u64 0, Value.int .u64 0, Value.int .u64 0, Value.int .u64 0, Value.int .u64 0, Value.int .u64 0, Value.int .u64 0, Value.int .u64 0, Value.int .u64 0, Value.int .u64 0, Value.int .u64 0, Value.int .u64 0, Value.int .u64 0, Value.int .u64 0, Value.int .u64 0, Value.int .u64 0, Value.int .u64 0, Value.int .u64 0, Value.int .u64 0, Value.int .u64 0, Value.int .u64 0, Value.int .u64 0, Value.int .u64 0, Value.int .u64 0, Value.int .u64 0, Value.int .u64 0, Value.int .u64 0, Value.int .u64 0, Value.int .u64 0, Value.int .u64 0, Value.int .u64 0, Value.int .u64 0, Value.int .u64 0, Value.int .u64 0, Value.int .u64 0, Value.int .u64 0, Value.int .u64 0, Value.int .u64 0, Value.int .u64 0, Value.int .u64 0, Value.int .u64 0, Value.int .u64 0, Value.int .u64 0, Value.int .u64 0]
def hqs : Array Value := #[Value.int .u64 1779033703, Value.int .u64 3144134277, Value.int .u64 1013904242, Value.int .u64 2773480762, Value.int .u64 1359893119, Value.int .u64 2600822924, Value.int .u64 528734635, Value.int .u64 1541459225]
theorem hqs_eq : hqs = qvs Sha2.init := rfl
theorem z64_eq : z64 = qvs (schedTo (fun _ => 0) 0) := rfl
set_option maxRecDepth 100000 in
set_option maxHeartbeats 1000000 in
theorem rtable_any (w : World) : Calls Try.prog 21 #[] w fun e w' => e = .returned (.agg kqs) ∧ w' = w.alloc (.cells kqs 41) := by
  go_enter Try.func21, Try.ntmps21
  go_wp2_with (first | (refine wpList_build_to rfl 41 _ rfl kqs (by kernel_rfl) ?_) | (refine wpList_store_new rfl 41 _ _ rfl kqs _ 41 rfl rfl (by kernel_rfl) rfl (by kernel_rfl) ?_))
  refine bodyPost_ret (v := .agg kqs) ?_ rfl ⟨rfl, rfl⟩
  exact results_cell_row (p := 0) (ty := 41) Try.results21 _ _ w.heap.size 41 kqs (0, 0) (.array 64 35) rfl (heap_alloc_new _ _) (by kernel_rfl) rfl (by kernel_rfl)
set_option maxRecDepth 100000 in
set_option maxHeartbeats 1000000 in
theorem rfirst_any (w : World) : Calls Try.prog 18 #[] w fun e w' => e = .returned (.agg hqs) ∧ w' = w.alloc (.cells hqs 38) := by
  go_enter Try.func18, Try.ntmps18
  go_wp2_with (first | (refine wpList_build_to rfl 38 _ rfl hqs (by kernel_rfl) ?_) | (refine wpList_store_new rfl 38 _ _ rfl hqs _ 38 rfl rfl (by kernel_rfl) rfl (by kernel_rfl) ?_))
  refine bodyPost_ret (v := .agg hqs) ?_ rfl ⟨rfl, rfl⟩
  exact results_cell_row (p := 0) (ty := 38) Try.results18 _ _ w.heap.size 38 hqs (0, 0) (.array 8 35) rfl (heap_alloc_new _ _) (by kernel_rfl) rfl (by kernel_rfl)
end Go.Proofs.Sha
