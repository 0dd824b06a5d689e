import Derived.Test.YtefpcffompgceaaDoorOnce
import Derived.Test.YtefpcffompgceaaDoorWWords
import Derived.Test.YtefpcffompgceaaDoorMem
import Derived.Deep.WholeRow
import Derived.BigQuiet
/- What strings.NewReplacer("\r", " ", "\n", " ").Replace tells: its table, made once. -/
namespace Go.Proofs.Tryd.Ln
open Go Go.RowKit Go.Proofs.Mem
open Go.Proofs.YtefpcffompgceaaDoorW.PrintWords
set_option linter.unusedVariables false

def bvs (l : List Int) : Array Value := (l.map (Value.int .u8)).toArray
theorem bvs_at (l : List Int) (j : Nat) (h : j < l.length) : (bvs l)[j]? = some (.int .u8 (l.getD j 0)) := by simp [bvs, h]
theorem bvs_set (l : List Int) (j : Nat) (x : Int) : (bvs l).setIfInBounds j (.int .u8 x) = bvs (l.set j x) := by
  unfold bvs
  rw [List.map_set]
  simp
theorem bvs_size (l : List Int) : (bvs l).size = l.length := by simp [bvs]
def z256 : Array Value := bvs (List.replicate 256 0)
/-- the bytes themselves, so far -/
def idTo (k : Nat) : List Int := (List.range k).map (fun (n : Nat) => (n : Int)) ++ List.replicate (256 - k) 0
theorem idTo_len (k : Nat) (h : k ≤ 256) : (idTo k).length = 256 := by simp [idTo]; omega
theorem idTo_set (k : Nat) (h : k < 256) : (idTo k).set k (k : Int) = idTo (k + 1) := by
  obtain ⟨d, hd⟩ : ∃ d, 256 - k = d + 1 := ⟨255 - k, by omega⟩
  rw [idTo, idTo, hd, show 256 - (k + 1) = d by omega, List.set_append_right _ _ (by simp), List.length_map, List.length_range, Nat.sub_self, List.replicate_succ, List.set_cons_zero, List.range_succ]
  simp
/-- the table: an end of a line is a blank -/
def tab : List Int := ((idTo 256).set 10 32).set 13 32
def flatB (c : Int) : Int := if c = 13 then 32 else if c = 10 then 32 else c
theorem tab_all : ∀ c : Fin 256, tab.getD c.val 0 = flatB (c.val : Int) := by decide +kernel
theorem tab_at (c : Int) (h0 : 0 ≤ c) (h : c ≤ 255) : tab.getD c.toNat 0 = flatB c := by
  have := tab_all ⟨c.toNat, by omega⟩
  simpa [Int.toNat_of_nonneg h0] using this
theorem tab_len : tab.length = 256 := by simp [tab, idTo_len 256 (by omega)]
def tabTo : Nat → List Int
  | 0 => idTo 256
  | 1 => (idTo 256).set 10 32
  | _ => tab
theorem tabTo_len (j : Nat) : (tabTo j).length = 256 := by
  match j with
  | 0 => exact idTo_len 256 (by omega)
  | 1 => simp [tabTo, idTo_len 256 (by omega)]
  | _ + 2 => exact tab_len
theorem alloc_heap (w : World) (o : Obj) : (w.alloc o).heap[w.heap.size]? = some o := heap_alloc_last w o
/-- a new table of these bytes -/
def plusB (w : World) (l : List Int) : World := w.alloc (.cells (bvs l) 67)
theorem plusB_heap (w : World) (l : List Int) : (plusB w l).heap[w.heap.size]? = some (.cells (bvs l) 67 (0, 0)) := heap_alloc_last w _
theorem plusB_cell (w : World) (l : List Int) (j : Nat) (h : j < l.length) : (plusB w l).cell? ⟨w.heap.size, j, none⟩ = some (.int .u8 (l.getD j 0)) := by
  unfold World.cell?
  rw [plusB_heap]
  exact bvs_at l j h
theorem plusB_free (w : World) (l : List Int) (j : Nat) : (plusB w l).frozen? ⟨w.heap.size, j, none⟩ = false := by
  simp [World.frozen?, plusB_heap]
theorem plusB_old (w : World) (l : List Int) {p : Addr} {v : Value} (h : w.cell? p = some v) : (plusB w l).cell? p = some v := pw_cell_below (below_alloc (Below.refl w.heap.size w) _) h
theorem plusB_set (w : World) (l : List Int) (j : Nat) (x : Int) : (plusB w l).setCell ⟨w.heap.size, j, none⟩ (.int .u8 x) = plusB w (l.set j x) := by
  unfold plusB
  rw [← bvs_set]
  unfold World.setCell World.alloc
  congr 1
  apply Array.ext
  · simp
  · intro i h1 h2
    simp only [Array.getElem_modify, Array.getElem_push]
    by_cases h : w.heap.size = i
    · subst h; simp
    · have hi : i < w.heap.size := by simp at h1; omega
      simp [h, hi]
/-- the four texts of the replacer -/
def Four (w : World) (g : Nat) : Prop := w.cell? ⟨g, 0, none⟩ = some (.string ⟨#[13]⟩) ∧ w.cell? ⟨g, 1, none⟩ = some (.string ⟨#[32]⟩) ∧ w.cell? ⟨g, 2, none⟩ = some (.string ⟨#[10]⟩) ∧ w.cell? ⟨g, 3, none⟩ = some (.string ⟨#[32]⟩)
def Built (base : Nat) (w : World) (e : Ending) (w' : World) : Prop := ∃ h, e = .returned (.iface 68 (.pointer (some ⟨h, 0, none⟩))) ∧ w.heap.size ≤ h ∧ w'.heap[h]? = some (.cells (bvs tab) 67 (0, 0)) ∧ Below w.heap.size w w'
set_option maxRecDepth 100000 in
set_option maxHeartbeats 8000000 in
theorem build_any (base b g c : Nat) (w : World) (hc : 4 ≤ c) (h4 : w.cell? ⟨b, 4, none⟩ = some (.slice (some ⟨g, 0, none⟩) 4 c)) (hF : Four w g) :
    Calls Tryd.prog 25 #[.pointer (some ⟨b, 0, none⟩)] w (Built base w) := by
  obtain ⟨g0, g1, g2, g3⟩ := hF
  go_enter Tryd.func25, Tryd.ntmps25
  go_wp2_with fail
  go_loop [4, 5] (fun v i => ∃ k : Nat, k ≤ 2 ∧ v = .bool true ∧ i = .int .i64 (2 * (k : Int))) (fun _ i => 4 - (intOf i).toNat)
  case atStart => exact ⟨0, by omega, rfl, rfl⟩
  case round =>
    obtain ⟨k, hk, rfl, rfl⟩ := hrel
    obtain rfl | rfl | rfl : k = 0 ∨ k = 1 ∨ k = 2 := by omega
    · go_wp2_with fail
      go_round
      case rel => exact ⟨1, by omega, rfl, rfl⟩
      case measure => simp [intOf]
    · go_wp2_with fail
      go_round
      case rel => exact ⟨2, by omega, rfl, rfl⟩
      case measure => simp [intOf]
    · go_wp2_with (first | (refine wpList_build_to rfl 67 _ rfl z256 (by kernel_rfl) ?_) | (refine wpList_store_at rfl 67 _ _ rfl z256 _ 67 _ rfl rfl rfl (by kernel_rfl) rfl (by kernel_rfl) ?_))
      have hp0 : w.alloc (.cells z256 67) = plusB w (idTo 0) := rfl
      go_loopw [61] (fun i wr => ∃ k : Nat, k ≤ 256 ∧ i = .int .i64 k ∧ wr = plusB w (idTo k)) (fun i _ => 256 - (intOf i).toNat)
      case atStart => exact ⟨0, by omega, rfl, rfl⟩
      case round =>
        obtain ⟨k, hk, rfl, hwr⟩ := hrel
        have hwr' := veil hwr
        clear hwr hp0
        have hl := idTo_len k hk
        by_cases hlt : k < 256
        · have gc : wr.cell? ⟨w.heap.size, k, none⟩ = some (.int .u8 ((idTo k).getD k 0)) := by rw [hwr'.out]; exact plusB_cell w _ k (by omega)
          have gf : wr.frozen? ⟨w.heap.size, k, none⟩ = false := by rw [hwr'.out]; exact plusB_free w _ k
          have k0 : (0 : Int) ≤ k := by omega
          have k2 : (k : Int) < 256 := by omega
          clear hl
          go_wp2_with fail
          go_roundw
          case rel =>
            refine ⟨k + 1, by omega, by go_num, ?_⟩
            rw [hwr'.out, plusB_set, idTo_set k hlt]
          case measure => simp [intOf]; omega
        · obtain rfl : k = 256 := by omega
          obtain ⟨wo, rfl⟩ : ∃ wo : World, wo = wr := ⟨_, rfl⟩
          go_wp2_with fail
          go_loopw [8] (fun i wr => ∃ j : Nat, j ≤ 2 ∧ i = .int .i64 (2 - 2 * (j : Int)) ∧ wr = plusB w (tabTo j)) (fun i _ => (intOf i + 2).toNat)
          case atStart => exact ⟨0, by omega, rfl, hwr'.out⟩
          case round =>
            obtain ⟨j, hj, rfl, hwj⟩ := hrel
            have hwj' := veil hwj
            clear hwj
            have hlj := tabTo_len j
            have a0 : wr.cell? ⟨g, 0, none⟩ = some (.string ⟨#[13]⟩) := by rw [hwj'.out]; exact plusB_old w _ g0
            have a1 : wr.cell? ⟨g, 1, none⟩ = some (.string ⟨#[32]⟩) := by rw [hwj'.out]; exact plusB_old w _ g1
            have a2 : wr.cell? ⟨g, 2, none⟩ = some (.string ⟨#[10]⟩) := by rw [hwj'.out]; exact plusB_old w _ g2
            have a3 : wr.cell? ⟨g, 3, none⟩ = some (.string ⟨#[32]⟩) := by rw [hwj'.out]; exact plusB_old w _ g3
            have c10 : wr.cell? ⟨w.heap.size, 10, none⟩ = some (.int .u8 ((tabTo j).getD 10 0)) := by rw [hwj'.out]; exact plusB_cell w _ 10 (by omega)
            have f10 : wr.frozen? ⟨w.heap.size, 10, none⟩ = false := by rw [hwj'.out]; exact plusB_free w _ 10
            have c13 : wr.cell? ⟨w.heap.size, 13, none⟩ = some (.int .u8 ((tabTo j).getD 13 0)) := by rw [hwj'.out]; exact plusB_cell w _ 13 (by omega)
            have f13 : wr.frozen? ⟨w.heap.size, 13, none⟩ = false := by rw [hwj'.out]; exact plusB_free w _ 13
            have e10 : ∀ h : 0 < (⟨#[10]⟩ : ByteArray).size, ((⟨#[10]⟩ : ByteArray)[0]'h).toNat = 10 := fun _ => rfl
            have e13 : ∀ h : 0 < (⟨#[13]⟩ : ByteArray).size, ((⟨#[13]⟩ : ByteArray)[0]'h).toNat = 13 := fun _ => rfl
            have e32 : ∀ h : 0 < (⟨#[32]⟩ : ByteArray).size, ((⟨#[32]⟩ : ByteArray)[0]'h).toNat = 32 := fun _ => rfl
            clear hlj
            obtain rfl | rfl | rfl : j = 0 ∨ j = 1 ∨ j = 2 := by omega
            · go_wp2_with fail
              refine ⟨⟨1, by omega, rfl, ?_⟩, by simp [intOf]⟩
              rw [hwj'.out]
              exact plusB_set w (tabTo 0) 10 32
            · go_wp2_with fail
              refine ⟨⟨2, by omega, rfl, ?_⟩, by simp [intOf]⟩
              rw [hwj'.out]
              exact plusB_set w (tabTo 1) 13 32
            · go_wp2_with fail
              go_ret
              refine ⟨w.heap.size, rfl, Nat.le_refl _, ?_, ?_⟩
              · rw [hwj'.out]; exact plusB_heap w _
              · rw [hwj'.out]; exact below_alloc (Below.refl _ _) _
end Go.Proofs.Tryd.Ln
