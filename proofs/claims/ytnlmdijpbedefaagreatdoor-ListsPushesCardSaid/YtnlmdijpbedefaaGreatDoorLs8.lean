import Derived.Test.YtnlmdijpbedefaaGreatDoorLs6
/- Lists that are the same are told the same. -/
namespace Go.Proofs.Tryz.Ln
open Go Go.RowKit Go.Proofs.Mem Go.Proofs.App
open Go.Proofs.YtnlmdijpbedefaaGreatDoorW.PrintWords
set_option linter.unusedVariables false
set_option linter.unusedSimpArgs false
theorem tR_at {w : World} {b o n c q : Nat} {l : List ByteArray} {s : ByteArray} (h : tR w (.slice (some ⟨b, o, none⟩) n c) l) (hs : l[q]? = some s) : w.cell? ⟨b, o + q, none⟩ = some (.string s) := by
  obtain ⟨A, c', e, _, _, _, h4⟩ := h.ex
  injection e with e1 _ _
  subst e1
  have hq : q < l.length := (List.getElem?_eq_some_iff.1 hs).1
  obtain ⟨ad, e, hc⟩ := h4.2.2 (by omega)
  injection e with e
  subst e
  have := hc q hq
  rw [add_off, List.getD_eq_getElem?_getD, hs, Option.getD_some] at this
  exact this
theorem tR_some {w : World} {x : Value} {l : List ByteArray} (h : tR w x l) (h1 : 1 ≤ l.length) : ∃ b o c, x = .slice (some ⟨b, o, none⟩) l.length c := by
  obtain ⟨A, c, e, _, _, h3, h4⟩ := h.ex
  obtain ⟨ad, rfl, _⟩ := h4.2.2 (by omega)
  obtain ⟨b, o, sp⟩ := ad
  obtain rfl : sp = none := h3 _ rfl
  exact ⟨b, o, c, e⟩
set_option maxRecDepth 100000 in
set_option maxHeartbeats 8000000 in
theorem texts01_any (x y : Value) (l : List ByteArray) (w : World) (hx : tR w x l) (hy : tR w y l) (h1 : 1 ≤ l.length) (h2 : l.length ≤ 1000000) : Calls Tryz.prog 23 #[x, y] w fun e w' => e = .returned (.bool true) ∧ Below w.heap.size w w' := by
  obtain ⟨b1, o1, c1, rfl⟩ := tR_some hx h1
  obtain ⟨b2, o2, c2, rfl⟩ := tR_some hy h1
  obtain ⟨n, hn⟩ : ∃ n, l.length = n := ⟨_, rfl⟩
  rw [hn] at hx hy h1 h2 ⊢
  have hx' := veil hx
  have hy' := veil hy
  have hn' := veil hn
  clear hx hy hn
  go_enter Tryz.func23, Tryz.ntmps23
  go_wp2_with fail
  go_loopw [5] (fun i wr => ∃ q : Nat, q ≤ n ∧ i = .int .i64 q ∧ Below w.heap.size w wr) (fun i _ => n - (intOf i).toNat)
  case atStart => exact ⟨0, by omega, rfl, Below.refl _ _⟩
  case round =>
    obtain ⟨q, hq, rfl, hb⟩ := hrel
    have hb' := veil hb
    clear hb
    by_cases hlt : q < n
    · have q0 : (0 : Int) ≤ q := by omega
      have qN : (q : Int) < n := by omega
      obtain ⟨s, hs⟩ : ∃ s, l[q]? = some s := ⟨_, List.getElem?_eq_getElem (by rw [hn'.out]; exact hlt)⟩
      have k1 := tR_at (hx'.out.below hb'.out) hs
      have k2 := tR_at (hy'.out.below hb'.out) hs
      have kk := veil (show ((q : Int) + 1) = ((q + 1 : Nat) : Int) by omega)
      clear hs
      go_wp2_with fail
      go_quiet (fail)
      go_wp2_with fail
      go_roundw
      case rel => exact ⟨q + 1, hlt, congrArg (Value.int .i64) kk.out, pw_below_drewN hb'.out _⟩
      case measure => simp [intOf]; omega
    · obtain rfl : n = q := by omega
      go_wp2_with fail
      go_ret
      exact ⟨rfl, hb'.out⟩
set_option maxRecDepth 100000 in
set_option maxHeartbeats 8000000 in
theorem same_any (x y : Value) (l : List ByteArray) (w : World) (hx : tR w x l) (hy : tR w y l) (h1 : 1 ≤ l.length) (h2 : l.length ≤ 1000000) : Calls Tryz.prog 14 #[.agg (lvS l x), .agg (lvS l y)] w fun e w' => e = .returned (.bool true) ∧ Below w.heap.size w w' := by
  have hl : l ≠ [] := fun h => by rw [h] at h1; simp at h1
  rw [show lvS l x = _ from if_neg hl, show lvS l y = _ from if_neg hl]
  obtain ⟨b1, o1, c1, ex⟩ := tR_some hx h1
  obtain ⟨b2, o2, c2, ey⟩ := tR_some hy h1
  rw [ex] at hx ⊢
  rw [ey] at hy ⊢
  clear ex ey
  obtain ⟨w2, hw2⟩ : ∃ w2 : World, w2 = (w.alloc (.cells #[.int .u8 2, .string ⟨#[]⟩, .slice (some ⟨b1, o1, none⟩) l.length c1, nl, nl] 28)).alloc (.cells #[.int .u8 2, .string ⟨#[]⟩, .slice (some ⟨b2, o2, none⟩) l.length c2, nl, nl] 28) := ⟨_, rfl⟩
  have hb2 : Below w.heap.size w w2 := by rw [hw2]; exact (below_alloc (Below.refl _ _) _).alloc (by simp) _
  have hs2 : w2.heap.size = w.heap.size + 2 := by rw [hw2]; simp
  have hu : w2.heap[w.heap.size]? = some (.cells #[.int .u8 2, .string ⟨#[]⟩, .slice (some ⟨b1, o1, none⟩) l.length c1, nl, nl] 28 (0, 0)) := by rw [hw2]; exact heap_alloc2_old w _ _
  have hv : w2.heap[w.heap.size + 1]? = some (.cells #[.int .u8 2, .string ⟨#[]⟩, .slice (some ⟨b2, o2, none⟩) l.length c2, nl, nl] 28 (0, 0)) := by
    rw [hw2]
    have h := heap_alloc_last (w.alloc (.cells #[.int .u8 2, .string ⟨#[]⟩, .slice (some ⟨b1, o1, none⟩) l.length c1, nl, nl] 28)) (.cells #[.int .u8 2, .string ⟨#[]⟩, .slice (some ⟨b2, o2, none⟩) l.length c2, nl, nl] 28)
    rw [show (w.alloc (.cells #[.int .u8 2, .string ⟨#[]⟩, .slice (some ⟨b1, o1, none⟩) l.length c1, nl, nl] 28)).heap.size = w.heap.size + 1 by simp] at h
    exact h
  have hB2 := veil hb2
  have hU := veil hu
  have hV := veil hv
  have hcall := veil (texts01_any _ _ l w2 (hx.below hb2) (hy.below hb2) h1 h2)
  have hw2' := veil hw2
  clear hx hy hw2 hb2 hu hv
  go_enter Tryz.func14, Tryz.ntmps14
  go_wp2_with fail
  rw [← hw2'.out]
  refine hcall.out.mono ?_
  rintro e w3 ⟨rfl, hb3⟩
  have hB3 := veil (two_below hB2.out hb3)
  have u := (hb3.block _ (by omega)).trans hU.out
  have v := (hb3.block _ (by omega)).trans hV.out
  have u0 : w3.cell? ⟨w.heap.size, 0, none⟩ = some (.int .u8 2) := by rw [cell_of_row _ _ _ _ _ _ u]; rfl
  have u1 : w3.cell? ⟨w.heap.size, 1, none⟩ = some (.string ⟨#[]⟩) := by rw [cell_of_row _ _ _ _ _ _ u]; rfl
  have u3 : w3.cell? ⟨w.heap.size, 3, none⟩ = some nl := by rw [cell_of_row _ _ _ _ _ _ u]; rfl
  have u4 : w3.cell? ⟨w.heap.size, 4, none⟩ = some nl := by rw [cell_of_row _ _ _ _ _ _ u]; rfl
  have v0 : w3.cell? ⟨w.heap.size + 1, 0, none⟩ = some (.int .u8 2) := by rw [cell_of_row _ _ _ _ _ _ v]; rfl
  have v1 : w3.cell? ⟨w.heap.size + 1, 1, none⟩ = some (.string ⟨#[]⟩) := by rw [cell_of_row _ _ _ _ _ _ v]; rfl
  have v3 : w3.cell? ⟨w.heap.size + 1, 3, none⟩ = some nl := by rw [cell_of_row _ _ _ _ _ _ v]; rfl
  have v4 : w3.cell? ⟨w.heap.size + 1, 4, none⟩ = some nl := by rw [cell_of_row _ _ _ _ _ _ v]; rfl
  clear hb3 u v
  go_wp2_with fail
  go_loopw [6] (fun i wr => w3 = wr ∧ i = .int .i64 0) (fun i _ => 0)
  case atStart => exact ⟨rfl, rfl⟩
  case round =>
    obtain ⟨rfl, rfl⟩ := hrel
    go_wp2_with fail
    go_loopw [7] (fun i wr => w3 = wr ∧ i = .int .i64 0) (fun i _ => 0)
    case atStart => exact ⟨rfl, rfl⟩
    case round =>
      obtain ⟨rfl, rfl⟩ := hrel
      go_wp2_with fail
      go_ret
      exact ⟨rfl, hB3.out⟩
end Go.Proofs.Tryz.Ln
