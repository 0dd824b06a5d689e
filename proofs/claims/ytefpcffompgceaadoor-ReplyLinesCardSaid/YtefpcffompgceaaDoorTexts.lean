import Derived.Test.YtefpcffompgceaaDoorArr
/- What reply.Texts tells. -/
namespace Go.Proofs.Tryd.Ln
open Go Go.RowKit Go.Proofs.Mem Go.Proofs.App
open Go.Proofs.YtefpcffompgceaaDoorW.PrintWords
set_option linter.unusedVariables false

theorem info24 : (Tryd.prog.info? 24).map (fun i => (i.zero, i.size, i.bytes)) = some (some (.slice none 0 0), 1, 24) := by kernel_rfl
/-- the row of bulks, so far -/
def Row (w : World) (g n : Nat) (ss : List ByteArray) (k : Nat) : Prop :=
  (∀ i s, i < k → ss[i]? = some s → ∃ A c, w.cell? ⟨g, i, none⟩ = some (.slice A (bulkL s).length c) ∧ ReadsInt w .u8 A (bulkL s).length (bulkL s)) ∧ (∀ i, k ≤ i → i < n → w.cell? ⟨g, i, none⟩ = some (.slice none 0 0)) ∧ ∀ i, i < n → w.frozen? ⟨g, i, none⟩ = false
theorem row_below {w w1 : World} {g n k : Nat} {ss : List ByteArray} (h : Row w g n ss k) (hg : g < w.heap.size) (hb : Below w.heap.size w w1) : Row w1 g n ss k := by
  refine ⟨fun i s hi hs => ?_, fun i hi hn => pw_cell_below hb (h.2.1 i hi hn), fun i hi => ?_⟩
  · obtain ⟨A, c, h1, h2⟩ := h.1 i s hi hs
    exact ⟨A, c, pw_cell_below hb h1, h2.below hb⟩
  · rw [hb.frozen (p := ⟨g, i, none⟩) hg]
    exact h.2.2 i hi
/-- a store over a slice spoils no cell that holds a byte -/
theorem reads_set {w : World} {g k : Nat} {v : Value} (hu : w.cell? ⟨g, k, none⟩ = some (.slice none 0 0)) {B : Option Addr} {n : Nat} {l : List Int} (h : ReadsInt w .u8 B n l) : ReadsInt (w.setCell ⟨g, k, none⟩ v) .u8 B n l :=
  ⟨h.1, h.2.1, fun hp => by
    obtain ⟨ad, e, hc⟩ := h.2.2 hp
    refine ⟨ad, e, fun j hj => ?_⟩
    have hcj := hc j hj
    rw [World.cell?_setCell_other]
    · exact hcj
    · intro q
      rw [← q, hu] at hcj
      cases hcj⟩
theorem row_set {w : World} {g n k c : Nat} {ss : List ByteArray} {A : Option Addr} {s : ByteArray} (h : Row w g n ss k) (hk : k < n) (hs : ss[k]? = some s) (hr : ReadsInt w .u8 A (bulkL s).length (bulkL s)) : Row (w.setCell ⟨g, k, none⟩ (.slice A (bulkL s).length c)) g n ss (k + 1) := by
  have hu := h.2.1 k (Nat.le_refl _) hk
  refine ⟨fun i s' hi hs' => ?_, fun i hi hn => ?_, fun i hi => by rw [World.frozen?_setCell]; exact h.2.2 i hi⟩
  · by_cases e : i = k
    · subst e
      rw [hs] at hs'
      injection hs' with hs'
      subst hs'
      exact ⟨A, c, World.cell?_setCell_same _ _ _ hu, reads_set hu hr⟩
    · obtain ⟨B, c', h1, h2⟩ := h.1 i s' (by omega) hs'
      refine ⟨B, c', ?_, reads_set hu h2⟩
      rw [World.cell?_setCell_other]
      · exact h1
      · intro q; injection q with _ q; exact e q.symm
  · rw [World.cell?_setCell_other]
    · exact h.2.1 i (by omega) hn
    · intro q; injection q with _ q; omega
theorem bulkL_len (s : ByteArray) (h : s.size ≤ 70368744177664) : (bulkL s).length ≤ 9223372036854775807 := by
  have hz := numS_size s.size (by omega) (by omega)
  rw [bulkL, List.length_append, lineL_len, bytesOf_length, ByteArray.size_append]
  show 1 + _ + 2 + (s.size + 2) ≤ _
  omega
def bulks (ss : List ByteArray) : List (List Int) := ss.map bulkL
/-- texts as an array -/
def textsL (ss : List ByteArray) : List Int := arrL (bulks ss)
set_option maxRecDepth 100000 in
set_option maxHeartbeats 8000000 in
theorem Texts_any (A : Option Addr) (n c : Nat) (ss : List ByteArray) (w : World) (HR : ReadsOf Value.string ByteArray.empty w A n ss) (hc : n ≤ c) (hn : n ≤ 1000000) (hs : ∀ s ∈ ss, s.size ≤ 70368744177664) (hlen : (bulks ss).flatten.length ≤ 70368744177664) (hT : Tabl w) :
    Calls Tryd.prog 9 #[.slice A n c] w (Bytes_ (textsL ss) w) := by
  have HR' := veil HR
  have hl := veil HR.1
  have hmk := print_make_of (P := Tryd.prog) 34 24 (.slice none 0 0) 24 Tryd.underlying34 info24 rfl (by omega) n (by omega)
  have hrow0 : Row (w.alloc (.cells (madeCells #[.slice none 0 0] n) 24)) w.heap.size n ss 0 := by
    have hg := heap_alloc_last w (.cells (madeCells #[.slice none 0 0] n) 24)
    refine ⟨fun i s hi => absurd hi (by omega), fun i _ hi => ?_, fun i hi => by unfold World.frozen?; rw [hg]; simp⟩
    rw [cell_of_row _ _ _ _ _ _ hg, ← Array.getElem?_toList, toList_madeCells_one]
    simp [hi]
  have hrow0' := veil hrow0
  have hb0 := veil (below_alloc (Below.refl w.heap.size w) (.cells (madeCells #[.slice none 0 0] n) 24))
  have hs' := veil hs
  clear HR hrow0 hs
  go_enter Tryd.func9, Tryd.ntmps9
  go_wp2_with fail
  go_loopw [11] (fun i wr => ∃ k : Nat, k ≤ n ∧ i = .int .i64 k ∧ Row wr w.heap.size n ss k ∧ w.heap.size < wr.heap.size ∧ Below w.heap.size w wr) (fun i _ => n - (intOf i).toNat)
  case atStart => exact ⟨0, by omega, rfl, hrow0'.out, by simp, hb0.out⟩
  case round =>
    obtain ⟨k, hk, rfl, hrow, hsz, hb⟩ := hrel
    have hrow' := veil hrow
    have hb' := veil hb
    clear hrow hb
    by_cases hlt : k < n
    · obtain ⟨s, hsk⟩ : ∃ s, ss[k]? = some s := ⟨_, List.getElem?_eq_getElem (by rw [hl.out]; exact hlt)⟩
      obtain ⟨ad, rfl, hcell⟩ := (HR'.out.below hb'.out).2.2 (by omega)
      have hck := hcell k hlt
      rw [List.getD_eq_getElem?_getD, hsk, Option.getD_some] at hck
      have hss : s.size ≤ 70368744177664 := hs'.out s (List.mem_of_getElem? hsk)
      have hTw := veil (tabl_below hT hb'.out)
      have hsk' := veil hsk
      clear hcell hsk
      go_wp2_with fail
      refine (Bulk_any s _ hss hTw.out).mono ?_
      rintro e w2 ⟨A2, c2, rfl, hf2, hb2⟩
      have hr2 := veil (hf2.reads (bulkL_len s hss))
      have hrow2 := veil (row_below hrow'.out hsz hb2)
      have hb2' := veil (two_below hb'.out hb2)
      have hsz2 : w.heap.size < w2.heap.size := by have := hb2.size; omega
      have g0 := hrow2.out.2.1 k (Nat.le_refl _) hlt
      have gf := hrow2.out.2.2 k hlt
      obtain ⟨q, hq⟩ : ∃ q, (bulkL s).length = q := ⟨_, rfl⟩
      rw [hq]
      have hq' := veil hq
      have k0 : (0 : Int) ≤ k := by omega
      have kn : (k : Int) < n := by omega
      clear hf2 hb2 hq
      go_wp2_with fail
      have hset := row_set (c := c2) hrow2.out hlt hsk'.out hr2.out
      rw [hq'.out] at hset
      exact ⟨⟨k + 1, by omega, by go_num, hset, by rw [World.size_setCell]; exact hsz2, hb2'.out.setCell (Nat.le_refl _) _⟩, by simp [intOf]; omega⟩
    · obtain rfl : k = n := by omega
      obtain ⟨wp, rfl⟩ : ∃ wp : World, wp = wr := ⟨_, rfl⟩
      have hP : Parts wp w.heap.size (bulks ss) := fun i l hi => by
        unfold bulks at hi
        rw [List.getElem?_map] at hi
        cases hsi : ss[i]? with
        | none => rw [hsi] at hi; cases hi
        | some s =>
          rw [hsi] at hi
          simp only [Option.map_some, Option.some.injEq] at hi
          subst hi
          have hik : i < k := by rw [← hl.out]; exact (List.getElem?_eq_some_iff.1 hsi).1
          obtain ⟨A', c', h1, h2⟩ := hrow'.out.1 i s hik hsi
          exact ⟨A', c', h1, h2, byt_bulk s⟩
      have hP' := veil hP
      have hTw := veil (tabl_below hT hb'.out)
      clear hP
      go_wp2_with fail
      refine (Array_any _ w.heap.size k k (bulks ss) _ (fun _ => rfl) (by rw [bulks, List.length_map]; exact hl.out) (Nat.le_refl _) hP'.out hlen (by omega) hTw.out).mono ?_
      rintro e w3 ⟨A3, c3, rfl, hf3, hb3⟩
      have hf3' := veil (hf3.base hb'.out.size)
      have hb3' := veil (two_below hb'.out hb3)
      obtain ⟨q, hq⟩ : ∃ q, (arrL (bulks ss)).length = q := ⟨_, rfl⟩
      rw [hq]
      have hq' := veil hq
      clear hf3 hb3 hq
      go_wp2_with fail
      go_ret
      exact ⟨A3, c3, by rw [show textsL ss = arrL (bulks ss) from rfl, hq'.out]; rfl, hf3'.out, hb3'.out⟩
end Go.Proofs.Tryd.Ln
