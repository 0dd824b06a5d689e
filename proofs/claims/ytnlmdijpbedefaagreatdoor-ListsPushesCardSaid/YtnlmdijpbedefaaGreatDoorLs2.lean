import Derived.Test.YtnlmdijpbedefaaGreatDoorLs1
import Derived.Test.YtnlmdijpbedefaaGreatDoorArr
import Derived.Laws.IdiomCopy
/- What lists.put tells. -/
namespace Go.Proofs.Tryz.Ln
open Go Go.RowKit Go.Proofs.Mem Go.Proofs.App
open Go.Proofs.YtnlmdijpbedefaaGreatDoorW.PrintWords
set_option linter.unusedVariables false
set_option linter.unusedSimpArgs false
/-- a list's value; of no texts none -/
def lvS (l : List ByteArray) (x : Value) : Array Value := if l = [] then zS else #[.int .u8 2, .string ⟨#[]⟩, x, nl, nl]
abbrev OR (w : World) (base : Nat) (v : Value) (l : List ByteArray) : Prop := w.ownsRow base 9 1 v l.length (encs Value.string l)
set_option maxRecDepth 100000 in
set_option maxHeartbeats 4000000 in
theorem list_any (x : Value) (l : List ByteArray) (w : World) (h : tR w x l) : Calls Tryz.prog 30 #[x] w fun e w' => e = .returned (.agg (lvS l x)) ∧ Below w.heap.size w w' := by
  obtain ⟨A, c, rfl, hc, _⟩ := h.ex
  by_cases hl : l = []
  · subst hl
    rw [show lvS [] _ = zS from if_pos rfl]
    go_enter Tryz.func30, Tryz.ntmps30
    go_wp2_with fail
    refine bodyPost_ret (v := .agg zS) ?_ rfl ⟨rfl, below_alloc (Below.refl _ _) _⟩
    exact results_cell_row (p := 2) (ty := 28) Tryz.results30 _ _ w.heap.size 28 zS (0, 0) _ rfl (heap_alloc_last w _) Tryz.underlying28 rfl (by kernel_rfl)
  · rw [show lvS l (.slice A l.length c) = _ from if_neg hl]
    have hn : l.length ≠ 0 := fun h => hl (List.eq_nil_of_length_eq_zero h)
    have h0 : ¬ (l.length : Int) = 0 := by omega
    have hk : ((l.length : Int) == 0) = false := by simp [hl]
    go_enter Tryz.func30, Tryz.ntmps30
    go_wp2_with fail
    refine bodyPost_ret (v := .agg #[.int .u8 2, .string ⟨#[]⟩, .slice A l.length c, nl, nl]) ?_ rfl ⟨rfl, below_alloc (Below.refl _ _) _⟩
    exact results_cell_row (p := 2) (ty := 28) Tryz.results30 _ _ w.heap.size 28 _ (0, 0) _ rfl (heap_alloc_last w _) Tryz.underlying28 rfl (by kernel_rfl)
theorem clone_any (x : Value) (l : List ByteArray) (w : World) (h : tR w x l) (hn : l.length ≤ 1000000) : Calls Tryz.prog 28 #[x] w fun e w' => ∃ v, e = .returned v ∧ OR w' w.heap.size v l ∧ Below w.heap.size w w' := by
  obtain ⟨A, c, rfl, hc, hm, hz, hr⟩ := h.ex
  cases A with
  | none =>
    have hl : l = [] := by
      cases l with
      | nil => rfl
      | cons a r =>
        obtain ⟨ad, h, _⟩ := hr.2.2 (by simp)
        cases h
    subst hl
    refine (Tryz.slices_Clone_string_nil _ _ w).mono ?_
    rintro e w' ⟨rfl, rfl⟩
    exact ⟨_, rfl, own_nil _ _, Below.refl _ _⟩
  | some ad =>
    obtain ⟨b, o, sp⟩ := ad
    obtain rfl : sp = none := hz _ rfl
    refine (Tryz.slices_Clone_string b o l.length c l w (Nat.le_refl _) (by omega) (fun j hj => ?_)).mono ?_
    · obtain ⟨ad, e, hcell⟩ := hr.2.2 (by omega)
      injection e with e
      subst e
      rw [← add_off]
      exact hcell j hj
    · rintro e w' ⟨v, rfl, ho, _, hb⟩
      rw [List.take_length] at ho
      exact ⟨v, rfl, ho, hb⟩
theorem strsOf_list (l : List ByteArray) : Lib.strsOf (fun j => l.getD j ByteArray.empty) l.length = l.map (·.data.toList) := by
  refine List.ext_getElem (by simp [Lib.strsOf]) (fun i h1 h2 => ?_)
  have hi : i < l.length := by simpa using h2
  simp [Lib.strsOf, List.getD_eq_getElem?_getD, hi]
theorem reverse_any (v : Value) (l : List ByteArray) (base : Nat) (w : World) (h : OR w base v l) : Calls Tryz.prog 29 #[v] w fun e w' => e = .returned (.tuple #[]) ∧ tR w' v l.reverse ∧ w'.heap.size = w.heap.size ∧ ∀ w0, Below base w0 w → Below base w0 w' := by
  have hR := tR_own h
  obtain ⟨hl, hh⟩ := h
  rcases hh with ⟨rfl, hh⟩ | ⟨g, cap, cur, rfl, hB, hx, hc, hm, hs, ht⟩
  · obtain rfl : l = [] := List.eq_nil_of_length_eq_zero hh
    refine (Tryz.slices_Reverse_string_empty none 0 w).mono ?_
    rintro e w' ⟨rfl, rfl⟩
    exact ⟨rfl, tR_nil _, rfl, fun _ h => h⟩
  · obtain ⟨A, c, e1, h1, h2, h3, h4⟩ := hR.ex
    injection e1 with e1 e2 e3
    subst e1
    subst e3
    have hcell : ∀ i, i < l.length → w.cell? ⟨g, 0 + i, none⟩ = some (.string (l.getD i ByteArray.empty)) := fun i hi => by
      obtain ⟨ad, e, hcl⟩ := h4.2.2 (by omega)
      injection e with e
      subst e
      rw [← add_off]
      exact hcl i hi
    refine (Tryz.slices_Reverse_string_cells g 0 l.length cap (fun j => l.getD j ByteArray.empty) w h4.2.1 hcell (fun j _ => by unfold World.frozen?; rw [hx]; simp)).mono ?_
    rintro e w' ⟨rfl, q, rfl⟩
    have hvs : (Lib.strsOf (fun j => l.getD j ByteArray.empty) l.length).reverse.map encStr = encs Value.string l.reverse := by
      rw [strsOf_list, ← List.map_reverse, List.map_map]
      rfl
    rw [hvs]
    refine ⟨rfl, ⟨some ⟨g, 0, none⟩, cap, by simp, by simpa using h1, h2, h3, by simp, by simpa using h4.2.1, fun hp => ⟨_, rfl, fun j hj => ?_⟩⟩, by rw [size_setCells]; rfl, fun w0 hb => ?_⟩
    · rw [add_off]
      have hj' : j < (encs Value.string l.reverse).length := by simpa [encs] using hj
      rw [World.cell?_setCells_in g (encs Value.string l.reverse) 0 (w.drewN q) (fun i hi => ?_) j hj']
      · have hj2 : j < l.reverse.length := hj
        simp [encs, List.getD_eq_getElem?_getD, List.getElem?_eq_getElem hj2]
      · have hi' : i < l.length := by simpa [encs] using hi
        have := hcell i hi'
        show (w.cell? ⟨g, 0 + i, none⟩).isSome = true
        rw [this]; rfl
    · exact below_setCells g hB _ 0 _ (pw_below_drewN hb q)
/-- a list's value and a reply, of the call's own -/
def Pres (L : List ByteArray) (r : List Int) (w : World) (e : Ending) (w' : World) : Prop := ∃ v A n c, e = .returned (.tuple #[.agg (lvS L v), .slice A n c]) ∧ OR w' w.heap.size v L ∧ Fresh .u8 w.heap.size w' A n c r ∧ Below w.heap.size w w'
def putL (ahead : Bool) (l ts : List ByteArray) : List ByteArray := if ahead = true then ts.reverse ++ l else l ++ ts
theorem own_setRow {w : World} {base g : Nat} {v : Value} {l : List ByteArray} {mv old : Array Value} (h : OR w base v l) (hg : w.heap[g]? = some (.cells old 28 (0, 0))) : OR (w.setRow g mv) base v l :=
  own_move h (fun k hk => by
    obtain ⟨cells, hc⟩ := own_typed h k hk
    have hne : k ≠ g := by
      rintro rfl
      rw [hc] at hg
      injection hg with hg
      injection hg with _ h2
      exact absurd h2 (by decide)
    unfold World.setRow
    simp only [Array.getElem?_modify]
    rw [if_neg (fun e => hne e.symm)])
theorem fresh_setRow {k : IntKind} {base n c g : Nat} {w : World} {A : Option Addr} {l : List Int} {mv : Array Value} (h : Fresh k base w A n c l) (hg : g < base) : Fresh k base (w.setRow g mv) A n c l := by
  refine ⟨h.len, h.le, fun hp => ?_⟩
  obtain ⟨b, e, h1, h2, hc, hs⟩ := h.there hp
  have hbk : (w.setRow g mv).heap[b]? = w.heap[b]? := by
    unfold World.setRow
    simp only [Array.getElem?_modify]
    rw [if_neg (by omega)]
  refine ⟨b, e, h1, by simpa [World.setRow] using h2, fun j hj => ?_, fun j hj => ?_⟩
  · rw [← hc j hj]; unfold World.cell?; rw [hbk]
  · have := hs j hj
    unfold World.cell? World.frozen? at this ⊢
    rw [hbk]
    exact this
theorem lvS_size (l : List ByteArray) (x : Value) : (lvS l x).size = 5 := by unfold lvS; split <;> rfl
theorem lvS_one (l : List ByteArray) (A : Option Addr) (n c : Nat) : (lvS l (.slice A n c)).all (·.oneCell') = true := by
  unfold lvS
  split
  · simp [zS, Value.oneCell']
  · simp [Value.oneCell']
theorem info28 : (Tryz.prog.info? 28).map (·.size) = some 5 := by kernel_rfl
set_option maxRecDepth 100000 in
set_option maxHeartbeats 8000000 in
theorem put_any (k : Int) (s : ByteArray) (x H Z y : Value) (ahead : Bool) (l ts : List ByteArray) (w : World) (hx : tR w x l) (hy : tR w y ts) (hn : l.length + ts.length ≤ 1000000) (hT : Tabs w) :
    Calls Tryz.prog 17 #[.agg #[.int .u8 k, .string s, x, H, Z], .bool ahead, y] w (Pres (putL ahead l ts) (lineL ⟨#[58]⟩ (numS ((putL ahead l ts).length : Int))) w) := by
  have hT' := veil hT
  obtain ⟨A1, c1, rfl, _⟩ := hx.ex
  obtain ⟨A2, c2, rfl, _⟩ := hy.ex
  obtain ⟨w2, hw2⟩ : ∃ w2 : World, w2 = (w.alloc (.cells #[.int .u8 k, .string s, .slice A1 l.length c1, H, Z] 28)).alloc (.cells #[.int .u8 0, .string ⟨#[]⟩, .slice none 0 0, .slice none 0 0, .slice none 0 0] 28) := ⟨_, rfl⟩
  have hsz2 : w2.heap.size = w.heap.size + 2 := by rw [hw2]; simp
  have hb2 : Below w.heap.size w w2 := by rw [hw2]; exact (below_alloc (Below.refl _ _) _).alloc (by simp) _
  have hx2 : w2.heap[w.heap.size]? = some (.cells #[.int .u8 k, .string s, .slice A1 l.length c1, H, Z] 28 (0, 0)) := by rw [hw2]; exact heap_alloc2_old w _ _
  have hz2 : w2.heap[w.heap.size + 1]? = some (.cells zS 28 (0, 0)) := by
    rw [hw2]
    have := heap_alloc_last (w.alloc (.cells #[.int .u8 k, .string s, .slice A1 l.length c1, H, Z] 28)) (.cells #[.int .u8 0, .string ⟨#[]⟩, .slice none 0 0, .slice none 0 0, .slice none 0 0] 28)
    simpa [zS] using this
  have hx' := veil (hx.below hb2)
  have hy' := veil (hy.below hb2)
  have hw2' := veil hw2
  have hB2 := veil hb2
  have hX2 := veil hx2
  have hZ2 := veil hz2
  have g2 : w2.cell? ⟨w.heap.size, 2, none⟩ = some (.slice A1 l.length c1) := by rw [cell_of_row _ _ _ _ _ _ hx2]; rfl
  clear hT hx hy hw2 hb2 hx2 hz2
  go_enter Tryz.func17, Tryz.ntmps17
  go_wp2_with fail
  rw [← hw2'.out]
  obtain ⟨w3, hw3⟩ : ∃ w3 : World, w3 = w2.alloc (.cells #[.slice A1 l.length c1, .slice A2 ts.length c2] 22) := ⟨_, rfl⟩
  have hb3 : Below w2.heap.size w2 w3 := by rw [hw3]; exact below_alloc (Below.refl _ _) _
  have hg3 : w3.heap[w2.heap.size]? = some (.cells #[.slice A1 l.length c1, .slice A2 ts.length c2] 22 (0, 0)) := by rw [hw3]; exact heap_alloc_last w2 _
  have e2 : w.heap.size + 1 + 1 = w2.heap.size := by omega
  rw [← hw3, e2]
  clear e2
  refine (concat_any _ _ l ts w2.heap.size w3 (hx'.out.below hb3) (hy'.out.below hb3) hg3 hn).mono ?_
  rintro e w4 ⟨v4, rfl, ho4, hb4⟩
  have hTR4 := tR_own ho4
  obtain ⟨A4, c4, rfl, _⟩ := hTR4.ex
  have hb24 := two_below hb3 hb4
  have hB4 := veil (two_below hB2.out hb24)
  have hX4 := veil ((hb24.block _ (by omega)).trans hX2.out)
  have hZ4 := veil ((hb24.block _ (by omega)).trans hZ2.out)
  have hx4 := veil (hx'.out.below hb24)
  have hy4 := veil (hy'.out.below hb24)
  have hs4 : w2.heap.size ≤ w4.heap.size := hb24.size
  have ho4' : Veil (OR w4 w.heap.size (.slice A4 (l ++ ts).length c4) (l ++ ts)) := veil (own_weaken ho4 (Nat.le_trans hB2.out.size hb3.size))
  have g4 : w4.cell? ⟨w.heap.size, 2, none⟩ = some (.slice A1 l.length c1) := by rw [cell_of_row _ _ _ _ _ _ hX4.out]; rfl
  clear hb3 hb4 hb24 hg3 hw3 ho4 hTR4 g2 hx' hy' hw2'
  cases ahead with
  | false =>
    rw [show putL false l ts = l ++ ts from rfl]
    obtain ⟨L, hL⟩ : ∃ L, l ++ ts = L := ⟨_, rfl⟩
    rw [hL] at ho4' ⊢
    have hLi : Int64 (L.length : Int) := by rw [← hL, List.length_append]; unfold Int64; omega
    have hoL := ho4'
    have hLv := veil hL
    clear hL ho4' hy4 hx4 hX4 g4
    go_wp2_with fail
    refine (list_any _ L w4 (tR_own hoL.out)).mono ?_
    rintro e wl ⟨rfl, hbl⟩
    have hBl := veil (two_below hB4.out hbl)
    have hZl := veil ((hbl.block _ (by omega)).trans hZ4.out)
    have hol : Veil (OR wl w.heap.size (.slice A4 L.length c4) L) := veil (own_move hoL.out (fun k hk => hbl.block k (own_lt hoL.out k hk)))
    have hsl := hbl.size
    clear hbl hoL
    go_wp2_with fail
    refine (Int_any L.length _ hLi (tabs_below hT'.out hBl.out).tab).mono ?_
    rintro e wi ⟨Ai, ci, rfl, hfi, hbi⟩
    have hBi := veil (two_below hBl.out hbi)
    have hZi := veil ((hbi.block _ (by omega)).trans hZl.out)
    have hoi : Veil (OR wi w.heap.size (.slice A4 L.length c4) L) := veil (own_move hol.out (fun k hk => hbi.block k (own_lt hol.out k hk)))
    have hfi' := veil hfi
    have hsi := hbi.size
    obtain ⟨m, hm⟩ : ∃ m, (lineL ⟨#[58]⟩ (numS (L.length : Int))).length = m := ⟨_, rfl⟩
    rw [hm] at hfi' ⊢
    obtain ⟨mv, hmv⟩ : ∃ mv, lvS L (.slice A4 L.length c4) = mv := ⟨_, rfl⟩
    rw [hmv]
    have hms : mv.size = 5 := by rw [← hmv]; exact lvS_size _ _
    have hmo : mv.all (·.oneCell') = true := by rw [← hmv]; exact lvS_one _ _ _ _
    have hmv' := veil hmv
    have hm' := veil hm
    clear hfi hbi hol hm hmv
    go_wp2_with (refine wpList_store_row rfl 28 _ _ rfl (w.heap.size + 1) mv rfl rfl 28 zS hZi.out (by rw [hms]; exact info28) hms.symm hmo ?_)
    have hset := setRow_heap wi (w.heap.size + 1) zS mv 28 (0, 0) hZi.out
    refine bodyPost_ret (v := .tuple #[.agg mv, .slice Ai m ci]) ?_ rfl ?_
    · exact RelG.results_cell_tmp (p := 6) (q := 7) (ty := 28) Tryz.results17 _ _ (w.heap.size + 1) 28 mv (0, 0) _ _ rfl rfl hset Tryz.underlying28 rfl (by rw [hms]; exact info28)
    · show Pres (l ++ ts) (lineL ⟨#[58]⟩ (numS ((l ++ ts).length : Int))) w _ _
      rw [hLv.out]
      exact ⟨.slice A4 L.length c4, Ai, m, ci, by rw [hmv'.out], own_setRow hoi.out hZi.out, (fresh_setRow hfi'.out (by omega)).base (by omega), below_setRow hBi.out _ _ (by omega)⟩
  | true =>
    rw [show putL true l ts = ts.reverse ++ l from rfl]
    go_wp2_with fail
    refine (clone_any _ ts w4 hy4.out (by omega)).mono ?_
    rintro e w5 ⟨v5, rfl, ho5, hb5⟩
    obtain ⟨A5, c5, rfl, _⟩ := (tR_own ho5).ex
    have ho5' := veil ho5
    have hb5' := veil hb5
    clear ho5 hb5
    go_wp2_with fail
    refine (reverse_any _ ts _ w5 ho5'.out).mono ?_
    rintro e w6 ⟨rfl, hr6, hs6, hb6⟩
    have hb46 := hb6 _ hb5'.out
    have hB6 := veil (two_below hB4.out hb46)
    have hX6 := veil ((hb46.block _ (by omega)).trans hX4.out)
    have hZ6 := veil ((hb46.block _ (by omega)).trans hZ4.out)
    have hx6 := veil (hx4.out.below hb46)
    have hr6' := veil hr6
    have hs6' : w4.heap.size ≤ w6.heap.size := hb46.size
    have g6 : w6.cell? ⟨w.heap.size, 2, none⟩ = some (.slice A1 l.length c1) := by rw [cell_of_row _ _ _ _ _ _ hX6.out]; rfl
    clear hs6 hb46 hb6 hr6 ho5' hb5' g4 hX4 hx4 hy4 ho4'
    go_wp2_with fail
    obtain ⟨w7, hw7⟩ : ∃ w7 : World, w7 = w6.alloc (.cells #[.slice A5 ts.length c5, .slice A1 l.length c1] 22) := ⟨_, rfl⟩
    have hb7 : Below w6.heap.size w6 w7 := by rw [hw7]; exact below_alloc (Below.refl _ _) _
    have hg7 : w7.heap[w6.heap.size]? = some (.cells #[.slice A5 ts.length c5, .slice A1 l.length c1] 22 (0, 0)) := by rw [hw7]; exact heap_alloc_last w6 _
    rw [← hw7]
    refine (concat_any _ _ ts.reverse l w6.heap.size w7 (hr6'.out.below hb7) (hx6.out.below hb7) hg7 (by rw [List.length_reverse]; omega)).mono ?_
    rintro e w8 ⟨v8, rfl, ho8, hb8⟩
    have hTR8 := tR_own ho8
    obtain ⟨A8, c8, rfl, _⟩ := hTR8.ex
    have hb68 := two_below hb7 hb8
    have hB8 := veil (two_below hB6.out hb68)
    have hZ8 := veil ((hb68.block _ (by omega)).trans hZ6.out)
    have hs8 : w6.heap.size ≤ w8.heap.size := hb68.size
    have hoL : Veil (OR w8 w.heap.size (.slice A8 (ts.reverse ++ l).length c8) (ts.reverse ++ l)) := veil (own_weaken ho8 (Nat.le_trans hB6.out.size hb7.size))
    obtain ⟨L, hL⟩ : ∃ L, ts.reverse ++ l = L := ⟨_, rfl⟩
    rw [hL] at hoL ⊢
    have hLi : Int64 (L.length : Int) := by rw [← hL, List.length_append, List.length_reverse]; unfold Int64; omega
    have hLv := veil hL
    clear hL hb7 hb8 hb68 ho8 hTR8 hg7 hw7 g6 hX6 hx6 hr6'
    go_wp2_with fail
    refine (list_any _ L w8 (tR_own hoL.out)).mono ?_
    rintro e wl ⟨rfl, hbl⟩
    have hBl := veil (two_below hB8.out hbl)
    have hZl := veil ((hbl.block _ (by omega)).trans hZ8.out)
    have hol : Veil (OR wl w.heap.size (.slice A8 L.length c8) L) := veil (own_move hoL.out (fun k hk => hbl.block k (own_lt hoL.out k hk)))
    have hsl := hbl.size
    clear hbl hoL
    go_wp2_with fail
    refine (Int_any L.length _ hLi (tabs_below hT'.out hBl.out).tab).mono ?_
    rintro e wi ⟨Ai, ci, rfl, hfi, hbi⟩
    have hBi := veil (two_below hBl.out hbi)
    have hZi := veil ((hbi.block _ (by omega)).trans hZl.out)
    have hoi : Veil (OR wi w.heap.size (.slice A8 L.length c8) L) := veil (own_move hol.out (fun k hk => hbi.block k (own_lt hol.out k hk)))
    have hfi' := veil hfi
    have hsi := hbi.size
    obtain ⟨m, hm⟩ : ∃ m, (lineL ⟨#[58]⟩ (numS (L.length : Int))).length = m := ⟨_, rfl⟩
    rw [hm] at hfi' ⊢
    obtain ⟨mv, hmv⟩ : ∃ mv, lvS L (.slice A8 L.length c8) = mv := ⟨_, rfl⟩
    rw [hmv]
    have hms : mv.size = 5 := by rw [← hmv]; exact lvS_size _ _
    have hmo : mv.all (·.oneCell') = true := by rw [← hmv]; exact lvS_one _ _ _ _
    have hmv' := veil hmv
    have hm' := veil hm
    clear hfi hbi hol hm hmv
    go_wp2_with (refine wpList_store_row rfl 28 _ _ rfl (w.heap.size + 1) mv rfl rfl 28 zS hZi.out (by rw [hms]; exact info28) hms.symm hmo ?_)
    have hset := setRow_heap wi (w.heap.size + 1) zS mv 28 (0, 0) hZi.out
    refine bodyPost_ret (v := .tuple #[.agg mv, .slice Ai m ci]) ?_ rfl ?_
    · exact RelG.results_cell_tmp (p := 6) (q := 7) (ty := 28) Tryz.results17 _ _ (w.heap.size + 1) 28 mv (0, 0) _ _ rfl rfl hset Tryz.underlying28 rfl (by rw [hms]; exact info28)
    · show Pres (ts.reverse ++ l) (lineL ⟨#[58]⟩ (numS ((ts.reverse ++ l).length : Int))) w _ _
      rw [hLv.out]
      exact ⟨.slice A8 L.length c8, Ai, m, ci, by rw [hmv'.out], own_setRow hoi.out hZi.out, (fresh_setRow hfi'.out (by omega)).base (by omega), below_setRow hBi.out _ _ (by omega)⟩
end Go.Proofs.Tryz.Ln
