import Derived.Test.YtnlmdijpbedefaaGreatDoorNumb
/- Rows joined; what reply.Array and reply.Texts tell. -/
namespace Go.Proofs.Tryz.Ln
open Go Go.RowKit Go.Proofs.Mem Go.Proofs.App
open Go.Proofs.YtnlmdijpbedefaaGreatDoorW.PrintWords
set_option linter.unusedVariables false
theorem join_flat (ls : List (List UInt8)) : Lib.join ls [] = ls.flatten := by
  cases ls with
  | nil => rfl
  | cons x r =>
    rw [Lib.join_cons, Lib.joinTail, List.flatten_cons]
    simp
theorem u8_flatten (ls : List (List Int)) : (ls.map u8).flatten = u8 ls.flatten := by
  induction ls with
  | nil => rfl
  | cons x r ih => simp only [List.map_cons, List.flatten_cons, ih]; simp [u8]
/-- these slices lie in a row -/
def PartsO (w : World) (b o : Nat) (ls : List (List Int)) : Prop := ∀ i l, ls[i]? = some l → ∃ A c, w.cell? ⟨b, o + i, none⟩ = some (.slice A l.length c) ∧ ReadsInt w .u8 A l.length l ∧ Byt l
def Parts (w : World) (b : Nat) (ls : List (List Int)) : Prop := ∀ i l, ls[i]? = some l → ∃ A c, w.cell? ⟨b, i, none⟩ = some (.slice A l.length c) ∧ ReadsInt w .u8 A l.length l ∧ Byt l
theorem parts_o {w : World} {b : Nat} {ls : List (List Int)} (h : Parts w b ls) : PartsO w b 0 ls := fun i l hi => by
  rw [Nat.zero_add]
  exact h i l hi
theorem add_off (b o i : Nat) : (⟨b, o, none⟩ : Addr).add i = ⟨b, o + i, none⟩ := by unfold Addr.add; split <;> simp_all
theorem partsO_below {w w1 : World} {b o : Nat} {ls : List (List Int)} (h : PartsO w b o ls) (hb : Below w.heap.size w w1) : PartsO w1 b o ls := fun i l hi => by
  obtain ⟨A, c, h1, h2, h3⟩ := h i l hi
  exact ⟨A, c, pw_cell_below hb h1, h2.below hb, h3⟩
theorem parts_below {w w1 : World} {b : Nat} {ls : List (List Int)} (h : Parts w b ls) (hb : Below w.heap.size w w1) : Parts w1 b ls := fun i l hi => by
  obtain ⟨A, c, h1, h2, h3⟩ := h i l hi
  exact ⟨A, c, pw_cell_below hb h1, h2.below hb, h3⟩
theorem holds_of {w : World} {A : Option Addr} {l : List Int} {c : Nat} (h : ReadsInt w .u8 A l.length l) (hb : Byt l) : Lib.HoldsBytes w (.slice A l.length c) (u8 l) := by
  refine ⟨A, c, by simp [u8], fun hA => ?_, fun a ha i x hx => ?_⟩
  · cases l with
    | nil => rfl
    | cons y r =>
      obtain ⟨ad, e, _⟩ := h.2.2 (by simp)
      rw [hA] at e; cases e
  · have hi : i < l.length := by have := (List.getElem?_eq_some_iff.1 hx).1; simpa [u8] using this
    obtain ⟨ad, e, hc⟩ := h.2.2 (by omega)
    rw [ha] at e
    injection e with e
    subst e
    rw [hc i hi]
    simp only [u8, List.getElem?_map, List.getElem?_eq_getElem hi, Option.map_some, Option.some.injEq] at hx
    subst hx
    have hm := hb l[i] (List.getElem_mem hi)
    rw [u8_val _ hm.1 hm.2]
    simp [List.getD_eq_getElem?_getD, hi]
theorem reads_of_fresh {B : Nat} {w : World} {v : Value} {L : List Int} (h : Lib.FreshBytes B w v (u8 L)) (hL : Byt L) (hn : L.length ≤ 140737488355328) : ∃ A c, v = .slice A L.length c ∧ L.length ≤ c ∧ ReadsInt w .u8 A L.length L := by
  obtain ⟨g, cap, zs, rfl, _, hle, _, hz, hr, hb, hc, _⟩ := h
  have hu : (u8 L).length = L.length := by simp [u8]
  rw [hu] at hle hb
  refine ⟨_, cap, by rw [hu], hle, rfl, by omega, fun _ => ⟨_, rfl, fun j hj => ?_⟩⟩
  have e : zs.take L.length = L := by
    refine u8_inj (fun x hx => ?_) hL (by rw [← hb]; rfl)
    have := hr x (List.mem_of_mem_take hx)
    omega
  rw [add_plain, hc j (by omega)]
  congr 2
  rw [← e]
  simp [List.getD_eq_getElem?_getD, hj]
/-- slices joined: their bytes, one behind the other -/
def Joined (L : List Int) (w : World) (e : Ending) (w' : World) : Prop := ∃ A c, e = .returned (.slice A L.length c) ∧ L.length ≤ c ∧ ReadsInt w' .u8 A L.length L ∧ Below w.heap.size w w'
theorem join_any (A : Option Addr) (b o n c : Nat) (ls : List (List Int)) (w : World) (hA : 0 < n → A = some ⟨b, o, none⟩) (hn : ls.length = n) (hc : n ≤ c) (hP : PartsO w b o ls) (hlen : ls.flatten.length ≤ 70368744177664) (hn2 : n ≤ 70368744177664) :
    Calls Tryz.prog 43 #[.slice A n c, .slice none 0 0] w (Joined ls.flatten w) := by
  have hLb : Byt ls.flatten := byt_flatten fun l hl => by
    obtain ⟨i, hi, rfl⟩ := List.mem_iff_getElem.1 hl
    obtain ⟨_, _, _, _, h⟩ := hP i _ (List.getElem?_eq_getElem hi)
    exact h
  by_cases h0 : n = 0
  · subst h0
    obtain rfl : ls = [] := List.eq_nil_of_length_eq_zero hn
    refine (Tryz.bytes_Join_none A c (.slice none 0 0) w).mono ?_
    rintro e w1 ⟨rfl, rfl⟩
    exact ⟨_, 0, rfl, by simp, ⟨rfl, by simp, fun h => absurd h (by simp)⟩, below_alloc (Below.refl _ _) _⟩
  · obtain rfl := hA (by omega)
    by_cases h1 : n = 1
    · subst h1
      obtain ⟨l, rfl⟩ : ∃ l, ls = [l] := List.length_eq_one_iff.1 hn
      obtain ⟨A0, c0, hcell, hr, hb⟩ := hP 0 l rfl
      rw [Nat.add_zero] at hcell
      rw [show [l].flatten = l by simp] at *
      by_cases hl : l.length = 0
      · obtain rfl : l = [] := List.eq_nil_of_length_eq_zero hl
        refine (Tryz.bytes_Join_one_empty b o c A0 c0 (.slice none 0 0) w hcell).mono ?_
        rintro e w1 ⟨rfl, rfl⟩
        exact ⟨none, 0, rfl, by simp, ⟨rfl, by simp, fun h => absurd h (by simp)⟩, Below.refl _ _⟩
      · obtain ⟨ad, rfl, hcs⟩ := hr.2.2 (by omega)
        have hH := holds_of (c := c0) hr hb
        obtain ⟨p, cap, e1, _, e3⟩ := hH
        injection e1 with e1 e2 e4
        subst e1
        have hu : (u8 l).length = l.length := by simp [u8]
        refine (Tryz.bytes_Join_one b o c ad c0 (u8 l) (.slice none 0 0) w (by rw [hu]; exact hcell) (fun i x hx => e3 ad rfl i x hx) (by omega) (by omega)).mono ?_
        rintro e w1 ⟨v, rfl, hf, hbl⟩
        obtain ⟨A', c', rfl, hle, hrr⟩ := reads_of_fresh hf hb (by omega)
        exact ⟨A', c', rfl, hle, hrr, hbl⟩
    · have hvs : Lib.PartsAt w ⟨b, o, none⟩ ((List.range n).map fun i => (w.cell? ⟨b, o + i, none⟩).getD .nilIface) (ls.map u8) := by
        refine ⟨by simp [hn], fun i v hv => ?_, fun i v l hv hl => ?_⟩
        · have hi : i < n := by have := (List.getElem?_eq_some_iff.1 hv).1; simpa using this
          obtain ⟨A', c', hcl, _⟩ := hP i ls[i] (List.getElem?_eq_getElem (by omega))
          rw [add_off, hcl]
          simp [hi, hcl] at hv
          rw [hv]
        · have hi : i < n := by have := (List.getElem?_eq_some_iff.1 hv).1; simpa using this
          obtain ⟨A', c', hcl, hr, hb⟩ := hP i ls[i] (List.getElem?_eq_getElem (by omega))
          simp [hi, hcl] at hv
          rw [List.getElem?_map, List.getElem?_eq_getElem (by omega)] at hl
          simp only [Option.map_some, Option.some.injEq] at hl
          subst hl
          rw [← hv]
          exact holds_of hr hb
      have hll : Lib.lens (ls.map u8) = ls.flatten.length := by
        simp only [Lib.lens, List.map_map, List.length_flatten]
        congr 1
        apply List.map_congr_left
        intro l _
        simp [u8]
      refine (Tryz.bytes_Join_many b o n c _ (ls.map u8) (.slice none 0 0) [] w (by simp [hn]) (by omega) hvs hc ⟨none, 0, rfl, fun _ => rfl, fun a h => by cases h⟩ (by omega) (by rw [hll, List.length_nil, Nat.zero_mul]; omega)).mono ?_
      rintro e w1 ⟨v, rfl, hf, hbl⟩
      rw [join_flat, u8_flatten] at hf
      obtain ⟨A', c', rfl, hle, hrr⟩ := reads_of_fresh hf hLb (by omega)
      exact ⟨A', c', rfl, hle, hrr, hbl⟩
/-- an array's bytes -/
def arrL (ls : List (List Int)) : List Int := lineL ⟨#[42]⟩ (numS ls.length) ++ ls.flatten
set_option maxHeartbeats 4000000 in
theorem Array_any (A : Option Addr) (b o n c : Nat) (ls : List (List Int)) (w : World) (hA : 0 < n → A = some ⟨b, o, none⟩) (hn : ls.length = n) (hc : n ≤ c) (hP : PartsO w b o ls) (hlen : ls.flatten.length ≤ 70368744177664) (hn2 : n ≤ 70368744177664) (hT : Tabl w) :
    Calls Tryz.prog 36 #[.slice A n c] w (Bytes_ (arrL ls) w) := by
  have hi : Int64 (n : Int) := ⟨by omega, by omega⟩
  have hz := numS_size n hi.1 hi.2
  have hn' := veil hn
  have hP' := veil hP
  clear hn hP
  go_enter Tryz.func36, Tryz.ntmps36
  go_wp2_with fail
  refine (text_any n _ hi hT).mono ?_
  rintro e w1 ⟨rfl, hb1⟩
  go_wp2_with fail
  refine (line_any ⟨#[42]⟩ (numS n) _ (by decide) (by omega)).mono ?_
  rintro e w2 ⟨A1, c1, rfl, hf, hb2⟩
  have hb' := veil (two_below hb1 hb2)
  have hf1 := veil (hf.base hb1.size)
  have hP2 := veil (partsO_below hP'.out hb'.out)
  have hm9 : (lineL ⟨#[42]⟩ (numS n)).length ≤ 100 := by rw [lineL_len]; show 1 + _ + 2 ≤ 100; omega
  obtain ⟨m, hm⟩ : ∃ m, (lineL ⟨#[42]⟩ (numS n)).length = m := ⟨_, rfl⟩
  rw [hm] at hf1 hm9 ⊢
  have hm' := veil hm
  clear hf hb1 hb2 hm hz
  go_wp2_with fail
  refine (join_any A b o n c ls _ hA hn'.out hc hP2.out hlen hn2).mono ?_
  rintro e w3 ⟨A2, c2, rfl, hle2, hr2, hb3⟩
  have hf3 := veil (hf1.out.below hb3)
  have hb3' := veil (two_below hb'.out hb3)
  have hs3 : w.heap.size ≤ w3.heap.size := hb3'.out.size
  have hr2' := veil hr2
  obtain ⟨q, hq⟩ : ∃ q, ls.flatten.length = q := ⟨_, rfl⟩
  rw [hq] at hr2' hle2 hlen ⊢
  have hq' := veil hq
  clear hr2 hb3 hf1 hq
  go_wp2_with (refine wpList_app (w0 := w) w.heap.size rfl _ _ 29 29 5 .u8 1 rfl Tryz.underlying29 info5 (by omega) A1 m c1 _ _ _ _ rfl rfl hf3.out (src_reads Tryz.underlying29 _ _ _ _ hr2'.out) hb3'.out hs3 (by omega) ?_; intro A4 c4 w4 hf4 hb4)
  have hl4 : (arrL ls).length = m + q := by rw [arrL, List.length_append, hn'.out, hm'.out, hq'.out]
  have hf4' : Veil (Fresh .u8 w.heap.size w4 A4 (m + q) c4 (arrL ls)) := veil (by unfold arrL; rw [hn'.out]; exact hf4)
  have hb4' := veil hb4
  have hl4' := veil hl4
  clear hf4 hb4 hl4
  go_wp2_with fail
  go_ret
  exact ⟨A4, c4, by rw [hl4'.out]; rfl, by rw [hl4'.out]; exact hf4'.out, hb4'.out⟩
theorem info24 : (Tryz.prog.info? 29).map (fun i => (i.zero, i.size, i.bytes)) = some (some (.slice none 0 0), 1, 24) := by kernel_rfl
/-- the row of bulks, so far -/
def Row (w : World) (g n : Nat) (ss : List ByteArray) (k : Nat) : Prop :=
  (∀ i s, i < k → ss[i]? = some s → ∃ A c, w.cell? ⟨g, i, none⟩ = some (.slice A (bulkL s).length c) ∧ ReadsInt w .u8 A (bulkL s).length (bulkL s)) ∧ (∀ i, k ≤ i → i < n → w.cell? ⟨g, i, none⟩ = some (.slice none 0 0)) ∧ ∀ i, i < n → w.frozen? ⟨g, i, none⟩ = false
theorem row_below {w w1 : World} {g n k : Nat} {ss : List ByteArray} (h : Row w g n ss k) (hg : g < w.heap.size) (hb : Below w.heap.size w w1) : Row w1 g n ss k := by
  refine ⟨fun i s hi hs => ?_, fun i hi hn => pw_cell_below hb (h.2.1 i hi hn), fun i hi => ?_⟩
  · obtain ⟨A, c, h1, h2⟩ := h.1 i s hi hs
    exact ⟨A, c, pw_cell_below hb h1, h2.below hb⟩
  · rw [hb.frozen (p := ⟨g, i, none⟩) hg]
    exact h.2.2 i hi
/-- a store over a slice spoils no cell that holds a byte -/
theorem reads_set {w : World} {g k : Nat} {v : Value} (hu : w.cell? ⟨g, k, none⟩ = some (.slice none 0 0)) {B : Option Addr} {n : Nat} {l : List Int} (h : ReadsInt w .u8 B n l) : ReadsInt (w.setCell ⟨g, k, none⟩ v) .u8 B n l :=
  ⟨h.1, h.2.1, fun hp => by
    obtain ⟨ad, e, hc⟩ := h.2.2 hp
    refine ⟨ad, e, fun j hj => ?_⟩
    have hcj := hc j hj
    rw [World.cell?_setCell_other]
    · exact hcj
    · intro q
      rw [← q, hu] at hcj
      cases hcj⟩
theorem row_set {w : World} {g n k c : Nat} {ss : List ByteArray} {A : Option Addr} {s : ByteArray} (h : Row w g n ss k) (hk : k < n) (hs : ss[k]? = some s) (hr : ReadsInt w .u8 A (bulkL s).length (bulkL s)) : Row (w.setCell ⟨g, k, none⟩ (.slice A (bulkL s).length c)) g n ss (k + 1) := by
  have hu := h.2.1 k (Nat.le_refl _) hk
  refine ⟨fun i s' hi hs' => ?_, fun i hi hn => ?_, fun i hi => by rw [World.frozen?_setCell]; exact h.2.2 i hi⟩
  · by_cases e : i = k
    · subst e
      rw [hs] at hs'
      injection hs' with hs'
      subst hs'
      exact ⟨A, c, World.cell?_setCell_same _ _ _ hu, reads_set hu hr⟩
    · obtain ⟨B, c', h1, h2⟩ := h.1 i s' (by omega) hs'
      refine ⟨B, c', ?_, reads_set hu h2⟩
      rw [World.cell?_setCell_other]
      · exact h1
      · intro q; injection q with _ q; exact e q.symm
  · rw [World.cell?_setCell_other]
    · exact h.2.1 i (by omega) hn
    · intro q; injection q with _ q; omega
def bulks (ss : List ByteArray) : List (List Int) := ss.map bulkL
/-- texts as an array -/
def textsL (ss : List ByteArray) : List Int := arrL (bulks ss)
set_option maxRecDepth 100000 in
set_option maxHeartbeats 8000000 in
theorem Texts_any (A : Option Addr) (n c : Nat) (ss : List ByteArray) (w : World) (HR : ReadsOf Value.string ByteArray.empty w A n ss) (hc : n ≤ c) (hn : n ≤ 1000000) (hs : ∀ s ∈ ss, s.size ≤ 70368744177664) (hlen : (bulks ss).flatten.length ≤ 70368744177664) (hT : Tabl w) :
    Calls Tryz.prog 21 #[.slice A n c] w (Bytes_ (textsL ss) w) := by
  have HR' := veil HR
  have hl := veil HR.1
  have hmk := print_make_of (P := Tryz.prog) 48 29 (.slice none 0 0) 24 Tryz.underlying48 info24 rfl (by omega) n (by omega)
  have hrow0 : Row (w.alloc (.cells (madeCells #[.slice none 0 0] n) 29)) w.heap.size n ss 0 := by
    have hg := heap_alloc_last w (.cells (madeCells #[.slice none 0 0] n) 29)
    refine ⟨fun i s hi => absurd hi (by omega), fun i _ hi => ?_, fun i hi => by unfold World.frozen?; rw [hg]; simp⟩
    rw [cell_of_row _ _ _ _ _ _ hg, ← Array.getElem?_toList, toList_madeCells_one]
    simp [hi]
  have hrow0' := veil hrow0
  have hb0 := veil (below_alloc (Below.refl w.heap.size w) (.cells (madeCells #[.slice none 0 0] n) 29))
  have hs' := veil hs
  clear HR hrow0 hs
  go_enter Tryz.func21, Tryz.ntmps21
  go_wp2_with fail
  go_loopw [11] (fun i wr => ∃ k : Nat, k ≤ n ∧ i = .int .i64 k ∧ Row wr w.heap.size n ss k ∧ w.heap.size < wr.heap.size ∧ Below w.heap.size w wr) (fun i _ => n - (intOf i).toNat)
  case atStart => exact ⟨0, by omega, rfl, hrow0'.out, by simp, hb0.out⟩
  case round =>
    obtain ⟨k, hk, rfl, hrow, hsz, hb⟩ := hrel
    have hrow' := veil hrow
    have hb' := veil hb
    clear hrow hb
    by_cases hlt : k < n
    · obtain ⟨s, hsk⟩ : ∃ s, ss[k]? = some s := ⟨_, List.getElem?_eq_getElem (by rw [hl.out]; exact hlt)⟩
      obtain ⟨ad, rfl, hcell⟩ := (HR'.out.below hb'.out).2.2 (by omega)
      have hck := hcell k hlt
      rw [List.getD_eq_getElem?_getD, hsk, Option.getD_some] at hck
      have hss : s.size ≤ 70368744177664 := hs'.out s (List.mem_of_getElem? hsk)
      have hTw := veil (tabl_below hT hb'.out)
      have hsk' := veil hsk
      clear hcell hsk
      go_wp2_with fail
      refine (Bulk_any s _ hss hTw.out).mono ?_
      rintro e w2 ⟨A2, c2, rfl, hf2, hb2⟩
      have hr2 := veil (hf2.reads (bulkL_len s hss))
      have hrow2 := veil (row_below hrow'.out hsz hb2)
      have hb2' := veil (two_below hb'.out hb2)
      have hsz2 : w.heap.size < w2.heap.size := by have := hb2.size; omega
      have g0 := hrow2.out.2.1 k (Nat.le_refl _) hlt
      have gf := hrow2.out.2.2 k hlt
      obtain ⟨q, hq⟩ : ∃ q, (bulkL s).length = q := ⟨_, rfl⟩
      rw [hq]
      have hq' := veil hq
      have k0 : (0 : Int) ≤ k := by omega
      have kn : (k : Int) < n := by omega
      clear hf2 hb2 hq
      go_wp2_with fail
      have hset := row_set (c := c2) hrow2.out hlt hsk'.out hr2.out
      rw [hq'.out] at hset
      exact ⟨⟨k + 1, by omega, by go_num, hset, by rw [World.size_setCell]; exact hsz2, hb2'.out.setCell (Nat.le_refl _) _⟩, by simp [intOf]; omega⟩
    · obtain rfl : k = n := by omega
      obtain ⟨wp, rfl⟩ : ∃ wp : World, wp = wr := ⟨_, rfl⟩
      have hP : Parts wp w.heap.size (bulks ss) := fun i l hi => by
        unfold bulks at hi
        rw [List.getElem?_map] at hi
        cases hsi : ss[i]? with
        | none => rw [hsi] at hi; cases hi
        | some s =>
          rw [hsi] at hi
          simp only [Option.map_some, Option.some.injEq] at hi
          subst hi
          have hik : i < k := by rw [← hl.out]; exact (List.getElem?_eq_some_iff.1 hsi).1
          obtain ⟨A', c', h1, h2⟩ := hrow'.out.1 i s hik hsi
          exact ⟨A', c', h1, h2, byt_bulk s⟩
      have hP' := veil hP
      have hTw := veil (tabl_below hT hb'.out)
      clear hP
      go_wp2_with fail
      refine (Array_any _ w.heap.size 0 k k (bulks ss) _ (fun _ => rfl) (by rw [bulks, List.length_map]; exact hl.out) (Nat.le_refl _) (parts_o hP'.out) hlen (by omega) hTw.out).mono ?_
      rintro e w3 ⟨A3, c3, rfl, hf3, hb3⟩
      have hf3' := veil (hf3.base hb'.out.size)
      have hb3' := veil (two_below hb'.out hb3)
      obtain ⟨q, hq⟩ : ∃ q, (arrL (bulks ss)).length = q := ⟨_, rfl⟩
      rw [hq]
      have hq' := veil hq
      clear hf3 hb3 hq
      go_wp2_with fail
      go_ret
      exact ⟨A3, c3, by rw [show textsL ss = arrL (bulks ss) from rfl, hq'.out]; rfl, hf3'.out, hb3'.out⟩
end Go.Proofs.Tryz.Ln
