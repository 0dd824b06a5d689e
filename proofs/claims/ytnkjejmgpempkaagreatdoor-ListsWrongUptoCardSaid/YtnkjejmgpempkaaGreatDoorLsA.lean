import Derived.Test.YtnkjejmgpempkaaGreatDoorNumb
import Derived.Test.YtnkjejmgpempkaaGreatDoorPars
import Derived.Test.YtnkjejmgpempkaaGreatDoorRelN
import Derived.Test.YtnkjejmgpempkaaGreatDoorLow
import Derived.Laws.IdiomCopy
import Derived.OwnWalk
/- Rows joined; what reply.Array and reply.Texts tell. -/
namespace Go.Proofs.Tryz.Ln
open Go Go.RowKit Go.Proofs.Mem Go.Proofs.App
open Go.Proofs.YtnkjejmgpempkaaGreatDoorW.PrintWords
set_option linter.unusedVariables false
theorem join_flat (ls : List (List UInt8)) : Lib.join ls [] = ls.flatten := by
  cases ls with
  | nil => rfl
  | cons x r =>
    rw [Lib.join_cons, Lib.joinTail, List.flatten_cons]
    simp
theorem u8_flatten (ls : List (List Int)) : (ls.map u8).flatten = u8 ls.flatten := by
  induction ls with
  | nil => rfl
  | cons x r ih => simp only [List.map_cons, List.flatten_cons, ih]; simp [u8]
/-- these slices lie in a row -/
def PartsO (w : World) (b o : Nat) (ls : List (List Int)) : Prop := ∀ i l, ls[i]? = some l → ∃ A c, w.cell? ⟨b, o + i, none⟩ = some (.slice A l.length c) ∧ ReadsInt w .u8 A l.length l ∧ Byt l
def Parts (w : World) (b : Nat) (ls : List (List Int)) : Prop := ∀ i l, ls[i]? = some l → ∃ A c, w.cell? ⟨b, i, none⟩ = some (.slice A l.length c) ∧ ReadsInt w .u8 A l.length l ∧ Byt l
theorem parts_o {w : World} {b : Nat} {ls : List (List Int)} (h : Parts w b ls) : PartsO w b 0 ls := fun i l hi => by
  rw [Nat.zero_add]
  exact h i l hi
theorem add_off (b o i : Nat) : (⟨b, o, none⟩ : Addr).add i = ⟨b, o + i, none⟩ := by unfold Addr.add; split <;> simp_all
theorem partsO_below {w w1 : World} {b o : Nat} {ls : List (List Int)} (h : PartsO w b o ls) (hb : Below w.heap.size w w1) : PartsO w1 b o ls := fun i l hi => by
  obtain ⟨A, c, h1, h2, h3⟩ := h i l hi
  exact ⟨A, c, pw_cell_below hb h1, h2.below hb, h3⟩
theorem parts_below {w w1 : World} {b : Nat} {ls : List (List Int)} (h : Parts w b ls) (hb : Below w.heap.size w w1) : Parts w1 b ls := fun i l hi => by
  obtain ⟨A, c, h1, h2, h3⟩ := h i l hi
  exact ⟨A, c, pw_cell_below hb h1, h2.below hb, h3⟩
theorem holds_of {w : World} {A : Option Addr} {l : List Int} {c : Nat} (h : ReadsInt w .u8 A l.length l) (hb : Byt l) : Lib.HoldsBytes w (.slice A l.length c) (u8 l) := by
  refine ⟨A, c, by simp [u8], fun hA => ?_, fun a ha i x hx => ?_⟩
  · cases l with
    | nil => rfl
    | cons y r =>
      obtain ⟨ad, e, _⟩ := h.2.2 (by simp)
      rw [hA] at e; cases e
  · have hi : i < l.length := by have := (List.getElem?_eq_some_iff.1 hx).1; simpa [u8] using this
    obtain ⟨ad, e, hc⟩ := h.2.2 (by omega)
    rw [ha] at e
    injection e with e
    subst e
    rw [hc i hi]
    simp only [u8, List.getElem?_map, List.getElem?_eq_getElem hi, Option.map_some, Option.some.injEq] at hx
    subst hx
    have hm := hb l[i] (List.getElem_mem hi)
    rw [u8_val _ hm.1 hm.2]
    simp [List.getD_eq_getElem?_getD, hi]
theorem reads_of_fresh {B : Nat} {w : World} {v : Value} {L : List Int} (h : Lib.FreshBytes B w v (u8 L)) (hL : Byt L) (hn : L.length ≤ 140737488355328) : ∃ A c, v = .slice A L.length c ∧ L.length ≤ c ∧ ReadsInt w .u8 A L.length L := by
  obtain ⟨g, cap, zs, rfl, _, hle, _, hz, hr, hb, hc, _⟩ := h
  have hu : (u8 L).length = L.length := by simp [u8]
  rw [hu] at hle hb
  refine ⟨_, cap, by rw [hu], hle, rfl, by omega, fun _ => ⟨_, rfl, fun j hj => ?_⟩⟩
  have e : zs.take L.length = L := by
    refine u8_inj (fun x hx => ?_) hL (by rw [← hb]; rfl)
    have := hr x (List.mem_of_mem_take hx)
    omega
  rw [add_plain, hc j (by omega)]
  congr 2
  rw [← e]
  simp [List.getD_eq_getElem?_getD, hj]
/-- slices joined: their bytes, one behind the other -/
def Joined (L : List Int) (w : World) (e : Ending) (w' : World) : Prop := ∃ A c, e = .returned (.slice A L.length c) ∧ L.length ≤ c ∧ ReadsInt w' .u8 A L.length L ∧ Below w.heap.size w w'
theorem join_any (A : Option Addr) (b o n c : Nat) (ls : List (List Int)) (w : World) (hA : 0 < n → A = some ⟨b, o, none⟩) (hn : ls.length = n) (hc : n ≤ c) (hP : PartsO w b o ls) (hlen : ls.flatten.length ≤ 70368744177664) (hn2 : n ≤ 70368744177664) :
    Calls Tryz.prog 43 #[.slice A n c, .slice none 0 0] w (Joined ls.flatten w) := by
  have hLb : Byt ls.flatten := byt_flatten fun l hl => by
    obtain ⟨i, hi, rfl⟩ := List.mem_iff_getElem.1 hl
    obtain ⟨_, _, _, _, h⟩ := hP i _ (List.getElem?_eq_getElem hi)
    exact h
  by_cases h0 : n = 0
  · subst h0
    obtain rfl : ls = [] := List.eq_nil_of_length_eq_zero hn
    refine (Tryz.bytes_Join_none A c (.slice none 0 0) w).mono ?_
    rintro e w1 ⟨rfl, rfl⟩
    exact ⟨_, 0, rfl, by simp, ⟨rfl, by simp, fun h => absurd h (by simp)⟩, below_alloc (Below.refl _ _) _⟩
  · obtain rfl := hA (by omega)
    by_cases h1 : n = 1
    · subst h1
      obtain ⟨l, rfl⟩ : ∃ l, ls = [l] := List.length_eq_one_iff.1 hn
      obtain ⟨A0, c0, hcell, hr, hb⟩ := hP 0 l rfl
      rw [Nat.add_zero] at hcell
      rw [show [l].flatten = l by simp] at *
      by_cases hl : l.length = 0
      · obtain rfl : l = [] := List.eq_nil_of_length_eq_zero hl
        refine (Tryz.bytes_Join_one_empty b o c A0 c0 (.slice none 0 0) w hcell).mono ?_
        rintro e w1 ⟨rfl, rfl⟩
        exact ⟨none, 0, rfl, by simp, ⟨rfl, by simp, fun h => absurd h (by simp)⟩, Below.refl _ _⟩
      · obtain ⟨ad, rfl, hcs⟩ := hr.2.2 (by omega)
        have hH := holds_of (c := c0) hr hb
        obtain ⟨p, cap, e1, _, e3⟩ := hH
        injection e1 with e1 e2 e4
        subst e1
        have hu : (u8 l).length = l.length := by simp [u8]
        refine (Tryz.bytes_Join_one b o c ad c0 (u8 l) (.slice none 0 0) w (by rw [hu]; exact hcell) (fun i x hx => e3 ad rfl i x hx) (by omega) (by omega)).mono ?_
        rintro e w1 ⟨v, rfl, hf, hbl⟩
        obtain ⟨A', c', rfl, hle, hrr⟩ := reads_of_fresh hf hb (by omega)
        exact ⟨A', c', rfl, hle, hrr, hbl⟩
    · have hvs : Lib.PartsAt w ⟨b, o, none⟩ ((List.range n).map fun i => (w.cell? ⟨b, o + i, none⟩).getD .nilIface) (ls.map u8) := by
        refine ⟨by simp [hn], fun i v hv => ?_, fun i v l hv hl => ?_⟩
        · have hi : i < n := by have := (List.getElem?_eq_some_iff.1 hv).1; simpa using this
          obtain ⟨A', c', hcl, _⟩ := hP i ls[i] (List.getElem?_eq_getElem (by omega))
          rw [add_off, hcl]
          simp [hi, hcl] at hv
          rw [hv]
        · have hi : i < n := by have := (List.getElem?_eq_some_iff.1 hv).1; simpa using this
          obtain ⟨A', c', hcl, hr, hb⟩ := hP i ls[i] (List.getElem?_eq_getElem (by omega))
          simp [hi, hcl] at hv
          rw [List.getElem?_map, List.getElem?_eq_getElem (by omega)] at hl
          simp only [Option.map_some, Option.some.injEq] at hl
          subst hl
          rw [← hv]
          exact holds_of hr hb
      have hll : Lib.lens (ls.map u8) = ls.flatten.length := by
        simp only [Lib.lens, List.map_map, List.length_flatten]
        congr 1
        apply List.map_congr_left
        intro l _
        simp [u8]
      refine (Tryz.bytes_Join_many b o n c _ (ls.map u8) (.slice none 0 0) [] w (by simp [hn]) (by omega) hvs hc ⟨none, 0, rfl, fun _ => rfl, fun a h => by cases h⟩ (by omega) (by rw [hll, List.length_nil, Nat.zero_mul]; omega)).mono ?_
      rintro e w1 ⟨v, rfl, hf, hbl⟩
      rw [join_flat, u8_flatten] at hf
      obtain ⟨A', c', rfl, hle, hrr⟩ := reads_of_fresh hf hLb (by omega)
      exact ⟨A', c', rfl, hle, hrr, hbl⟩
/-- an array's bytes -/
def arrL (ls : List (List Int)) : List Int := lineL ⟨#[42]⟩ (numS ls.length) ++ ls.flatten
set_option maxHeartbeats 4000000 in
theorem Array_any (A : Option Addr) (b o n c : Nat) (ls : List (List Int)) (w : World) (hA : 0 < n → A = some ⟨b, o, none⟩) (hn : ls.length = n) (hc : n ≤ c) (hP : PartsO w b o ls) (hlen : ls.flatten.length ≤ 70368744177664) (hn2 : n ≤ 70368744177664) (hT : Tabl w) :
    Calls Tryz.prog 35 #[.slice A n c] w (Bytes_ (arrL ls) w) := by
  have hi : Int64 (n : Int) := ⟨by omega, by omega⟩
  have hz := numS_size n hi.1 hi.2
  have hn' := veil hn
  have hP' := veil hP
  clear hn hP
  go_enter Tryz.func35, Tryz.ntmps35
  go_wp2_with fail
  refine (text_any n _ hi hT).mono ?_
  rintro e w1 ⟨rfl, hb1⟩
  go_wp2_with fail
  refine (line_any ⟨#[42]⟩ (numS n) _ (by decide) (by omega)).mono ?_
  rintro e w2 ⟨A1, c1, rfl, hf, hb2⟩
  have hb' := veil (two_below hb1 hb2)
  have hf1 := veil (hf.base hb1.size)
  have hP2 := veil (partsO_below hP'.out hb'.out)
  have hm9 : (lineL ⟨#[42]⟩ (numS n)).length ≤ 100 := by rw [lineL_len]; show 1 + _ + 2 ≤ 100; omega
  obtain ⟨m, hm⟩ : ∃ m, (lineL ⟨#[42]⟩ (numS n)).length = m := ⟨_, rfl⟩
  rw [hm] at hf1 hm9 ⊢
  have hm' := veil hm
  clear hf hb1 hb2 hm hz
  go_wp2_with fail
  refine (join_any A b o n c ls _ hA hn'.out hc hP2.out hlen hn2).mono ?_
  rintro e w3 ⟨A2, c2, rfl, hle2, hr2, hb3⟩
  have hf3 := veil (hf1.out.below hb3)
  have hb3' := veil (two_below hb'.out hb3)
  have hs3 : w.heap.size ≤ w3.heap.size := hb3'.out.size
  have hr2' := veil hr2
  obtain ⟨q, hq⟩ : ∃ q, ls.flatten.length = q := ⟨_, rfl⟩
  rw [hq] at hr2' hle2 hlen ⊢
  have hq' := veil hq
  clear hr2 hb3 hf1 hq
  go_wp2_with (refine wpList_app (w0 := w) w.heap.size rfl _ _ 29 29 5 .u8 1 rfl Tryz.underlying29 info5 (by omega) A1 m c1 _ _ _ _ rfl rfl hf3.out (src_reads Tryz.underlying29 _ _ _ _ hr2'.out) hb3'.out hs3 (by omega) ?_; intro A4 c4 w4 hf4 hb4)
  have hl4 : (arrL ls).length = m + q := by rw [arrL, List.length_append, hn'.out, hm'.out, hq'.out]
  have hf4' : Veil (Fresh .u8 w.heap.size w4 A4 (m + q) c4 (arrL ls)) := veil (by unfold arrL; rw [hn'.out]; exact hf4)
  have hb4' := veil hb4
  have hl4' := veil hl4
  clear hf4 hb4 hl4
  go_wp2_with fail
  go_ret
  exact ⟨A4, c4, by rw [hl4'.out]; rfl, by rw [hl4'.out]; exact hf4'.out, hb4'.out⟩
theorem info24 : (Tryz.prog.info? 29).map (fun i => (i.zero, i.size, i.bytes)) = some (some (.slice none 0 0), 1, 24) := by kernel_rfl
/-- the row of bulks, so far -/
def Row (w : World) (g n : Nat) (ss : List ByteArray) (k : Nat) : Prop :=
  (∀ i s, i < k → ss[i]? = some s → ∃ A c, w.cell? ⟨g, i, none⟩ = some (.slice A (bulkL s).length c) ∧ ReadsInt w .u8 A (bulkL s).length (bulkL s)) ∧ (∀ i, k ≤ i → i < n → w.cell? ⟨g, i, none⟩ = some (.slice none 0 0)) ∧ ∀ i, i < n → w.frozen? ⟨g, i, none⟩ = false
theorem row_below {w w1 : World} {g n k : Nat} {ss : List ByteArray} (h : Row w g n ss k) (hg : g < w.heap.size) (hb : Below w.heap.size w w1) : Row w1 g n ss k := by
  refine ⟨fun i s hi hs => ?_, fun i hi hn => pw_cell_below hb (h.2.1 i hi hn), fun i hi => ?_⟩
  · obtain ⟨A, c, h1, h2⟩ := h.1 i s hi hs
    exact ⟨A, c, pw_cell_below hb h1, h2.below hb⟩
  · rw [hb.frozen (p := ⟨g, i, none⟩) hg]
    exact h.2.2 i hi
/-- a store over a slice spoils no cell that holds a byte -/
theorem reads_set {w : World} {g k : Nat} {v : Value} (hu : w.cell? ⟨g, k, none⟩ = some (.slice none 0 0)) {B : Option Addr} {n : Nat} {l : List Int} (h : ReadsInt w .u8 B n l) : ReadsInt (w.setCell ⟨g, k, none⟩ v) .u8 B n l :=
  ⟨h.1, h.2.1, fun hp => by
    obtain ⟨ad, e, hc⟩ := h.2.2 hp
    refine ⟨ad, e, fun j hj => ?_⟩
    have hcj := hc j hj
    rw [World.cell?_setCell_other]
    · exact hcj
    · intro q
      rw [← q, hu] at hcj
      cases hcj⟩
theorem row_set {w : World} {g n k c : Nat} {ss : List ByteArray} {A : Option Addr} {s : ByteArray} (h : Row w g n ss k) (hk : k < n) (hs : ss[k]? = some s) (hr : ReadsInt w .u8 A (bulkL s).length (bulkL s)) : Row (w.setCell ⟨g, k, none⟩ (.slice A (bulkL s).length c)) g n ss (k + 1) := by
  have hu := h.2.1 k (Nat.le_refl _) hk
  refine ⟨fun i s' hi hs' => ?_, fun i hi hn => ?_, fun i hi => by rw [World.frozen?_setCell]; exact h.2.2 i hi⟩
  · by_cases e : i = k
    · subst e
      rw [hs] at hs'
      injection hs' with hs'
      subst hs'
      exact ⟨A, c, World.cell?_setCell_same _ _ _ hu, reads_set hu hr⟩
    · obtain ⟨B, c', h1, h2⟩ := h.1 i s' (by omega) hs'
      refine ⟨B, c', ?_, reads_set hu h2⟩
      rw [World.cell?_setCell_other]
      · exact h1
      · intro q; injection q with _ q; exact e q.symm
  · rw [World.cell?_setCell_other]
    · exact h.2.1 i (by omega) hn
    · intro q; injection q with _ q; omega
def bulks (ss : List ByteArray) : List (List Int) := ss.map bulkL
/-- texts as an array -/
def textsL (ss : List ByteArray) : List Int := arrL (bulks ss)
set_option maxRecDepth 100000 in
set_option maxHeartbeats 8000000 in
theorem Texts_any (A : Option Addr) (n c : Nat) (ss : List ByteArray) (w : World) (HR : ReadsOf Value.string ByteArray.empty w A n ss) (hc : n ≤ c) (hn : n ≤ 1000000) (hs : ∀ s ∈ ss, s.size ≤ 70368744177664) (hlen : (bulks ss).flatten.length ≤ 70368744177664) (hT : Tabl w) :
    Calls Tryz.prog 21 #[.slice A n c] w (Bytes_ (textsL ss) w) := by
  have HR' := veil HR
  have hl := veil HR.1
  have hmk := print_make_of (P := Tryz.prog) 75 29 (.slice none 0 0) 24 Tryz.underlying75 info24 rfl (by omega) n (by omega)
  have hrow0 : Row (w.alloc (.cells (madeCells #[.slice none 0 0] n) 29)) w.heap.size n ss 0 := by
    have hg := heap_alloc_last w (.cells (madeCells #[.slice none 0 0] n) 29)
    refine ⟨fun i s hi => absurd hi (by omega), fun i _ hi => ?_, fun i hi => by unfold World.frozen?; rw [hg]; simp⟩
    rw [cell_of_row _ _ _ _ _ _ hg, ← Array.getElem?_toList, toList_madeCells_one]
    simp [hi]
  have hrow0' := veil hrow0
  have hb0 := veil (below_alloc (Below.refl w.heap.size w) (.cells (madeCells #[.slice none 0 0] n) 29))
  have hs' := veil hs
  clear HR hrow0 hs
  go_enter Tryz.func21, Tryz.ntmps21
  go_wp2_with fail
  go_loopw [11] (fun i wr => ∃ k : Nat, k ≤ n ∧ i = .int .i64 k ∧ Row wr w.heap.size n ss k ∧ w.heap.size < wr.heap.size ∧ Below w.heap.size w wr) (fun i _ => n - (intOf i).toNat)
  case atStart => exact ⟨0, by omega, rfl, hrow0'.out, by simp, hb0.out⟩
  case round =>
    obtain ⟨k, hk, rfl, hrow, hsz, hb⟩ := hrel
    have hrow' := veil hrow
    have hb' := veil hb
    clear hrow hb
    by_cases hlt : k < n
    · obtain ⟨s, hsk⟩ : ∃ s, ss[k]? = some s := ⟨_, List.getElem?_eq_getElem (by rw [hl.out]; exact hlt)⟩
      obtain ⟨ad, rfl, hcell⟩ := (HR'.out.below hb'.out).2.2 (by omega)
      have hck := hcell k hlt
      rw [List.getD_eq_getElem?_getD, hsk, Option.getD_some] at hck
      have hss : s.size ≤ 70368744177664 := hs'.out s (List.mem_of_getElem? hsk)
      have hTw := veil (tabl_below hT hb'.out)
      have hsk' := veil hsk
      clear hcell hsk
      go_wp2_with fail
      refine (Bulk_any s _ hss hTw.out).mono ?_
      rintro e w2 ⟨A2, c2, rfl, hf2, hb2⟩
      have hr2 := veil (hf2.reads (bulkL_len s hss))
      have hrow2 := veil (row_below hrow'.out hsz hb2)
      have hb2' := veil (two_below hb'.out hb2)
      have hsz2 : w.heap.size < w2.heap.size := by have := hb2.size; omega
      have g0 := hrow2.out.2.1 k (Nat.le_refl _) hlt
      have gf := hrow2.out.2.2 k hlt
      obtain ⟨q, hq⟩ : ∃ q, (bulkL s).length = q := ⟨_, rfl⟩
      rw [hq]
      have hq' := veil hq
      have k0 : (0 : Int) ≤ k := by omega
      have kn : (k : Int) < n := by omega
      clear hf2 hb2 hq
      go_wp2_with fail
      have hset := row_set (c := c2) hrow2.out hlt hsk'.out hr2.out
      rw [hq'.out] at hset
      exact ⟨⟨k + 1, by omega, by go_num, hset, by rw [World.size_setCell]; exact hsz2, hb2'.out.setCell (Nat.le_refl _) _⟩, by simp [intOf]; omega⟩
    · obtain rfl : k = n := by omega
      obtain ⟨wp, rfl⟩ : ∃ wp : World, wp = wr := ⟨_, rfl⟩
      have hP : Parts wp w.heap.size (bulks ss) := fun i l hi => by
        unfold bulks at hi
        rw [List.getElem?_map] at hi
        cases hsi : ss[i]? with
        | none => rw [hsi] at hi; cases hi
        | some s =>
          rw [hsi] at hi
          simp only [Option.map_some, Option.some.injEq] at hi
          subst hi
          have hik : i < k := by rw [← hl.out]; exact (List.getElem?_eq_some_iff.1 hsi).1
          obtain ⟨A', c', h1, h2⟩ := hrow'.out.1 i s hik hsi
          exact ⟨A', c', h1, h2, byt_bulk s⟩
      have hP' := veil hP
      have hTw := veil (tabl_below hT hb'.out)
      clear hP
      go_wp2_with fail
      refine (Array_any _ w.heap.size 0 k k (bulks ss) _ (fun _ => rfl) (by rw [bulks, List.length_map]; exact hl.out) (Nat.le_refl _) (parts_o hP'.out) hlen (by omega) hTw.out).mono ?_
      rintro e w3 ⟨A3, c3, rfl, hf3, hb3⟩
      have hf3' := veil (hf3.base hb'.out.size)
      have hb3' := veil (two_below hb'.out hb3)
      obtain ⟨q, hq⟩ : ∃ q, (arrL (bulks ss)).length = q := ⟨_, rfl⟩
      rw [hq]
      have hq' := veil hq
      clear hf3 hb3 hq
      go_wp2_with fail
      go_ret
      exact ⟨A3, c3, by rw [show textsL ss = arrL (bulks ss) from rfl, hq'.out]; rfl, hf3'.out, hb3'.out⟩
end Go.Proofs.Tryz.Ln
/- Rows of texts: read, joined, made a value. -/
namespace Go.Proofs.Tryz.Ln
open Go Go.RowKit Go.Proofs.Mem Go.Proofs.App
open Go.Proofs.YtnkjejmgpempkaaGreatDoorW.PrintWords
set_option linter.unusedVariables false
set_option linter.unusedSimpArgs false
abbrev nl : Value := .slice none 0 0
def zS : Array Value := #[.int .u8 0, .string ⟨#[]⟩, .slice none 0 0, .slice none 0 0, .slice none 0 0]
abbrev TR (w : World) (A : Option Addr) (l : List ByteArray) : Prop := ReadsOf Value.string ByteArray.empty w A l.length l
/-- a row of texts that is read -/
structure tR (w : World) (x : Value) (l : List ByteArray) : Prop where
  ex : ∃ A c, x = .slice A l.length c ∧ l.length ≤ c ∧ c ≤ 9223372036854775807 ∧ (∀ ad, A = some ad → ad.spot = none) ∧ TR w A l
theorem tR.below {w w1 : World} {x : Value} {l : List ByteArray} (h : tR w x l) (hb : Below w.heap.size w w1) : tR w1 x l := by
  obtain ⟨A, c, h1, h2, h3, h4, h5⟩ := h.ex
  exact ⟨A, c, h1, h2, h3, h4, h5.below hb⟩
theorem tR_nil (w : World) : tR w nl [] := ⟨none, 0, rfl, by simp, by decide, (fun _ h => by cases h), ⟨rfl, by simp, fun h => absurd h (by simp)⟩⟩
theorem tR_own {w : World} {base : Nat} {v : Value} {l : List ByteArray} (h : w.ownsRow base 9 1 v l.length (encs Value.string l)) : tR w v l := by
  obtain ⟨A, c, rfl, hr⟩ := own_reads_of (d := ByteArray.empty) h
  refine ⟨A, c, rfl, ?_, ?_, ?_, hr⟩
  · rcases h.2 with ⟨h1, h2⟩ | ⟨g, cap, cur, h1, _, _, h2, _⟩
    · injection h1 with _ _ h1; omega
    · injection h1 with _ _ h1; omega
  · rcases h.2 with ⟨h1, h2⟩ | ⟨g, cap, cur, h1, _, _, _, h2, _⟩
    · injection h1 with _ _ h1; omega
    · injection h1 with _ _ h1; unfold maxLen at h2; omega
  · exact Go.Proofs.YtnkjejmgpempkaaGreatDoor.Spot.spot_own h
theorem infoS : (Tryz.prog.info? 9).map (fun i => (i.zero, i.size, i.bytes)) = some (some (.string ⟨#[]⟩), 1, 16) := by kernel_rfl
theorem two_own {w w1 : World} {v : Value} {l : List ByteArray} {base base' : Nat} (h : w.ownsRow base 9 1 v l.length (encs Value.string l)) (hb : base' ≤ base) : w.ownsRow base' 9 1 v l.length (encs Value.string l) := own_weaken h hb
theorem app_zeros {ops : Array Oper} {rest : List Oper} {o : Oper} {a : Act} {W : World} {Q : Exit → Act → World → Prop} (base : Nat) (hgd : o.guard = none) (s x : Operand)
    (ho : o.op = .call { callee := .builtin .append, args := #[s, x], argTypes := #[22, 3] }) (v : Value) (m : Nat) (hs : a.eval s = v) (hx : a.eval x = .int .i64 m) (HO : W.ownsRow base 9 1 v 0 []) (hbase : base ≤ W.heap.size) (hm : m ≤ 1000000)
    (h : ∀ v1 w1, w1.ownsRow base 9 1 v1 m (Builtin.zeroCells (Value.string ⟨#[]⟩).cells m).toList → W.grownBy w1 v.ownBlock → wpList Tryz.prog ops Q rest (a.put o.dst v1) w1) : wpList Tryz.prog ops Q (o :: rest) a W := by
  obtain ⟨i0, hi, hzz⟩ := Option.map_eq_some_iff.1 infoS
  simp only [Prod.mk.injEq] at hzz
  obtain ⟨hz0, hz1, hz2⟩ := hzz
  obtain ⟨v1, w1, hr, h1, h2, h3⟩ := run_append_zeros (P := Tryz.prog) W base 22 3 o.type 9 i0 (.string ⟨#[]⟩) 1 16 Tryz.underlying22 Tryz.underlying3 hi hz0 hz1 hz2 rfl (by decide) (by decide) v 0 [] HO .i64 m
    (fun u hu => by
      obtain ⟨j, _, rfl⟩ : ∃ j, j < m * (Value.string ⟨#[]⟩).cells.size ∧ (Value.string ⟨#[]⟩).cells[j % (Value.string ⟨#[]⟩).cells.size]! = u := by simpa [Builtin.zeroCells] using hu
      simp [Value.cells, Nat.mod_one, Value.oneCell']) (by omega) hbase
  refine wpList_plain hgd fun K hK => ?_
  unfold Oper.wp execOp
  simp only [ho, resolve, invoke, builtin, Sem.run_bind, Sem.run_pure, Result.andThen_ok, List.map_toArray, List.map_cons, List.map_nil, hs, hx, hr]
  exact hK _ _ (h v1 w1 (by simpa using h1) h2)
theorem own_nil (w : World) (base : Nat) : w.ownsRow base 9 1 nl 0 [] := ⟨rfl, .inl ⟨rfl, rfl⟩⟩
set_option maxRecDepth 100000 in
set_option maxHeartbeats 4000000 in
theorem grow_any (n : Nat) (z : Int) (w : World) (hz : z = (n : Int)) (hn : n ≤ 1000000) : Calls Tryz.prog 40 #[nl, .int .i64 z] w fun e w' => ∃ v, e = .returned v ∧ w'.ownsRow w.heap.size 9 1 v 0 [] ∧ Below w.heap.size w w' := by
  subst hz
  have n0 : ¬ (n : Int) < 0 := by omega
  have hw : IntKind.i64.wrap (n : Int) = n := by rw [IntKind.wrap_i64]; omega
  by_cases h0 : n = 0
  · subst h0
    go_enter Tryz.func40, Tryz.ntmps40
    go_wp2_with fail
    go_ret
    exact ⟨_, rfl, own_nil _ _, Below.refl _ _⟩
  · have h1 : (0 : Int) < n := by omega
    go_enter Tryz.func40, Tryz.ntmps40
    go_wp2_with (refine app_zeros w.heap.size rfl _ _ rfl nl n rfl rfl (own_nil _ _) (Nat.le_refl _) hn ?_)
    intro v1 w1 ho hg
    have hb : Below w.heap.size w w1 := (Below.refl _ w).grown hg (Nat.le_refl _) (fun k hk => by simp [Value.ownBlock] at hk)
    obtain ⟨hl, hh⟩ := ho
    rcases hh with ⟨_, hh⟩ | ⟨g, cap, cur, rfl, hB, hx, hc, hm, hs, _⟩
    · exact absurd hh h0
    have hb' := veil hb
    have hown : Veil (w1.ownsRow w.heap.size 9 1 (.slice (some ⟨g, 0, none⟩) 0 cap) 0 []) := veil ⟨rfl, .inr ⟨g, cap, cur, rfl, hB, hx, Nat.zero_le _, hm, hs, rfl⟩⟩
    clear hb hx hs hg hl
    go_wp2_with fail
    go_ret
    exact ⟨_, rfl, hown.out, hb'.out⟩
/-- the first q rows, joined -/
def catS (l1 l2 : List ByteArray) : Nat → List ByteArray
  | 0 => []
  | 1 => l1
  | _ => l1 ++ l2
set_option maxRecDepth 100000 in
set_option maxHeartbeats 8000000 in
theorem concat_any (x y : Value) (l1 l2 : List ByteArray) (g : Nat) (w : World) (hx : tR w x l1) (hy : tR w y l2) (hg : w.heap[g]? = some (.cells #[x, y] 22 (0, 0))) (hn : l1.length + l2.length ≤ 1000000) :
    Calls Tryz.prog 26 #[.slice (some ⟨g, 0, none⟩) 2 2] w fun e w' => ∃ v, e = .returned v ∧ w'.ownsRow w.heap.size 9 1 v (l1 ++ l2).length (encs Value.string (l1 ++ l2)) ∧ Below w.heap.size w w' := by
  obtain ⟨A1, c1, rfl, hc1, hm1, hz1, hr1⟩ := hx.ex
  obtain ⟨A2, c2, rfl, hc2, hm2, hz2, hr2⟩ := hy.ex
  have hg' := veil hg
  have g0 : w.cell? ⟨g, 0, none⟩ = some (.slice A1 l1.length c1) := by rw [cell_of_row _ _ _ _ _ _ hg]; rfl
  have g1 : w.cell? ⟨g, 1, none⟩ = some (.slice A2 l2.length c2) := by rw [cell_of_row _ _ _ _ _ _ hg]; rfl
  have hr1' := veil hr1
  have hr2' := veil hr2
  have w1 : IntKind.i64.wrap (l1.length : Int) = l1.length := by rw [IntKind.wrap_i64]; omega
  have w2 : IntKind.i64.wrap ((l1.length : Int) + (l2.length : Int)) = (l1.length : Int) + (l2.length : Int) := by rw [IntKind.wrap_i64]; omega
  have p1 : ¬ (l1.length : Int) < 0 := by omega
  have p2 : ¬ (l1.length : Int) + (l2.length : Int) < 0 := by omega
  clear hx hy hr1 hr2 hg hz1 hz2
  go_enter Tryz.func26, Tryz.ntmps26
  go_wp2_with fail
  go_loopw [3, 11] (fun t i wr => w = wr ∧ ((t = .int .i64 0 ∧ i = .int .i64 0) ∨ (t = .int .i64 l1.length ∧ i = .int .i64 1) ∨ (t = .int .i64 ((l1.length : Int) + l2.length) ∧ i = .int .i64 2))) (fun _ i _ => 2 - (intOf i).toNat)
  case atStart => exact ⟨rfl, .inl ⟨rfl, rfl⟩⟩
  case round =>
    obtain ⟨rfl, ⟨rfl, rfl⟩ | ⟨rfl, rfl⟩ | ⟨rfl, rfl⟩⟩ := hrel
    · go_wp2_with fail
      exact ⟨⟨trivial, .inr (.inl ⟨by simp [w1], rfl⟩)⟩, by simp [intOf]⟩
    · go_wp2_with fail
      exact ⟨⟨trivial, .inr (.inr ⟨by simp [w2], rfl⟩)⟩, by simp [intOf]⟩
    · go_wp2_with fail
      refine (grow_any (l1.length + l2.length) _ _ (by omega) hn).mono ?_
      rintro e wg ⟨v0, rfl, ho0, hb0⟩
      have ho0' := veil ho0
      have hb0' := veil hb0
      clear ho0 hb0
      go_wp2_with fail
      go_loopw [6, 27] (fun t i wr => ∃ q : Nat, q ≤ 2 ∧ i = .int .i64 q ∧ wr.ownsRow w.heap.size 9 1 t (catS l1 l2 q).length (encs Value.string (catS l1 l2 q)) ∧ Below w.heap.size w wr) (fun _ i _ => 2 - (intOf i).toNat)
      case atStart => exact ⟨0, by omega, rfl, ho0'.out, hb0'.out⟩
      case round =>
        obtain ⟨q, hq, rfl, ho, hb⟩ := hrel
        have ho' := veil ho
        have hb' := veil hb
        have hgs := (hb.block g (Array.getElem?_eq_some_iff.1 hg'.out).1).trans hg'.out
        have s0 : wr.cell? ⟨g, 0, none⟩ = some (.slice A1 l1.length c1) := by rw [cell_of_row _ _ _ _ _ _ hgs]; rfl
        have s1 : wr.cell? ⟨g, 1, none⟩ = some (.slice A2 l2.length c2) := by rw [cell_of_row _ _ _ _ _ _ hgs]; rfl
        have k1 := veil (hr1'.out.below hb)
        have k2 := veil (hr2'.out.below hb)
        have hsz := hb.size
        clear ho hb hgs g0 g1
        obtain rfl | rfl | rfl : q = 0 ∨ q = 1 ∨ q = 2 := by omega
        · go_wp2_with (refine print_append_row_of (w0 := w) Value.string ByteArray.empty w.heap.size rfl _ _ 22 9 (.string ⟨#[]⟩) 16 rfl Tryz.underlying22 infoS rfl (by decide) (fun _ => rfl) _ [] l1 A1 l1.length c1 rfl rfl ho'.out k1.out hb'.out hsz (by simp; omega) ?_)
          intro v1 w1' ho1 hb1 _ _
          have ho1' := veil ho1
          have hb1' := veil hb1
          clear ho1 hb1
          go_wp2_with fail
          exact ⟨⟨1, by omega, rfl, ho1'.out, hb1'.out⟩, by simp [intOf]⟩
        · go_wp2_with (refine print_append_row_of (w0 := w) Value.string ByteArray.empty w.heap.size rfl _ _ 22 9 (.string ⟨#[]⟩) 16 rfl Tryz.underlying22 infoS rfl (by decide) (fun _ => rfl) _ l1 l2 A2 l2.length c2 rfl rfl ho'.out k2.out hb'.out hsz (by omega) ?_)
          intro v1 w1' ho1 hb1 _ _
          have ho1' := veil ho1
          have hb1' := veil hb1
          clear ho1 hb1
          go_wp2_with fail
          exact ⟨⟨2, by omega, rfl, (by rw [show catS l1 l2 2 = l1 ++ l2 from rfl, List.length_append]; exact ho1'.out), hb1'.out⟩, by simp [intOf]⟩
        · go_wp2_with fail
          go_ret
          exact ⟨_, rfl, ho'.out, hb'.out⟩
end Go.Proofs.Tryz.Ln
/- What lists.put tells. -/
namespace Go.Proofs.Tryz.Ln
open Go Go.RowKit Go.Proofs.Mem Go.Proofs.App
open Go.Proofs.YtnkjejmgpempkaaGreatDoorW.PrintWords
set_option linter.unusedVariables false
set_option linter.unusedSimpArgs false
/-- a list's value; of no texts none -/
def lvS (l : List ByteArray) (x : Value) : Array Value := if l = [] then zS else #[.int .u8 2, .string ⟨#[]⟩, x, nl, nl]
abbrev OR (w : World) (base : Nat) (v : Value) (l : List ByteArray) : Prop := w.ownsRow base 9 1 v l.length (encs Value.string l)
set_option maxRecDepth 100000 in
set_option maxHeartbeats 4000000 in
theorem list_any (x : Value) (l : List ByteArray) (w : World) (h : tR w x l) : Calls Tryz.prog 29 #[x] w fun e w' => e = .returned (.agg (lvS l x)) ∧ Below w.heap.size w w' := by
  obtain ⟨A, c, rfl, hc, _⟩ := h.ex
  by_cases hl : l = []
  · subst hl
    rw [show lvS [] _ = zS from if_pos rfl]
    go_enter Tryz.func29, Tryz.ntmps29
    go_wp2_with fail
    refine bodyPost_ret (v := .agg zS) ?_ rfl ⟨rfl, below_alloc (Below.refl _ _) _⟩
    exact results_cell_row (p := 2) (ty := 26) Tryz.results29 _ _ w.heap.size 26 zS (0, 0) _ rfl (heap_alloc_last w _) Tryz.underlying26 rfl (by kernel_rfl)
  · rw [show lvS l (.slice A l.length c) = _ from if_neg hl]
    have hn : l.length ≠ 0 := fun h => hl (List.eq_nil_of_length_eq_zero h)
    have h0 : ¬ (l.length : Int) = 0 := by omega
    have hk : ((l.length : Int) == 0) = false := by simp [hl]
    go_enter Tryz.func29, Tryz.ntmps29
    go_wp2_with fail
    refine bodyPost_ret (v := .agg #[.int .u8 2, .string ⟨#[]⟩, .slice A l.length c, nl, nl]) ?_ rfl ⟨rfl, below_alloc (Below.refl _ _) _⟩
    exact results_cell_row (p := 2) (ty := 26) Tryz.results29 _ _ w.heap.size 26 _ (0, 0) _ rfl (heap_alloc_last w _) Tryz.underlying26 rfl (by kernel_rfl)
theorem clone_any (x : Value) (l : List ByteArray) (w : World) (h : tR w x l) (hn : l.length ≤ 1000000) : Calls Tryz.prog 27 #[x] w fun e w' => ∃ v, e = .returned v ∧ OR w' w.heap.size v l ∧ Below w.heap.size w w' := by
  obtain ⟨A, c, rfl, hc, hm, hz, hr⟩ := h.ex
  cases A with
  | none =>
    have hl : l = [] := by
      cases l with
      | nil => rfl
      | cons a r =>
        obtain ⟨ad, h, _⟩ := hr.2.2 (by simp)
        cases h
    subst hl
    refine (Tryz.slices_Clone_string_nil _ _ w).mono ?_
    rintro e w' ⟨rfl, rfl⟩
    exact ⟨_, rfl, own_nil _ _, Below.refl _ _⟩
  | some ad =>
    obtain ⟨b, o, sp⟩ := ad
    obtain rfl : sp = none := hz _ rfl
    refine (Tryz.slices_Clone_string b o l.length c l w (Nat.le_refl _) (by omega) (fun j hj => ?_)).mono ?_
    · obtain ⟨ad, e, hcell⟩ := hr.2.2 (by omega)
      injection e with e
      subst e
      rw [← add_off]
      exact hcell j hj
    · rintro e w' ⟨v, rfl, ho, _, hb⟩
      rw [List.take_length] at ho
      exact ⟨v, rfl, ho, hb⟩
theorem strsOf_list (l : List ByteArray) : Lib.strsOf (fun j => l.getD j ByteArray.empty) l.length = l.map (·.data.toList) := by
  refine List.ext_getElem (by simp [Lib.strsOf]) (fun i h1 h2 => ?_)
  have hi : i < l.length := by simpa using h2
  simp [Lib.strsOf, List.getD_eq_getElem?_getD, hi]
theorem reverse_any (v : Value) (l : List ByteArray) (base : Nat) (w : World) (h : OR w base v l) : Calls Tryz.prog 28 #[v] w fun e w' => e = .returned (.tuple #[]) ∧ tR w' v l.reverse ∧ w'.heap.size = w.heap.size ∧ ∀ w0, Below base w0 w → Below base w0 w' := by
  have hR := tR_own h
  obtain ⟨hl, hh⟩ := h
  rcases hh with ⟨rfl, hh⟩ | ⟨g, cap, cur, rfl, hB, hx, hc, hm, hs, ht⟩
  · obtain rfl : l = [] := List.eq_nil_of_length_eq_zero hh
    refine (Tryz.slices_Reverse_string_empty none 0 w).mono ?_
    rintro e w' ⟨rfl, rfl⟩
    exact ⟨rfl, tR_nil _, rfl, fun _ h => h⟩
  · obtain ⟨A, c, e1, h1, h2, h3, h4⟩ := hR.ex
    injection e1 with e1 e2 e3
    subst e1
    subst e3
    have hcell : ∀ i, i < l.length → w.cell? ⟨g, 0 + i, none⟩ = some (.string (l.getD i ByteArray.empty)) := fun i hi => by
      obtain ⟨ad, e, hcl⟩ := h4.2.2 (by omega)
      injection e with e
      subst e
      rw [← add_off]
      exact hcl i hi
    refine (Tryz.slices_Reverse_string_cells g 0 l.length cap (fun j => l.getD j ByteArray.empty) w h4.2.1 hcell (fun j _ => by unfold World.frozen?; rw [hx]; simp)).mono ?_
    rintro e w' ⟨rfl, q, rfl⟩
    have hvs : (Lib.strsOf (fun j => l.getD j ByteArray.empty) l.length).reverse.map encStr = encs Value.string l.reverse := by
      rw [strsOf_list, ← List.map_reverse, List.map_map]
      rfl
    rw [hvs]
    refine ⟨rfl, ⟨some ⟨g, 0, none⟩, cap, by simp, by simpa using h1, h2, h3, by simp, by simpa using h4.2.1, fun hp => ⟨_, rfl, fun j hj => ?_⟩⟩, by rw [size_setCells]; rfl, fun w0 hb => ?_⟩
    · rw [add_off]
      have hj' : j < (encs Value.string l.reverse).length := by simpa [encs] using hj
      rw [World.cell?_setCells_in g (encs Value.string l.reverse) 0 (w.drewN q) (fun i hi => ?_) j hj']
      · have hj2 : j < l.reverse.length := hj
        simp [encs, List.getD_eq_getElem?_getD, List.getElem?_eq_getElem hj2]
      · have hi' : i < l.length := by simpa [encs] using hi
        have := hcell i hi'
        show (w.cell? ⟨g, 0 + i, none⟩).isSome = true
        rw [this]; rfl
    · exact below_setCells g hB _ 0 _ (pw_below_drewN hb q)
/-- a list's value and a reply, of the call's own -/
def Pres (L : List ByteArray) (r : List Int) (w : World) (e : Ending) (w' : World) : Prop := ∃ v A n c, e = .returned (.tuple #[.agg (lvS L v), .slice A n c]) ∧ OR w' w.heap.size v L ∧ Fresh .u8 w.heap.size w' A n c r ∧ Below w.heap.size w w'
def putL (ahead : Bool) (l ts : List ByteArray) : List ByteArray := if ahead = true then ts.reverse ++ l else l ++ ts
theorem own_setRow {w : World} {base g : Nat} {v : Value} {l : List ByteArray} {mv old : Array Value} (h : OR w base v l) (hg : w.heap[g]? = some (.cells old 26 (0, 0))) : OR (w.setRow g mv) base v l :=
  own_move h (fun k hk => by
    obtain ⟨cells, hc⟩ := own_typed h k hk
    have hne : k ≠ g := by
      rintro rfl
      rw [hc] at hg
      injection hg with hg
      injection hg with _ h2
      exact absurd h2 (by decide)
    unfold World.setRow
    simp only [Array.getElem?_modify]
    rw [if_neg (fun e => hne e.symm)])
theorem fresh_setRow {k : IntKind} {base n c g : Nat} {w : World} {A : Option Addr} {l : List Int} {mv : Array Value} (h : Fresh k base w A n c l) (hg : g < base) : Fresh k base (w.setRow g mv) A n c l := by
  refine ⟨h.len, h.le, fun hp => ?_⟩
  obtain ⟨b, e, h1, h2, hc, hs⟩ := h.there hp
  have hbk : (w.setRow g mv).heap[b]? = w.heap[b]? := by
    unfold World.setRow
    simp only [Array.getElem?_modify]
    rw [if_neg (by omega)]
  refine ⟨b, e, h1, by simpa [World.setRow] using h2, fun j hj => ?_, fun j hj => ?_⟩
  · rw [← hc j hj]; unfold World.cell?; rw [hbk]
  · have := hs j hj
    unfold World.cell? World.frozen? at this ⊢
    rw [hbk]
    exact this
theorem lvS_size (l : List ByteArray) (x : Value) : (lvS l x).size = 5 := by unfold lvS; split <;> rfl
theorem lvS_one (l : List ByteArray) (A : Option Addr) (n c : Nat) : (lvS l (.slice A n c)).all (·.oneCell') = true := by
  unfold lvS
  split
  · simp [zS, Value.oneCell']
  · simp [Value.oneCell']
theorem info28 : (Tryz.prog.info? 26).map (·.size) = some 5 := by kernel_rfl
set_option maxRecDepth 100000 in
set_option maxHeartbeats 8000000 in
theorem put_any (k : Int) (s : ByteArray) (x H Z y : Value) (ahead : Bool) (l ts : List ByteArray) (w : World) (hx : tR w x l) (hy : tR w y ts) (hn : l.length + ts.length ≤ 1000000) (hT : Tabs w) :
    Calls Tryz.prog 17 #[.agg #[.int .u8 k, .string s, x, H, Z], .bool ahead, y] w (Pres (putL ahead l ts) (lineL ⟨#[58]⟩ (numS ((putL ahead l ts).length : Int))) w) := by
  have hT' := veil hT
  obtain ⟨A1, c1, rfl, _⟩ := hx.ex
  obtain ⟨A2, c2, rfl, _⟩ := hy.ex
  obtain ⟨w2, hw2⟩ : ∃ w2 : World, w2 = (w.alloc (.cells #[.int .u8 k, .string s, .slice A1 l.length c1, H, Z] 26)).alloc (.cells #[.int .u8 0, .string ⟨#[]⟩, .slice none 0 0, .slice none 0 0, .slice none 0 0] 26) := ⟨_, rfl⟩
  have hsz2 : w2.heap.size = w.heap.size + 2 := by rw [hw2]; simp
  have hb2 : Below w.heap.size w w2 := by rw [hw2]; exact (below_alloc (Below.refl _ _) _).alloc (by simp) _
  have hx2 : w2.heap[w.heap.size]? = some (.cells #[.int .u8 k, .string s, .slice A1 l.length c1, H, Z] 26 (0, 0)) := by rw [hw2]; exact heap_alloc2_old w _ _
  have hz2 : w2.heap[w.heap.size + 1]? = some (.cells zS 26 (0, 0)) := by
    rw [hw2]
    have := heap_alloc_last (w.alloc (.cells #[.int .u8 k, .string s, .slice A1 l.length c1, H, Z] 26)) (.cells #[.int .u8 0, .string ⟨#[]⟩, .slice none 0 0, .slice none 0 0, .slice none 0 0] 26)
    simpa [zS] using this
  have hx' := veil (hx.below hb2)
  have hy' := veil (hy.below hb2)
  have hw2' := veil hw2
  have hB2 := veil hb2
  have hX2 := veil hx2
  have hZ2 := veil hz2
  have g2 : w2.cell? ⟨w.heap.size, 2, none⟩ = some (.slice A1 l.length c1) := by rw [cell_of_row _ _ _ _ _ _ hx2]; rfl
  clear hT hx hy hw2 hb2 hx2 hz2
  go_enter Tryz.func17, Tryz.ntmps17
  go_wp2_with fail
  rw [← hw2'.out]
  obtain ⟨w3, hw3⟩ : ∃ w3 : World, w3 = w2.alloc (.cells #[.slice A1 l.length c1, .slice A2 ts.length c2] 22) := ⟨_, rfl⟩
  have hb3 : Below w2.heap.size w2 w3 := by rw [hw3]; exact below_alloc (Below.refl _ _) _
  have hg3 : w3.heap[w2.heap.size]? = some (.cells #[.slice A1 l.length c1, .slice A2 ts.length c2] 22 (0, 0)) := by rw [hw3]; exact heap_alloc_last w2 _
  have e2 : w.heap.size + 1 + 1 = w2.heap.size := by omega
  rw [← hw3, e2]
  clear e2
  refine (concat_any _ _ l ts w2.heap.size w3 (hx'.out.below hb3) (hy'.out.below hb3) hg3 hn).mono ?_
  rintro e w4 ⟨v4, rfl, ho4, hb4⟩
  have hTR4 := tR_own ho4
  obtain ⟨A4, c4, rfl, _⟩ := hTR4.ex
  have hb24 := two_below hb3 hb4
  have hB4 := veil (two_below hB2.out hb24)
  have hX4 := veil ((hb24.block _ (by omega)).trans hX2.out)
  have hZ4 := veil ((hb24.block _ (by omega)).trans hZ2.out)
  have hx4 := veil (hx'.out.below hb24)
  have hy4 := veil (hy'.out.below hb24)
  have hs4 : w2.heap.size ≤ w4.heap.size := hb24.size
  have ho4' : Veil (OR w4 w.heap.size (.slice A4 (l ++ ts).length c4) (l ++ ts)) := veil (own_weaken ho4 (Nat.le_trans hB2.out.size hb3.size))
  have g4 : w4.cell? ⟨w.heap.size, 2, none⟩ = some (.slice A1 l.length c1) := by rw [cell_of_row _ _ _ _ _ _ hX4.out]; rfl
  clear hb3 hb4 hb24 hg3 hw3 ho4 hTR4 g2 hx' hy' hw2'
  cases ahead with
  | false =>
    rw [show putL false l ts = l ++ ts from rfl]
    obtain ⟨L, hL⟩ : ∃ L, l ++ ts = L := ⟨_, rfl⟩
    rw [hL] at ho4' ⊢
    have hLi : Int64 (L.length : Int) := by rw [← hL, List.length_append]; unfold Int64; omega
    have hoL := ho4'
    have hLv := veil hL
    clear hL ho4' hy4 hx4 hX4 g4
    go_wp2_with fail
    refine (list_any _ L w4 (tR_own hoL.out)).mono ?_
    rintro e wl ⟨rfl, hbl⟩
    have hBl := veil (two_below hB4.out hbl)
    have hZl := veil ((hbl.block _ (by omega)).trans hZ4.out)
    have hol : Veil (OR wl w.heap.size (.slice A4 L.length c4) L) := veil (own_move hoL.out (fun k hk => hbl.block k (own_lt hoL.out k hk)))
    have hsl := hbl.size
    clear hbl hoL
    go_wp2_with fail
    refine (Int_any L.length _ hLi (tabs_below hT'.out hBl.out).tab).mono ?_
    rintro e wi ⟨Ai, ci, rfl, hfi, hbi⟩
    have hBi := veil (two_below hBl.out hbi)
    have hZi := veil ((hbi.block _ (by omega)).trans hZl.out)
    have hoi : Veil (OR wi w.heap.size (.slice A4 L.length c4) L) := veil (own_move hol.out (fun k hk => hbi.block k (own_lt hol.out k hk)))
    have hfi' := veil hfi
    have hsi := hbi.size
    obtain ⟨m, hm⟩ : ∃ m, (lineL ⟨#[58]⟩ (numS (L.length : Int))).length = m := ⟨_, rfl⟩
    rw [hm] at hfi' ⊢
    obtain ⟨mv, hmv⟩ : ∃ mv, lvS L (.slice A4 L.length c4) = mv := ⟨_, rfl⟩
    rw [hmv]
    have hms : mv.size = 5 := by rw [← hmv]; exact lvS_size _ _
    have hmo : mv.all (·.oneCell') = true := by rw [← hmv]; exact lvS_one _ _ _ _
    have hmv' := veil hmv
    have hm' := veil hm
    clear hfi hbi hol hm hmv
    go_wp2_with (refine wpList_store_row rfl 26 _ _ rfl (w.heap.size + 1) mv rfl rfl 26 zS hZi.out (by rw [hms]; exact info28) hms.symm hmo ?_)
    have hset := setRow_heap wi (w.heap.size + 1) zS mv 26 (0, 0) hZi.out
    refine bodyPost_ret (v := .tuple #[.agg mv, .slice Ai m ci]) ?_ rfl ?_
    · exact RelG.results_cell_tmp (p := 6) (q := 7) (ty := 26) Tryz.results17 _ _ (w.heap.size + 1) 26 mv (0, 0) _ _ rfl rfl hset Tryz.underlying26 rfl (by rw [hms]; exact info28)
    · show Pres (l ++ ts) (lineL ⟨#[58]⟩ (numS ((l ++ ts).length : Int))) w _ _
      rw [hLv.out]
      exact ⟨.slice A4 L.length c4, Ai, m, ci, by rw [hmv'.out], own_setRow hoi.out hZi.out, (fresh_setRow hfi'.out (by omega)).base (by omega), below_setRow hBi.out _ _ (by omega)⟩
  | true =>
    rw [show putL true l ts = ts.reverse ++ l from rfl]
    go_wp2_with fail
    refine (clone_any _ ts w4 hy4.out (by omega)).mono ?_
    rintro e w5 ⟨v5, rfl, ho5, hb5⟩
    obtain ⟨A5, c5, rfl, _⟩ := (tR_own ho5).ex
    have ho5' := veil ho5
    have hb5' := veil hb5
    clear ho5 hb5
    go_wp2_with fail
    refine (reverse_any _ ts _ w5 ho5'.out).mono ?_
    rintro e w6 ⟨rfl, hr6, hs6, hb6⟩
    have hb46 := hb6 _ hb5'.out
    have hB6 := veil (two_below hB4.out hb46)
    have hX6 := veil ((hb46.block _ (by omega)).trans hX4.out)
    have hZ6 := veil ((hb46.block _ (by omega)).trans hZ4.out)
    have hx6 := veil (hx4.out.below hb46)
    have hr6' := veil hr6
    have hs6' : w4.heap.size ≤ w6.heap.size := hb46.size
    have g6 : w6.cell? ⟨w.heap.size, 2, none⟩ = some (.slice A1 l.length c1) := by rw [cell_of_row _ _ _ _ _ _ hX6.out]; rfl
    clear hs6 hb46 hb6 hr6 ho5' hb5' g4 hX4 hx4 hy4 ho4'
    go_wp2_with fail
    obtain ⟨w7, hw7⟩ : ∃ w7 : World, w7 = w6.alloc (.cells #[.slice A5 ts.length c5, .slice A1 l.length c1] 22) := ⟨_, rfl⟩
    have hb7 : Below w6.heap.size w6 w7 := by rw [hw7]; exact below_alloc (Below.refl _ _) _
    have hg7 : w7.heap[w6.heap.size]? = some (.cells #[.slice A5 ts.length c5, .slice A1 l.length c1] 22 (0, 0)) := by rw [hw7]; exact heap_alloc_last w6 _
    rw [← hw7]
    refine (concat_any _ _ ts.reverse l w6.heap.size w7 (hr6'.out.below hb7) (hx6.out.below hb7) hg7 (by rw [List.length_reverse]; omega)).mono ?_
    rintro e w8 ⟨v8, rfl, ho8, hb8⟩
    have hTR8 := tR_own ho8
    obtain ⟨A8, c8, rfl, _⟩ := hTR8.ex
    have hb68 := two_below hb7 hb8
    have hB8 := veil (two_below hB6.out hb68)
    have hZ8 := veil ((hb68.block _ (by omega)).trans hZ6.out)
    have hs8 : w6.heap.size ≤ w8.heap.size := hb68.size
    have hoL : Veil (OR w8 w.heap.size (.slice A8 (ts.reverse ++ l).length c8) (ts.reverse ++ l)) := veil (own_weaken ho8 (Nat.le_trans hB6.out.size hb7.size))
    obtain ⟨L, hL⟩ : ∃ L, ts.reverse ++ l = L := ⟨_, rfl⟩
    rw [hL] at hoL ⊢
    have hLi : Int64 (L.length : Int) := by rw [← hL, List.length_append, List.length_reverse]; unfold Int64; omega
    have hLv := veil hL
    clear hL hb7 hb8 hb68 ho8 hTR8 hg7 hw7 g6 hX6 hx6 hr6'
    go_wp2_with fail
    refine (list_any _ L w8 (tR_own hoL.out)).mono ?_
    rintro e wl ⟨rfl, hbl⟩
    have hBl := veil (two_below hB8.out hbl)
    have hZl := veil ((hbl.block _ (by omega)).trans hZ8.out)
    have hol : Veil (OR wl w.heap.size (.slice A8 L.length c8) L) := veil (own_move hoL.out (fun k hk => hbl.block k (own_lt hoL.out k hk)))
    have hsl := hbl.size
    clear hbl hoL
    go_wp2_with fail
    refine (Int_any L.length _ hLi (tabs_below hT'.out hBl.out).tab).mono ?_
    rintro e wi ⟨Ai, ci, rfl, hfi, hbi⟩
    have hBi := veil (two_below hBl.out hbi)
    have hZi := veil ((hbi.block _ (by omega)).trans hZl.out)
    have hoi : Veil (OR wi w.heap.size (.slice A8 L.length c8) L) := veil (own_move hol.out (fun k hk => hbi.block k (own_lt hol.out k hk)))
    have hfi' := veil hfi
    have hsi := hbi.size
    obtain ⟨m, hm⟩ : ∃ m, (lineL ⟨#[58]⟩ (numS (L.length : Int))).length = m := ⟨_, rfl⟩
    rw [hm] at hfi' ⊢
    obtain ⟨mv, hmv⟩ : ∃ mv, lvS L (.slice A8 L.length c8) = mv := ⟨_, rfl⟩
    rw [hmv]
    have hms : mv.size = 5 := by rw [← hmv]; exact lvS_size _ _
    have hmo : mv.all (·.oneCell') = true := by rw [← hmv]; exact lvS_one _ _ _ _
    have hmv' := veil hmv
    have hm' := veil hm
    clear hfi hbi hol hm hmv
    go_wp2_with (refine wpList_store_row rfl 26 _ _ rfl (w.heap.size + 1) mv rfl rfl 26 zS hZi.out (by rw [hms]; exact info28) hms.symm hmo ?_)
    have hset := setRow_heap wi (w.heap.size + 1) zS mv 26 (0, 0) hZi.out
    refine bodyPost_ret (v := .tuple #[.agg mv, .slice Ai m ci]) ?_ rfl ?_
    · exact RelG.results_cell_tmp (p := 6) (q := 7) (ty := 26) Tryz.results17 _ _ (w.heap.size + 1) 26 mv (0, 0) _ _ rfl rfl hset Tryz.underlying26 rfl (by rw [hms]; exact info28)
    · show Pres (ts.reverse ++ l) (lineL ⟨#[58]⟩ (numS ((ts.reverse ++ l).length : Int))) w _ _
      rw [hLv.out]
      exact ⟨.slice A8 L.length c8, Ai, m, ci, by rw [hmv'.out], own_setRow hoi.out hZi.out, (fresh_setRow hfi'.out (by omega)).base (by omega), below_setRow hBi.out _ _ (by omega)⟩
end Go.Proofs.Tryz.Ln
/- What num.Part tells. -/
namespace Go.Proofs.Tryz.Ln
open Go Go.RowKit Go.Proofs.Mem Go.Proofs.App
open Go.Proofs.YtnkjejmgpempkaaGreatDoorW.PrintWords Go.Proofs.YtnkjejmgpempkaaGreatDoorW.PrintMore
set_option linter.unusedVariables false
set_option linter.unusedSimpArgs false
/-- the lesser, the greater one, without a fork -/
def mn (x y : Int) : Int := if y < x then y else x
def mx (x y : Int) : Int := if x < y then y else x
theorem min2_sym (k k' : IntKind) (x y : Int) : Builtin.min2 (.int k x) (.int k' y) = pure (.int k (mn x y)) := by simp only [Builtin.min2, mn]
theorem max2_sym (k k' : IntKind) (x y : Int) : Builtin.max2 (.int k x) (.int k' y) = pure (.int k (mx x y)) := by simp only [Builtin.max2, mx, gt_iff_lt]
attribute [local go_sem] min2_sym min_two max2_sym max_two
theorem iwrapE {k : Int} (h : Int64 k) : IntKind.i64.wrap k = k := by
  have h1 := h.1
  have h2 := h.2
  rw [IntKind.wrap_i64]
  omega
def partF (many f : Int) : Int := if f < 0 then mx (f + many) 0 else f
def partT (many t : Int) : Int := mn (if t < 0 then t + many else t) (many - 1)
def partA (many f t : Int) : Int := if partF many f > partT many t then 0 else partF many f
def partB (many f t : Int) : Int := if partF many f > partT many t then 0 else partT many t + 1
set_option maxRecDepth 100000 in
set_option maxHeartbeats 8000000 in
theorem part_any (many f t : Int) (a b : ByteArray) (w : World) (hm : 0 ≤ many ∧ many ≤ 1000000) (ha : Dig.parseO a = some f) (hb : Dig.parseO b = some t) (hf : Int64 f) (ht : Int64 t) (hsa : a.size ≤ 70368744177664) (hsb : b.size ≤ 70368744177664) (hT : Tabs w) :
    Calls Tryz.prog 20 #[.int .i64 many, .string a, .string b] w fun e w' => e = .returned (.tuple #[.int .i64 (partA many f t), .int .i64 (partB many f t), .bool true]) ∧ Below w.heap.size w w' := by
  have hT' := veil hT
  obtain ⟨hm0, hm1⟩ := hm
  obtain ⟨f0, f1⟩ := hf
  obtain ⟨t0, t1⟩ := ht
  have ha' := veil ha
  have hb' := veil hb
  have w3 : IntKind.i64.wrap (many - 1) = many - 1 := iwrapE (by unfold Int64; omega)
  obtain ⟨F, hF⟩ : ∃ F, partF many f = F := ⟨_, rfl⟩
  obtain ⟨T, hTT⟩ : ∃ T, partT many t = T := ⟨_, rfl⟩
  have w4 : Veil (IntKind.i64.wrap (T + 1) = T + 1) := veil (iwrapE (by rw [← hTT]; unfold partT mn Int64; split <;> split <;> omega))
  clear hT ha hb
  go_enter Tryz.func20, Tryz.ntmps20
  go_wp2_with fail
  refine (parse_any a _ hsa hT'.out).mono ?_
  rintro e w1 ⟨rfl, hb1⟩
  rw [ha'.out]
  have hB1 := veil hb1
  clear hb1
  simp only [Option.getD_some, Option.isSome_some]
  go_wp2_with fail
  refine (parse_any b _ hsb (tabs_below hT'.out hB1.out)).mono ?_
  rintro e w2 ⟨rfl, hb2⟩
  rw [hb'.out]
  have hB2 := veil (two_below hB1.out hb2)
  clear hb2 hB1
  simp only [Option.getD_some, Option.isSome_some]
  have hFv : Veil (partF many f = F) := veil hF
  have hTv : Veil (partT many t = T) := veil hTT
  have fin : ∀ (x y : Int), x = partA many f t → y = partB many f t → (Ending.returned (.tuple #[.int .i64 x, .int .i64 y, .bool true]) : Ending) = .returned (.tuple #[.int .i64 (partA many f t), .int .i64 (partB many f t), .bool true]) := fun x y h1 h2 => by rw [h1, h2]
  have fA1 : Veil (F > T → (0 : Int) = partA many f t ∧ (0 : Int) = partB many f t) := veil (fun h => by unfold partA partB; rw [hF, hTT, if_pos h, if_pos h]; exact ⟨rfl, rfl⟩)
  have fA2 : Veil (¬ F > T → F = partA many f t ∧ T + 1 = partB many f t) := veil (fun h => by unfold partA partB; rw [hF, hTT, if_neg h, if_neg h]; exact ⟨rfl, rfl⟩)
  unfold partF at hF
  unfold partT at hTT
  clear fin hFv hTv
  by_cases q1 : f < 0
  · rw [if_pos q1] at hF
    have w1 : IntKind.i64.wrap (f + many) = f + many := iwrapE (by unfold Int64; omega)
    by_cases q2 : t < 0
    · rw [if_pos q2] at hTT
      have w2 : IntKind.i64.wrap (t + many) = t + many := iwrapE (by unfold Int64; omega)
      by_cases q3 : F > T
      · have e1 := fA1.out q3
        have e1' := veil e1
        clear e1 fA1 fA2
        go_wp2_with fail
        go_ret3
        have h := e1'.out
        have hA : partA many f t = 0 := by omega
        have hBq : partB many f t = 0 := by omega
        rw [hA, hBq]
        exact ⟨rfl, hB2.out⟩
      · have e1' := veil (fA2.out q3)
        have w4' := w4.out
        clear fA1 fA2
        go_wp2_with fail
        go_ret3
        have h := e1'.out
        have hA : partA many f t = F := by omega
        have hBq : partB many f t = T + 1 := by omega
        rw [hA, hBq]
        exact ⟨rfl, hB2.out⟩
    · rw [if_neg q2] at hTT
      by_cases q3 : F > T
      · have e1 := fA1.out q3
        have e1' := veil e1
        clear e1 fA1 fA2
        go_wp2_with fail
        go_ret3
        have h := e1'.out
        have hA : partA many f t = 0 := by omega
        have hBq : partB many f t = 0 := by omega
        rw [hA, hBq]
        exact ⟨rfl, hB2.out⟩
      · have e1' := veil (fA2.out q3)
        have w4' := w4.out
        clear fA1 fA2
        go_wp2_with fail
        go_ret3
        have h := e1'.out
        have hA : partA many f t = F := by omega
        have hBq : partB many f t = T + 1 := by omega
        rw [hA, hBq]
        exact ⟨rfl, hB2.out⟩
  · rw [if_neg q1] at hF
    subst hF
    by_cases q2 : t < 0
    · rw [if_pos q2] at hTT
      have w2 : IntKind.i64.wrap (t + many) = t + many := iwrapE (by unfold Int64; omega)
      by_cases q3 : f > T
      · have e1 := fA1.out q3
        have e1' := veil e1
        clear e1 fA1 fA2
        go_wp2_with fail
        go_ret3
        have h := e1'.out
        have hA : partA many f t = 0 := by omega
        have hBq : partB many f t = 0 := by omega
        rw [hA, hBq]
        exact ⟨rfl, hB2.out⟩
      · have e1' := veil (fA2.out q3)
        have w4' := w4.out
        clear fA1 fA2
        go_wp2_with fail
        go_ret3
        have h := e1'.out
        have hA : partA many f t = f := by omega
        have hBq : partB many f t = T + 1 := by omega
        rw [hA, hBq]
        exact ⟨rfl, hB2.out⟩
    · rw [if_neg q2] at hTT
      by_cases q3 : f > T
      · have e1 := fA1.out q3
        have e1' := veil e1
        clear e1 fA1 fA2
        go_wp2_with fail
        go_ret3
        have h := e1'.out
        have hA : partA many f t = 0 := by omega
        have hBq : partB many f t = 0 := by omega
        rw [hA, hBq]
        exact ⟨rfl, hB2.out⟩
      · have e1' := veil (fA2.out q3)
        have w4' := w4.out
        clear fA1 fA2
        go_wp2_with fail
        go_ret3
        have h := e1'.out
        have hA : partA many f t = f := by omega
        have hBq : partB many f t = T + 1 := by omega
        rw [hA, hBq]
        exact ⟨rfl, hB2.out⟩
end Go.Proofs.Tryz.Ln
