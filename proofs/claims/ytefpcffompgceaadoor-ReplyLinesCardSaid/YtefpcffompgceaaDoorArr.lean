import Derived.Test.YtefpcffompgceaaDoorNum
/- What an array of replies tells. -/
namespace Go.Proofs.Tryd.Ln
open Go Go.RowKit Go.Proofs.Mem Go.Proofs.App
open Go.Proofs.YtefpcffompgceaaDoorW.PrintWords
set_option linter.unusedVariables false

def Byt (l : List Int) : Prop := ∀ x ∈ l, 0 ≤ x ∧ x ≤ 255
def u8 (l : List Int) : List UInt8 := l.map fun n => UInt8.ofNat n.toNat
theorem u8_val (x : Int) (h0 : 0 ≤ x) (h : x ≤ 255) : ((UInt8.ofNat x.toNat).toNat : Int) = x := by
  simp
  omega
theorem u8_inj : ∀ {a b : List Int}, Byt a → Byt b → u8 a = u8 b → a = b
  | [], [], _, _, _ => rfl
  | [], _ :: _, _, _, h => by simp [u8] at h
  | _ :: _, [], _, _, h => by simp [u8] at h
  | x :: a, y :: b, ha, hb, h => by
    simp only [u8, List.map_cons, List.cons.injEq] at h
    have h1 := congrArg (fun u : UInt8 => (u.toNat : Int)) h.1
    simp only [u8_val x (ha x (by simp)).1 (ha x (by simp)).2, u8_val y (hb y (by simp)).1 (hb y (by simp)).2] at h1
    rw [h1, u8_inj (fun z hz => ha z (by simp [hz])) (fun z hz => hb z (by simp [hz])) h.2]
theorem byt_bytes (s : ByteArray) : Byt (bytesOf s) := fun x hx => by
  simp only [bytesOf, List.mem_map] at hx
  obtain ⟨u, _, rfl⟩ := hx
  have : u.toNat < 256 := u.toNat_lt
  omega
theorem byt_append {a b : List Int} (ha : Byt a) (hb : Byt b) : Byt (a ++ b) := fun x hx => by
  rcases List.mem_append.1 hx with h | h
  · exact ha x h
  · exact hb x h
theorem byt_flatten {ls : List (List Int)} (h : ∀ l ∈ ls, Byt l) : Byt ls.flatten := fun x hx => by
  obtain ⟨l, hl, hx⟩ := List.mem_flatten.1 hx
  exact h l hl x hx
theorem byt_line (mark s : ByteArray) : Byt (lineL mark s) := byt_bytes _
theorem byt_bulk (s : ByteArray) : Byt (bulkL s) := byt_append (byt_line _ _) (byt_bytes _)
theorem join_flat (ls : List (List UInt8)) : Lib.join ls [] = ls.flatten := by
  cases ls with
  | nil => rfl
  | cons x r =>
    rw [Lib.join_cons, Lib.joinTail, List.flatten_cons]
    simp
theorem u8_flatten (ls : List (List Int)) : (ls.map u8).flatten = u8 ls.flatten := by
  induction ls with
  | nil => rfl
  | cons x r ih => simp only [List.map_cons, List.flatten_cons, ih]; simp [u8]
/-- these slices lie in a row -/
def Parts (w : World) (b : Nat) (ls : List (List Int)) : Prop := ∀ i l, ls[i]? = some l → ∃ A c, w.cell? ⟨b, i, none⟩ = some (.slice A l.length c) ∧ ReadsInt w .u8 A l.length l ∧ Byt l
theorem parts_below {w w1 : World} {b : Nat} {ls : List (List Int)} (h : Parts w b ls) (hb : Below w.heap.size w w1) : Parts w1 b ls := fun i l hi => by
  obtain ⟨A, c, h1, h2, h3⟩ := h i l hi
  exact ⟨A, c, pw_cell_below hb h1, h2.below hb, h3⟩
theorem holds_of {w : World} {A : Option Addr} {l : List Int} {c : Nat} (h : ReadsInt w .u8 A l.length l) (hb : Byt l) : Lib.HoldsBytes w (.slice A l.length c) (u8 l) := by
  refine ⟨A, c, by simp [u8], fun hA => ?_, fun a ha i x hx => ?_⟩
  · cases l with
    | nil => rfl
    | cons y r =>
      obtain ⟨ad, e, _⟩ := h.2.2 (by simp)
      rw [hA] at e; cases e
  · have hi : i < l.length := by have := (List.getElem?_eq_some_iff.1 hx).1; simpa [u8] using this
    obtain ⟨ad, e, hc⟩ := h.2.2 (by omega)
    rw [ha] at e
    injection e with e
    subst e
    rw [hc i hi]
    simp only [u8, List.getElem?_map, List.getElem?_eq_getElem hi, Option.map_some, Option.some.injEq] at hx
    subst hx
    have hm := hb l[i] (List.getElem_mem hi)
    rw [u8_val _ hm.1 hm.2]
    simp [List.getD_eq_getElem?_getD, hi]
theorem reads_of_fresh {B : Nat} {w : World} {v : Value} {L : List Int} (h : Lib.FreshBytes B w v (u8 L)) (hL : Byt L) (hn : L.length ≤ 140737488355328) : ∃ A c, v = .slice A L.length c ∧ L.length ≤ c ∧ ReadsInt w .u8 A L.length L := by
  obtain ⟨g, cap, zs, rfl, _, hle, _, hz, hr, hb, hc, _⟩ := h
  have hu : (u8 L).length = L.length := by simp [u8]
  rw [hu] at hle hb
  refine ⟨_, cap, by rw [hu], hle, rfl, by omega, fun _ => ⟨_, rfl, fun j hj => ?_⟩⟩
  have e : zs.take L.length = L := by
    refine u8_inj (fun x hx => ?_) hL (by rw [← hb]; rfl)
    have := hr x (List.mem_of_mem_take hx)
    omega
  rw [add_plain, hc j (by omega)]
  congr 2
  rw [← e]
  simp [List.getD_eq_getElem?_getD, hj]
/-- slices joined: their bytes, one behind the other -/
def Joined (L : List Int) (w : World) (e : Ending) (w' : World) : Prop := ∃ A c, e = .returned (.slice A L.length c) ∧ L.length ≤ c ∧ ReadsInt w' .u8 A L.length L ∧ Below w.heap.size w w'
theorem join_any (A : Option Addr) (b n c : Nat) (ls : List (List Int)) (w : World) (hA : 0 < n → A = some ⟨b, 0, none⟩) (hn : ls.length = n) (hc : n ≤ c) (hP : Parts w b ls) (hlen : ls.flatten.length ≤ 70368744177664) (hn2 : n ≤ 70368744177664) :
    Calls Tryd.prog 15 #[.slice A n c, .slice none 0 0] w (Joined ls.flatten w) := by
  have hLb : Byt ls.flatten := byt_flatten fun l hl => by
    obtain ⟨i, hi, rfl⟩ := List.mem_iff_getElem.1 hl
    obtain ⟨_, _, _, _, h⟩ := hP i _ (List.getElem?_eq_getElem hi)
    exact h
  by_cases h0 : n = 0
  · subst h0
    obtain rfl : ls = [] := List.eq_nil_of_length_eq_zero hn
    refine (Tryd.bytes_Join_none A c (.slice none 0 0) w).mono ?_
    rintro e w1 ⟨rfl, rfl⟩
    exact ⟨_, 0, rfl, by simp, ⟨rfl, by simp, fun h => absurd h (by simp)⟩, below_alloc (Below.refl _ _) _⟩
  · obtain rfl := hA (by omega)
    by_cases h1 : n = 1
    · subst h1
      obtain ⟨l, rfl⟩ : ∃ l, ls = [l] := List.length_eq_one_iff.1 hn
      obtain ⟨A0, c0, hcell, hr, hb⟩ := hP 0 l rfl
      rw [show [l].flatten = l by simp] at *
      by_cases hl : l.length = 0
      · obtain rfl : l = [] := List.eq_nil_of_length_eq_zero hl
        refine (Tryd.bytes_Join_one_empty b 0 c A0 c0 (.slice none 0 0) w hcell).mono ?_
        rintro e w1 ⟨rfl, rfl⟩
        exact ⟨none, 0, rfl, by simp, ⟨rfl, by simp, fun h => absurd h (by simp)⟩, Below.refl _ _⟩
      · obtain ⟨ad, rfl, hcs⟩ := hr.2.2 (by omega)
        have hH := holds_of (c := c0) hr hb
        obtain ⟨p, cap, e1, _, e3⟩ := hH
        injection e1 with e1 e2 e4
        subst e1
        have hu : (u8 l).length = l.length := by simp [u8]
        refine (Tryd.bytes_Join_one b 0 c ad c0 (u8 l) (.slice none 0 0) w (by rw [hu]; exact hcell) (fun i x hx => e3 ad rfl i x hx) (by omega) (by omega)).mono ?_
        rintro e w1 ⟨v, rfl, hf, hbl⟩
        obtain ⟨A', c', rfl, hle, hrr⟩ := reads_of_fresh hf hb (by omega)
        exact ⟨A', c', rfl, hle, hrr, hbl⟩
    · have hvs : Lib.PartsAt w ⟨b, 0, none⟩ ((List.range n).map fun i => (w.cell? ⟨b, i, none⟩).getD .nilIface) (ls.map u8) := by
        refine ⟨by simp [hn], fun i v hv => ?_, fun i v l hv hl => ?_⟩
        · have hi : i < n := by have := (List.getElem?_eq_some_iff.1 hv).1; simpa using this
          obtain ⟨A', c', hcl, _⟩ := hP i ls[i] (List.getElem?_eq_getElem (by omega))
          rw [add_plain, hcl]
          simp [hi, hcl] at hv
          rw [hv]
        · have hi : i < n := by have := (List.getElem?_eq_some_iff.1 hv).1; simpa using this
          obtain ⟨A', c', hcl, hr, hb⟩ := hP i ls[i] (List.getElem?_eq_getElem (by omega))
          simp [hi, hcl] at hv
          rw [List.getElem?_map, List.getElem?_eq_getElem (by omega)] at hl
          simp only [Option.map_some, Option.some.injEq] at hl
          subst hl
          rw [← hv]
          exact holds_of hr hb
      have hll : Lib.lens (ls.map u8) = ls.flatten.length := by
        simp only [Lib.lens, List.map_map, List.length_flatten]
        congr 1
        apply List.map_congr_left
        intro l _
        simp [u8]
      refine (Tryd.bytes_Join_many b 0 n c _ (ls.map u8) (.slice none 0 0) [] w (by simp [hn]) (by omega) hvs hc ⟨none, 0, rfl, fun _ => rfl, fun a h => by cases h⟩ (by omega) (by rw [hll, List.length_nil, Nat.zero_mul]; omega)).mono ?_
      rintro e w1 ⟨v, rfl, hf, hbl⟩
      rw [join_flat, u8_flatten] at hf
      obtain ⟨A', c', rfl, hle, hrr⟩ := reads_of_fresh hf hLb (by omega)
      exact ⟨A', c', rfl, hle, hrr, hbl⟩
/-- an array's bytes -/
def arrL (ls : List (List Int)) : List Int := lineL ⟨#[42]⟩ (numS ls.length) ++ ls.flatten
set_option maxHeartbeats 4000000 in
theorem Array_any (A : Option Addr) (b n c : Nat) (ls : List (List Int)) (w : World) (hA : 0 < n → A = some ⟨b, 0, none⟩) (hn : ls.length = n) (hc : n ≤ c) (hP : Parts w b ls) (hlen : ls.flatten.length ≤ 70368744177664) (hn2 : n ≤ 70368744177664) (hT : Tabl w) :
    Calls Tryd.prog 10 #[.slice A n c] w (Bytes_ (arrL ls) w) := by
  have hi : Int64 (n : Int) := ⟨by omega, by omega⟩
  have hz := numS_size n hi.1 hi.2
  have hn' := veil hn
  have hP' := veil hP
  clear hn hP
  go_enter Tryd.func10, Tryd.ntmps10
  go_wp2_with fail
  refine (text_any n _ hi hT).mono ?_
  rintro e w1 ⟨rfl, hb1⟩
  go_wp2_with fail
  refine (line_any ⟨#[42]⟩ (numS n) _ (by decide) (by omega)).mono ?_
  rintro e w2 ⟨A1, c1, rfl, hf, hb2⟩
  have hb' := veil (two_below hb1 hb2)
  have hf1 := veil (hf.base hb1.size)
  have hP2 := veil (parts_below hP'.out hb'.out)
  have hm9 : (lineL ⟨#[42]⟩ (numS n)).length ≤ 100 := by rw [lineL_len]; show 1 + _ + 2 ≤ 100; omega
  obtain ⟨m, hm⟩ : ∃ m, (lineL ⟨#[42]⟩ (numS n)).length = m := ⟨_, rfl⟩
  rw [hm] at hf1 hm9 ⊢
  have hm' := veil hm
  clear hf hb1 hb2 hm hz
  go_wp2_with fail
  refine (join_any A b n c ls _ hA hn'.out hc hP2.out hlen hn2).mono ?_
  rintro e w3 ⟨A2, c2, rfl, hle2, hr2, hb3⟩
  have hf3 := veil (hf1.out.below hb3)
  have hb3' := veil (two_below hb'.out hb3)
  have hs3 : w.heap.size ≤ w3.heap.size := hb3'.out.size
  have hr2' := veil hr2
  obtain ⟨q, hq⟩ : ∃ q, ls.flatten.length = q := ⟨_, rfl⟩
  rw [hq] at hr2' hle2 hlen ⊢
  have hq' := veil hq
  clear hr2 hb3 hf1 hq
  go_wp2_with (refine wpList_app (w0 := w) w.heap.size rfl _ _ 24 24 5 .u8 1 rfl Tryd.underlying24 info5 (by omega) A1 m c1 _ _ _ _ rfl rfl hf3.out (src_reads Tryd.underlying24 _ _ _ _ hr2'.out) hb3'.out hs3 (by omega) ?_; intro A4 c4 w4 hf4 hb4)
  have hl4 : (arrL ls).length = m + q := by rw [arrL, List.length_append, hn'.out, hm'.out, hq'.out]
  have hf4' : Veil (Fresh .u8 w.heap.size w4 A4 (m + q) c4 (arrL ls)) := veil (by unfold arrL; rw [hn'.out]; exact hf4)
  have hb4' := veil hb4
  have hl4' := veil hl4
  clear hf4 hb4 hl4
  go_wp2_with fail
  go_ret
  exact ⟨A4, c4, by rw [hl4'.out]; rfl, by rw [hl4'.out]; exact hf4'.out, hb4'.out⟩
end Go.Proofs.Tryd.Ln
