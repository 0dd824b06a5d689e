import Derived.Test.YtefpcffompgceaaGreatDoorBase
import Derived.Test.YtefpcffompgceaaGreatDoorShelf
import Derived.Lib.ItoaLen
import Derived.Lib.AppendIntMem
import Derived.Test.YtefpcffompgceaaGreatDoorWMore
/- What num.Text tells, and the replies of one line. -/
namespace Go.Proofs.Tryz.Ln
open Go Go.RowKit Go.Proofs.Mem Go.Proofs.App
open Go.Proofs.YtefpcffompgceaaGreatDoorW.PrintWords
set_option linter.unusedVariables false

/-- the library's table lies as the program's text lays it -/
def Tabl (w : World) : Prop := Lib.TabIs Tryz.prog w "internal/strconv.uint64pow10" .u64 Lib.pow10Tab
theorem tabl_below {w w1 : World} (h : Tabl w) (hb : Below w.heap.size w w1) : Tabl w1 := Lib.tabBelow_of_tabIs h w1 hb
/-- a number's digits -/
def numS (n : Int) : ByteArray := ⟨(Lib.itoa n).toArray⟩
theorem numS_size (n : Int) (h0 : -9223372036854775808 ≤ n) (h1 : n ≤ 9223372036854775807) : (numS n).size ≤ 21 := by
  show ((Lib.itoa n).toArray).size ≤ 21
  rw [List.size_toArray]
  exact Lib.itoa_length_le n h0 h1
/-- n is an int -/
def Int64 (n : Int) : Prop := -9223372036854775808 ≤ n ∧ n ≤ 9223372036854775807
theorem text_any (n : Int) (w : World) (hn : Int64 n) (hT : Tabl w) :
    Calls Tryz.prog 33 #[.int .i64 n] w fun e w' => e = .returned (.string (numS n)) ∧ Below w.heap.size w w' := by
  go_enter Tryz.func33, Tryz.ntmps33
  go_wp2_with fail
  refine (Tryz.strconv_Itoa n hn.1 hn.2 _ hT).mono ?_
  rintro e w1 ⟨rfl, k, os, rfl⟩
  have hb := veil (Lib.below_grow w.heap.size w (Nat.le_refl _) k os)
  go_wp2_with fail
  go_ret
  exact ⟨rfl, hb.out⟩
theorem Int_any (n : Int) (w : World) (hn : Int64 n) (hT : Tabl w) :
    Calls Tryz.prog 16 #[.int .i64 n] w (Bytes_ (lineL ⟨#[58]⟩ (numS n)) w) := by
  have hz := numS_size n hn.1 hn.2
  go_enter Tryz.func16, Tryz.ntmps16
  go_wp2_with fail
  refine (text_any n _ hn hT).mono ?_
  rintro e w1 ⟨rfl, hb1⟩
  go_wp2_with fail
  refine (line_any ⟨#[58]⟩ (numS n) _ (by decide) (by omega)).mono ?_
  rintro e w2 ⟨A, c, rfl, hf, hb2⟩
  have hf' := veil (hf.base hb1.size)
  have hb' := veil (two_below hb1 hb2)
  obtain ⟨m, hm⟩ : ∃ m, (lineL ⟨#[58]⟩ (numS n)).length = m := ⟨_, rfl⟩
  rw [hm]
  have hm' := veil hm
  clear hf hb1 hb2 hz hm
  go_wp2_with fail
  go_ret
  exact ⟨A, c, by rw [hm'.out]; rfl, hf'.out, hb'.out⟩
theorem Simple_any (s : ByteArray) (w : World) (hs : s.size ≤ 70368744177664) : Calls Tryz.prog 12 #[.string s] w (Bytes_ (lineL ⟨#[43]⟩ s) w) := by
  go_enter Tryz.func12, Tryz.ntmps12
  go_wp2_with fail
  refine (line_any ⟨#[43]⟩ s _ (by decide) hs).mono ?_
  rintro e w2 ⟨A, c, rfl, hf, hb2⟩
  have hf' := veil hf
  have hb' := veil hb2
  obtain ⟨m, hm⟩ : ∃ m, (lineL ⟨#[43]⟩ s).length = m := ⟨_, rfl⟩
  rw [hm]
  have hm' := veil hm
  clear hf hb2 hm
  go_wp2_with fail
  go_ret
  exact ⟨A, c, by rw [hm'.out]; rfl, hf'.out, hb'.out⟩
theorem Err_any (s : ByteArray) (w : World) (hs : s.size ≤ 70368744177664) : Calls Tryz.prog 14 #[.string s] w (Bytes_ (lineL ⟨#[45]⟩ s) w) := by
  go_enter Tryz.func14, Tryz.ntmps14
  go_wp2_with fail
  refine (line_any ⟨#[45]⟩ s _ (by decide) hs).mono ?_
  rintro e w2 ⟨A, c, rfl, hf, hb2⟩
  have hf' := veil hf
  have hb' := veil hb2
  obtain ⟨m, hm⟩ : ∃ m, (lineL ⟨#[45]⟩ s).length = m := ⟨_, rfl⟩
  rw [hm]
  have hm' := veil hm
  clear hf hb2 hm
  go_wp2_with fail
  go_ret
  exact ⟨A, c, by rw [hm'.out]; rfl, hf'.out, hb'.out⟩
theorem Null_any (w : World) : Calls Tryz.prog 20 #[] w (Bytes_ (lineL ⟨#[36]⟩ ⟨#[45, 49]⟩) w) := by
  go_enter Tryz.func20, Tryz.ntmps20
  go_wp2_with fail
  refine (line_any ⟨#[36]⟩ ⟨#[45, 49]⟩ _ (by decide) (by decide)).mono ?_
  rintro e w2 ⟨A, c, rfl, hf, hb2⟩
  have hf' := veil hf
  have hb' := veil hb2
  obtain ⟨m, hm⟩ : ∃ m, (lineL ⟨#[36]⟩ ⟨#[45, 49]⟩).length = m := ⟨_, rfl⟩
  rw [hm]
  have hm' := veil hm
  clear hf hb2 hm
  go_wp2_with fail
  go_ret
  exact ⟨A, c, by rw [hm'.out]; rfl, hf'.out, hb'.out⟩
/-- a bulk's bytes -/
def bulkL (s : ByteArray) : List Int := lineL ⟨#[36]⟩ (numS s.size) ++ bytesOf (s ++ ⟨#[13, 10]⟩)
theorem info5 : (Tryz.prog.info? 5).map (fun i => (i.zero, i.size, i.bytes)) = some (some (.int .u8 0), 1, 1) := by kernel_rfl
theorem lineL_len (mark s : ByteArray) : (lineL mark s).length = mark.size + s.size + 2 := by rw [lineL, bytesOf_length, line_size]
set_option maxHeartbeats 4000000 in
theorem Bulk_any (s : ByteArray) (w : World) (hs : s.size ≤ 70368744177664) (hT : Tabl w) :
    Calls Tryz.prog 18 #[.string s] w (Bytes_ (bulkL s) w) := by
  have hi : Int64 (s.size : Int) := ⟨by omega, by omega⟩
  have hz := numS_size s.size hi.1 hi.2
  go_enter Tryz.func18, Tryz.ntmps18
  go_wp2_with fail
  refine (text_any s.size _ hi hT).mono ?_
  rintro e w1 ⟨rfl, hb1⟩
  go_wp2_with fail
  refine (line_any ⟨#[36]⟩ (numS s.size) _ (by decide) (by omega)).mono ?_
  rintro e w2 ⟨A, c, rfl, hf, hb2⟩
  have hf' := veil (hf.base hb1.size)
  have hb' := veil (two_below hb1 hb2)
  have hs2 : w.heap.size ≤ w2.heap.size := hb'.out.size
  have hm9 : (lineL ⟨#[36]⟩ (numS s.size)).length ≤ 100 := by rw [lineL_len]; show 1 + _ + 2 ≤ 100; omega
  obtain ⟨m, hm⟩ : ∃ m, (lineL ⟨#[36]⟩ (numS s.size)).length = m := ⟨_, rfl⟩
  rw [hm] at hf' hm9 ⊢
  have hm' := veil hm
  have z1 : ¬ 9223372036854775807 < s.size + 2 := by omega
  have hsz : (s ++ (⟨#[13, 10]⟩ : ByteArray)).size = s.size + 2 := by rw [ByteArray.size_append]; rfl
  have hsz' := veil hsz
  clear hf hb1 hb2 hm hz hsz
  go_wp2_with (refine wpList_app (w0 := w) w.heap.size rfl _ _ 22 9 5 .u8 1 rfl Tryz.underlying22 info5 (by omega) A m c _ _ _ _ rfl rfl hf'.out (src_string Tryz.underlying9 _) hb'.out hs2 (by rw [hsz'.out]; omega) ?_; intro A2 c2 w3 hf3 hb3)
  have hl3 : (bulkL s).length = m + (s ++ (⟨#[13, 10]⟩ : ByteArray)).size := by rw [bulkL, List.length_append, hm'.out, bytesOf_length]
  have hf3' : Veil (Fresh .u8 w.heap.size w3 A2 (m + (s ++ (⟨#[13, 10]⟩ : ByteArray)).size) c2 (bulkL s)) := veil hf3
  have hb3' := veil hb3
  have hl3' := veil hl3
  clear hf3 hb3 hl3
  go_wp2_with fail
  go_ret
  exact ⟨A2, c2, by rw [hl3'.out, hsz'.out]; rfl, by rw [hl3'.out]; exact hf3'.out, hb3'.out⟩
end Go.Proofs.Tryz.Ln
/- What an array of replies tells. -/
namespace Go.Proofs.Tryz.Ln
open Go Go.RowKit Go.Proofs.Mem Go.Proofs.App
open Go.Proofs.YtefpcffompgceaaGreatDoorW.PrintWords
set_option linter.unusedVariables false

def Byt (l : List Int) : Prop := ∀ x ∈ l, 0 ≤ x ∧ x ≤ 255
def u8 (l : List Int) : List UInt8 := l.map fun n => UInt8.ofNat n.toNat
theorem u8_val (x : Int) (h0 : 0 ≤ x) (h : x ≤ 255) : ((UInt8.ofNat x.toNat).toNat : Int) = x := by
  simp
  omega
theorem u8_inj : ∀ {a b : List Int}, Byt a → Byt b → u8 a = u8 b → a = b
  | [], [], _, _, _ => rfl
  | [], _ :: _, _, _, h => by simp [u8] at h
  | _ :: _, [], _, _, h => by simp [u8] at h
  | x :: a, y :: b, ha, hb, h => by
    simp only [u8, List.map_cons, List.cons.injEq] at h
    have h1 := congrArg (fun u : UInt8 => (u.toNat : Int)) h.1
    simp only [u8_val x (ha x (by simp)).1 (ha x (by simp)).2, u8_val y (hb y (by simp)).1 (hb y (by simp)).2] at h1
    rw [h1, u8_inj (fun z hz => ha z (by simp [hz])) (fun z hz => hb z (by simp [hz])) h.2]
theorem byt_bytes (s : ByteArray) : Byt (bytesOf s) := fun x hx => by
  simp only [bytesOf, List.mem_map] at hx
  obtain ⟨u, _, rfl⟩ := hx
  have : u.toNat < 256 := u.toNat_lt
  omega
theorem byt_append {a b : List Int} (ha : Byt a) (hb : Byt b) : Byt (a ++ b) := fun x hx => by
  rcases List.mem_append.1 hx with h | h
  · exact ha x h
  · exact hb x h
theorem byt_flatten {ls : List (List Int)} (h : ∀ l ∈ ls, Byt l) : Byt ls.flatten := fun x hx => by
  obtain ⟨l, hl, hx⟩ := List.mem_flatten.1 hx
  exact h l hl x hx
theorem byt_line (mark s : ByteArray) : Byt (lineL mark s) := byt_bytes _
theorem byt_bulk (s : ByteArray) : Byt (bulkL s) := byt_append (byt_line _ _) (byt_bytes _)
theorem join_flat (ls : List (List UInt8)) : Lib.join ls [] = ls.flatten := by
  cases ls with
  | nil => rfl
  | cons x r =>
    rw [Lib.join_cons, Lib.joinTail, List.flatten_cons]
    simp
theorem u8_flatten (ls : List (List Int)) : (ls.map u8).flatten = u8 ls.flatten := by
  induction ls with
  | nil => rfl
  | cons x r ih => simp only [List.map_cons, List.flatten_cons, ih]; simp [u8]
/-- these slices lie in a row -/
def PartsO (w : World) (b o : Nat) (ls : List (List Int)) : Prop := ∀ i l, ls[i]? = some l → ∃ A c, w.cell? ⟨b, o + i, none⟩ = some (.slice A l.length c) ∧ ReadsInt w .u8 A l.length l ∧ Byt l
def Parts (w : World) (b : Nat) (ls : List (List Int)) : Prop := ∀ i l, ls[i]? = some l → ∃ A c, w.cell? ⟨b, i, none⟩ = some (.slice A l.length c) ∧ ReadsInt w .u8 A l.length l ∧ Byt l
theorem parts_o {w : World} {b : Nat} {ls : List (List Int)} (h : Parts w b ls) : PartsO w b 0 ls := fun i l hi => by
  rw [Nat.zero_add]
  exact h i l hi
theorem add_off (b o i : Nat) : (⟨b, o, none⟩ : Addr).add i = ⟨b, o + i, none⟩ := by unfold Addr.add; split <;> simp_all
theorem partsO_below {w w1 : World} {b o : Nat} {ls : List (List Int)} (h : PartsO w b o ls) (hb : Below w.heap.size w w1) : PartsO w1 b o ls := fun i l hi => by
  obtain ⟨A, c, h1, h2, h3⟩ := h i l hi
  exact ⟨A, c, pw_cell_below hb h1, h2.below hb, h3⟩
theorem parts_below {w w1 : World} {b : Nat} {ls : List (List Int)} (h : Parts w b ls) (hb : Below w.heap.size w w1) : Parts w1 b ls := fun i l hi => by
  obtain ⟨A, c, h1, h2, h3⟩ := h i l hi
  exact ⟨A, c, pw_cell_below hb h1, h2.below hb, h3⟩
theorem holds_of {w : World} {A : Option Addr} {l : List Int} {c : Nat} (h : ReadsInt w .u8 A l.length l) (hb : Byt l) : Lib.HoldsBytes w (.slice A l.length c) (u8 l) := by
  refine ⟨A, c, by simp [u8], fun hA => ?_, fun a ha i x hx => ?_⟩
  · cases l with
    | nil => rfl
    | cons y r =>
      obtain ⟨ad, e, _⟩ := h.2.2 (by simp)
      rw [hA] at e; cases e
  · have hi : i < l.length := by have := (List.getElem?_eq_some_iff.1 hx).1; simpa [u8] using this
    obtain ⟨ad, e, hc⟩ := h.2.2 (by omega)
    rw [ha] at e
    injection e with e
    subst e
    rw [hc i hi]
    simp only [u8, List.getElem?_map, List.getElem?_eq_getElem hi, Option.map_some, Option.some.injEq] at hx
    subst hx
    have hm := hb l[i] (List.getElem_mem hi)
    rw [u8_val _ hm.1 hm.2]
    simp [List.getD_eq_getElem?_getD, hi]
theorem reads_of_fresh {B : Nat} {w : World} {v : Value} {L : List Int} (h : Lib.FreshBytes B w v (u8 L)) (hL : Byt L) (hn : L.length ≤ 140737488355328) : ∃ A c, v = .slice A L.length c ∧ L.length ≤ c ∧ ReadsInt w .u8 A L.length L := by
  obtain ⟨g, cap, zs, rfl, _, hle, _, hz, hr, hb, hc, _⟩ := h
  have hu : (u8 L).length = L.length := by simp [u8]
  rw [hu] at hle hb
  refine ⟨_, cap, by rw [hu], hle, rfl, by omega, fun _ => ⟨_, rfl, fun j hj => ?_⟩⟩
  have e : zs.take L.length = L := by
    refine u8_inj (fun x hx => ?_) hL (by rw [← hb]; rfl)
    have := hr x (List.mem_of_mem_take hx)
    omega
  rw [add_plain, hc j (by omega)]
  congr 2
  rw [← e]
  simp [List.getD_eq_getElem?_getD, hj]
/-- slices joined: their bytes, one behind the other -/
def Joined (L : List Int) (w : World) (e : Ending) (w' : World) : Prop := ∃ A c, e = .returned (.slice A L.length c) ∧ L.length ≤ c ∧ ReadsInt w' .u8 A L.length L ∧ Below w.heap.size w w'
theorem join_any (A : Option Addr) (b o n c : Nat) (ls : List (List Int)) (w : World) (hA : 0 < n → A = some ⟨b, o, none⟩) (hn : ls.length = n) (hc : n ≤ c) (hP : PartsO w b o ls) (hlen : ls.flatten.length ≤ 70368744177664) (hn2 : n ≤ 70368744177664) :
    Calls Tryz.prog 36 #[.slice A n c, .slice none 0 0] w (Joined ls.flatten w) := by
  have hLb : Byt ls.flatten := byt_flatten fun l hl => by
    obtain ⟨i, hi, rfl⟩ := List.mem_iff_getElem.1 hl
    obtain ⟨_, _, _, _, h⟩ := hP i _ (List.getElem?_eq_getElem hi)
    exact h
  by_cases h0 : n = 0
  · subst h0
    obtain rfl : ls = [] := List.eq_nil_of_length_eq_zero hn
    refine (Tryz.bytes_Join_none A c (.slice none 0 0) w).mono ?_
    rintro e w1 ⟨rfl, rfl⟩
    exact ⟨_, 0, rfl, by simp, ⟨rfl, by simp, fun h => absurd h (by simp)⟩, below_alloc (Below.refl _ _) _⟩
  · obtain rfl := hA (by omega)
    by_cases h1 : n = 1
    · subst h1
      obtain ⟨l, rfl⟩ : ∃ l, ls = [l] := List.length_eq_one_iff.1 hn
      obtain ⟨A0, c0, hcell, hr, hb⟩ := hP 0 l rfl
      rw [Nat.add_zero] at hcell
      rw [show [l].flatten = l by simp] at *
      by_cases hl : l.length = 0
      · obtain rfl : l = [] := List.eq_nil_of_length_eq_zero hl
        refine (Tryz.bytes_Join_one_empty b o c A0 c0 (.slice none 0 0) w hcell).mono ?_
        rintro e w1 ⟨rfl, rfl⟩
        exact ⟨none, 0, rfl, by simp, ⟨rfl, by simp, fun h => absurd h (by simp)⟩, Below.refl _ _⟩
      · obtain ⟨ad, rfl, hcs⟩ := hr.2.2 (by omega)
        have hH := holds_of (c := c0) hr hb
        obtain ⟨p, cap, e1, _, e3⟩ := hH
        injection e1 with e1 e2 e4
        subst e1
        have hu : (u8 l).length = l.length := by simp [u8]
        refine (Tryz.bytes_Join_one b o c ad c0 (u8 l) (.slice none 0 0) w (by rw [hu]; exact hcell) (fun i x hx => e3 ad rfl i x hx) (by omega) (by omega)).mono ?_
        rintro e w1 ⟨v, rfl, hf, hbl⟩
        obtain ⟨A', c', rfl, hle, hrr⟩ := reads_of_fresh hf hb (by omega)
        exact ⟨A', c', rfl, hle, hrr, hbl⟩
    · have hvs : Lib.PartsAt w ⟨b, o, none⟩ ((List.range n).map fun i => (w.cell? ⟨b, o + i, none⟩).getD .nilIface) (ls.map u8) := by
        refine ⟨by simp [hn], fun i v hv => ?_, fun i v l hv hl => ?_⟩
        · have hi : i < n := by have := (List.getElem?_eq_some_iff.1 hv).1; simpa using this
          obtain ⟨A', c', hcl, _⟩ := hP i ls[i] (List.getElem?_eq_getElem (by omega))
          rw [add_off, hcl]
          simp [hi, hcl] at hv
          rw [hv]
        · have hi : i < n := by have := (List.getElem?_eq_some_iff.1 hv).1; simpa using this
          obtain ⟨A', c', hcl, hr, hb⟩ := hP i ls[i] (List.getElem?_eq_getElem (by omega))
          simp [hi, hcl] at hv
          rw [List.getElem?_map, List.getElem?_eq_getElem (by omega)] at hl
          simp only [Option.map_some, Option.some.injEq] at hl
          subst hl
          rw [← hv]
          exact holds_of hr hb
      have hll : Lib.lens (ls.map u8) = ls.flatten.length := by
        simp only [Lib.lens, List.map_map, List.length_flatten]
        congr 1
        apply List.map_congr_left
        intro l _
        simp [u8]
      refine (Tryz.bytes_Join_many b o n c _ (ls.map u8) (.slice none 0 0) [] w (by simp [hn]) (by omega) hvs hc ⟨none, 0, rfl, fun _ => rfl, fun a h => by cases h⟩ (by omega) (by rw [hll, List.length_nil, Nat.zero_mul]; omega)).mono ?_
      rintro e w1 ⟨v, rfl, hf, hbl⟩
      rw [join_flat, u8_flatten] at hf
      obtain ⟨A', c', rfl, hle, hrr⟩ := reads_of_fresh hf hLb (by omega)
      exact ⟨A', c', rfl, hle, hrr, hbl⟩
/-- an array's bytes -/
def arrL (ls : List (List Int)) : List Int := lineL ⟨#[42]⟩ (numS ls.length) ++ ls.flatten
set_option maxHeartbeats 4000000 in
theorem Array_any (A : Option Addr) (b o n c : Nat) (ls : List (List Int)) (w : World) (hA : 0 < n → A = some ⟨b, o, none⟩) (hn : ls.length = n) (hc : n ≤ c) (hP : PartsO w b o ls) (hlen : ls.flatten.length ≤ 70368744177664) (hn2 : n ≤ 70368744177664) (hT : Tabl w) :
    Calls Tryz.prog 27 #[.slice A n c] w (Bytes_ (arrL ls) w) := by
  have hi : Int64 (n : Int) := ⟨by omega, by omega⟩
  have hz := numS_size n hi.1 hi.2
  have hn' := veil hn
  have hP' := veil hP
  clear hn hP
  go_enter Tryz.func27, Tryz.ntmps27
  go_wp2_with fail
  refine (text_any n _ hi hT).mono ?_
  rintro e w1 ⟨rfl, hb1⟩
  go_wp2_with fail
  refine (line_any ⟨#[42]⟩ (numS n) _ (by decide) (by omega)).mono ?_
  rintro e w2 ⟨A1, c1, rfl, hf, hb2⟩
  have hb' := veil (two_below hb1 hb2)
  have hf1 := veil (hf.base hb1.size)
  have hP2 := veil (partsO_below hP'.out hb'.out)
  have hm9 : (lineL ⟨#[42]⟩ (numS n)).length ≤ 100 := by rw [lineL_len]; show 1 + _ + 2 ≤ 100; omega
  obtain ⟨m, hm⟩ : ∃ m, (lineL ⟨#[42]⟩ (numS n)).length = m := ⟨_, rfl⟩
  rw [hm] at hf1 hm9 ⊢
  have hm' := veil hm
  clear hf hb1 hb2 hm hz
  go_wp2_with fail
  refine (join_any A b o n c ls _ hA hn'.out hc hP2.out hlen hn2).mono ?_
  rintro e w3 ⟨A2, c2, rfl, hle2, hr2, hb3⟩
  have hf3 := veil (hf1.out.below hb3)
  have hb3' := veil (two_below hb'.out hb3)
  have hs3 : w.heap.size ≤ w3.heap.size := hb3'.out.size
  have hr2' := veil hr2
  obtain ⟨q, hq⟩ : ∃ q, ls.flatten.length = q := ⟨_, rfl⟩
  rw [hq] at hr2' hle2 hlen ⊢
  have hq' := veil hq
  clear hr2 hb3 hf1 hq
  go_wp2_with (refine wpList_app (w0 := w) w.heap.size rfl _ _ 22 22 5 .u8 1 rfl Tryz.underlying22 info5 (by omega) A1 m c1 _ _ _ _ rfl rfl hf3.out (src_reads Tryz.underlying22 _ _ _ _ hr2'.out) hb3'.out hs3 (by omega) ?_; intro A4 c4 w4 hf4 hb4)
  have hl4 : (arrL ls).length = m + q := by rw [arrL, List.length_append, hn'.out, hm'.out, hq'.out]
  have hf4' : Veil (Fresh .u8 w.heap.size w4 A4 (m + q) c4 (arrL ls)) := veil (by unfold arrL; rw [hn'.out]; exact hf4)
  have hb4' := veil hb4
  have hl4' := veil hl4
  clear hf4 hb4 hl4
  go_wp2_with fail
  go_ret
  exact ⟨A4, c4, by rw [hl4'.out]; rfl, by rw [hl4'.out]; exact hf4'.out, hb4'.out⟩
end Go.Proofs.Tryz.Ln
/- What reply.Texts tells. -/
namespace Go.Proofs.Tryz.Ln
open Go Go.RowKit Go.Proofs.Mem Go.Proofs.App
open Go.Proofs.YtefpcffompgceaaGreatDoorW.PrintWords
set_option linter.unusedVariables false

theorem info24 : (Tryz.prog.info? 22).map (fun i => (i.zero, i.size, i.bytes)) = some (some (.slice none 0 0), 1, 24) := by kernel_rfl
/-- the row of bulks, so far -/
def Row (w : World) (g n : Nat) (ss : List ByteArray) (k : Nat) : Prop :=
  (∀ i s, i < k → ss[i]? = some s → ∃ A c, w.cell? ⟨g, i, none⟩ = some (.slice A (bulkL s).length c) ∧ ReadsInt w .u8 A (bulkL s).length (bulkL s)) ∧ (∀ i, k ≤ i → i < n → w.cell? ⟨g, i, none⟩ = some (.slice none 0 0)) ∧ ∀ i, i < n → w.frozen? ⟨g, i, none⟩ = false
theorem row_below {w w1 : World} {g n k : Nat} {ss : List ByteArray} (h : Row w g n ss k) (hg : g < w.heap.size) (hb : Below w.heap.size w w1) : Row w1 g n ss k := by
  refine ⟨fun i s hi hs => ?_, fun i hi hn => pw_cell_below hb (h.2.1 i hi hn), fun i hi => ?_⟩
  · obtain ⟨A, c, h1, h2⟩ := h.1 i s hi hs
    exact ⟨A, c, pw_cell_below hb h1, h2.below hb⟩
  · rw [hb.frozen (p := ⟨g, i, none⟩) hg]
    exact h.2.2 i hi
/-- a store over a slice spoils no cell that holds a byte -/
theorem reads_set {w : World} {g k : Nat} {v : Value} (hu : w.cell? ⟨g, k, none⟩ = some (.slice none 0 0)) {B : Option Addr} {n : Nat} {l : List Int} (h : ReadsInt w .u8 B n l) : ReadsInt (w.setCell ⟨g, k, none⟩ v) .u8 B n l :=
  ⟨h.1, h.2.1, fun hp => by
    obtain ⟨ad, e, hc⟩ := h.2.2 hp
    refine ⟨ad, e, fun j hj => ?_⟩
    have hcj := hc j hj
    rw [World.cell?_setCell_other]
    · exact hcj
    · intro q
      rw [← q, hu] at hcj
      cases hcj⟩
theorem row_set {w : World} {g n k c : Nat} {ss : List ByteArray} {A : Option Addr} {s : ByteArray} (h : Row w g n ss k) (hk : k < n) (hs : ss[k]? = some s) (hr : ReadsInt w .u8 A (bulkL s).length (bulkL s)) : Row (w.setCell ⟨g, k, none⟩ (.slice A (bulkL s).length c)) g n ss (k + 1) := by
  have hu := h.2.1 k (Nat.le_refl _) hk
  refine ⟨fun i s' hi hs' => ?_, fun i hi hn => ?_, fun i hi => by rw [World.frozen?_setCell]; exact h.2.2 i hi⟩
  · by_cases e : i = k
    · subst e
      rw [hs] at hs'
      injection hs' with hs'
      subst hs'
      exact ⟨A, c, World.cell?_setCell_same _ _ _ hu, reads_set hu hr⟩
    · obtain ⟨B, c', h1, h2⟩ := h.1 i s' (by omega) hs'
      refine ⟨B, c', ?_, reads_set hu h2⟩
      rw [World.cell?_setCell_other]
      · exact h1
      · intro q; injection q with _ q; exact e q.symm
  · rw [World.cell?_setCell_other]
    · exact h.2.1 i (by omega) hn
    · intro q; injection q with _ q; omega
theorem bulkL_len (s : ByteArray) (h : s.size ≤ 70368744177664) : (bulkL s).length ≤ 9223372036854775807 := by
  have hz := numS_size s.size (by omega) (by omega)
  rw [bulkL, List.length_append, lineL_len, bytesOf_length, ByteArray.size_append]
  show 1 + _ + 2 + (s.size + 2) ≤ _
  omega
def bulks (ss : List ByteArray) : List (List Int) := ss.map bulkL
/-- texts as an array -/
def textsL (ss : List ByteArray) : List Int := arrL (bulks ss)
set_option maxRecDepth 100000 in
set_option maxHeartbeats 8000000 in
theorem Texts_any (A : Option Addr) (n c : Nat) (ss : List ByteArray) (w : World) (HR : ReadsOf Value.string ByteArray.empty w A n ss) (hc : n ≤ c) (hn : n ≤ 1000000) (hs : ∀ s ∈ ss, s.size ≤ 70368744177664) (hlen : (bulks ss).flatten.length ≤ 70368744177664) (hT : Tabl w) :
    Calls Tryz.prog 24 #[.slice A n c] w (Bytes_ (textsL ss) w) := by
  have HR' := veil HR
  have hl := veil HR.1
  have hmk := print_make_of (P := Tryz.prog) 39 22 (.slice none 0 0) 24 Tryz.underlying39 info24 rfl (by omega) n (by omega)
  have hrow0 : Row (w.alloc (.cells (madeCells #[.slice none 0 0] n) 22)) w.heap.size n ss 0 := by
    have hg := heap_alloc_last w (.cells (madeCells #[.slice none 0 0] n) 22)
    refine ⟨fun i s hi => absurd hi (by omega), fun i _ hi => ?_, fun i hi => by unfold World.frozen?; rw [hg]; simp⟩
    rw [cell_of_row _ _ _ _ _ _ hg, ← Array.getElem?_toList, toList_madeCells_one]
    simp [hi]
  have hrow0' := veil hrow0
  have hb0 := veil (below_alloc (Below.refl w.heap.size w) (.cells (madeCells #[.slice none 0 0] n) 22))
  have hs' := veil hs
  clear HR hrow0 hs
  go_enter Tryz.func24, Tryz.ntmps24
  go_wp2_with fail
  go_loopw [11] (fun i wr => ∃ k : Nat, k ≤ n ∧ i = .int .i64 k ∧ Row wr w.heap.size n ss k ∧ w.heap.size < wr.heap.size ∧ Below w.heap.size w wr) (fun i _ => n - (intOf i).toNat)
  case atStart => exact ⟨0, by omega, rfl, hrow0'.out, by simp, hb0.out⟩
  case round =>
    obtain ⟨k, hk, rfl, hrow, hsz, hb⟩ := hrel
    have hrow' := veil hrow
    have hb' := veil hb
    clear hrow hb
    by_cases hlt : k < n
    · obtain ⟨s, hsk⟩ : ∃ s, ss[k]? = some s := ⟨_, List.getElem?_eq_getElem (by rw [hl.out]; exact hlt)⟩
      obtain ⟨ad, rfl, hcell⟩ := (HR'.out.below hb'.out).2.2 (by omega)
      have hck := hcell k hlt
      rw [List.getD_eq_getElem?_getD, hsk, Option.getD_some] at hck
      have hss : s.size ≤ 70368744177664 := hs'.out s (List.mem_of_getElem? hsk)
      have hTw := veil (tabl_below hT hb'.out)
      have hsk' := veil hsk
      clear hcell hsk
      go_wp2_with fail
      refine (Bulk_any s _ hss hTw.out).mono ?_
      rintro e w2 ⟨A2, c2, rfl, hf2, hb2⟩
      have hr2 := veil (hf2.reads (bulkL_len s hss))
      have hrow2 := veil (row_below hrow'.out hsz hb2)
      have hb2' := veil (two_below hb'.out hb2)
      have hsz2 : w.heap.size < w2.heap.size := by have := hb2.size; omega
      have g0 := hrow2.out.2.1 k (Nat.le_refl _) hlt
      have gf := hrow2.out.2.2 k hlt
      obtain ⟨q, hq⟩ : ∃ q, (bulkL s).length = q := ⟨_, rfl⟩
      rw [hq]
      have hq' := veil hq
      have k0 : (0 : Int) ≤ k := by omega
      have kn : (k : Int) < n := by omega
      clear hf2 hb2 hq
      go_wp2_with fail
      have hset := row_set (c := c2) hrow2.out hlt hsk'.out hr2.out
      rw [hq'.out] at hset
      exact ⟨⟨k + 1, by omega, by go_num, hset, by rw [World.size_setCell]; exact hsz2, hb2'.out.setCell (Nat.le_refl _) _⟩, by simp [intOf]; omega⟩
    · obtain rfl : k = n := by omega
      obtain ⟨wp, rfl⟩ : ∃ wp : World, wp = wr := ⟨_, rfl⟩
      have hP : Parts wp w.heap.size (bulks ss) := fun i l hi => by
        unfold bulks at hi
        rw [List.getElem?_map] at hi
        cases hsi : ss[i]? with
        | none => rw [hsi] at hi; cases hi
        | some s =>
          rw [hsi] at hi
          simp only [Option.map_some, Option.some.injEq] at hi
          subst hi
          have hik : i < k := by rw [← hl.out]; exact (List.getElem?_eq_some_iff.1 hsi).1
          obtain ⟨A', c', h1, h2⟩ := hrow'.out.1 i s hik hsi
          exact ⟨A', c', h1, h2, byt_bulk s⟩
      have hP' := veil hP
      have hTw := veil (tabl_below hT hb'.out)
      clear hP
      go_wp2_with fail
      refine (Array_any _ w.heap.size 0 k k (bulks ss) _ (fun _ => rfl) (by rw [bulks, List.length_map]; exact hl.out) (Nat.le_refl _) (parts_o hP'.out) hlen (by omega) hTw.out).mono ?_
      rintro e w3 ⟨A3, c3, rfl, hf3, hb3⟩
      have hf3' := veil (hf3.base hb'.out.size)
      have hb3' := veil (two_below hb'.out hb3)
      obtain ⟨q, hq⟩ : ∃ q, (arrL (bulks ss)).length = q := ⟨_, rfl⟩
      rw [hq]
      have hq' := veil hq
      clear hf3 hb3 hq
      go_wp2_with fail
      go_ret
      exact ⟨A3, c3, by rw [show textsL ss = arrL (bulks ss) from rfl, hq'.out]; rfl, hf3'.out, hb3'.out⟩
end Go.Proofs.Tryz.Ln
/- Rows of the call's own begin at a block's own cells; what is read lies where it lay. -/
namespace Go.Proofs.YtefpcffompgceaaGreatDoor.Spot
open Go Go.RowKit Go.Proofs.YtefpcffompgceaaGreatDoorW.PrintWords
theorem spot_own {w : World} {base : Nat} {e : TypeId} {size n m c : Nat} {A : Option Addr} {xs : List Value} (h : w.ownsRow base e size (.slice A m c) n xs) : ∀ ad, A = some ad → ad.spot = none := by
  rintro ad rfl
  rcases h.2 with ⟨h, _⟩ | ⟨g, cap, cur, h, _⟩
  · cases h
  · injection h with h
    injection h with h
    subst h
    rfl
theorem spot_R {α : Type} {d : Kd α} {e : Nat} {w : World} {base : Nat} {ok : Nat → Prop} {A : Option Addr} {n c : Nat} {xs : List α} (h : d.R e w base ok (.slice A n c) xs) : ∀ ad, A = some ad → ad.spot = none := by
  obtain ⟨_, inner, ho, _⟩ := h
  exact spot_own ho
theorem spot_S {α : Type} {d : Kd α} {e : Nat} {w : World} {base : Nat} {ok : Nat → Prop} {A : Option Addr} {n c : Nat} {xs : List α} (h : d.S e w base ok (.slice A n c) xs) : ∀ ad, A = some ad → ad.spot = none := spot_R (Kd.S_R h)
theorem spot_N {α : Type} {d : Kd α} {e : Nat} {w : World} {base : Nat} {ok : Nat → Prop} {A : Option Addr} {n c : Nat} {xs : List α} (h : d.N e w base ok (.slice A n c) xs) : ∀ ad, A = some ad → ad.spot = none := by
  obtain ⟨_, rows, _, hR, _⟩ := h
  exact spot_R hR
section
variable {P : Program} {w : World} {base e' src dst e : Nat} {ok : Nat → Prop} {v : Value} {xs : List Int}
theorem str_R (hs : P.underlying src = some (.slice e)) (he : P.underlying e = some (.int .u8)) (hd : P.underlying dst = some .string) (h : (Kd.int .u8).R e' w base ok v xs) : (convert src dst v).run P w = .ok (.string (strOfNums xs)) w := own_string hs he hd (Kd.own_of_R h)
theorem str_V (hs : P.underlying src = some (.slice e)) (he : P.underlying e = some (.int .u8)) (hd : P.underlying dst = some .string) (h : (Kd.int .u8).V e' w base ok v xs) : (convert src dst v).run P w = .ok (.string (strOfNums xs)) w := by
  obtain ⟨A, c, rfl, _, hf⟩ := h
  exact Kd.C_string hs he hd (Kd.F_now hf)
theorem str_Q (hs : P.underlying src = some (.slice e)) (he : P.underlying e = some (.int .u8)) (hd : P.underlying dst = some .string) (h : (Kd.int .u8).Q e' w base ok v xs) : (convert src dst v).run P w = .ok (.string (strOfNums xs)) w := str_V (e' := e') (base := base) hs he hd (Kd.Q_V h)
end
theorem cast_len {α : Type} {R : α → List Value → Prop} {sz : Nat} {w : World} {A : Option Addr} {n m : Nat} {xs : List α} (e : n = m) (h : ReadsRow R sz w A n xs) : ReadsRow R sz w A m xs := e ▸ h
end Go.Proofs.YtefpcffompgceaaGreatDoor.Spot
/- The replies' contracts, in the form that a print takes. -/
namespace Go.Proofs.Tryz.Ln
open Go Go.RowKit Go.Proofs.Mem Go.Proofs.App
open Go.Proofs.YtefpcffompgceaaGreatDoorW.PrintWords
set_option linter.unusedVariables false

instance int64_dec (n : Int) : Decidable (Int64 n) := inferInstanceAs (Decidable (_ ∧ _))
theorem C_reads {w : World} {A : Option Addr} {n : Nat} {l : List Int} (h : ReadsInt w .u8 A n l) : (Kd.int .u8).C w A n l := Kd.C_of_reads (enc := Value.int .u8) (d := (0 : Int)) (h1 := fun _ => rfl) h
theorem reads_C {w : World} {A : Option Addr} {n : Nat} {l : List Int} (h : (Kd.int .u8).C w A n l) : ReadsInt w .u8 A n l := Kd.reads_of_C (enc := Value.int .u8) (d := (0 : Int)) (h1 := fun _ => rfl) h
/-- a fresh row, as one that is only read -/
theorem V_fresh {B e : Nat} {w : World} {A : Option Addr} {n c : Nat} {l : List Int} (h : Fresh .u8 B w A n c l) (hn : n ≤ 9223372036854775807) : Kd.V (Kd.int .u8) e w B (fun k => B ≤ k) (.slice A n c) l := by
  have hl := h.len
  subst hl
  refine ⟨A, c, rfl, h.le, fun W' hW => C_reads ⟨rfl, hn, fun hp => ?_⟩⟩
  obtain ⟨b, e, h1, h2, hc, _⟩ := h.there (by have := h.le; omega)
  refine ⟨_, e, fun j hj => ?_⟩
  rw [add_plain]
  have hb := hW b h1 h2
  have := hc j hj
  unfold World.cell? at this ⊢
  rw [hb]
  exact this
def VB (w : World) (r : List Int) (e : Ending) (w' : World) : Prop := ∃ v0_ : Value, e = .returned (v0_) ∧ Kd.V (Kd.int .u8) 5 w' w.heap.size (fun k_ => (w.heap.size ≤ k_)) v0_ r ∧ Below w.heap.size w w'
theorem vb {l : List Int} {w : World} {e : Ending} {w' : World} (hl : l.length ≤ 9223372036854775807) (h : Bytes_ l w e w') : VB w l e w' := by
  obtain ⟨A, c, rfl, hf, hb⟩ := h
  exact ⟨_, rfl, V_fresh hf hl, hb⟩
theorem lineL_len' (mark s : ByteArray) (h1 : mark.size ≤ 1000) (h : s.size ≤ 70368744177664) : (lineL mark s).length ≤ 9223372036854775807 := by
  rw [lineL_len]; omega
theorem X_Int (a0 : Int) (r : List Int) (w : World) (hT : Tabl w) (h : (if Int64 a0 then some (lineL ⟨#[58]⟩ (numS a0)) else none) = some r) : Calls Tryz.prog 16 #[.int .i64 a0] w (VB w r) := by
  split at h
  · rename_i hi
    injection h with h
    subst h
    have hz := numS_size a0 hi.1 hi.2
    exact (Int_any a0 w hi hT).mono fun e w' => vb (lineL_len' _ _ (by decide) (by omega))
  · cases h
theorem X_Simple (a0 : ByteArray) (r : List Int) (w : World) (h : (if a0.size ≤ 70368744177664 then some (lineL ⟨#[43]⟩ a0) else none) = some r) : Calls Tryz.prog 12 #[.string a0] w (VB w r) := by
  split at h
  · rename_i hi
    injection h with h
    subst h
    exact (Simple_any a0 w hi).mono fun e w' => vb (lineL_len' _ _ (by decide) hi)
  · cases h
theorem X_Err (a0 : ByteArray) (r : List Int) (w : World) (h : (if a0.size ≤ 70368744177664 then some (lineL ⟨#[45]⟩ a0) else none) = some r) : Calls Tryz.prog 14 #[.string a0] w (VB w r) := by
  split at h
  · rename_i hi
    injection h with h
    subst h
    exact (Err_any a0 w hi).mono fun e w' => vb (lineL_len' _ _ (by decide) hi)
  · cases h
theorem X_Bulk (a0 : ByteArray) (r : List Int) (w : World) (hT : Tabl w) (h : (if a0.size ≤ 70368744177664 then some (bulkL a0) else none) = some r) : Calls Tryz.prog 18 #[.string a0] w (VB w r) := by
  split at h
  · rename_i hi
    injection h with h
    subst h
    exact (Bulk_any a0 w hi hT).mono fun e w' => vb (bulkL_len _ hi)
  · cases h
theorem X_Null (r : List Int) (w : World) (h : some (lineL ⟨#[36]⟩ ⟨#[45, 49]⟩) = some r) : Calls Tryz.prog 20 #[] w (VB w r) := by
  injection h with h
  subst h
  exact (Null_any w).mono fun e w' => vb (lineL_len' _ _ (by decide) (by decide))
theorem NoArray_any (w : World) : Calls Tryz.prog 22 #[] w (Bytes_ (lineL ⟨#[42]⟩ ⟨#[45, 49]⟩) w) := by
  go_enter Tryz.func22, Tryz.ntmps22
  go_wp2_with fail
  refine (line_any ⟨#[42]⟩ ⟨#[45, 49]⟩ _ (by decide) (by decide)).mono ?_
  rintro e w2 ⟨A, c, rfl, hf, hb2⟩
  have hf' := veil hf
  have hb' := veil hb2
  obtain ⟨m, hm⟩ : ∃ m, (lineL ⟨#[42]⟩ ⟨#[45, 49]⟩).length = m := ⟨_, rfl⟩
  rw [hm]
  have hm' := veil hm
  clear hf hb2 hm
  go_wp2_with fail
  go_ret
  exact ⟨A, c, by rw [hm'.out]; rfl, hf'.out, hb'.out⟩
theorem X_NoArray (r : List Int) (w : World) (h : some (lineL ⟨#[42]⟩ ⟨#[45, 49]⟩) = some r) : Calls Tryz.prog 22 #[] w (VB w r) := by
  injection h with h
  subst h
  exact (NoArray_any w).mono fun e w' => vb (lineL_len' _ _ (by decide) (by decide))
def BytB (l : List Int) : Bool := l.all fun x => decide (0 ≤ x ∧ x ≤ 255)
theorem byt_of {l : List Int} (h : BytB l = true) : Byt l := fun x hx => by
  have := List.all_eq_true.1 h x hx
  simpa using this
def arrF (ls : List (List Int)) : Option (List Int) := if ls.all BytB = true ∧ ls.length ≤ 1000000 ∧ ls.flatten.length ≤ 70368744177664 then some (arrL ls) else none
def textsF (ss : List ByteArray) : Option (List Int) := if (∀ s ∈ ss, s.size ≤ 70368744177664) ∧ ss.length ≤ 1000000 ∧ (bulks ss).flatten.length ≤ 70368744177664 then some (textsL ss) else none
theorem arrL_len (ls : List (List Int)) (h1 : ls.length ≤ 1000000) (h : ls.flatten.length ≤ 70368744177664) : (arrL ls).length ≤ 9223372036854775807 := by
  have hz := numS_size ls.length (by omega) (by omega)
  rw [arrL, List.length_append, lineL_len]
  show 1 + _ + 2 + _ ≤ _
  omega
theorem X_Array (A0 : Option Addr) (c0 : Nat) (l0 : List (List Int)) (r : List Int) (w : World) (hr0 : Kd.C (Kd.slice 5 (Kd.int .u8)) w A0 l0.length l0) (hc0 : l0.length ≤ c0) (hz0 : ∀ ad, A0 = some ad → ad.spot = none) (hT : Tabl w) (h : arrF l0 = some r) :
    Calls Tryz.prog 27 #[.slice A0 l0.length c0] w (VB w r) := by
  unfold arrF at h
  split at h
  · rename_i hi
    injection h with h
    subst h
    obtain ⟨h1, h2, h3⟩ := hi
    obtain ⟨b, o, hb⟩ : ∃ b o, 0 < l0.length → A0 = some ⟨b, o, none⟩ := by
      cases A0 with
      | none => exact ⟨0, 0, fun hp => by obtain ⟨ad, e, _⟩ := hr0.2.2 hp; cases e⟩
      | some ad => exact ⟨ad.block, ad.off, fun _ => by have := hz0 ad rfl; cases ad; simp_all⟩
    refine (Array_any A0 b o l0.length c0 l0 w hb rfl hc0 (fun i l hi => ?_) h3 (by omega) hT).mono fun e w' => vb (arrL_len _ h2 h3)
    have hil : i < l0.length := (List.getElem?_eq_some_iff.1 hi).1
    obtain ⟨ad, c, e, _, ⟨A, cc, rfl, hlc, hC⟩, hcell⟩ := Kd.C_get hr0 ([] : List Int) (i : Int) (by omega) (by omega)
    have hx : l0.getD ((i : Int).toNat) [] = l := by
      rw [List.getD_eq_getElem?_getD, Int.toNat_natCast, hi]; rfl
    rw [hx] at hcell hC
    have h0 := hcell 0 _ rfl
    have had : ad = ⟨b, o, none⟩ := by
      have := hb (by omega)
      rw [e] at this
      injection this
    subst had
    refine ⟨A, cc, ?_, reads_C hC, byt_of (List.all_eq_true.1 h1 l (List.mem_of_getElem? hi))⟩
    have e1 : (Kd.slice 5 (Kd.int .u8)).sz = 1 := rfl
    rw [e1, Int.toNat_natCast, Nat.mul_one, Nat.add_zero, add_off] at h0
    exact h0
  · cases h
theorem X_Texts (A0 : Option Addr) (c0 : Nat) (l0 : List ByteArray) (r : List Int) (w : World) (hr0 : Kd.C Kd.string w A0 l0.length l0) (hc0 : l0.length ≤ c0) (hT : Tabl w) (h : textsF l0 = some r) :
    Calls Tryz.prog 24 #[.slice A0 l0.length c0] w (VB w r) := by
  unfold textsF at h
  split at h
  · rename_i hi
    injection h with h
    subst h
    obtain ⟨h1, h2, h3⟩ := hi
    exact (Texts_any A0 l0.length c0 l0 w (Kd.reads_of_C (enc := Value.string) (d := ByteArray.empty) (h1 := fun _ => rfl) hr0) hc0 h2 h1 h3 hT).mono fun e w' => vb (arrL_len _ (by simpa [bulks] using h2) h3)
  · cases h
end Go.Proofs.Tryz.Ln
