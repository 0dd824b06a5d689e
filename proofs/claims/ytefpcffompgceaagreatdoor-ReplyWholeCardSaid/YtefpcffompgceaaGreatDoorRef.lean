import Derived.Test.YtefpcffompgceaaGreatDoorTake
import Derived.Test.YtefpcffompgceaaGreatDoorStr
/- The document's replies: what they tell is what the program's tell. -/
namespace Go.Proofs.Tryz.Ln
open Go Go.RowKit Go.Proofs.Mem Go.Proofs.App Go.Proofs.Tk
open Go.Proofs.YtefpcffompgceaaGreatDoorW.PrintWords Go.Proofs.YtefpcffompgceaaGreatDoor.Zr
set_option linter.unusedVariables false
theorem flat_go (s : ByteArray) (hs : s.size ≤ 70368744177664) : ∀ (d i : Nat), s.size - i = d → i ≤ s.size → Ev (fun k => tipstaffref05_flat.l0 k s (((bytesOf s).take i).map flatB) i) (flatS s)
  | 0, i, hd, hi => by
    obtain rfl : i = s.size := by omega
    refine Ev.step (f := fun _ => some (flatS s)) (fun k => ?_) (Ev.now _)
    rw [tipstaffref05_flat.l0, if_neg (by omega), List.take_of_length_le (by rw [bytesOf_length]; omega)]
    rfl
  | d + 1, i, hd, hi => by
    have ih := flat_go s hs d (i + 1) (by omega) (by omega)
    have hb := bytes_at s i (by omega)
    have hil : i < (bytesOf s).length := by rw [bytesOf_length]; omega
    have hlen : (((bytesOf s).take i).map flatB).length = i := by rw [List.length_map, List.length_take]; omega
    have e : ((bytesOf s).take (i + 1)).map flatB = ((bytesOf s).take i).map flatB ++ [flatB (bt s i)] := by
      rw [List.take_succ_eq_append_getElem hil, List.map_append]
      rw [List.getElem?_eq_getElem hil] at hb
      rw [Option.some.inj hb]
      rfl
    have hw : wrap64 ((i : Int) + 1) = ((i + 1 : Nat) : Int) := by unfold wrap64; omega
    refine Ev.step (f := fun k => tipstaffref05_flat.l0 k s (((bytesOf s).take (i + 1)).map flatB) ((i + 1 : Nat) : Int)) (fun k => ?_) ih
    rw [tipstaffref05_flat.l0, if_pos (by omega), if_pos (by omega), hw, e]
    by_cases h1 : bt s i = 13
    · have e1 : flatB (bt s i) = 32 := by unfold flatB; rw [if_pos h1]
      rw [if_pos h1, if_pos (by rw [hlen]; omega), e1]
    · rw [if_neg h1]
      by_cases h2 : bt s i = 10
      · have e1 : flatB (bt s i) = 32 := by unfold flatB; rw [if_neg h1, if_pos h2]
        rw [if_pos h2, if_pos (by rw [hlen]; omega), e1]
      · have e1 : flatB (bt s i) = bt s i := by unfold flatB; rw [if_neg h1, if_neg h2]
        rw [if_neg h2, if_pos (by rw [hlen]; omega), e1]
theorem flat_any (s : ByteArray) (w : World) (hs : s.size ≤ 70368744177664) : Calls Tryz.prog 32 #[.string s] w fun e w' => e = .returned (.string (flatS s)) ∧ Below w.heap.size w w' := by
  obtain ⟨k, hk⟩ := (flat_go s hs s.size 0 (by omega) (by omega)).rounds
  exact tipstaffref05_flat.calls k s (flatS s) w hk
theorem rtext_any (n : Int) (w : World) (hn : Int64 n) : Calls Tryz.prog 34 #[.int .i64 n] w fun e w' => e = .returned (.string (numS n)) ∧ Below w.heap.size w w' := by
  obtain ⟨k, hk⟩ := (Go.Proofs.YtefpcffompgceaaGreatDoor.Pure1.text_ev n.natAbs n rfl hn).rounds
  exact tipstaffref01_Text.calls k n (numS n) w hk
theorem flatS_num (n : Int) : flatS (numS n) = numS n := str_flat_num n
set_option maxRecDepth 100000 in
set_option maxHeartbeats 4000000 in
theorem YSimple_any (s : ByteArray) (w : World) (hs : s.size ≤ 70368744177664) : Calls Tryz.prog 13 #[.string s] w (Bytes_ (lineL ⟨#[43]⟩ s) w) := by
  have kb := fun s W => print_bytes (P := Tryz.prog) 9 22 5 Tryz.underlying9 Tryz.underlying22 Tryz.underlying5 s W
  go_enter Tryz.func13, Tryz.ntmps13
  go_wp2_with fail
  refine (flat_any s _ hs).mono ?_
  rintro e w2 ⟨rfl, hb2⟩
  have hB2 := veil hb2
  have hs2 : w.heap.size ≤ w2.heap.size := hB2.out.size
  clear hb2
  have z1 : ¬ 9223372036854775807 < 1 + (flatS s).size := by rw [flatS_size]; omega
  have z2 : ¬ 9223372036854775807 < 1 + (flatS s).size + 2 := by rw [flatS_size]; omega
  go_wp2_with fail
  go_ret
  have hz : ((⟨#[43]⟩ : ByteArray) ++ flatS s ++ (⟨#[13, 10]⟩ : ByteArray)).size = 1 + (flatS s).size + 2 := by rw [ByteArray.size_append, ByteArray.size_append]; rfl
  have hl : (lineL ⟨#[43]⟩ s).length = 1 + (flatS s).size + 2 := by rw [← hz]; exact bytesOf_length _
  refine ⟨some ⟨w2.heap.size, 0, none⟩, grownCap w2 (1 + (flatS s).size + 2) 0 5, ?_, ?_, ?_⟩
  · rw [hl]; rfl
  · have h := fresh_bytes w2 5 ((⟨#[43]⟩ : ByteArray) ++ flatS s ++ ⟨#[13, 10]⟩) w.heap.size hs2
    rw [hz] at h
    rw [hl]
    exact h
  · exact base_below hB2.out hs2 (bytes_below (Below.refl w2.heap.size w2) (Nat.le_refl _) 5 _)
set_option maxRecDepth 100000 in
set_option maxHeartbeats 4000000 in
theorem YErr_any (s : ByteArray) (w : World) (hs : s.size ≤ 70368744177664) : Calls Tryz.prog 15 #[.string s] w (Bytes_ (lineL ⟨#[45]⟩ s) w) := by
  have kb := fun s W => print_bytes (P := Tryz.prog) 9 22 5 Tryz.underlying9 Tryz.underlying22 Tryz.underlying5 s W
  go_enter Tryz.func15, Tryz.ntmps15
  go_wp2_with fail
  refine (flat_any s _ hs).mono ?_
  rintro e w2 ⟨rfl, hb2⟩
  have hB2 := veil hb2
  have hs2 : w.heap.size ≤ w2.heap.size := hB2.out.size
  clear hb2
  have z1 : ¬ 9223372036854775807 < 1 + (flatS s).size := by rw [flatS_size]; omega
  have z2 : ¬ 9223372036854775807 < 1 + (flatS s).size + 2 := by rw [flatS_size]; omega
  go_wp2_with fail
  go_ret
  have hz : ((⟨#[45]⟩ : ByteArray) ++ flatS s ++ (⟨#[13, 10]⟩ : ByteArray)).size = 1 + (flatS s).size + 2 := by rw [ByteArray.size_append, ByteArray.size_append]; rfl
  have hl : (lineL ⟨#[45]⟩ s).length = 1 + (flatS s).size + 2 := by rw [← hz]; exact bytesOf_length _
  refine ⟨some ⟨w2.heap.size, 0, none⟩, grownCap w2 (1 + (flatS s).size + 2) 0 5, ?_, ?_, ?_⟩
  · rw [hl]; rfl
  · have h := fresh_bytes w2 5 ((⟨#[45]⟩ : ByteArray) ++ flatS s ++ ⟨#[13, 10]⟩) w.heap.size hs2
    rw [hz] at h
    rw [hl]
    exact h
  · exact base_below hB2.out hs2 (bytes_below (Below.refl w2.heap.size w2) (Nat.le_refl _) 5 _)
set_option maxRecDepth 100000 in
set_option maxHeartbeats 4000000 in
theorem YInt_any (n : Int) (w : World) (hn : Int64 n) : Calls Tryz.prog 17 #[.int .i64 n] w (Bytes_ (lineL ⟨#[58]⟩ (numS n)) w) := by
  have kb := fun s W => print_bytes (P := Tryz.prog) 9 22 5 Tryz.underlying9 Tryz.underlying22 Tryz.underlying5 s W
  have hzn := numS_size n hn.1 hn.2
  go_enter Tryz.func17, Tryz.ntmps17
  go_wp2_with fail
  refine (rtext_any n _ hn).mono ?_
  rintro e w2 ⟨rfl, hb2⟩
  have hB2 := veil hb2
  have hs2 : w.heap.size ≤ w2.heap.size := hB2.out.size
  clear hb2
  have z1 : ¬ 9223372036854775807 < 1 + (numS n).size := by omega
  have z2 : ¬ 9223372036854775807 < 1 + (numS n).size + 2 := by omega
  go_wp2_with fail
  go_ret
  have hz : ((⟨#[58]⟩ : ByteArray) ++ numS n ++ (⟨#[13, 10]⟩ : ByteArray)).size = 1 + (numS n).size + 2 := by rw [ByteArray.size_append, ByteArray.size_append]; rfl
  have he : lineL ⟨#[58]⟩ (numS n) = bytesOf ((⟨#[58]⟩ : ByteArray) ++ numS n ++ ⟨#[13, 10]⟩) := by unfold lineL; rw [flatS_num]
  have hl : (lineL ⟨#[58]⟩ (numS n)).length = 1 + (numS n).size + 2 := by rw [he, ← hz]; exact bytesOf_length _
  refine ⟨some ⟨w2.heap.size, 0, none⟩, grownCap w2 (1 + (numS n).size + 2) 0 5, ?_, ?_, ?_⟩
  · rw [hl]; rfl
  · have h := fresh_bytes w2 5 ((⟨#[58]⟩ : ByteArray) ++ numS n ++ ⟨#[13, 10]⟩) w.heap.size hs2
    rw [hz, ← he] at h
    rw [hl]
    exact h
  · exact base_below hB2.out hs2 (bytes_below (Below.refl w2.heap.size w2) (Nat.le_refl _) 5 _)
set_option maxRecDepth 100000 in
set_option maxHeartbeats 4000000 in
theorem YBulk_any (s : ByteArray) (w : World) (hs : s.size ≤ 70368744177664) : Calls Tryz.prog 19 #[.string s] w (Bytes_ (bulkL s) w) := by
  have kb := fun s W => print_bytes (P := Tryz.prog) 9 22 5 Tryz.underlying9 Tryz.underlying22 Tryz.underlying5 s W
  have hn : Int64 (s.size : Int) := ⟨by omega, by omega⟩
  have hzn := numS_size (s.size : Int) hn.1 hn.2
  go_enter Tryz.func19, Tryz.ntmps19
  go_wp2_with fail
  refine (rtext_any (s.size : Int) _ hn).mono ?_
  rintro e w2 ⟨rfl, hb2⟩
  have hB2 := veil hb2
  have hs2 : w.heap.size ≤ w2.heap.size := hB2.out.size
  clear hb2
  obtain ⟨t, ht⟩ : ∃ t, numS (s.size : Int) = t := ⟨_, rfl⟩
  have ht' := veil ht
  rw [ht] at hzn ⊢
  clear ht
  have z1 : ¬ 9223372036854775807 < 1 + t.size := by omega
  have z2 : ¬ 9223372036854775807 < 1 + t.size + 2 := by omega
  have z3 : ¬ 9223372036854775807 < 1 + t.size + 2 + s.size := by omega
  have z4 : ¬ 9223372036854775807 < 1 + t.size + 2 + s.size + 2 := by omega
  go_wp2_with fail
  go_ret
  have hz : ((⟨#[36]⟩ : ByteArray) ++ t ++ (⟨#[13, 10]⟩ : ByteArray) ++ s ++ (⟨#[13, 10]⟩ : ByteArray)).size = 1 + t.size + 2 + s.size + 2 := by rw [ByteArray.size_append, ByteArray.size_append, ByteArray.size_append, ByteArray.size_append]; rfl
  have he : bulkL s = bytesOf ((⟨#[36]⟩ : ByteArray) ++ t ++ (⟨#[13, 10]⟩ : ByteArray) ++ s ++ (⟨#[13, 10]⟩ : ByteArray)) := by
    unfold bulkL lineL
    rw [flatS_num, ht'.out, ← bytesOf_append']
    congr 1
    rw [ByteArray.append_assoc (a := (⟨#[36]⟩ : ByteArray) ++ t ++ (⟨#[13, 10]⟩ : ByteArray))]
  have hl : (bulkL s).length = 1 + t.size + 2 + s.size + 2 := by rw [he, ← hz]; exact bytesOf_length _
  refine ⟨some ⟨w2.heap.size, 0, none⟩, grownCap w2 (1 + t.size + 2 + s.size + 2) 0 5, ?_, ?_, ?_⟩
  · rw [hl]; rfl
  · have h := fresh_bytes w2 5 ((⟨#[36]⟩ : ByteArray) ++ t ++ (⟨#[13, 10]⟩ : ByteArray) ++ s ++ (⟨#[13, 10]⟩ : ByteArray)) w.heap.size hs2
    rw [hz, ← he] at h
    rw [hl]
    exact h
  · exact base_below hB2.out hs2 (bytes_below (Below.refl w2.heap.size w2) (Nat.le_refl _) 5 _)
set_option maxRecDepth 100000 in
set_option maxHeartbeats 4000000 in
theorem YNull_any (w : World) : Calls Tryz.prog 21 #[] w (Bytes_ (lineL ⟨#[36]⟩ ⟨#[45, 49]⟩) w) := by
  have kc := fun (w : World) (C : Array Value) (n c : Nat) => Lib.run_convert_bytes_const (P := Tryz.prog) w 22 5 C n c Tryz.underlying22 Tryz.underlying5
  go_enter Tryz.func21, Tryz.ntmps21
  go_wp2_with fail
  go_ret
  exact ⟨some ⟨w.heap.size, 0, none⟩, 5, rfl, fresh_marked w 5 [36, 45, 49, 13, 10], below_alloc (Below.refl _ _) _⟩
set_option maxRecDepth 100000 in
set_option maxHeartbeats 4000000 in
theorem YNoArray_any (w : World) : Calls Tryz.prog 23 #[] w (Bytes_ (lineL ⟨#[42]⟩ ⟨#[45, 49]⟩) w) := by
  have kc := fun (w : World) (C : Array Value) (n c : Nat) => Lib.run_convert_bytes_const (P := Tryz.prog) w 22 5 C n c Tryz.underlying22 Tryz.underlying5
  go_enter Tryz.func23, Tryz.ntmps23
  go_wp2_with fail
  go_ret
  exact ⟨some ⟨w.heap.size, 0, none⟩, 5, rfl, fresh_marked w 5 [42, 45, 49, 13, 10], below_alloc (Below.refl _ _) _⟩
set_option maxRecDepth 100000 in
set_option maxHeartbeats 8000000 in
theorem YArray_any (A : Option Addr) (b o n c : Nat) (ls : List (List Int)) (w : World) (hA : 0 < n → A = some ⟨b, o, none⟩) (hn : ls.length = n) (hc : n ≤ c) (hP : PartsO w b o ls) (hlen : ls.flatten.length ≤ 70368744177664) (hn2 : n ≤ 1000000) :
    Calls Tryz.prog 35 #[.slice A n c] w (Bytes_ (arrL ls) w) := by
  have kb := fun s W => print_bytes (P := Tryz.prog) 9 22 5 Tryz.underlying9 Tryz.underlying22 Tryz.underlying5 s W
  have hi : Int64 (n : Int) := ⟨by omega, by omega⟩
  have hzn := numS_size (n : Int) hi.1 hi.2
  have hP' := veil hP
  have hA' := veil hA
  clear hP hA
  go_enter Tryz.func35, Tryz.ntmps35
  go_wp2_with fail
  refine (rtext_any (n : Int) _ hi).mono ?_
  rintro e w2 ⟨rfl, hb2⟩
  have hB2 := veil hb2
  have hs2 : w.heap.size ≤ w2.heap.size := hB2.out.size
  clear hb2
  obtain ⟨t, ht⟩ : ∃ t, numS (n : Int) = t := ⟨_, rfl⟩
  have ht' := veil ht
  rw [ht] at hzn ⊢
  clear ht
  have z1 : ¬ 9223372036854775807 < 1 + t.size := by omega
  have z2 : ¬ 9223372036854775807 < 1 + t.size + 2 := by omega
  have hz : ((⟨#[42]⟩ : ByteArray) ++ t ++ (⟨#[13, 10]⟩ : ByteArray)).size = 1 + t.size + 2 := by rw [ByteArray.size_append, ByteArray.size_append]; rfl
  have he : lineL ⟨#[42]⟩ (numS n) = bytesOf ((⟨#[42]⟩ : ByteArray) ++ t ++ ⟨#[13, 10]⟩) := by unfold lineL; rw [flatS_num, ht'.out]
  have hhl : (lineL ⟨#[42]⟩ (numS n)).length = 1 + t.size + 2 := by rw [he, ← hz]; exact bytesOf_length _
  have hF0 : Fresh .u8 w.heap.size (Lib.bytesWorld w2 5 ((⟨#[42]⟩ : ByteArray) ++ t ++ ⟨#[13, 10]⟩)) (some ⟨w2.heap.size, 0, none⟩) (1 + t.size + 2) (grownCap w2 (1 + t.size + 2) 0 5) (lineL ⟨#[42]⟩ (numS n)) := by
    have h := fresh_bytes w2 5 ((⟨#[42]⟩ : ByteArray) ++ t ++ ⟨#[13, 10]⟩) w.heap.size hs2
    rw [hz, ← he] at h
    exact h
  have hF0' := veil hF0
  have hB0 := veil (base_below hB2.out hs2 (bytes_below (Below.refl w2.heap.size w2) (Nat.le_refl _) 5 ((⟨#[42]⟩ : ByteArray) ++ t ++ ⟨#[13, 10]⟩)))
  obtain ⟨hd, hhd⟩ : ∃ hd, lineL ⟨#[42]⟩ (numS n) = hd := ⟨_, rfl⟩
  have hhd' := veil hhd
  rw [hhd] at hF0' hhl
  have hhl' := veil hhl
  clear hF0 hz he hhl hhd
  go_wp2_with fail
  go_loopw [3, 4] (fun v i wr => ∃ (k m : Nat) (A' : Option Addr) (c' : Nat), k ≤ n ∧ i = .int .i64 k ∧ m = (hd ++ (ls.take k).flatten).length ∧ v = .slice A' m c' ∧ Fresh .u8 w.heap.size wr A' m c' (hd ++ (ls.take k).flatten) ∧ Below w.heap.size w wr) (fun _ i _ => n - (intOf i).toNat)
  case atStart => exact ⟨0, 1 + t.size + 2, _, _, by omega, rfl, by simp [hhl'.out], rfl, by simpa using hF0'.out, hB0.out⟩
  case round =>
    obtain ⟨k, m, A', c', hk, rfl, hm, rfl, hf, hb⟩ := hrel
    have hf' := veil hf
    have hb' := veil hb
    have hm' := veil hm
    have hsr : w.heap.size ≤ wr.heap.size := hb'.out.size
    clear hf hb hm
    by_cases hlt : k < n
    · obtain ⟨x, hx⟩ : ∃ x, ls[k]? = some x := ⟨_, List.getElem?_eq_getElem (by rw [hn]; exact hlt)⟩
      obtain ⟨X, cx, hcx, hrx, _⟩ := hP'.out k x hx
      obtain rfl := hA'.out (by omega)
      have hcx' := veil (pw_cell_below hb'.out hcx)
      have hrx' := veil (hrx.below hb'.out)
      have hfl : (ls.take (k + 1)).flatten = (ls.take k).flatten ++ x := by
        rw [List.take_add_one, hx]
        simp
      have hle : (ls.take (k + 1)).flatten.length ≤ ls.flatten.length := by
        have e := congrArg List.length (congrArg List.flatten (List.take_append_drop (k + 1) ls))
        rw [List.flatten_append, List.length_append] at e
        omega
      have hmx : m + x.length ≤ 140737488355328 := by
        rw [hfl, List.length_append] at hle
        rw [hm'.out, List.length_append, hhl'.out]
        omega
      have hfl' := veil hfl
      have hc0 : wr.cell? (⟨b, o + k, none⟩ : Addr) = some (.slice X x.length cx) := hcx'.out
      have k0 : (0 : Int) ≤ k := by omega
      have kn : (k : Int) < n := by omega
      clear hcx hrx hfl hle hx
      obtain ⟨q, hq⟩ : ∃ q, x.length = q := ⟨_, rfl⟩
      rw [hq] at hc0 hmx
      have hrx2 : Veil (ReadsInt wr .u8 X q x) := by rw [← hq]; exact hrx'
      have hq' := veil hq
      clear hq hrx'
      go_wp2_with (refine wpList_app (w0 := w) w.heap.size rfl _ _ 22 22 5 .u8 1 rfl Tryz.underlying22 info5 (by omega) A' m c' q _ _ _ rfl rfl hf'.out (src_reads Tryz.underlying22 X q cx x hrx2.out) hb'.out hsr (by omega) ?_; intro A3 c3 w3 hf3 hb3)
      refine ⟨⟨k + 1, m + q, A3, c3, by omega, by go_num, ?_, rfl, ?_, hb3⟩, ?_⟩
      · rw [hfl'.out, ← List.append_assoc, List.length_append, ← hm'.out, hq'.out]
      · rw [hfl'.out, ← List.append_assoc]
        exact hf3
      · simp [intOf]; omega
    · obtain rfl : k = n := by omega
      go_wp2_with fail
      go_ret
      have e : hd ++ (ls.take k).flatten = arrL ls := by
        rw [List.take_of_length_le (by omega)]
        unfold arrL
        rw [hn, hhd'.out]
      rw [e] at hf' hm'
      exact ⟨A', c', by rw [← hm'.out]; rfl, by rw [← hm'.out]; exact hf'.out, hb'.out⟩
theorem Y_Bulk (a0 : ByteArray) (r : List Int) (w : World) (h : (if a0.size ≤ 70368744177664 then some (bulkL a0) else none) = some r) : Calls Tryz.prog 19 #[.string a0] w (VB w r) := by
  split at h
  · rename_i hi
    injection h with h
    subst h
    exact (YBulk_any a0 w hi).mono fun e w' => vb (bulkL_len a0 hi)
  · cases h
theorem Y_Array (A0 : Option Addr) (c0 : Nat) (l0 : List (List Int)) (r : List Int) (w : World) (hr0 : Kd.C (Kd.slice 5 (Kd.int .u8)) w A0 l0.length l0) (hc0 : l0.length ≤ c0) (hz0 : ∀ ad, A0 = some ad → ad.spot = none) (h : arrF l0 = some r) :
    Calls Tryz.prog 35 #[.slice A0 l0.length c0] w (VB w r) := by
  unfold arrF at h
  split at h
  · rename_i hi
    injection h with h
    subst h
    obtain ⟨h1, h2, h3⟩ := hi
    obtain ⟨b, o, hb⟩ : ∃ b o, 0 < l0.length → A0 = some ⟨b, o, none⟩ := by
      cases A0 with
      | none => exact ⟨0, 0, fun hp => by obtain ⟨ad, e, _⟩ := hr0.2.2 hp; cases e⟩
      | some ad => exact ⟨ad.block, ad.off, fun _ => by have := hz0 ad rfl; cases ad; simp_all⟩
    refine (YArray_any A0 b o l0.length c0 l0 w hb rfl hc0 (fun i l hi => ?_) h3 (by omega)).mono fun e w' => vb (arrL_len _ h2 h3)
    have hil : i < l0.length := (List.getElem?_eq_some_iff.1 hi).1
    obtain ⟨ad, c, e, _, ⟨A, cc, rfl, hlc, hC⟩, hcell⟩ := Kd.C_get hr0 ([] : List Int) (i : Int) (by omega) (by omega)
    have hx : l0.getD ((i : Int).toNat) [] = l := by
      rw [List.getD_eq_getElem?_getD, Int.toNat_natCast, hi]; rfl
    rw [hx] at hcell hC
    have h0 := hcell 0 _ rfl
    have had : ad = ⟨b, o, none⟩ := by
      have := hb (by omega)
      rw [e] at this
      injection this
    subst had
    refine ⟨A, cc, ?_, reads_C hC, byt_of (List.all_eq_true.1 h1 l (List.mem_of_getElem? hi))⟩
    have e1 : (Kd.slice 5 (Kd.int .u8)).sz = 1 := rfl
    rw [e1, Int.toNat_natCast, Nat.mul_one, Nat.add_zero, add_off] at h0
    exact h0
  · cases h
end Go.Proofs.Tryz.Ln
