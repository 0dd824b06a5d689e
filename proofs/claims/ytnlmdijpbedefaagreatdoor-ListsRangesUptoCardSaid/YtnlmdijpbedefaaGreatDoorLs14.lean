import Derived.Test.YtnlmdijpbedefaaGreatDoorTk
import Derived.Laws.BytesArg
import Derived.RowKit
import Derived.Lib.Strings
import Derived.Test.YtnlmdijpbedefaaGreatDoorZr
import Derived.Test.YtnlmdijpbedefaaGreatDoorNumb
import Derived.Test.YtnlmdijpbedefaaGreatDoorLsA
import Derived.Test.YtnlmdijpbedefaaGreatDoorPars
/- The document's replies, for lists. -/
namespace Go.Proofs.YtnlmdijpbedefaaGreatDoor.Pure1
open Go Go.RowKit Go.Lib Go.Proofs.Dig
open Go.Proofs.YtnlmdijpbedefaaGreatDoorW.PrintWords Go.Proofs.YtnlmdijpbedefaaGreatDoor.Zr
set_option linter.unusedVariables false
theorem one_byte (x : Int) (i : Nat) (h : i < 10) (e : wrap64 x % 256 = 48 + (i : Int)) : strOfNums [wrap64 x % 256] = ⟨#[UInt8.ofNat (48 + i)]⟩ := by
  rw [e]
  unfold strOfNums
  rw [show (48 + (i : Int)) = ((48 + i : Nat) : Int) from by omega]
  simp only [List.map_cons, List.map_nil, Int.toNat_natCast]
theorem ba_ext {a b : ByteArray} (h : a.data.toList = b.data.toList) : a = b := by
  apply ByteArray.ext
  exact Array.ext' h
theorem ba_app (a b : ByteArray) : (a ++ b).data.toList = a.data.toList ++ b.data.toList := by
  rw [ByteArray.data_append, Array.toList_append]
theorem num_size (n : Int) (h : I64 n) : (numB n).size ≤ 21 := by
  show (itoa n).toArray.size ≤ 21
  rw [List.size_toArray]
  exact itoa_length_le n h.1 h.2
theorem num_small (i : Nat) (h : i < 10) : numB (i : Int) = ⟨#[UInt8.ofNat (48 + i)]⟩ := by
  apply ba_ext
  rw [numB_list, itoa, if_neg (by omega), Int.toNat_natCast, dec_lt i h]
theorem num_ge (u : Nat) (h : ¬ u < 10) : numB (u : Int) = numB ((u / 10 : Nat) : Int) ++ ⟨#[UInt8.ofNat (48 + u % 10)]⟩ := by
  apply ba_ext
  rw [ba_app, numB_list, numB_list, itoa, itoa, if_neg (by omega), if_neg (by omega), Int.toNat_natCast, Int.toNat_natCast, dec_ge u h]
theorem num_neg_small (i : Nat) (h : i < 10) (h0 : 0 < i) : numB (-(i : Int)) = ⟨#[45]⟩ ++ ⟨#[UInt8.ofNat (48 + i)]⟩ := by
  apply ba_ext
  rw [ba_app, numB_list, itoa, if_pos (by omega), show (-(i : Int)).natAbs = i from by omega, dec_lt i h]
  rfl
theorem num_neg_ge (u : Nat) (h : ¬ u < 10) : numB (-(u : Int)) = numB (-((u / 10 : Nat) : Int)) ++ ⟨#[UInt8.ofNat (48 + u % 10)]⟩ := by
  apply ba_ext
  rw [ba_app, numB_list, numB_list, itoa, itoa, if_pos (by omega), if_pos (by omega), show (-(u : Int)).natAbs = u from by omega, show (-((u / 10 : Nat) : Int)).natAbs = u / 10 from by omega, dec_ge u h]
  rfl
theorem text_ev : ∀ (u : Nat) (n : Int), n.natAbs = u → I64 n → Ev (fun k => tipstaffref01_Text.f k n) (numB n) := by
  intro u
  induction u using Nat.strongRecOn with
  | _ u ih =>
    intro n hn h
    obtain ⟨h0, h1⟩ := h
    by_cases hneg : n < 0
    · obtain rfl : n = -(u : Int) := by omega
      by_cases hs : u < 10
      · refine ⟨1, fun k hk => ?_⟩
        obtain ⟨k, rfl⟩ : ∃ m, k = m + 1 := ⟨k - 1, by omega⟩
        show tipstaffref01_Text.f (k + 1) (-(u : Int)) = _
        rw [tipstaffref01_Text.f, if_pos hneg, if_pos (by omega), Option.bind_some, one_byte _ u hs (by unfold wrap64; omega), if_pos (by simp [ByteArray.size]), num_neg_small u hs (by omega)]
      · obtain ⟨K, hK⟩ := ih (u / 10) (by omega) (-((u / 10 : Nat) : Int)) (by omega) ⟨by omega, by omega⟩
        refine ⟨K + 1, fun k hk => ?_⟩
        obtain ⟨k, rfl⟩ : ∃ m, k = m + 1 := ⟨k - 1, by omega⟩
        have hz := num_size (-((u / 10 : Nat) : Int)) ⟨by omega, by omega⟩
        have e1 : wrap64 (Int.tdiv (-(u : Int)) 10) = -((u / 10 : Nat) : Int) := by
          rw [Int.neg_tdiv, Int.tdiv_eq_ediv_of_nonneg (by omega)]
          unfold wrap64; omega
        have e2 : Int.tmod (-(u : Int)) 10 = -((u % 10 : Nat) : Int) := by
          rw [Int.neg_tmod, Int.tmod_eq_emod_of_nonneg (by omega)]
          omega
        show tipstaffref01_Text.f (k + 1) (-(u : Int)) = _
        rw [tipstaffref01_Text.f, if_pos hneg, if_neg (by omega), e1, (show tipstaffref01_Text.f k _ = _ from hK k (by omega)), Option.bind_some, Option.bind_some, e2, one_byte _ (u % 10) (by omega) (by unfold wrap64; omega), if_pos (by simp only [ByteArray.size, List.size_toArray] at hz ⊢; simp only [List.length_cons, List.length_nil]; omega), num_neg_ge u hs]
    · obtain rfl : n = (u : Int) := by omega
      by_cases hs : u < 10
      · refine ⟨1, fun k hk => ?_⟩
        obtain ⟨k, rfl⟩ : ∃ m, k = m + 1 := ⟨k - 1, by omega⟩
        show tipstaffref01_Text.f (k + 1) (u : Int) = _
        rw [tipstaffref01_Text.f, if_neg hneg, if_pos (by omega), one_byte _ u hs (by unfold wrap64; omega), num_small u hs]
      · obtain ⟨K, hK⟩ := ih (u / 10) (by omega) ((u / 10 : Nat) : Int) (by omega) ⟨by omega, by omega⟩
        refine ⟨K + 1, fun k hk => ?_⟩
        obtain ⟨k, rfl⟩ : ∃ m, k = m + 1 := ⟨k - 1, by omega⟩
        have hz := num_size ((u / 10 : Nat) : Int) ⟨by omega, by omega⟩
        have e1 : wrap64 (Int.tdiv (u : Int) 10) = ((u / 10 : Nat) : Int) := by
          rw [Int.tdiv_eq_ediv_of_nonneg (by omega)]
          unfold wrap64; omega
        have e2 : Int.tmod (u : Int) 10 = ((u % 10 : Nat) : Int) := by
          rw [Int.tmod_eq_emod_of_nonneg (by omega)]
          omega
        show tipstaffref01_Text.f (k + 1) (u : Int) = _
        rw [tipstaffref01_Text.f, if_neg hneg, if_neg (by omega), e1, (show tipstaffref01_Text.f k _ = _ from hK k (by omega)), Option.bind_some, Option.bind_some, e2, one_byte _ (u % 10) (by omega) (by unfold wrap64; omega), if_pos (by simp only [ByteArray.size, List.size_toArray] at hz ⊢; simp only [List.length_cons, List.length_nil]; omega), num_ge u hs]
theorem dec_len : ∀ (k u : Nat), u < 10 ^ (k + 1) → (decDigits u).length ≤ k + 1
  | 0, u, h => by rw [dec_lt u (by simpa using h)]; simp
  | k + 1, u, h => by
    by_cases hu : u < 10
    · rw [dec_lt u hu]; simp
    · rw [dec_ge u hu, List.length_append]
      have := dec_len k (u / 10) (by rw [Nat.pow_succ] at h; omega)
      simp only [List.length_cons, List.length_nil]
      omega
theorem num_size20 (n : Int) (h : I64 n) : (numB n).size ≤ 20 := by
  obtain ⟨h0, h1⟩ := h
  show (itoa n).toArray.size ≤ 20
  rw [List.size_toArray, itoa]
  split
  · have := dec_len 18 n.natAbs (by omega)
    simp only [List.length_cons]
    omega
  · have := dec_len 18 n.toNat (by omega)
    omega
theorem num_pos (n : Int) : 0 < (numB n).size := by
  show 0 < (itoa n).toArray.size
  rw [List.size_toArray, itoa]
  split
  · simp
  · have := List.length_pos_iff.2 (dec_ne n.toNat)
    exact this
end Go.Proofs.YtnlmdijpbedefaaGreatDoor.Pure1
namespace Go.Proofs.Tryz.Ln
open Go Go.RowKit Go.Proofs.Dig
open Go.Lib (itoa decDigits)
open Go.Proofs.YtnlmdijpbedefaaGreatDoorW.PrintWords
set_option linter.unusedVariables false
theorem bytesOf_append' (a b : ByteArray) : bytesOf (a ++ b) = bytesOf a ++ bytesOf b := by
  simp [bytesOf, ByteArray.data_append]
theorem flat_num (n : Int) : (bytesOf (numS n)).map flatB = bytesOf (numS n) := by
  conv => rhs; rw [← List.map_id (bytesOf (numS n))]
  apply List.map_congr_left
  intro x hx
  unfold bytesOf at hx
  obtain ⟨u, hu, rfl⟩ := List.mem_map.1 hx
  have hu' : u ∈ Lib.itoa n := by simpa [numS] using hu
  have : u.toNat ≠ 13 ∧ u.toNat ≠ 10 := by
    unfold Lib.itoa at hu'
    split at hu'
    · rcases List.mem_cons.1 hu' with rfl | h
      · decide
      · have := Dig.dec_digit _ u h; omega
    · have := Dig.dec_digit _ u hu'; omega
  unfold flatB
  rw [if_neg (by omega), if_neg (by omega)]
  rfl
theorem str_flat_num (n : Int) : strOfNums ((bytesOf (numS n)).map flatB) = numS n := by
  rw [flat_num]; exact str_bytes _
end Go.Proofs.Tryz.Ln
namespace Go.Proofs.Tryz.Ln
open Go Go.RowKit Go.Proofs.Mem Go.Proofs.App Go.Proofs.Dig
open Go.Proofs.YtnlmdijpbedefaaGreatDoorW.PrintWords Go.Proofs.YtnlmdijpbedefaaGreatDoor.Zr
set_option linter.unusedVariables false
theorem rtext_any (n : Int) (w : World) (hn : Int64 n) : Calls Tryz.prog 12 #[.int .i64 n] w fun e w' => e = .returned (.string (numS n)) ∧ Below w.heap.size w w' := by
  obtain ⟨k, hk⟩ := (Go.Proofs.YtnlmdijpbedefaaGreatDoor.Pure1.text_ev n.natAbs n rfl hn).rounds
  exact tipstaffref01_Text.calls k n (numS n) w hk
theorem flatS_num (n : Int) : flatS (numS n) = numS n := str_flat_num n
set_option maxRecDepth 100000 in
set_option maxHeartbeats 4000000 in
theorem YInt_any (n : Int) (w : World) (hn : Int64 n) : Calls Tryz.prog 9 #[.int .i64 n] w (Bytes_ (lineL ⟨#[58]⟩ (numS n)) w) := by
  have kb := fun s W => print_bytes (P := Tryz.prog) 9 29 5 Tryz.underlying9 Tryz.underlying29 Tryz.underlying5 s W
  have hzn := numS_size n hn.1 hn.2
  go_enter Tryz.func9, Tryz.ntmps9
  go_wp2_with fail
  refine (rtext_any n _ hn).mono ?_
  rintro e w2 ⟨rfl, hb2⟩
  have hB2 := veil hb2
  have hs2 : w.heap.size ≤ w2.heap.size := hB2.out.size
  clear hb2
  have z1 : ¬ 9223372036854775807 < 1 + (numS n).size := by omega
  have z2 : ¬ 9223372036854775807 < 1 + (numS n).size + 2 := by omega
  go_wp2_with fail
  go_ret
  have hz : ((⟨#[58]⟩ : ByteArray) ++ numS n ++ (⟨#[13, 10]⟩ : ByteArray)).size = 1 + (numS n).size + 2 := by rw [ByteArray.size_append, ByteArray.size_append]; rfl
  have he : lineL ⟨#[58]⟩ (numS n) = bytesOf ((⟨#[58]⟩ : ByteArray) ++ numS n ++ ⟨#[13, 10]⟩) := by unfold lineL; rw [flatS_num]
  have hl : (lineL ⟨#[58]⟩ (numS n)).length = 1 + (numS n).size + 2 := by rw [he, ← hz]; exact bytesOf_length _
  refine ⟨some ⟨w2.heap.size, 0, none⟩, grownCap w2 (1 + (numS n).size + 2) 0 5, ?_, ?_, ?_⟩
  · rw [hl]; rfl
  · have h := fresh_bytes w2 5 ((⟨#[58]⟩ : ByteArray) ++ numS n ++ ⟨#[13, 10]⟩) w.heap.size hs2
    rw [hz, ← he] at h
    rw [hl]
    exact h
  · exact base_below hB2.out hs2 (bytes_below (Below.refl w2.heap.size w2) (Nat.le_refl _) 5 _)
set_option maxRecDepth 100000 in
set_option maxHeartbeats 4000000 in
theorem YBulk_any (s : ByteArray) (w : World) (hs : s.size ≤ 70368744177664) : Calls Tryz.prog 10 #[.string s] w (Bytes_ (bulkL s) w) := by
  have kb := fun s W => print_bytes (P := Tryz.prog) 9 29 5 Tryz.underlying9 Tryz.underlying29 Tryz.underlying5 s W
  have hn : Int64 (s.size : Int) := ⟨by omega, by omega⟩
  have hzn := numS_size (s.size : Int) hn.1 hn.2
  go_enter Tryz.func10, Tryz.ntmps10
  go_wp2_with fail
  refine (rtext_any (s.size : Int) _ hn).mono ?_
  rintro e w2 ⟨rfl, hb2⟩
  have hB2 := veil hb2
  have hs2 : w.heap.size ≤ w2.heap.size := hB2.out.size
  clear hb2
  obtain ⟨t, ht⟩ : ∃ t, numS (s.size : Int) = t := ⟨_, rfl⟩
  have ht' := veil ht
  rw [ht] at hzn ⊢
  clear ht
  have z1 : ¬ 9223372036854775807 < 1 + t.size := by omega
  have z2 : ¬ 9223372036854775807 < 1 + t.size + 2 := by omega
  have z3 : ¬ 9223372036854775807 < 1 + t.size + 2 + s.size := by omega
  have z4 : ¬ 9223372036854775807 < 1 + t.size + 2 + s.size + 2 := by omega
  go_wp2_with fail
  go_ret
  have hz : ((⟨#[36]⟩ : ByteArray) ++ t ++ (⟨#[13, 10]⟩ : ByteArray) ++ s ++ (⟨#[13, 10]⟩ : ByteArray)).size = 1 + t.size + 2 + s.size + 2 := by rw [ByteArray.size_append, ByteArray.size_append, ByteArray.size_append, ByteArray.size_append]; rfl
  have he : bulkL s = bytesOf ((⟨#[36]⟩ : ByteArray) ++ t ++ (⟨#[13, 10]⟩ : ByteArray) ++ s ++ (⟨#[13, 10]⟩ : ByteArray)) := by
    unfold bulkL lineL
    rw [flatS_num, ht'.out, ← bytesOf_append']
    congr 1
    rw [ByteArray.append_assoc (a := (⟨#[36]⟩ : ByteArray) ++ t ++ (⟨#[13, 10]⟩ : ByteArray))]
  have hl : (bulkL s).length = 1 + t.size + 2 + s.size + 2 := by rw [he, ← hz]; exact bytesOf_length _
  refine ⟨some ⟨w2.heap.size, 0, none⟩, grownCap w2 (1 + t.size + 2 + s.size + 2) 0 5, ?_, ?_, ?_⟩
  · rw [hl]; rfl
  · have h := fresh_bytes w2 5 ((⟨#[36]⟩ : ByteArray) ++ t ++ (⟨#[13, 10]⟩ : ByteArray) ++ s ++ (⟨#[13, 10]⟩ : ByteArray)) w.heap.size hs2
    rw [hz, ← he] at h
    rw [hl]
    exact h
  · exact base_below hB2.out hs2 (bytes_below (Below.refl w2.heap.size w2) (Nat.le_refl _) 5 _)
set_option maxRecDepth 100000 in
set_option maxHeartbeats 4000000 in
theorem YNull_any (w : World) : Calls Tryz.prog 11 #[] w (Bytes_ (lineL ⟨#[36]⟩ ⟨#[45, 49]⟩) w) := by
  have kc := fun (w : World) (C : Array Value) (n c : Nat) => Lib.run_convert_bytes_const (P := Tryz.prog) w 29 5 C n c Tryz.underlying29 Tryz.underlying5
  go_enter Tryz.func11, Tryz.ntmps11
  go_wp2_with fail
  go_ret
  exact ⟨some ⟨w.heap.size, 0, none⟩, 5, rfl, fresh_marked w 5 [36, 45, 49, 13, 10], below_alloc (Below.refl _ _) _⟩
set_option maxRecDepth 100000 in
set_option maxHeartbeats 8000000 in
theorem YArray_any (A : Option Addr) (b o n c : Nat) (ls : List (List Int)) (w : World) (hA : 0 < n → A = some ⟨b, o, none⟩) (hn : ls.length = n) (hc : n ≤ c) (hP : PartsO w b o ls) (hlen : ls.flatten.length ≤ 70368744177664) (hn2 : n ≤ 1000000) :
    Calls Tryz.prog 22 #[.slice A n c] w (Bytes_ (arrL ls) w) := by
  have kb := fun s W => print_bytes (P := Tryz.prog) 9 29 5 Tryz.underlying9 Tryz.underlying29 Tryz.underlying5 s W
  have hi : Int64 (n : Int) := ⟨by omega, by omega⟩
  have hzn := numS_size (n : Int) hi.1 hi.2
  have hP' := veil hP
  have hA' := veil hA
  clear hP hA
  go_enter Tryz.func22, Tryz.ntmps22
  go_wp2_with fail
  refine (rtext_any (n : Int) _ hi).mono ?_
  rintro e w2 ⟨rfl, hb2⟩
  have hB2 := veil hb2
  have hs2 : w.heap.size ≤ w2.heap.size := hB2.out.size
  clear hb2
  obtain ⟨t, ht⟩ : ∃ t, numS (n : Int) = t := ⟨_, rfl⟩
  have ht' := veil ht
  rw [ht] at hzn ⊢
  clear ht
  have z1 : ¬ 9223372036854775807 < 1 + t.size := by omega
  have z2 : ¬ 9223372036854775807 < 1 + t.size + 2 := by omega
  have hz : ((⟨#[42]⟩ : ByteArray) ++ t ++ (⟨#[13, 10]⟩ : ByteArray)).size = 1 + t.size + 2 := by rw [ByteArray.size_append, ByteArray.size_append]; rfl
  have he : lineL ⟨#[42]⟩ (numS n) = bytesOf ((⟨#[42]⟩ : ByteArray) ++ t ++ ⟨#[13, 10]⟩) := by unfold lineL; rw [flatS_num, ht'.out]
  have hhl : (lineL ⟨#[42]⟩ (numS n)).length = 1 + t.size + 2 := by rw [he, ← hz]; exact bytesOf_length _
  have hF0 : Fresh .u8 w.heap.size (Lib.bytesWorld w2 5 ((⟨#[42]⟩ : ByteArray) ++ t ++ ⟨#[13, 10]⟩)) (some ⟨w2.heap.size, 0, none⟩) (1 + t.size + 2) (grownCap w2 (1 + t.size + 2) 0 5) (lineL ⟨#[42]⟩ (numS n)) := by
    have h := fresh_bytes w2 5 ((⟨#[42]⟩ : ByteArray) ++ t ++ ⟨#[13, 10]⟩) w.heap.size hs2
    rw [hz, ← he] at h
    exact h
  have hF0' := veil hF0
  have hB0 := veil (base_below hB2.out hs2 (bytes_below (Below.refl w2.heap.size w2) (Nat.le_refl _) 5 ((⟨#[42]⟩ : ByteArray) ++ t ++ ⟨#[13, 10]⟩)))
  obtain ⟨hd, hhd⟩ : ∃ hd, lineL ⟨#[42]⟩ (numS n) = hd := ⟨_, rfl⟩
  have hhd' := veil hhd
  rw [hhd] at hF0' hhl
  have hhl' := veil hhl
  clear hF0 hz he hhl hhd
  go_wp2_with fail
  go_loopw [3, 4] (fun v i wr => ∃ (k m : Nat) (A' : Option Addr) (c' : Nat), k ≤ n ∧ i = .int .i64 k ∧ m = (hd ++ (ls.take k).flatten).length ∧ v = .slice A' m c' ∧ Fresh .u8 w.heap.size wr A' m c' (hd ++ (ls.take k).flatten) ∧ Below w.heap.size w wr) (fun _ i _ => n - (intOf i).toNat)
  case atStart => exact ⟨0, 1 + t.size + 2, _, _, by omega, rfl, by simp [hhl'.out], rfl, by simpa using hF0'.out, hB0.out⟩
  case round =>
    obtain ⟨k, m, A', c', hk, rfl, hm, rfl, hf, hb⟩ := hrel
    have hf' := veil hf
    have hb' := veil hb
    have hm' := veil hm
    have hsr : w.heap.size ≤ wr.heap.size := hb'.out.size
    clear hf hb hm
    by_cases hlt : k < n
    · obtain ⟨x, hx⟩ : ∃ x, ls[k]? = some x := ⟨_, List.getElem?_eq_getElem (by rw [hn]; exact hlt)⟩
      obtain ⟨X, cx, hcx, hrx, _⟩ := hP'.out k x hx
      obtain rfl := hA'.out (by omega)
      have hcx' := veil (pw_cell_below hb'.out hcx)
      have hrx' := veil (hrx.below hb'.out)
      have hfl : (ls.take (k + 1)).flatten = (ls.take k).flatten ++ x := by
        rw [List.take_add_one, hx]
        simp
      have hle : (ls.take (k + 1)).flatten.length ≤ ls.flatten.length := by
        have e := congrArg List.length (congrArg List.flatten (List.take_append_drop (k + 1) ls))
        rw [List.flatten_append, List.length_append] at e
        omega
      have hmx : m + x.length ≤ 140737488355328 := by
        rw [hfl, List.length_append] at hle
        rw [hm'.out, List.length_append, hhl'.out]
        omega
      have hfl' := veil hfl
      have hc0 : wr.cell? (⟨b, o + k, none⟩ : Addr) = some (.slice X x.length cx) := hcx'.out
      have k0 : (0 : Int) ≤ k := by omega
      have kn : (k : Int) < n := by omega
      clear hcx hrx hfl hle hx
      obtain ⟨q, hq⟩ : ∃ q, x.length = q := ⟨_, rfl⟩
      rw [hq] at hc0 hmx
      have hrx2 : Veil (ReadsInt wr .u8 X q x) := by rw [← hq]; exact hrx'
      have hq' := veil hq
      clear hq hrx'
      go_wp2_with (refine wpList_app (w0 := w) w.heap.size rfl _ _ 29 29 5 .u8 1 rfl Tryz.underlying29 info5 (by omega) A' m c' q _ _ _ rfl rfl hf'.out (src_reads Tryz.underlying29 X q cx x hrx2.out) hb'.out hsr (by omega) ?_; intro A3 c3 w3 hf3 hb3)
      refine ⟨⟨k + 1, m + q, A3, c3, by omega, by go_num, ?_, rfl, ?_, hb3⟩, ?_⟩
      · rw [hfl'.out, ← List.append_assoc, List.length_append, ← hm'.out, hq'.out]
      · rw [hfl'.out, ← List.append_assoc]
        exact hf3
      · simp [intOf]; omega
    · obtain rfl : k = n := by omega
      go_wp2_with fail
      go_ret
      have e : hd ++ (ls.take k).flatten = arrL ls := by
        rw [List.take_of_length_le (by omega)]
        unfold arrL
        rw [hn, hhd'.out]
      rw [e] at hf' hm'
      exact ⟨A', c', by rw [← hm'.out]; rfl, by rw [← hm'.out]; exact hf'.out, hb'.out⟩
theorem V_fresh {B e : Nat} {w : World} {A : Option Addr} {n c : Nat} {l : List Int} (h : Fresh .u8 B w A n c l) (hn : n ≤ 9223372036854775807) : Kd.V (Kd.int .u8) e w B (fun k => B ≤ k) (.slice A n c) l := by
  have hl := h.len
  subst hl
  refine ⟨A, c, rfl, h.le, fun W' hW => C_reads ⟨rfl, hn, fun hp => ?_⟩⟩
  obtain ⟨b, e, h1, h2, hc, _⟩ := h.there (by have := h.le; omega)
  refine ⟨_, e, fun j hj => ?_⟩
  rw [add_plain]
  have hb := hW b h1 h2
  have := hc j hj
  unfold World.cell? at this ⊢
  rw [hb]
  exact this
def VB (w : World) (r : List Int) (e : Ending) (w' : World) : Prop := ∃ v0_ : Value, e = .returned (v0_) ∧ Kd.V (Kd.int .u8) 5 w' w.heap.size (fun k_ => (w.heap.size ≤ k_)) v0_ r ∧ Below w.heap.size w w'
theorem vb {l : List Int} {w : World} {e : Ending} {w' : World} (hl : l.length ≤ 9223372036854775807) (h : Bytes_ l w e w') : VB w l e w' := by
  obtain ⟨A, c, rfl, hf, hb⟩ := h
  exact ⟨_, rfl, V_fresh hf hl, hb⟩
def BytB (l : List Int) : Bool := l.all fun x => decide (0 ≤ x ∧ x ≤ 255)
theorem byt_of {l : List Int} (h : BytB l = true) : Byt l := fun x hx => by
  have := List.all_eq_true.1 h x hx
  simpa using this
def arrF (ls : List (List Int)) : Option (List Int) := if ls.all BytB = true ∧ ls.length ≤ 1000000 ∧ ls.flatten.length ≤ 70368744177664 then some (arrL ls) else none
def textsF (ss : List ByteArray) : Option (List Int) := if (∀ s ∈ ss, s.size ≤ 70368744177664) ∧ ss.length ≤ 1000000 ∧ (bulks ss).flatten.length ≤ 70368744177664 then some (textsL ss) else none
theorem arrL_len (ls : List (List Int)) (h1 : ls.length ≤ 1000000) (h : ls.flatten.length ≤ 70368744177664) : (arrL ls).length ≤ 9223372036854775807 := by
  have hz := numS_size ls.length (by omega) (by omega)
  rw [arrL, List.length_append, lineL_len]
  show 1 + _ + 2 + _ ≤ _
  omega
theorem Y_Bulk (a0 : ByteArray) (r : List Int) (w : World) (h : (if a0.size ≤ 70368744177664 then some (bulkL a0) else none) = some r) : Calls Tryz.prog 10 #[.string a0] w (VB w r) := by
  split at h
  · rename_i hi
    injection h with h
    subst h
    exact (YBulk_any a0 w hi).mono fun e w' => vb (bulkL_len a0 hi)
  · cases h
theorem Y_Array (A0 : Option Addr) (c0 : Nat) (l0 : List (List Int)) (r : List Int) (w : World) (hr0 : Kd.C (Kd.slice 5 (Kd.int .u8)) w A0 l0.length l0) (hc0 : l0.length ≤ c0) (hz0 : ∀ ad, A0 = some ad → ad.spot = none) (h : arrF l0 = some r) :
    Calls Tryz.prog 22 #[.slice A0 l0.length c0] w (VB w r) := by
  unfold arrF at h
  split at h
  · rename_i hi
    injection h with h
    subst h
    obtain ⟨h1, h2, h3⟩ := hi
    obtain ⟨b, o, hb⟩ : ∃ b o, 0 < l0.length → A0 = some ⟨b, o, none⟩ := by
      cases A0 with
      | none => exact ⟨0, 0, fun hp => by obtain ⟨ad, e, _⟩ := hr0.2.2 hp; cases e⟩
      | some ad => exact ⟨ad.block, ad.off, fun _ => by have := hz0 ad rfl; cases ad; simp_all⟩
    refine (YArray_any A0 b o l0.length c0 l0 w hb rfl hc0 (fun i l hi => ?_) h3 (by omega)).mono fun e w' => vb (arrL_len _ h2 h3)
    have hil : i < l0.length := (List.getElem?_eq_some_iff.1 hi).1
    obtain ⟨ad, c, e, _, ⟨A, cc, rfl, hlc, hC⟩, hcell⟩ := Kd.C_get hr0 ([] : List Int) (i : Int) (by omega) (by omega)
    have hx : l0.getD ((i : Int).toNat) [] = l := by
      rw [List.getD_eq_getElem?_getD, Int.toNat_natCast, hi]; rfl
    rw [hx] at hcell hC
    have h0 := hcell 0 _ rfl
    have had : ad = ⟨b, o, none⟩ := by
      have := hb (by omega)
      rw [e] at this
      injection this
    subst had
    refine ⟨A, cc, ?_, reads_C hC, byt_of (List.all_eq_true.1 h1 l (List.mem_of_getElem? hi))⟩
    have e1 : (Kd.slice 5 (Kd.int .u8)).sz = 1 := rfl
    rw [e1, Int.toNat_natCast, Nat.mul_one, Nat.add_zero, add_off] at h0
    exact h0
  · cases h
end Go.Proofs.Tryz.Ln
