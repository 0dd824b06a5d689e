import Derived.Test.YtmfjpdhhcgkjaaaGreatDoorPur1
/- The document's replies: what they tell is what the program's tell. -/
namespace Go.Proofs.Tryz.Ln
open Go Go.RowKit Go.Proofs.Mem Go.Proofs.App Go.Proofs.Dig
open Go.Proofs.YtmfjpdhhcgkjaaaGreatDoorW.PrintWords Go.Proofs.YtmfjpdhhcgkjaaaGreatDoor.Zr
set_option linter.unusedVariables false
theorem rtext_any (n : Int) (w : World) (hn : Int64 n) : Calls Tryz.prog 13 #[.int .i64 n] w fun e w' => e = .returned (.string (numS n)) ∧ Below w.heap.size w w' := by
  obtain ⟨k, hk⟩ := (Go.Proofs.YtmfjpdhhcgkjaaaGreatDoor.Pure1.text_ev n.natAbs n rfl hn).rounds
  exact tipstaffref01_Text.calls k n (numS n) w hk
theorem flatS_num (n : Int) : flatS (numS n) = numS n := str_flat_num n
set_option maxRecDepth 100000 in
set_option maxHeartbeats 4000000 in
theorem YInt_any (n : Int) (w : World) (hn : Int64 n) : Calls Tryz.prog 15 #[.int .i64 n] w (Bytes_ (lineL ⟨#[58]⟩ (numS n)) w) := by
  have kb := fun s W => print_bytes (P := Tryz.prog) 9 29 5 Tryz.underlying9 Tryz.underlying29 Tryz.underlying5 s W
  have hzn := numS_size n hn.1 hn.2
  go_enter Tryz.func15, Tryz.ntmps15
  go_wp2_with fail
  refine (rtext_any n _ hn).mono ?_
  rintro e w2 ⟨rfl, hb2⟩
  have hB2 := veil hb2
  have hs2 : w.heap.size ≤ w2.heap.size := hB2.out.size
  clear hb2
  have z1 : ¬ 9223372036854775807 < 1 + (numS n).size := by omega
  have z2 : ¬ 9223372036854775807 < 1 + (numS n).size + 2 := by omega
  go_wp2_with fail
  go_ret
  have hz : ((⟨#[58]⟩ : ByteArray) ++ numS n ++ (⟨#[13, 10]⟩ : ByteArray)).size = 1 + (numS n).size + 2 := by rw [ByteArray.size_append, ByteArray.size_append]; rfl
  have he : lineL ⟨#[58]⟩ (numS n) = bytesOf ((⟨#[58]⟩ : ByteArray) ++ numS n ++ ⟨#[13, 10]⟩) := by unfold lineL; rw [flatS_num]
  have hl : (lineL ⟨#[58]⟩ (numS n)).length = 1 + (numS n).size + 2 := by rw [he, ← hz]; exact bytesOf_length _
  refine ⟨some ⟨w2.heap.size, 0, none⟩, grownCap w2 (1 + (numS n).size + 2) 0 5, ?_, ?_, ?_⟩
  · rw [hl]; rfl
  · have h := fresh_bytes w2 5 ((⟨#[58]⟩ : ByteArray) ++ numS n ++ ⟨#[13, 10]⟩) w.heap.size hs2
    rw [hz, ← he] at h
    rw [hl]
    exact h
  · exact base_below hB2.out hs2 (bytes_below (Below.refl w2.heap.size w2) (Nat.le_refl _) 5 _)
set_option maxRecDepth 100000 in
set_option maxHeartbeats 4000000 in
theorem YBulk_any (s : ByteArray) (w : World) (hs : s.size ≤ 70368744177664) : Calls Tryz.prog 14 #[.string s] w (Bytes_ (bulkL s) w) := by
  have kb := fun s W => print_bytes (P := Tryz.prog) 9 29 5 Tryz.underlying9 Tryz.underlying29 Tryz.underlying5 s W
  have hn : Int64 (s.size : Int) := ⟨by omega, by omega⟩
  have hzn := numS_size (s.size : Int) hn.1 hn.2
  go_enter Tryz.func14, Tryz.ntmps14
  go_wp2_with fail
  refine (rtext_any (s.size : Int) _ hn).mono ?_
  rintro e w2 ⟨rfl, hb2⟩
  have hB2 := veil hb2
  have hs2 : w.heap.size ≤ w2.heap.size := hB2.out.size
  clear hb2
  obtain ⟨t, ht⟩ : ∃ t, numS (s.size : Int) = t := ⟨_, rfl⟩
  have ht' := veil ht
  rw [ht] at hzn ⊢
  clear ht
  have z1 : ¬ 9223372036854775807 < 1 + t.size := by omega
  have z2 : ¬ 9223372036854775807 < 1 + t.size + 2 := by omega
  have z3 : ¬ 9223372036854775807 < 1 + t.size + 2 + s.size := by omega
  have z4 : ¬ 9223372036854775807 < 1 + t.size + 2 + s.size + 2 := by omega
  go_wp2_with fail
  go_ret
  have hz : ((⟨#[36]⟩ : ByteArray) ++ t ++ (⟨#[13, 10]⟩ : ByteArray) ++ s ++ (⟨#[13, 10]⟩ : ByteArray)).size = 1 + t.size + 2 + s.size + 2 := by rw [ByteArray.size_append, ByteArray.size_append, ByteArray.size_append, ByteArray.size_append]; rfl
  have he : bulkL s = bytesOf ((⟨#[36]⟩ : ByteArray) ++ t ++ (⟨#[13, 10]⟩ : ByteArray) ++ s ++ (⟨#[13, 10]⟩ : ByteArray)) := by
    unfold bulkL lineL
    rw [flatS_num, ht'.out, ← bytesOf_append']
    congr 1
    rw [ByteArray.append_assoc (a := (⟨#[36]⟩ : ByteArray) ++ t ++ (⟨#[13, 10]⟩ : ByteArray))]
  have hl : (bulkL s).length = 1 + t.size + 2 + s.size + 2 := by rw [he, ← hz]; exact bytesOf_length _
  refine ⟨some ⟨w2.heap.size, 0, none⟩, grownCap w2 (1 + t.size + 2 + s.size + 2) 0 5, ?_, ?_, ?_⟩
  · rw [hl]; rfl
  · have h := fresh_bytes w2 5 ((⟨#[36]⟩ : ByteArray) ++ t ++ (⟨#[13, 10]⟩ : ByteArray) ++ s ++ (⟨#[13, 10]⟩ : ByteArray)) w.heap.size hs2
    rw [hz, ← he] at h
    rw [hl]
    exact h
  · exact base_below hB2.out hs2 (bytes_below (Below.refl w2.heap.size w2) (Nat.le_refl _) 5 _)
set_option maxRecDepth 100000 in
set_option maxHeartbeats 4000000 in
theorem YNull_any (w : World) : Calls Tryz.prog 16 #[] w (Bytes_ (lineL ⟨#[36]⟩ ⟨#[45, 49]⟩) w) := by
  have kc := fun (w : World) (C : Array Value) (n c : Nat) => Lib.run_convert_bytes_const (P := Tryz.prog) w 29 5 C n c Tryz.underlying29 Tryz.underlying5
  go_enter Tryz.func16, Tryz.ntmps16
  go_wp2_with fail
  go_ret
  exact ⟨some ⟨w.heap.size, 0, none⟩, 5, rfl, fresh_marked w 5 [36, 45, 49, 13, 10], below_alloc (Below.refl _ _) _⟩
end Go.Proofs.Tryz.Ln
