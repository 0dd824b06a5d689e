import Derived.Test.YtefpcffompgceaaDoorFlat
import Derived.Test.YtefpcffompgceaaDoorShelf
import Derived.Lib.ItoaLen
import Derived.Lib.AppendIntMem
/- What num.Text tells, and the replies of one line. -/
namespace Go.Proofs.Tryd.Ln
open Go Go.RowKit Go.Proofs.Mem Go.Proofs.App
open Go.Proofs.YtefpcffompgceaaDoorW.PrintWords
set_option linter.unusedVariables false

/-- the library's table lies as the program's text lays it -/
def Tabl (w : World) : Prop := Lib.TabIs Tryd.prog w "internal/strconv.uint64pow10" .u64 Lib.pow10Tab
theorem tabl_below {w w1 : World} (h : Tabl w) (hb : Below w.heap.size w w1) : Tabl w1 := Lib.tabBelow_of_tabIs h w1 hb
/-- a number's digits -/
def numS (n : Int) : ByteArray := ⟨(Lib.itoa n).toArray⟩
theorem numS_size (n : Int) (h0 : -9223372036854775808 ≤ n) (h1 : n ≤ 9223372036854775807) : (numS n).size ≤ 21 := by
  show ((Lib.itoa n).toArray).size ≤ 21
  rw [List.size_toArray]
  exact Lib.itoa_length_le n h0 h1
/-- n is an int -/
def Int64 (n : Int) : Prop := -9223372036854775808 ≤ n ∧ n ≤ 9223372036854775807
theorem text_any (n : Int) (w : World) (hn : Int64 n) (hT : Tabl w) :
    Calls Tryd.prog 14 #[.int .i64 n] w fun e w' => e = .returned (.string (numS n)) ∧ Below w.heap.size w w' := by
  go_enter Tryd.func14, Tryd.ntmps14
  go_wp2_with fail
  refine (Tryd.strconv_Itoa n hn.1 hn.2 _ hT).mono ?_
  rintro e w1 ⟨rfl, k, os, rfl⟩
  have hb := veil (Lib.below_grow w.heap.size w (Nat.le_refl _) k os)
  go_wp2_with fail
  go_ret
  exact ⟨rfl, hb.out⟩
theorem Int_any (n : Int) (w : World) (hn : Int64 n) (hT : Tabl w) :
    Calls Tryd.prog 11 #[.int .i64 n] w (Bytes_ (lineL ⟨#[58]⟩ (numS n)) w) := by
  have hz := numS_size n hn.1 hn.2
  go_enter Tryd.func11, Tryd.ntmps11
  go_wp2_with fail
  refine (text_any n _ hn hT).mono ?_
  rintro e w1 ⟨rfl, hb1⟩
  go_wp2_with fail
  refine (line_any ⟨#[58]⟩ (numS n) _ (by decide) (by omega)).mono ?_
  rintro e w2 ⟨A, c, rfl, hf, hb2⟩
  have hf' := veil (hf.base hb1.size)
  have hb' := veil (two_below hb1 hb2)
  obtain ⟨m, hm⟩ : ∃ m, (lineL ⟨#[58]⟩ (numS n)).length = m := ⟨_, rfl⟩
  rw [hm]
  have hm' := veil hm
  clear hf hb1 hb2 hz hm
  go_wp2_with fail
  go_ret
  exact ⟨A, c, by rw [hm'.out]; rfl, hf'.out, hb'.out⟩
theorem Simple_any (s : ByteArray) (w : World) (hs : s.size ≤ 70368744177664) : Calls Tryd.prog 6 #[.string s] w (Bytes_ (lineL ⟨#[43]⟩ s) w) := by
  go_enter Tryd.func6, Tryd.ntmps6
  go_wp2_with fail
  refine (line_any ⟨#[43]⟩ s _ (by decide) hs).mono ?_
  rintro e w2 ⟨A, c, rfl, hf, hb2⟩
  have hf' := veil hf
  have hb' := veil hb2
  obtain ⟨m, hm⟩ : ∃ m, (lineL ⟨#[43]⟩ s).length = m := ⟨_, rfl⟩
  rw [hm]
  have hm' := veil hm
  clear hf hb2 hm
  go_wp2_with fail
  go_ret
  exact ⟨A, c, by rw [hm'.out]; rfl, hf'.out, hb'.out⟩
theorem Err_any (s : ByteArray) (w : World) (hs : s.size ≤ 70368744177664) : Calls Tryd.prog 7 #[.string s] w (Bytes_ (lineL ⟨#[45]⟩ s) w) := by
  go_enter Tryd.func7, Tryd.ntmps7
  go_wp2_with fail
  refine (line_any ⟨#[45]⟩ s _ (by decide) hs).mono ?_
  rintro e w2 ⟨A, c, rfl, hf, hb2⟩
  have hf' := veil hf
  have hb' := veil hb2
  obtain ⟨m, hm⟩ : ∃ m, (lineL ⟨#[45]⟩ s).length = m := ⟨_, rfl⟩
  rw [hm]
  have hm' := veil hm
  clear hf hb2 hm
  go_wp2_with fail
  go_ret
  exact ⟨A, c, by rw [hm'.out]; rfl, hf'.out, hb'.out⟩
theorem Null_any (w : World) : Calls Tryd.prog 12 #[] w (Bytes_ (lineL ⟨#[36]⟩ ⟨#[45, 49]⟩) w) := by
  go_enter Tryd.func12, Tryd.ntmps12
  go_wp2_with fail
  refine (line_any ⟨#[36]⟩ ⟨#[45, 49]⟩ _ (by decide) (by decide)).mono ?_
  rintro e w2 ⟨A, c, rfl, hf, hb2⟩
  have hf' := veil hf
  have hb' := veil hb2
  obtain ⟨m, hm⟩ : ∃ m, (lineL ⟨#[36]⟩ ⟨#[45, 49]⟩).length = m := ⟨_, rfl⟩
  rw [hm]
  have hm' := veil hm
  clear hf hb2 hm
  go_wp2_with fail
  go_ret
  exact ⟨A, c, by rw [hm'.out]; rfl, hf'.out, hb'.out⟩
/-- a bulk's bytes -/
def bulkL (s : ByteArray) : List Int := lineL ⟨#[36]⟩ (numS s.size) ++ bytesOf (s ++ ⟨#[13, 10]⟩)
theorem info5 : (Tryd.prog.info? 5).map (fun i => (i.zero, i.size, i.bytes)) = some (some (.int .u8 0), 1, 1) := by kernel_rfl
theorem lineL_len (mark s : ByteArray) : (lineL mark s).length = mark.size + s.size + 2 := by rw [lineL, bytesOf_length, line_size]
set_option maxHeartbeats 4000000 in
theorem Bulk_any (s : ByteArray) (w : World) (hs : s.size ≤ 70368744177664) (hT : Tabl w) :
    Calls Tryd.prog 8 #[.string s] w (Bytes_ (bulkL s) w) := by
  have hi : Int64 (s.size : Int) := ⟨by omega, by omega⟩
  have hz := numS_size s.size hi.1 hi.2
  go_enter Tryd.func8, Tryd.ntmps8
  go_wp2_with fail
  refine (text_any s.size _ hi hT).mono ?_
  rintro e w1 ⟨rfl, hb1⟩
  go_wp2_with fail
  refine (line_any ⟨#[36]⟩ (numS s.size) _ (by decide) (by omega)).mono ?_
  rintro e w2 ⟨A, c, rfl, hf, hb2⟩
  have hf' := veil (hf.base hb1.size)
  have hb' := veil (two_below hb1 hb2)
  have hs2 : w.heap.size ≤ w2.heap.size := hb'.out.size
  have hm9 : (lineL ⟨#[36]⟩ (numS s.size)).length ≤ 100 := by rw [lineL_len]; show 1 + _ + 2 ≤ 100; omega
  obtain ⟨m, hm⟩ : ∃ m, (lineL ⟨#[36]⟩ (numS s.size)).length = m := ⟨_, rfl⟩
  rw [hm] at hf' hm9 ⊢
  have hm' := veil hm
  have z1 : ¬ 9223372036854775807 < s.size + 2 := by omega
  have hsz : (s ++ (⟨#[13, 10]⟩ : ByteArray)).size = s.size + 2 := by rw [ByteArray.size_append]; rfl
  have hsz' := veil hsz
  clear hf hb1 hb2 hm hz hsz
  go_wp2_with (refine wpList_app (w0 := w) w.heap.size rfl _ _ 24 9 5 .u8 1 rfl Tryd.underlying24 info5 (by omega) A m c _ _ _ _ rfl rfl hf'.out (src_string Tryd.underlying9 _) hb'.out hs2 (by rw [hsz'.out]; omega) ?_; intro A2 c2 w3 hf3 hb3)
  have hl3 : (bulkL s).length = m + (s ++ (⟨#[13, 10]⟩ : ByteArray)).size := by rw [bulkL, List.length_append, hm'.out, bytesOf_length]
  have hf3' : Veil (Fresh .u8 w.heap.size w3 A2 (m + (s ++ (⟨#[13, 10]⟩ : ByteArray)).size) c2 (bulkL s)) := veil hf3
  have hb3' := veil hb3
  have hl3' := veil hl3
  clear hf3 hb3 hl3
  go_wp2_with fail
  go_ret
  exact ⟨A2, c2, by rw [hl3'.out, hsz'.out]; rfl, by rw [hl3'.out]; exact hf3'.out, hb3'.out⟩
end Go.Proofs.Tryd.Ln
