import Derived.Test.YtcdcbkopapedhaaGreatDoorBase
import Derived.Test.YtcdcbkopapedhaaGreatDoorShelf
import Derived.Lib.ItoaLen
import Derived.Lib.AppendIntMem
import Derived.Test.YtcdcbkopapedhaaGreatDoorWMore
import Derived.Lib.SlBytesConst
/- What num.Text tells, and the replies of one line. -/
namespace Go.Proofs.Tryz.Ln
open Go Go.RowKit Go.Proofs.Mem Go.Proofs.App
open Go.Proofs.YtcdcbkopapedhaaGreatDoorW.PrintWords
set_option linter.unusedVariables false

/-- the library's table lies as the program's text lays it -/
def Tabl (w : World) : Prop := Lib.TabIs Tryz.prog w "internal/strconv.uint64pow10" .u64 Lib.pow10Tab
theorem tabl_below {w w1 : World} (h : Tabl w) (hb : Below w.heap.size w w1) : Tabl w1 := Lib.tabBelow_of_tabIs h w1 hb
/-- a number's digits -/
def numS (n : Int) : ByteArray := ⟨(Lib.itoa n).toArray⟩
theorem numS_size (n : Int) (h0 : -9223372036854775808 ≤ n) (h1 : n ≤ 9223372036854775807) : (numS n).size ≤ 21 := by
  show ((Lib.itoa n).toArray).size ≤ 21
  rw [List.size_toArray]
  exact Lib.itoa_length_le n h0 h1
/-- n is an int -/
def Int64 (n : Int) : Prop := -9223372036854775808 ≤ n ∧ n ≤ 9223372036854775807
theorem text_any (n : Int) (w : World) (hn : Int64 n) (hT : Tabl w) :
    Calls Tryz.prog 30 #[.int .i64 n] w fun e w' => e = .returned (.string (numS n)) ∧ Below w.heap.size w w' := by
  go_enter Tryz.func30, Tryz.ntmps30
  go_wp2_with fail
  refine (Tryz.strconv_Itoa n hn.1 hn.2 _ hT).mono ?_
  rintro e w1 ⟨rfl, k, os, rfl⟩
  have hb := veil (Lib.below_grow w.heap.size w (Nat.le_refl _) k os)
  go_wp2_with fail
  go_ret
  exact ⟨rfl, hb.out⟩
theorem Int_any (n : Int) (w : World) (hn : Int64 n) (hT : Tabl w) :
    Calls Tryz.prog 25 #[.int .i64 n] w (Bytes_ (lineL ⟨#[58]⟩ (numS n)) w) := by
  have hz := numS_size n hn.1 hn.2
  go_enter Tryz.func25, Tryz.ntmps25
  go_wp2_with fail
  refine (text_any n _ hn hT).mono ?_
  rintro e w1 ⟨rfl, hb1⟩
  go_wp2_with fail
  refine (line_any ⟨#[58]⟩ (numS n) _ (by decide) (by omega)).mono ?_
  rintro e w2 ⟨A, c, rfl, hf, hb2⟩
  have hf' := veil (hf.base hb1.size)
  have hb' := veil (two_below hb1 hb2)
  obtain ⟨m, hm⟩ : ∃ m, (lineL ⟨#[58]⟩ (numS n)).length = m := ⟨_, rfl⟩
  rw [hm]
  have hm' := veil hm
  clear hf hb1 hb2 hz hm
  go_wp2_with fail
  go_ret
  exact ⟨A, c, by rw [hm'.out]; rfl, hf'.out, hb'.out⟩
theorem Err_any (s : ByteArray) (w : World) (hs : s.size ≤ 70368744177664) : Calls Tryz.prog 18 #[.string s] w (Bytes_ (lineL ⟨#[45]⟩ s) w) := by
  go_enter Tryz.func18, Tryz.ntmps18
  go_wp2_with fail
  refine (line_any ⟨#[45]⟩ s _ (by decide) hs).mono ?_
  rintro e w2 ⟨A, c, rfl, hf, hb2⟩
  have hf' := veil hf
  have hb' := veil hb2
  obtain ⟨m, hm⟩ : ∃ m, (lineL ⟨#[45]⟩ s).length = m := ⟨_, rfl⟩
  rw [hm]
  have hm' := veil hm
  clear hf hb2 hm
  go_wp2_with fail
  go_ret
  exact ⟨A, c, by rw [hm'.out]; rfl, hf'.out, hb'.out⟩
theorem Null_any (w : World) : Calls Tryz.prog 35 #[] w (Bytes_ (lineL ⟨#[36]⟩ ⟨#[45, 49]⟩) w) := by
  go_enter Tryz.func35, Tryz.ntmps35
  go_wp2_with fail
  refine (line_any ⟨#[36]⟩ ⟨#[45, 49]⟩ _ (by decide) (by decide)).mono ?_
  rintro e w2 ⟨A, c, rfl, hf, hb2⟩
  have hf' := veil hf
  have hb' := veil hb2
  obtain ⟨m, hm⟩ : ∃ m, (lineL ⟨#[36]⟩ ⟨#[45, 49]⟩).length = m := ⟨_, rfl⟩
  rw [hm]
  have hm' := veil hm
  clear hf hb2 hm
  go_wp2_with fail
  go_ret
  exact ⟨A, c, by rw [hm'.out]; rfl, hf'.out, hb'.out⟩
/-- a bulk's bytes -/
def bulkL (s : ByteArray) : List Int := lineL ⟨#[36]⟩ (numS s.size) ++ bytesOf (s ++ ⟨#[13, 10]⟩)
theorem info5 : (Tryz.prog.info? 5).map (fun i => (i.zero, i.size, i.bytes)) = some (some (.int .u8 0), 1, 1) := by kernel_rfl
theorem lineL_len (mark s : ByteArray) : (lineL mark s).length = mark.size + s.size + 2 := by rw [lineL, bytesOf_length, line_size]
set_option maxHeartbeats 4000000 in
theorem Bulk_any (s : ByteArray) (w : World) (hs : s.size ≤ 70368744177664) (hT : Tabl w) :
    Calls Tryz.prog 36 #[.string s] w (Bytes_ (bulkL s) w) := by
  have hi : Int64 (s.size : Int) := ⟨by omega, by omega⟩
  have hz := numS_size s.size hi.1 hi.2
  go_enter Tryz.func36, Tryz.ntmps36
  go_wp2_with fail
  refine (text_any s.size _ hi hT).mono ?_
  rintro e w1 ⟨rfl, hb1⟩
  go_wp2_with fail
  refine (line_any ⟨#[36]⟩ (numS s.size) _ (by decide) (by omega)).mono ?_
  rintro e w2 ⟨A, c, rfl, hf, hb2⟩
  have hf' := veil (hf.base hb1.size)
  have hb' := veil (two_below hb1 hb2)
  have hs2 : w.heap.size ≤ w2.heap.size := hb'.out.size
  have hm9 : (lineL ⟨#[36]⟩ (numS s.size)).length ≤ 100 := by rw [lineL_len]; show 1 + _ + 2 ≤ 100; omega
  obtain ⟨m, hm⟩ : ∃ m, (lineL ⟨#[36]⟩ (numS s.size)).length = m := ⟨_, rfl⟩
  rw [hm] at hf' hm9 ⊢
  have hm' := veil hm
  have z1 : ¬ 9223372036854775807 < s.size + 2 := by omega
  have hsz : (s ++ (⟨#[13, 10]⟩ : ByteArray)).size = s.size + 2 := by rw [ByteArray.size_append]; rfl
  have hsz' := veil hsz
  clear hf hb1 hb2 hm hz hsz
  go_wp2_with (refine wpList_app (w0 := w) w.heap.size rfl _ _ 29 9 5 .u8 1 rfl Tryz.underlying29 info5 (by omega) A m c _ _ _ _ rfl rfl hf'.out (src_string Tryz.underlying9 _) hb'.out hs2 (by rw [hsz'.out]; omega) ?_; intro A2 c2 w3 hf3 hb3)
  have hl3 : (bulkL s).length = m + (s ++ (⟨#[13, 10]⟩ : ByteArray)).size := by rw [bulkL, List.length_append, hm'.out, bytesOf_length]
  have hf3' : Veil (Fresh .u8 w.heap.size w3 A2 (m + (s ++ (⟨#[13, 10]⟩ : ByteArray)).size) c2 (bulkL s)) := veil hf3
  have hb3' := veil hb3
  have hl3' := veil hl3
  clear hf3 hb3 hl3
  go_wp2_with fail
  go_ret
  exact ⟨A2, c2, by rw [hl3'.out, hsz'.out]; rfl, by rw [hl3'.out]; exact hf3'.out, hb3'.out⟩
instance int64_dec (n : Int) : Decidable (Int64 n) := inferInstanceAs (Decidable (_ ∧ _))
theorem C_reads {w : World} {A : Option Addr} {n : Nat} {l : List Int} (h : ReadsInt w .u8 A n l) : (Kd.int .u8).C w A n l := Kd.C_of_reads (enc := Value.int .u8) (d := (0 : Int)) (h1 := fun _ => rfl) h
theorem reads_C {w : World} {A : Option Addr} {n : Nat} {l : List Int} (h : (Kd.int .u8).C w A n l) : ReadsInt w .u8 A n l := Kd.reads_of_C (enc := Value.int .u8) (d := (0 : Int)) (h1 := fun _ => rfl) h
def Byt (l : List Int) : Prop := ∀ x ∈ l, 0 ≤ x ∧ x ≤ 255
def u8 (l : List Int) : List UInt8 := l.map fun n => UInt8.ofNat n.toNat
theorem u8_val (x : Int) (h0 : 0 ≤ x) (h : x ≤ 255) : ((UInt8.ofNat x.toNat).toNat : Int) = x := by
  simp
  omega
theorem u8_inj : ∀ {a b : List Int}, Byt a → Byt b → u8 a = u8 b → a = b
  | [], [], _, _, _ => rfl
  | [], _ :: _, _, _, h => by simp [u8] at h
  | _ :: _, [], _, _, h => by simp [u8] at h
  | x :: a, y :: b, ha, hb, h => by
    simp only [u8, List.map_cons, List.cons.injEq] at h
    have h1 := congrArg (fun u : UInt8 => (u.toNat : Int)) h.1
    simp only [u8_val x (ha x (by simp)).1 (ha x (by simp)).2, u8_val y (hb y (by simp)).1 (hb y (by simp)).2] at h1
    rw [h1, u8_inj (fun z hz => ha z (by simp [hz])) (fun z hz => hb z (by simp [hz])) h.2]
theorem byt_bytes (s : ByteArray) : Byt (bytesOf s) := fun x hx => by
  simp only [bytesOf, List.mem_map] at hx
  obtain ⟨u, _, rfl⟩ := hx
  have : u.toNat < 256 := u.toNat_lt
  omega
theorem byt_append {a b : List Int} (ha : Byt a) (hb : Byt b) : Byt (a ++ b) := fun x hx => by
  rcases List.mem_append.1 hx with h | h
  · exact ha x h
  · exact hb x h
theorem byt_flatten {ls : List (List Int)} (h : ∀ l ∈ ls, Byt l) : Byt ls.flatten := fun x hx => by
  obtain ⟨l, hl, hx⟩ := List.mem_flatten.1 hx
  exact h l hl x hx
theorem byt_line (mark s : ByteArray) : Byt (lineL mark s) := byt_bytes _
theorem byt_bulk (s : ByteArray) : Byt (bulkL s) := byt_append (byt_line _ _) (byt_bytes _)
theorem bulkL_len (s : ByteArray) (h : s.size ≤ 70368744177664) : (bulkL s).length ≤ 9223372036854775807 := by
  have hz := numS_size s.size (by omega) (by omega)
  rw [bulkL, List.length_append, lineL_len, bytesOf_length, ByteArray.size_append]
  show 1 + _ + 2 + (s.size + 2) ≤ _
  omega
/-- what []byte("x") lays, of a constant: a row, marked -/
theorem fresh_marked (W : World) (e : TypeId) (l : List Int) : Fresh .u8 W.heap.size (W.alloc (.cells (nums .u8 l).toArray e ((nums .u8 l).toArray.size, (nums .u8 l).toArray.size + 1))) (some ⟨W.heap.size, 0, none⟩) l.length l.length l := by
  have hn : (nums .u8 l).length = l.length := by simp [nums]
  have hh := heap_alloc_last W (.cells (nums .u8 l).toArray e ((nums .u8 l).toArray.size, (nums .u8 l).toArray.size + 1))
  refine ⟨rfl, Nat.le_refl _, fun _ => ⟨W.heap.size, rfl, Nat.le_refl _, by simp, fun j hj => ?_, fun j hj => ⟨?_, ?_⟩⟩⟩
  · simp only [World.cell?, hh]
    simp only [List.getElem?_toArray]
    exact nums_get .u8 l j hj
  · simp only [World.cell?, hh]
    simp [hn, hj]
  · simp only [World.frozen?, hh]
    simp [hn]
    omega
end Go.Proofs.Tryz.Ln
namespace Go.Proofs.YtcdcbkopapedhaaGreatDoor.Spot
open Go Go.RowKit Go.Proofs.YtcdcbkopapedhaaGreatDoorW.PrintWords
theorem spot_own {w : World} {base : Nat} {e : TypeId} {size n m c : Nat} {A : Option Addr} {xs : List Value} (h : w.ownsRow base e size (.slice A m c) n xs) : ∀ ad, A = some ad → ad.spot = none := by
  rintro ad rfl
  rcases h.2 with ⟨h, _⟩ | ⟨g, cap, cur, h, _⟩
  · cases h
  · injection h with h
    injection h with h
    subst h
    rfl
theorem spot_R {α : Type} {d : Kd α} {e : Nat} {w : World} {base : Nat} {ok : Nat → Prop} {A : Option Addr} {n c : Nat} {xs : List α} (h : d.R e w base ok (.slice A n c) xs) : ∀ ad, A = some ad → ad.spot = none := by
  obtain ⟨_, inner, ho, _⟩ := h
  exact spot_own ho
theorem spot_S {α : Type} {d : Kd α} {e : Nat} {w : World} {base : Nat} {ok : Nat → Prop} {A : Option Addr} {n c : Nat} {xs : List α} (h : d.S e w base ok (.slice A n c) xs) : ∀ ad, A = some ad → ad.spot = none := spot_R (Kd.S_R h)
theorem spot_N {α : Type} {d : Kd α} {e : Nat} {w : World} {base : Nat} {ok : Nat → Prop} {A : Option Addr} {n c : Nat} {xs : List α} (h : d.N e w base ok (.slice A n c) xs) : ∀ ad, A = some ad → ad.spot = none := by
  obtain ⟨_, rows, _, hR, _⟩ := h
  exact spot_R hR
section
variable {P : Program} {w : World} {base e' src dst e : Nat} {ok : Nat → Prop} {v : Value} {xs : List Int}
theorem str_R (hs : P.underlying src = some (.slice e)) (he : P.underlying e = some (.int .u8)) (hd : P.underlying dst = some .string) (h : (Kd.int .u8).R e' w base ok v xs) : (convert src dst v).run P w = .ok (.string (strOfNums xs)) w := own_string hs he hd (Kd.own_of_R h)
theorem str_V (hs : P.underlying src = some (.slice e)) (he : P.underlying e = some (.int .u8)) (hd : P.underlying dst = some .string) (h : (Kd.int .u8).V e' w base ok v xs) : (convert src dst v).run P w = .ok (.string (strOfNums xs)) w := by
  obtain ⟨A, c, rfl, _, hf⟩ := h
  exact Kd.C_string hs he hd (Kd.F_now hf)
theorem str_Q (hs : P.underlying src = some (.slice e)) (he : P.underlying e = some (.int .u8)) (hd : P.underlying dst = some .string) (h : (Kd.int .u8).Q e' w base ok v xs) : (convert src dst v).run P w = .ok (.string (strOfNums xs)) w := str_V (e' := e') (base := base) hs he hd (Kd.Q_V h)
end
theorem cast_len {α : Type} {R : α → List Value → Prop} {sz : Nat} {w : World} {A : Option Addr} {n m : Nat} {xs : List α} (e : n = m) (h : ReadsRow R sz w A n xs) : ReadsRow R sz w A m xs := e ▸ h
end Go.Proofs.YtcdcbkopapedhaaGreatDoor.Spot
