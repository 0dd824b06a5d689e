import Derived.Test.YtefpcffompgceaaGreatDoorRp
import Derived.Test.YtefpcffompgceaaGreatDoorTk
import Derived.Test.YtefpcffompgceaaGreatDoorShelf
import Derived.Lib.ConvBytes
import Derived.Laws.RangeAny
import Derived.Lib.IndexAny
import Derived.Lib.OthersKept
import Derived.WalkMore
import Derived.Deep.QuietTactic
import Derived.BigQuiet
import Derived.Outline
/- The library's variables as they lie; what num.Parse tells. -/
namespace Go.Proofs.Tryz.Ln
open Go Go.RowKit Go.Proofs.Mem Go.Proofs.App
open Go.Proofs.YtefpcffompgceaaGreatDoorW.PrintWords
set_option linter.unusedVariables false

def IsErr (v : Value) : Prop := v = .nilIface ∨ ∃ te pe, v = .iface te pe
/-- the table, the two errors, the length that may be searched at once -/
structure Tabs (w : World) : Prop where
  tab : Tabl w
  esyn : ∃ ev, w.cell? ⟨1, 0, none⟩ = some ev ∧ IsErr ev
  eran : ∃ ev, w.cell? ⟨2, 0, none⟩ = some ev ∧ IsErr ev
  maxl : ∃ m, w.cell? ⟨0, 0, none⟩ = some (.int .i64 m)
theorem tabs_below {w w1 : World} (h : Tabs w) (hb : Below w.heap.size w w1) : Tabs w1 where
  tab := tabl_below h.tab hb
  esyn := by
    obtain ⟨ev, h1, h2⟩ := h.esyn
    exact ⟨ev, pw_cell_below hb h1, h2⟩
  eran := by
    obtain ⟨ev, h1, h2⟩ := h.eran
    exact ⟨ev, pw_cell_below hb h1, h2⟩
  maxl := by
    obtain ⟨m, h1⟩ := h.maxl
    exact ⟨m, pw_cell_below hb h1⟩
theorem numS_numB (n : Int) : numS n = Dig.numB n := rfl
def PairE (o : Option Int) (w : World) (e : Ending) (w' : World) : Prop := e = .returned (.tuple #[.int .i64 (o.getD 0), .bool o.isSome]) ∧ Below w.heap.size w w'
theorem atoi_fails (s : ByteArray) (w : World) (hs : s.size ≤ 70368744177664) (hT : Tabs w) (h : ∀ v, Lib.atoiAll s.data.toList ≠ .ok v) :
    Calls Tryz.prog 48 #[.string s] w fun e w' => ∃ v N, e = .returned (.tuple #[.int .i64 v, .iface 102 (.pointer (some ⟨N, 0, none⟩))]) ∧ Below w.heap.size w w' := by
  by_cases hc : Lib.atoiAll s.data.toList = .range
  · obtain ⟨ev, h1, h2⟩ := hT.eran
    exact (Tryz.strconv_Atoi_range s (by omega) hc ev w h1 h2).mono fun e w' ⟨N, he, _, _, hb⟩ => ⟨_, N, he, hb⟩
  · obtain ⟨ev, h1, h2⟩ := hT.esyn
    exact (Tryz.strconv_Atoi_syntax s (by omega) h hc ev w h1 h2).mono fun e w' ⟨N, he, _, _, hb⟩ => ⟨0, N, he, hb⟩
set_option maxHeartbeats 2000000 in
theorem parse_any (s : ByteArray) (w : World) (hs : s.size ≤ 70368744177664) (hT : Tabs w) :
    Calls Tryz.prog 38 #[.string s] w (PairE (Dig.parseO s) w) := by
  by_cases h : ∃ v, Lib.atoiAll s.data.toList = .ok v
  · obtain ⟨v, hv⟩ := h
    obtain ⟨v0, v1⟩ := Lib.atoiAll_bounds hv
    have hp : Dig.parseO s = if Dig.numB v = s then some v else none := by unfold Dig.parseO; rw [hv]
    have HT := veil hT
    have HV := veil hv
    clear hv hT
    by_cases he : Dig.numB v = s
    · rw [if_pos he] at hp
      rw [hp]
      clear hp
      go_enter Tryz.func38, Tryz.ntmps38
      go_wp2_with fail
      refine (Tryz.strconv_Atoi_ok s (by omega) v HV.out _).mono ?_
      rintro e w1 ⟨rfl, hw⟩
      have hb1 : Veil (Below w.heap.size w w1) := veil (by
        rcases hw with rfl | ⟨t, rfl⟩
        · exact Below.refl _ _
        · exact Lib.bytesWorld_below _ _ _)
      clear hw
      have HT1 := veil (tabl_below HT.out.tab hb1.out)
      go_wp2_with fail
      refine (text_any v _ ⟨v0, v1⟩ HT1.out).mono ?_
      rintro e w2 ⟨rfl, hb2⟩
      have hb2' := veil (two_below hb1.out hb2)
      have hq : (numS v).toList = s.toList := by rw [numS_numB, he]
      clear hb2 he
      go_wp2_with fail
      go_ret2
      exact ⟨rfl, hb2'.out⟩
    · rw [if_neg he] at hp
      rw [hp]
      clear hp
      go_enter Tryz.func38, Tryz.ntmps38
      go_wp2_with fail
      refine (Tryz.strconv_Atoi_ok s (by omega) v HV.out _).mono ?_
      rintro e w1 ⟨rfl, hw⟩
      have hb1 : Veil (Below w.heap.size w w1) := veil (by
        rcases hw with rfl | ⟨t, rfl⟩
        · exact Below.refl _ _
        · exact Lib.bytesWorld_below _ _ _)
      clear hw
      have HT1 := veil (tabl_below HT.out.tab hb1.out)
      go_wp2_with fail
      refine (text_any v _ ⟨v0, v1⟩ HT1.out).mono ?_
      rintro e w2 ⟨rfl, hb2⟩
      have hb2' := veil (two_below hb1.out hb2)
      have hq : ((numS v).toList == s.toList) = false := by
        rw [beq_eq_false_iff_ne]
        intro h
        apply he
        rw [ByteArray.toList_eq, ByteArray.toList_eq] at h
        exact ByteArray.ext (Array.ext' h)
      have hq2 : ((numS v).toList != s.toList) = true := by
        rw [bne, hq]; rfl
      clear hb2 he
      go_wp2_with fail
      go_ret2
      exact ⟨rfl, hb2'.out⟩
  · have hp : Dig.parseO s = none := by
      unfold Dig.parseO
      split
      · rename_i v hv
        exact absurd ⟨v, hv⟩ h
      · rfl
    rw [hp]
    have hf := atoi_fails s w hs hT (fun v hv => h ⟨v, hv⟩)
    clear hp h hT
    have HF := veil hf
    clear hf
    go_enter Tryz.func38, Tryz.ntmps38
    go_wp2_with fail
    refine HF.out.mono ?_
    rintro e w1 ⟨v, N, rfl, hb1⟩
    have hb1' := veil hb1
    clear hb1
    go_wp2_with fail
    go_ret2
    exact ⟨rfl, hb1'.out⟩
/-- in the form that a print takes -/
def parseF (s : ByteArray) : Option (Int × Bool) := if s.size ≤ 70368744177664 then some ((Dig.parseO s).getD 0, (Dig.parseO s).isSome) else none
theorem X_Parse (a0 : ByteArray) (r1 : Int) (r2 : Bool) (w : World) (hT : Tabs w) (h : parseF a0 = some (r1, r2)) :
    Calls Tryz.prog 38 #[.string a0] w fun e w' => e = .returned (.tuple #[.int .i64 r1, .bool r2]) ∧ Below w.heap.size w w' := by
  unfold parseF at h
  split at h
  · rename_i hi
    injection h with h
    injection h with h1 h2
    subst h1
    subst h2
    exact parse_any a0 w hi hT
  · cases h
end Go.Proofs.Tryz.Ln
/- What strings.Cut, strings.ContainsAny and bytes.Clone tell. -/
namespace Go.Proofs.Tryz.Ln
open Go Go.RowKit Go.Proofs.Mem Go.Proofs.App
open Go.Proofs.YtefpcffompgceaaGreatDoorW.PrintWords
set_option linter.unusedVariables false

def cutF (s sep : ByteArray) : Option (ByteArray × ByteArray × Bool) := if s.size < 4294967281 then some (⟨(Lib.cut s.data.toList sep.data.toList).1.toArray⟩, ⟨(Lib.cut s.data.toList sep.data.toList).2.1.toArray⟩, (Lib.cut s.data.toList sep.data.toList).2.2) else none
theorem X_Cut (a0 a1 : ByteArray) (r1 r2 : ByteArray) (r3 : Bool) (w : World) (hT : Tabs w) (h : cutF a0 a1 = some (r1, r2, r3)) :
    Calls Tryz.prog 37 #[.string a0, .string a1] w fun e w' => e = .returned (.tuple #[.string r1, .string r2, .bool r3]) ∧ Below w.heap.size w w' := by
  unfold cutF at h
  split at h
  · rename_i hi
    simp only [Option.some.injEq, Prod.mk.injEq] at h
    obtain ⟨rfl, rfl, rfl⟩ := h
    obtain ⟨m, hm⟩ := hT.maxl
    exact (Tryz.strings_Cut a0 a1 m w hi hm).mono fun e w' ⟨he, n, hw⟩ => ⟨he, hw ▸ pw_below_drewN (Below.refl _ _) n⟩
  · cases h
/-- bytes.Clone: a row of the call's own, or none -/
theorem X_Clone (A0 : Option Addr) (c0 : Nat) (l0 : List Int) (r : List Int) (w : World) (hr0 : Kd.C (Kd.int .u8) w A0 l0.length l0) (hc0 : l0.length ≤ c0) (h : (if l0.length ≤ 70368744177664 then some l0 else none) = some r) :
    Calls Tryz.prog 29 #[.slice A0 l0.length c0] w fun e w' => ∃ v0_ : Value, e = .returned (v0_) ∧ Kd.R (Kd.int .u8) 5 w' w.heap.size (fun _ => True) v0_ r ∧ Below w.heap.size w w' := by
  split at h
  · rename_i hi
    injection h with h
    subst h
    have q2 : ∀ (w : World) (a : Option Addr) (n c n' c' : Nat), (binOp .eql 22 (.slice a n c) (.slice none n' c')).run Tryz.prog w = .ok (.bool a.isNone) w := fun w a n c n' c' => Lib.run_eql_slice_nil w _ _ a n c n' c' Tryz.underlying22
    have HR := veil hr0
    have HC := veil hc0
    clear hr0 hc0
    cases A0 with
    | none =>
      have h0 : l0 = [] := by
        rcases Nat.eq_zero_or_pos l0.length with h0 | h0
        · exact List.eq_nil_of_length_eq_zero h0
        · obtain ⟨ad, e, _⟩ := HR.out.2.2 h0; cases e
      subst h0
      go_enter Tryz.func29, Tryz.ntmps29
      go_wp2_with fail
      go_ret
      exact ⟨_, rfl, Kd.R_nil _ _ _ _ _, Below.refl _ _⟩
    | some ad =>
      go_enter Tryz.func29, Tryz.ntmps29
      go_wp2_with (first
        | ((with_reducible refine gate_dst (N := 5) rfl ?_); refine Kd.R_lit (Kd.int .u8) _ 5 ?hg (N := 5) ?hd (xs := ([] : List Int)) (inner := []) (ok := fun _ => True) (okp := fun _ => True) ?hr ?hp (fun _ hk => hk) trivial (Below.refl _ _) (Nat.le_refl _) (by simp) ?_; (case hd => rfl); (case hg => rfl); (case hr => first | (go_simp; done) | (go_simp; rfl)); (case hp => exact (Reps.none _ _)); intro v1 w1 ho1 hb1 hg_ hnew_; clear hg_ hnew_; have HO1 := veil ho1; have HB1 := veil hb1; clear ho1 hb1)
        | ((with_reducible refine gate_builtin (b := .append) (xs := #[.tmp 5, .tmp 6]) rfl ?_); at_builtin; refine Kd.R_append_rows (Kd.int .u8) (w0 := w) w.heap.size rfl (.tmp 5) (.tmp 6) 22 5 (.int .u8 0) 1 rfl Tryz.underlying22 info5 rfl (by decide) (by omega) v1 [] l0 _ _ _ (fun _ => True) (fun _ => False) rfl rfl ?aO ?aR (fun _ _ h => h) (fun _ h => h.elim) ?aF ?aB ?aS ?aL ?_; (case aR => exact Kd.C_below HR.out HB1.out); (case aB => exact HB1.out); (case aF => exact (fun _ _ => trivial)); (case aO => exact HO1.out); (case aS => exact below_size HB1.out); (case aL => simp; omega); intro v2 w2 ho2 hb2 hg2 hat2; have HO2 := veil ho2; have HB2 := veil hb2; clear ho2 hb2 hg2 hat2))
      go_ret
      exact ⟨_, rfl, HO2.out, HB2.out⟩
  · cases h
end Go.Proofs.Tryz.Ln
/- strings.ContainsAny at the two bytes of a line's end. -/
namespace Go.Proofs.Tryz.Ln
open Go Go.RowKit Go.Proofs.Mem Go.Proofs.App
open Go.Proofs.YtefpcffompgceaaGreatDoorW.PrintWords
set_option linter.unusedVariables false
namespace Dc
theorem get_in (s : ByteArray) (p : Nat) (h : p < s.size) : s.get! p = s[p]'h := by
  have := get_at s p h
  simpa using this
/-- what one rune takes, from a byte of 128 or more on: none of its bytes is below 128 -/
theorem decode_cover (s : ByteArray) (pos : Nat) (h : pos < s.size) (ha : 128 ≤ (s[pos]'h).toNat) (j : Nat) (hj : j < (Utf8.decode s pos).2) : pos + j < s.size ∧ 128 ≤ (s.get! (pos + j)).toNat := by
  have hn : ¬ (s[pos]'h).toNat < 128 := by omega
  have h0 : 128 ≤ (s.get! (pos + 0)).toNat := by rw [get_at s pos h]; exact ha
  have z : j = 0 → pos + j < s.size ∧ 128 ≤ (s.get! (pos + j)).toNat := fun e => by subst e; exact ⟨h, h0⟩
  simp only [Utf8.decode, get_at s pos h, hn, if_false] at hj
  split at hj
  · rename_i hc
    simp only [Bool.and_eq_true, decide_eq_true_eq, beq_iff_eq] at hc
    split at hj
    · rcases (by omega : j = 0 ∨ j = 1) with rfl | rfl
      · exact z rfl
      · exact ⟨hc.2.1, by omega⟩
    · exact z (by omega)
  · split at hj
    · rename_i hc
      simp only [Bool.and_eq_true, decide_eq_true_eq, beq_iff_eq] at hc
      split at hj
      · rcases (by omega : j = 0 ∨ j = 1 ∨ j = 2) with rfl | rfl | rfl
        · exact z rfl
        · exact ⟨hc.1.2.1, by omega⟩
        · exact ⟨hc.2.1, by omega⟩
      · exact z (by omega)
    · split at hj
      · rename_i hc
        simp only [Bool.and_eq_true, decide_eq_true_eq, beq_iff_eq] at hc
        split at hj
        · rcases (by omega : j = 0 ∨ j = 1 ∨ j = 2 ∨ j = 3) with rfl | rfl | rfl | rfl
          · exact z rfl
          · exact ⟨hc.1.1.2.1, by omega⟩
          · exact ⟨hc.1.2.1, by omega⟩
          · exact ⟨hc.2.1, by omega⟩
        · exact z (by omega)
      · exact z (by omega)
/-- no byte of the two so far -/
theorem no_add (s : ByteArray) (pos d : Nat) (hno : Lib.NoAny s.data.toList [13, 10] pos) (hc : ∀ j, j < d → pos + j < s.size ∧ 128 ≤ (s.get! (pos + j)).toNat) : Lib.NoAny s.data.toList [13, 10] (pos + d) := by
  induction d with
  | zero => exact hno
  | succ d ih =>
    have h1 := ih (fun j hj => hc j (by omega))
    obtain ⟨h2, h3⟩ := hc d (by omega)
    refine h1.succ (x := s.get! (pos + d)) ?_ ?_
    · rw [get_in s _ h2]
      rw [List.getElem?_eq_getElem (by simpa using h2)]
      rfl
    · rw [List.contains_eq_mem]
      simp only [List.mem_cons, List.not_mem_nil, or_false, decide_eq_false_iff_not]
      rintro (e | e)
      · rw [e] at h3; exact absurd h3 (by decide)
      · rw [e] at h3; exact absurd h3 (by decide)
end Dc
theorem pw_below_heap {w w1 : World} (h : Below w.heap.size w w1) {k : Nat} {o : Obj} (hk : w.heap[k]? = some o) : w1.heap[k]? = some o := (h.block k (Array.getElem?_eq_some_iff.1 hk).1).trans hk
def Minus (w : World) (e : Ending) (w' : World) : Prop := e = .returned (.int .i64 (-1)) ∧ Below w.heap.size w w'
set_option maxRecDepth 100000 in
set_option maxHeartbeats 4000000 in
theorem rune_bad (r : Int) (w : World) (h0 : 128 ≤ r) (h1 : r ≤ 2147483647) (he : r ≠ 65533) (hv : Lib.validRune r = false) : Calls Tryz.prog 56 #[.string ⟨#[13, 10]⟩, .int .i32 r] w (Minus w) := by
  have hne : (r == 65533) = false := beq_eq_false_iff_ne.2 he
  go_enter Tryz.func56, Tryz.ntmps56
  go_wp2_with fail
  refine (Tryz.utf8_ValidRune r _).mono ?_
  rintro e w' ⟨rfl, rfl⟩
  rw [hv]
  go_wp2_with fail
  go_ret
  exact ⟨rfl, Below.refl _ _⟩
set_option maxRecDepth 100000 in
set_option maxHeartbeats 4000000 in
theorem rune_err (w : World) : Calls Tryz.prog 56 #[.string ⟨#[13, 10]⟩, .int .i32 65533] w (Minus w) := by
  go_enter Tryz.func56, Tryz.ntmps56
  go_wp2_with fail
  go_loopg [5, 6] 2 (fun g _ _ wx => ∃ i : Nat, i + g = 2 ∧ wx = w.iter ⟨#[13, 10]⟩ i)
  case atStart => exact ⟨0, by omega, rfl⟩
  case round =>
    obtain ⟨i, hig, rfl⟩ := hrel
    rcases gk with _ | _ | _ | g
    · obtain rfl : i = 2 := by omega
      have hnx := fun ty => run_next_end (P := Tryz.prog) w ⟨#[13, 10]⟩ 2 ty (by decide)
      go_wp2_with fail
      go_ret
      exact ⟨rfl, (Below.refl _ _).alloc (Nat.le_refl _) _⟩
    · obtain rfl : i = 1 := by omega
      have hnx := fun ty => run_next_ascii (P := Tryz.prog) w ⟨#[13, 10]⟩ 1 ty (by decide) (by decide)
      go_wp2_with fail
      go_roundg 0
      case measure => omega
      case rel => exact ⟨2, by omega, rfl⟩
    · obtain rfl : i = 0 := by omega
      have hnx := fun ty => run_next_ascii (P := Tryz.prog) w ⟨#[13, 10]⟩ 0 ty (by decide) (by decide)
      go_wp2_with fail
      go_roundg 1
      case measure => omega
      case rel => exact ⟨1, by omega, rfl⟩
    · omega
theorem enc_conv (r : Int) (w : World) : (convert 21 9 (.int .i32 r)).run Tryz.prog w = .ok (.string (Utf8.encode r)) w := by
  simp [convert, run_underlying Tryz.underlying21, run_underlying Tryz.underlying9, Conv.intToString]
theorem enc_two (r : Int) (h0 : 128 ≤ r) (h1 : r < 2048) : ∃ x y : UInt8, Utf8.encode r = ⟨#[x, y]⟩ ∧ 128 ≤ y.toNat := by
  have hv : Utf8.valid r = true := by simp [Utf8.valid]; omega
  refine ⟨UInt8.ofNat (192 + r.toNat / 64), UInt8.ofNat (128 + r.toNat % 64), ?_, ?_⟩
  · unfold Utf8.encode
    simp only [hv, if_true]
    rw [if_neg (by omega), if_pos (by omega)]
  · simp
    omega
theorem enc_more (r : Int) (h0 : 2048 ≤ r) (h : Lib.validRune r = true) : 3 ≤ (Utf8.encode r).size ∧ (Utf8.encode r).size ≤ 4 := by
  have h := of_decide_eq_true h
  have hv : Utf8.valid r = true := by simp [Utf8.valid]; omega
  unfold Utf8.encode
  simp only [hv, if_true]
  rw [if_neg (by omega), if_neg (by omega)]
  split
  · simp [ByteArray.size]
  · simp [ByteArray.size]
set_option maxRecDepth 100000 in
set_option maxHeartbeats 4000000 in
theorem rune_more (r : Int) (w : World) (h0 : 2048 ≤ r) (h1 : r ≤ 2147483647) (he : r ≠ 65533) (hv : Lib.validRune r = true) : Calls Tryz.prog 56 #[.string ⟨#[13, 10]⟩, .int .i32 r] w (Minus w) := by
  have hne : (r == 65533) = false := beq_eq_false_iff_ne.2 he
  obtain ⟨hz, hz4⟩ := enc_more r h0 hv
  have hc := enc_conv r
  generalize Utf8.encode r = E at hc hz hz4
  go_enter Tryz.func56, Tryz.ntmps56
  go_wp2_with fail
  refine (Tryz.utf8_ValidRune r _).mono ?_
  rintro e w' ⟨rfl, rfl⟩
  rw [hv]
  go_wp2_with fail
  go_step3
  go_wp2_with fail
  refine wp_loop_rounds 1 ?_
  rw [rounds_succ]
  have hlt : decide ((E.size : Int) - 1 < 2) = false := decide_eq_false (by omega)
  go_wp2_with fail
  rw [Exit.noGoto_ret]
  go_ret
  exact ⟨rfl, Below.refl _ _⟩
set_option maxRecDepth 100000 in
set_option maxHeartbeats 4000000 in
theorem rune_two (r : Int) (w : World) (h0 : 128 ≤ r) (h1 : r < 2048) : Calls Tryz.prog 56 #[.string ⟨#[13, 10]⟩, .int .i32 r] w (Minus w) := by
  have hne : (r == 65533) = false := beq_eq_false_iff_ne.2 (by omega)
  have hv : Lib.validRune r = true := by unfold Lib.validRune; exact decide_eq_true (by omega)
  obtain ⟨x, y, hE, hy⟩ := enc_two r h0 h1
  have hc := enc_conv r
  rw [hE] at hc
  clear hE
  go_enter Tryz.func56, Tryz.ntmps56
  go_wp2_with fail
  refine (Tryz.utf8_ValidRune r _).mono ?_
  rintro e w' ⟨rfl, rfl⟩
  rw [hv]
  go_wp2_with fail
  go_step3
  go_wp2_with fail
  refine wp_loop_rounds 1 ?_
  rw [rounds_succ]
  go_wp2_with fail
  go_step3
  have i1 : ∀ h : 1 < (⟨#[13, 10]⟩ : ByteArray).size, ((⟨#[13, 10]⟩ : ByteArray)[1]'h).toNat = 10 := fun _ => rfl
  have i2 : ∀ h : 1 < (⟨#[x, y]⟩ : ByteArray).size, ((⟨#[x, y]⟩ : ByteArray)[1]'h) = y := fun _ => rfl
  have n1 : ((10 : Int) != (y.toNat : Int)) = true := bne_iff_ne.2 (by omega)
  go_wp2_with fail
  go_quiet (fail)
  have hb := veil (pw_below_drewN (Below.refl w'.heap.size w') nq)
  generalize World.drewN w' nq = wy at hb ⊢
  go_wp2_with fail
  go_quiet ((go_at_call 73; exact Calls.quiet_of_same (Tryz.strings_IndexByte _ _ _)))
  go_wp2_with fail
  rw [Exit.noGoto_ret]
  go_ret
  exact ⟨rfl, pw_below_drewN hb.out _⟩
theorem rune_high (r : Int) (w : World) (h0 : 128 ≤ r) (h1 : r ≤ 2147483647) : Calls Tryz.prog 56 #[.string ⟨#[13, 10]⟩, .int .i32 r] w (Minus w) := by
  by_cases h2 : r < 2048
  · exact rune_two r w h0 h2
  · by_cases he : r = 65533
    · subst he; exact rune_err w
    · cases hv : Lib.validRune r with
      | true => exact rune_more r w (by omega) h1 he hv
      | false => exact rune_bad r w h0 h1 he hv
def Any_ (s : ByteArray) (w : World) (e : Ending) (w' : World) : Prop := e = .returned (.int .i64 (Lib.indexAny s.data.toList [13, 10])) ∧ Below w.heap.size w w'
set_option maxRecDepth 100000 in
set_option maxHeartbeats 8000000 in
theorem any_short (s : ByteArray) (w : World) (h8 : s.size ≤ 8) : Calls Tryz.prog 49 #[.string s, .string ⟨#[13, 10]⟩] w (Any_ s w) := by
  have h8z : decide ((8 : Int) < (s.size : Int)) = false := decide_eq_false (by omega)
  go_enter Tryz.func49, Tryz.ntmps49
  go_wp2_with fail
  refine (Tryz.strings_shouldUseASCIISet _ _).mono ?_
  rintro e w' ⟨rfl, rfl⟩
  rw [h8z]
  clear h8z
  go_wp2_with fail
  go_loopg [9, 10] s.size (fun g _ _ wx => ∃ i : Nat, i ≤ s.size ∧ s.size ≤ i + g ∧ wx.heap[w'.heap.size]? = some (.stringIter s i) ∧ Veil (Below w'.heap.size w' wx) ∧ Veil (Lib.NoAny s.data.toList [13, 10] i))
  case atStart => exact ⟨0, by omega, by omega, World.iter_heap _ _ _, veil ((Below.refl _ _).alloc (Nat.le_refl _) _), veil (Lib.NoAny.zero _ _)⟩
  case round =>
    obtain ⟨i, hi, hig, hk, hb, hno⟩ := hrel
    by_cases hlt : i < s.size
    · rcases gk with _ | g
      · omega
      · by_cases ha : (s[i]'hlt).toNat < 128
        · obtain ⟨x, hx⟩ : ∃ x : UInt8, s[i]'hlt = x := ⟨_, rfl⟩
          have hxl : Veil (s.data.toList[i]? = some x) := veil (by rw [← hx]; rw [List.getElem?_eq_getElem (by simpa using hlt)]; rfl)
          have hnx := fun ty => Lib.run_next_ascii_at (P := Tryz.prog) wr w'.heap.size s i ty hk hlt ha
          rw [hx] at ha hnx
          have hk2 := veil (Lib.iterAt_heap wr w'.heap.size s i (i + 1) hk)
          have hb2 := veil (Lib.below_iterAt hb.out (Nat.le_refl _) s (i + 1))
          clear hx hk hb
          have hback : ((x.toNat : Int)).toNat.toUInt8 = x := by simp
          have hcon := Lib.contains_iff_indexByte [13, 10] x
          cases hin : List.contains [13, 10] x
          · rw [hin] at hcon
            have hlt0 : decide ((0 : Int) ≤ Lib.indexByte [13, 10] x) = false := hcon.symm
            have hin' := veil hin
            clear hcon hin
            go_wp2_with fail
            refine (Tryz.strings_IndexRune_ascii _ _ _ (by omega) (by omega)).mono ?_
            rintro e w2 ⟨rfl, hw2⟩
            subst hw2
            rw [hback]
            go_wp2_with fail
            go_roundg g
            case measure => omega
            case rel => exact ⟨i + 1, by omega, by omega, hk2.out, hb2, veil (hno.out.succ hxl.out hin'.out)⟩
          · rw [hin] at hcon
            have hlt0 : decide ((0 : Int) ≤ Lib.indexByte [13, 10] x) = true := hcon.symm
            have hin' := veil hin
            clear hcon hin
            go_wp2_with fail
            refine (Tryz.strings_IndexRune_ascii _ _ _ (by omega) (by omega)).mono ?_
            rintro e w2 ⟨rfl, hw2⟩
            subst hw2
            rw [hback]
            go_wp2_with fail
            go_ret
            exact ⟨by rw [Lib.indexAny_hit hno.out hxl.out hin'.out]; rfl, hb2.out⟩
        · have hnx := fun ty => Lib.run_next_any_at (P := Tryz.prog) wr w'.heap.size s i ty hk hlt
          obtain ⟨hd1, hd2⟩ := decode_high s i hlt (by omega)
          have hd3 := decode_le s i
          have hcov := veil (Dc.no_add s i _ hno.out (fun j hj => Dc.decode_cover s i hlt (by omega) j hj))
          have hin2 : i + (Utf8.decode s i).2 ≤ s.size := by
            have := (Dc.decode_cover s i hlt (by omega) ((Utf8.decode s i).2 - 1) (by omega)).1
            omega
          generalize Utf8.decode s i = rd at hnx hd1 hd2 hd3 hcov hin2
          obtain ⟨rr, rd⟩ := rd
          dsimp only at hnx hd1 hd2 hd3 hcov hin2
          have hk2 := veil (Lib.iterAt_heap wr w'.heap.size s i (i + rd) hk)
          have hb2 := veil (Lib.below_iterAt hb.out (Nat.le_refl _) s (i + rd))
          clear hk hb
          go_wp2_with fail
          refine (rune_high _ _ (by omega) (by omega)).mono ?_
          rintro e w2 ⟨rfl, hbb⟩
          have hk3 := veil (pw_below_heap hbb hk2.out)
          have hb3 := veil (base_below hb2.out hb2.out.size hbb)
          clear hbb
          go_wp2_with fail
          go_roundg g
          case measure => omega
          case rel => exact ⟨i + rd, by omega, by omega, hk3.out, hb3, hcov⟩
    · obtain rfl : i = s.size := by omega
      have hnx := fun ty => Lib.run_next_end_at (P := Tryz.prog) wr w'.heap.size s s.size ty hk (by omega)
      clear hk
      go_wp2_with fail
      go_ret
      exact ⟨by rw [Lib.indexAny_none (by rw [← Lib.size_eq]; exact hno.out)]; rfl, hb.out⟩
theorem any_crlf (s : ByteArray) (w : World) (hs : s.size < 4294967281) : Calls Tryz.prog 49 #[.string s, .string ⟨#[13, 10]⟩] w (Any_ s w) := by
  by_cases h8 : s.size ≤ 8
  · exact any_short s w h8
  · have h116 : (Tryz.prog.info? 89).map (fun i => (i.zero, i.size)) = some (some (.agg (Array.replicate 256 (.bool false))), 256) := by kernel_rfl
    refine (Tryz.strings_IndexAny_long (zero_of_info h116).1 s ⟨#[13, 10]⟩ w (by decide) (by omega) hs (by decide) (fun j b hb => ?_)).mono fun e w' ⟨he, hw⟩ => ⟨he, ?_⟩
    · rcases j with _ | _ | j
      · simp at hb; subst hb; decide
      · simp at hb; subst hb; decide
      · simp at hb
    · rw [hw]
      exact ((Below.refl _ _).alloc (Nat.le_refl _) _).alloc (by simp) _
/-- is there a byte of a line's end -/
def lfB (s : ByteArray) : Bool := decide ((0 : Int) ≤ Lib.indexAny s.data.toList [13, 10])
def anyF (s chars : ByteArray) : Option Bool := if s.size < 4294967281 ∧ chars.data = #[13, 10] then some (lfB s) else none
theorem X_Any (a0 a1 : ByteArray) (r : Bool) (w : World) (h : anyF a0 a1 = some r) :
    Calls Tryz.prog 39 #[.string a0, .string a1] w fun e w' => e = .returned (.bool r) ∧ Below w.heap.size w w' := by
  unfold anyF at h
  split at h
  · rename_i hi
    injection h with h
    subst h
    obtain ⟨h1, h2⟩ := hi
    obtain rfl : a1 = ⟨#[13, 10]⟩ := ByteArray.ext h2
    go_enter Tryz.func39, Tryz.ntmps39
    go_wp2_with fail
    refine (any_crlf a0 _ h1).mono ?_
    rintro e w1 ⟨rfl, hb⟩
    have hb' := veil hb
    clear hb
    go_wp2_with fail
    go_ret
    exact ⟨rfl, hb'.out⟩
  · cases h
end Go.Proofs.Tryz.Ln
