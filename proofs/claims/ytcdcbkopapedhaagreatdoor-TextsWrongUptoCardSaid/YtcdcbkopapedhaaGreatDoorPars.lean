import Derived.Test.YtcdcbkopapedhaaGreatDoorNumb
import Derived.Test.YtcdcbkopapedhaaGreatDoorTk
import Derived.Test.YtcdcbkopapedhaaGreatDoorShelf
import Derived.Lib.ConvBytes
import Derived.Laws.RangeAny
import Derived.Lib.IndexAny
import Derived.Lib.OthersKept
import Derived.WalkMore
import Derived.Deep.QuietTactic
import Derived.BigQuiet
import Derived.Outline
/- The library's variables as they lie; what num.Parse tells. -/
namespace Go.Proofs.Tryz.Ln
open Go Go.RowKit Go.Proofs.Mem Go.Proofs.App
open Go.Proofs.YtcdcbkopapedhaaGreatDoorW.PrintWords
set_option linter.unusedVariables false

def IsErr (v : Value) : Prop := v = .nilIface ∨ ∃ te pe, v = .iface te pe
/-- the table, the two errors, the length that may be searched at once -/
structure Tabs (w : World) : Prop where
  tab : Tabl w
  esyn : ∃ ev, w.cell? ⟨0, 0, none⟩ = some ev ∧ IsErr ev
  eran : ∃ ev, w.cell? ⟨1, 0, none⟩ = some ev ∧ IsErr ev
  maxl : ∃ m, w.cell? ⟨5, 0, none⟩ = some (.int .i64 m)
theorem tabs_below {w w1 : World} (h : Tabs w) (hb : Below w.heap.size w w1) : Tabs w1 where
  tab := tabl_below h.tab hb
  esyn := by
    obtain ⟨ev, h1, h2⟩ := h.esyn
    exact ⟨ev, pw_cell_below hb h1, h2⟩
  eran := by
    obtain ⟨ev, h1, h2⟩ := h.eran
    exact ⟨ev, pw_cell_below hb h1, h2⟩
  maxl := by
    obtain ⟨m, h1⟩ := h.maxl
    exact ⟨m, pw_cell_below hb h1⟩
theorem numS_numB (n : Int) : numS n = Dig.numB n := rfl
def PairE (o : Option Int) (w : World) (e : Ending) (w' : World) : Prop := e = .returned (.tuple #[.int .i64 (o.getD 0), .bool o.isSome]) ∧ Below w.heap.size w w'
theorem atoi_fails (s : ByteArray) (w : World) (hs : s.size ≤ 70368744177664) (hT : Tabs w) (h : ∀ v, Lib.atoiAll s.data.toList ≠ .ok v) :
    Calls Tryz.prog 44 #[.string s] w fun e w' => ∃ v N, e = .returned (.tuple #[.int .i64 v, .iface 110 (.pointer (some ⟨N, 0, none⟩))]) ∧ Below w.heap.size w w' := by
  by_cases hc : Lib.atoiAll s.data.toList = .range
  · obtain ⟨ev, h1, h2⟩ := hT.eran
    exact (Tryz.strconv_Atoi_range s (by omega) hc ev w h1 h2).mono fun e w' ⟨N, he, _, _, hb⟩ => ⟨_, N, he, hb⟩
  · obtain ⟨ev, h1, h2⟩ := hT.esyn
    exact (Tryz.strconv_Atoi_syntax s (by omega) h hc ev w h1 h2).mono fun e w' ⟨N, he, _, _, hb⟩ => ⟨0, N, he, hb⟩
set_option maxHeartbeats 2000000 in
theorem parse_any (s : ByteArray) (w : World) (hs : s.size ≤ 70368744177664) (hT : Tabs w) :
    Calls Tryz.prog 37 #[.string s] w (PairE (Dig.parseO s) w) := by
  by_cases h : ∃ v, Lib.atoiAll s.data.toList = .ok v
  · obtain ⟨v, hv⟩ := h
    obtain ⟨v0, v1⟩ := Lib.atoiAll_bounds hv
    have hp : Dig.parseO s = if Dig.numB v = s then some v else none := by unfold Dig.parseO; rw [hv]
    have HT := veil hT
    have HV := veil hv
    clear hv hT
    by_cases he : Dig.numB v = s
    · rw [if_pos he] at hp
      rw [hp]
      clear hp
      go_enter Tryz.func37, Tryz.ntmps37
      go_wp2_with fail
      refine (Tryz.strconv_Atoi_ok s (by omega) v HV.out _).mono ?_
      rintro e w1 ⟨rfl, hw⟩
      have hb1 : Veil (Below w.heap.size w w1) := veil (by
        rcases hw with rfl | ⟨t, rfl⟩
        · exact Below.refl _ _
        · exact Lib.bytesWorld_below _ _ _)
      clear hw
      have HT1 := veil (tabl_below HT.out.tab hb1.out)
      go_wp2_with fail
      refine (text_any v _ ⟨v0, v1⟩ HT1.out).mono ?_
      rintro e w2 ⟨rfl, hb2⟩
      have hb2' := veil (two_below hb1.out hb2)
      have hq : (numS v).toList = s.toList := by rw [numS_numB, he]
      clear hb2 he
      go_wp2_with fail
      go_ret2
      exact ⟨rfl, hb2'.out⟩
    · rw [if_neg he] at hp
      rw [hp]
      clear hp
      go_enter Tryz.func37, Tryz.ntmps37
      go_wp2_with fail
      refine (Tryz.strconv_Atoi_ok s (by omega) v HV.out _).mono ?_
      rintro e w1 ⟨rfl, hw⟩
      have hb1 : Veil (Below w.heap.size w w1) := veil (by
        rcases hw with rfl | ⟨t, rfl⟩
        · exact Below.refl _ _
        · exact Lib.bytesWorld_below _ _ _)
      clear hw
      have HT1 := veil (tabl_below HT.out.tab hb1.out)
      go_wp2_with fail
      refine (text_any v _ ⟨v0, v1⟩ HT1.out).mono ?_
      rintro e w2 ⟨rfl, hb2⟩
      have hb2' := veil (two_below hb1.out hb2)
      have hq : ((numS v).toList == s.toList) = false := by
        rw [beq_eq_false_iff_ne]
        intro h
        apply he
        rw [ByteArray.toList_eq, ByteArray.toList_eq] at h
        exact ByteArray.ext (Array.ext' h)
      have hq2 : ((numS v).toList != s.toList) = true := by
        rw [bne, hq]; rfl
      clear hb2 he
      go_wp2_with fail
      go_ret2
      exact ⟨rfl, hb2'.out⟩
  · have hp : Dig.parseO s = none := by
      unfold Dig.parseO
      split
      · rename_i v hv
        exact absurd ⟨v, hv⟩ h
      · rfl
    rw [hp]
    have hf := atoi_fails s w hs hT (fun v hv => h ⟨v, hv⟩)
    clear hp h hT
    have HF := veil hf
    clear hf
    go_enter Tryz.func37, Tryz.ntmps37
    go_wp2_with fail
    refine HF.out.mono ?_
    rintro e w1 ⟨v, N, rfl, hb1⟩
    have hb1' := veil hb1
    clear hb1
    go_wp2_with fail
    go_ret2
    exact ⟨rfl, hb1'.out⟩
/-- in the form that a print takes -/
def parseF (s : ByteArray) : Option (Int × Bool) := if s.size ≤ 70368744177664 then some ((Dig.parseO s).getD 0, (Dig.parseO s).isSome) else none
theorem X_Parse (a0 : ByteArray) (r1 : Int) (r2 : Bool) (w : World) (hT : Tabs w) (h : parseF a0 = some (r1, r2)) :
    Calls Tryz.prog 37 #[.string a0] w fun e w' => e = .returned (.tuple #[.int .i64 r1, .bool r2]) ∧ Below w.heap.size w w' := by
  unfold parseF at h
  split at h
  · rename_i hi
    injection h with h
    injection h with h1 h2
    subst h1
    subst h2
    exact parse_any a0 w hi hT
  · cases h
end Go.Proofs.Tryz.Ln
