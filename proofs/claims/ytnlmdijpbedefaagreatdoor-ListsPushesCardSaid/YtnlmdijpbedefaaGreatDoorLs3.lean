import Derived.Test.YtnlmdijpbedefaaGreatDoorLs2
import Derived.OwnWalk
/- What num.Part tells. -/
namespace Go.Proofs.Tryz.Ln
open Go Go.RowKit Go.Proofs.Mem Go.Proofs.App
open Go.Proofs.YtnlmdijpbedefaaGreatDoorW.PrintWords Go.Proofs.YtnlmdijpbedefaaGreatDoorW.PrintMore
set_option linter.unusedVariables false
set_option linter.unusedSimpArgs false
/-- the lesser, the greater one, without a fork -/
def mn (x y : Int) : Int := if y < x then y else x
def mx (x y : Int) : Int := if x < y then y else x
theorem min2_sym (k k' : IntKind) (x y : Int) : Builtin.min2 (.int k x) (.int k' y) = pure (.int k (mn x y)) := by simp only [Builtin.min2, mn]
theorem max2_sym (k k' : IntKind) (x y : Int) : Builtin.max2 (.int k x) (.int k' y) = pure (.int k (mx x y)) := by simp only [Builtin.max2, mx, gt_iff_lt]
attribute [local go_sem] min2_sym min_two max2_sym max_two
theorem iwrapE {k : Int} (h : Int64 k) : IntKind.i64.wrap k = k := by
  have h1 := h.1
  have h2 := h.2
  rw [IntKind.wrap_i64]
  omega
def partF (many f : Int) : Int := if f < 0 then mx (f + many) 0 else f
def partT (many t : Int) : Int := mn (if t < 0 then t + many else t) (many - 1)
def partA (many f t : Int) : Int := if partF many f > partT many t then 0 else partF many f
def partB (many f t : Int) : Int := if partF many f > partT many t then 0 else partT many t + 1
set_option maxRecDepth 100000 in
set_option maxHeartbeats 8000000 in
theorem part_any (many f t : Int) (a b : ByteArray) (w : World) (hm : 0 ≤ many ∧ many ≤ 1000000) (ha : Dig.parseO a = some f) (hb : Dig.parseO b = some t) (hf : Int64 f) (ht : Int64 t) (hsa : a.size ≤ 70368744177664) (hsb : b.size ≤ 70368744177664) (hT : Tabs w) :
    Calls Tryz.prog 20 #[.int .i64 many, .string a, .string b] w fun e w' => e = .returned (.tuple #[.int .i64 (partA many f t), .int .i64 (partB many f t), .bool true]) ∧ Below w.heap.size w w' := by
  have hT' := veil hT
  obtain ⟨hm0, hm1⟩ := hm
  obtain ⟨f0, f1⟩ := hf
  obtain ⟨t0, t1⟩ := ht
  have ha' := veil ha
  have hb' := veil hb
  have w3 : IntKind.i64.wrap (many - 1) = many - 1 := iwrapE (by unfold Int64; omega)
  obtain ⟨F, hF⟩ : ∃ F, partF many f = F := ⟨_, rfl⟩
  obtain ⟨T, hTT⟩ : ∃ T, partT many t = T := ⟨_, rfl⟩
  have w4 : Veil (IntKind.i64.wrap (T + 1) = T + 1) := veil (iwrapE (by rw [← hTT]; unfold partT mn Int64; split <;> split <;> omega))
  clear hT ha hb
  go_enter Tryz.func20, Tryz.ntmps20
  go_wp2_with fail
  refine (parse_any a _ hsa hT'.out).mono ?_
  rintro e w1 ⟨rfl, hb1⟩
  rw [ha'.out]
  have hB1 := veil hb1
  clear hb1
  simp only [Option.getD_some, Option.isSome_some]
  go_wp2_with fail
  refine (parse_any b _ hsb (tabs_below hT'.out hB1.out)).mono ?_
  rintro e w2 ⟨rfl, hb2⟩
  rw [hb'.out]
  have hB2 := veil (two_below hB1.out hb2)
  clear hb2 hB1
  simp only [Option.getD_some, Option.isSome_some]
  have hFv : Veil (partF many f = F) := veil hF
  have hTv : Veil (partT many t = T) := veil hTT
  have fin : ∀ (x y : Int), x = partA many f t → y = partB many f t → (Ending.returned (.tuple #[.int .i64 x, .int .i64 y, .bool true]) : Ending) = .returned (.tuple #[.int .i64 (partA many f t), .int .i64 (partB many f t), .bool true]) := fun x y h1 h2 => by rw [h1, h2]
  have fA1 : Veil (F > T → (0 : Int) = partA many f t ∧ (0 : Int) = partB many f t) := veil (fun h => by unfold partA partB; rw [hF, hTT, if_pos h, if_pos h]; exact ⟨rfl, rfl⟩)
  have fA2 : Veil (¬ F > T → F = partA many f t ∧ T + 1 = partB many f t) := veil (fun h => by unfold partA partB; rw [hF, hTT, if_neg h, if_neg h]; exact ⟨rfl, rfl⟩)
  unfold partF at hF
  unfold partT at hTT
  clear fin hFv hTv
  by_cases q1 : f < 0
  · rw [if_pos q1] at hF
    have w1 : IntKind.i64.wrap (f + many) = f + many := iwrapE (by unfold Int64; omega)
    by_cases q2 : t < 0
    · rw [if_pos q2] at hTT
      have w2 : IntKind.i64.wrap (t + many) = t + many := iwrapE (by unfold Int64; omega)
      by_cases q3 : F > T
      · have e1 := fA1.out q3
        have e1' := veil e1
        clear e1 fA1 fA2
        go_wp2_with fail
        go_ret3
        have h := e1'.out
        have hA : partA many f t = 0 := by omega
        have hBq : partB many f t = 0 := by omega
        rw [hA, hBq]
        exact ⟨rfl, hB2.out⟩
      · have e1' := veil (fA2.out q3)
        have w4' := w4.out
        clear fA1 fA2
        go_wp2_with fail
        go_ret3
        have h := e1'.out
        have hA : partA many f t = F := by omega
        have hBq : partB many f t = T + 1 := by omega
        rw [hA, hBq]
        exact ⟨rfl, hB2.out⟩
    · rw [if_neg q2] at hTT
      by_cases q3 : F > T
      · have e1 := fA1.out q3
        have e1' := veil e1
        clear e1 fA1 fA2
        go_wp2_with fail
        go_ret3
        have h := e1'.out
        have hA : partA many f t = 0 := by omega
        have hBq : partB many f t = 0 := by omega
        rw [hA, hBq]
        exact ⟨rfl, hB2.out⟩
      · have e1' := veil (fA2.out q3)
        have w4' := w4.out
        clear fA1 fA2
        go_wp2_with fail
        go_ret3
        have h := e1'.out
        have hA : partA many f t = F := by omega
        have hBq : partB many f t = T + 1 := by omega
        rw [hA, hBq]
        exact ⟨rfl, hB2.out⟩
  · rw [if_neg q1] at hF
    subst hF
    by_cases q2 : t < 0
    · rw [if_pos q2] at hTT
      have w2 : IntKind.i64.wrap (t + many) = t + many := iwrapE (by unfold Int64; omega)
      by_cases q3 : f > T
      · have e1 := fA1.out q3
        have e1' := veil e1
        clear e1 fA1 fA2
        go_wp2_with fail
        go_ret3
        have h := e1'.out
        have hA : partA many f t = 0 := by omega
        have hBq : partB many f t = 0 := by omega
        rw [hA, hBq]
        exact ⟨rfl, hB2.out⟩
      · have e1' := veil (fA2.out q3)
        have w4' := w4.out
        clear fA1 fA2
        go_wp2_with fail
        go_ret3
        have h := e1'.out
        have hA : partA many f t = f := by omega
        have hBq : partB many f t = T + 1 := by omega
        rw [hA, hBq]
        exact ⟨rfl, hB2.out⟩
    · rw [if_neg q2] at hTT
      by_cases q3 : f > T
      · have e1 := fA1.out q3
        have e1' := veil e1
        clear e1 fA1 fA2
        go_wp2_with fail
        go_ret3
        have h := e1'.out
        have hA : partA many f t = 0 := by omega
        have hBq : partB many f t = 0 := by omega
        rw [hA, hBq]
        exact ⟨rfl, hB2.out⟩
      · have e1' := veil (fA2.out q3)
        have w4' := w4.out
        clear fA1 fA2
        go_wp2_with fail
        go_ret3
        have h := e1'.out
        have hA : partA many f t = f := by omega
        have hBq : partB many f t = T + 1 := by omega
        rw [hA, hBq]
        exact ⟨rfl, hB2.out⟩
end Go.Proofs.Tryz.Ln
