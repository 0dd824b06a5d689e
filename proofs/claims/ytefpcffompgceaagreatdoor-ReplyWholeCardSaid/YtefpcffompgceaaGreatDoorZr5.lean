/- Printed by a program of this session. -/
import Derived.Test.YtefpcffompgceaaGreatDoorZr0
import Derived.Test.YtefpcffompgceaaGreatDoorZr4
import Derived.Test.YtefpcffompgceaaGreatDoorTabs
namespace Go.Proofs.YtefpcffompgceaaGreatDoor.Zr
open Go.RowKit Go.Proofs.YtefpcffompgceaaGreatDoorW.PrintWords Go.Proofs.YtefpcffompgceaaGreatDoorW.PrintLast Go.Proofs.YtefpcffompgceaaGreatDoorW.PrintMore
attribute [local go_sem] max2_int min2_int max_two min_two max_three min_three max_four min_four   -- for this text's walks alone
set_option linter.unusedVariables false
set_option linter.unusedSimpArgs false

/-! ### reply_first: function 28 -/
mutual
def reply_first.j0 : Nat → List Int → ByteArray → Bool → Option (Int × Int)
  | 0, _, _, _ => none
  | k + 1, x0, x4, x24 => if x24 = true then (some ((-1), 0)) else (if 1 ≤ (x4.size : Int) then ((num_Parse.f (x4.extract 1 x4.size)).bind fun bt158 => (if bt158.2 = true then (reply_first.j1 k x0 x4 (wrap64 ((x4.size : Int) + 2)) bt158.1 bt158.2 (bt158.1 == (-1))) else (reply_first.j1 k x0 x4 (wrap64 ((x4.size : Int) + 2)) bt158.1 bt158.2 false))) else (none))
def reply_first.j1 : Nat → List Int → ByteArray → Int → Int → Bool → Bool → Option (Int × Int)
  | 0, _, _, _, _, _, _ => none
  | k + 1, x0, x4, x7, x8, x9, x10 => if 0 < (x4.size : Int) then (if (bt x4 0) = 43 then (reply_first.j2 k x0 x4 x7 x8 x9 x10 (bt x4 0) true) else (reply_first.j2 k x0 x4 x7 x8 x9 x10 (bt x4 0) ((bt x4 0) == 45))) else (none)
def reply_first.j2 : Nat → List Int → ByteArray → Int → Int → Bool → Bool → Int → Bool → Option (Int × Int)
  | 0, _, _, _, _, _, _, _, _ => none
  | k + 1, x0, x4, x7, x8, x9, x10, x11, x41 => if x41 = true then ((strings_ContainsAny.f x4 (⟨#[13, 10]⟩ : ByteArray)).bind fun t160 => (if t160 = true then (some ((-1), 0)) else (some (x7, 0)))) else (if x11 = 58 then (reply_first.j3 k x0 x7 x8 x9 x10 x11 x9) else (reply_first.j3 k x0 x7 x8 x9 x10 x11 false))
def reply_first.j3 : Nat → List Int → Int → Int → Bool → Bool → Int → Bool → Option (Int × Int)
  | 0, _, _, _, _, _, _, _ => none
  | k + 1, x0, x7, x8, x9, x10, x11, x51 => if x51 = true then (reply_first.j4 k x0 x7 x8 x9 x11 x51) else (if x11 = 36 then (if x10 = true then (reply_first.j4 k x0 x7 x8 x9 x11 x10) else (if x11 = 42 then (reply_first.j4 k x0 x7 x8 x9 x11 x10) else (reply_first.j4 k x0 x7 x8 x9 x11 false))) else (if x11 = 42 then (reply_first.j4 k x0 x7 x8 x9 x11 x10) else (reply_first.j4 k x0 x7 x8 x9 x11 false)))
def reply_first.j4 : Nat → List Int → Int → Int → Bool → Int → Bool → Option (Int × Int)
  | 0, _, _, _, _, _, _ => none
  | k + 1, x0, x7, x8, x9, x11, x51 => if x51 = true then (some (x7, 0)) else (if x11 = 36 then (if x9 = true then (if x8 ≥ 0 then (if x8 ≤ (wrap64 ((wrap64 ((x0.length : Int) - x7)) - 2)) then (if 0 ≤ (wrap64 (x7 + x8)) then (if (wrap64 (x7 + x8)) ≤ (wrap64 ((wrap64 (x7 + x8)) + 2)) then (if (wrap64 ((wrap64 (x7 + x8)) + 2)) ≤ (x0.length : Int) then (reply_first.j5 k x0 x7 x8 x9 x11 ((strOfNums ((x0.take ((wrap64 ((wrap64 (x7 + x8)) + 2)) : Int).toNat).drop ((wrap64 (x7 + x8)) : Int).toNat)).toList == ([13, 10] : List UInt8))) else (none)) else (none)) else (none)) else (reply_first.j5 k x0 x7 x8 x9 x11 false)) else (reply_first.j5 k x0 x7 x8 x9 x11 false)) else (reply_first.j5 k x0 x7 x8 x9 x11 false)) else (reply_first.j5 k x0 x7 x8 x9 x11 false))
def reply_first.j5 : Nat → List Int → Int → Int → Bool → Int → Bool → Option (Int × Int)
  | 0, _, _, _, _, _, _ => none
  | k + 1, x0, x7, x8, x9, x11, x68 => if x68 = true then (some (wrap64 ((wrap64 (x7 + x8)) + 2), 0)) else (if x11 = 42 then (if x9 = true then (if x8 ≥ 0 then (if x8 ≤ (x0.length : Int) then (some (x7, x8)) else (some ((-1), 0))) else (some ((-1), 0))) else (some ((-1), 0))) else (some ((-1), 0)))
end
def reply_first.f (k : Nat) (l0 : List Int) : Option (Int × Int) := (strings_Cut.f (strOfNums l0) (⟨#[13, 10]⟩ : ByteArray)).bind fun bt155 => (if bt155.2.2 = true then (reply_first.j0 k l0 bt155.1 (bt155.1.toList == ([] : List UInt8))) else (reply_first.j0 k l0 bt155.1 true))
theorem reply_first.mono_l : ∀ k, (∀ y0 y1 y2, LeO (reply_first.j0 k y0 y1 y2) (reply_first.j0 (k + 1) y0 y1 y2)) ∧ (∀ y0 y1 y2 y3 y4 y5, LeO (reply_first.j1 k y0 y1 y2 y3 y4 y5) (reply_first.j1 (k + 1) y0 y1 y2 y3 y4 y5)) ∧ (∀ y0 y1 y2 y3 y4 y5 y6 y7, LeO (reply_first.j2 k y0 y1 y2 y3 y4 y5 y6 y7) (reply_first.j2 (k + 1) y0 y1 y2 y3 y4 y5 y6 y7)) ∧ (∀ y0 y1 y2 y3 y4 y5 y6, LeO (reply_first.j3 k y0 y1 y2 y3 y4 y5 y6) (reply_first.j3 (k + 1) y0 y1 y2 y3 y4 y5 y6)) ∧ (∀ y0 y1 y2 y3 y4 y5, LeO (reply_first.j4 k y0 y1 y2 y3 y4 y5) (reply_first.j4 (k + 1) y0 y1 y2 y3 y4 y5)) ∧ (∀ y0 y1 y2 y3 y4 y5, LeO (reply_first.j5 k y0 y1 y2 y3 y4 y5) (reply_first.j5 (k + 1) y0 y1 y2 y3 y4 y5))
  | 0 => ⟨fun _ _ _ r h => by simp [reply_first.j0] at h, fun _ _ _ _ _ _ r h => by simp [reply_first.j1] at h, fun _ _ _ _ _ _ _ _ r h => by simp [reply_first.j2] at h, fun _ _ _ _ _ _ _ r h => by simp [reply_first.j3] at h, fun _ _ _ _ _ _ r h => by simp [reply_first.j4] at h, fun _ _ _ _ _ _ r h => by simp [reply_first.j5] at h⟩
  | k + 1 => by
    obtain ⟨ih0, ih1, ih2, ih3, ih4, ih5⟩ := reply_first.mono_l k
    refine ⟨?_, ?_, ?_, ?_, ?_, ?_⟩
    · intro y0 y1 y2
      unfold reply_first.j0
      repeat' first
      | (with_reducible exact ih0 _ _ _)
      | (with_reducible exact ih1 _ _ _ _ _ _)
      | (with_reducible exact ih2 _ _ _ _ _ _ _ _)
      | (with_reducible exact ih3 _ _ _ _ _ _ _)
      | (with_reducible exact ih4 _ _ _ _ _ _)
      | (with_reducible exact ih5 _ _ _ _ _ _)
      | (with_reducible exact LeO.refl _)
      | (with_reducible exact LeO.none _)
      | (with_reducible refine LeO.ite ?_ ?_)
      | (with_reducible refine LeO.bind ?_ (fun _ => ?_))
      | exact ih0 _ _ _
      | exact ih1 _ _ _ _ _ _
      | exact ih2 _ _ _ _ _ _ _ _
      | exact ih3 _ _ _ _ _ _ _
      | exact ih4 _ _ _ _ _ _
      | exact ih5 _ _ _ _ _ _
      | exact LeO.none _
      | refine LeO.ite ?_ ?_
      | refine LeO.bind ?_ (fun _ => ?_)
    · intro y0 y1 y2 y3 y4 y5
      unfold reply_first.j1
      repeat' first
      | (with_reducible exact ih0 _ _ _)
      | (with_reducible exact ih1 _ _ _ _ _ _)
      | (with_reducible exact ih2 _ _ _ _ _ _ _ _)
      | (with_reducible exact ih3 _ _ _ _ _ _ _)
      | (with_reducible exact ih4 _ _ _ _ _ _)
      | (with_reducible exact ih5 _ _ _ _ _ _)
      | (with_reducible exact LeO.refl _)
      | (with_reducible exact LeO.none _)
      | (with_reducible refine LeO.ite ?_ ?_)
      | (with_reducible refine LeO.bind ?_ (fun _ => ?_))
      | exact ih0 _ _ _
      | exact ih1 _ _ _ _ _ _
      | exact ih2 _ _ _ _ _ _ _ _
      | exact ih3 _ _ _ _ _ _ _
      | exact ih4 _ _ _ _ _ _
      | exact ih5 _ _ _ _ _ _
      | exact LeO.none _
      | refine LeO.ite ?_ ?_
      | refine LeO.bind ?_ (fun _ => ?_)
    · intro y0 y1 y2 y3 y4 y5 y6 y7
      unfold reply_first.j2
      repeat' first
      | (with_reducible exact ih0 _ _ _)
      | (with_reducible exact ih1 _ _ _ _ _ _)
      | (with_reducible exact ih2 _ _ _ _ _ _ _ _)
      | (with_reducible exact ih3 _ _ _ _ _ _ _)
      | (with_reducible exact ih4 _ _ _ _ _ _)
      | (with_reducible exact ih5 _ _ _ _ _ _)
      | (with_reducible exact LeO.refl _)
      | (with_reducible exact LeO.none _)
      | (with_reducible refine LeO.ite ?_ ?_)
      | (with_reducible refine LeO.bind ?_ (fun _ => ?_))
      | exact ih0 _ _ _
      | exact ih1 _ _ _ _ _ _
      | exact ih2 _ _ _ _ _ _ _ _
      | exact ih3 _ _ _ _ _ _ _
      | exact ih4 _ _ _ _ _ _
      | exact ih5 _ _ _ _ _ _
      | exact LeO.none _
      | refine LeO.ite ?_ ?_
      | refine LeO.bind ?_ (fun _ => ?_)
    · intro y0 y1 y2 y3 y4 y5 y6
      unfold reply_first.j3
      repeat' first
      | (with_reducible exact ih0 _ _ _)
      | (with_reducible exact ih1 _ _ _ _ _ _)
      | (with_reducible exact ih2 _ _ _ _ _ _ _ _)
      | (with_reducible exact ih3 _ _ _ _ _ _ _)
      | (with_reducible exact ih4 _ _ _ _ _ _)
      | (with_reducible exact ih5 _ _ _ _ _ _)
      | (with_reducible exact LeO.refl _)
      | (with_reducible exact LeO.none _)
      | (with_reducible refine LeO.ite ?_ ?_)
      | (with_reducible refine LeO.bind ?_ (fun _ => ?_))
      | exact ih0 _ _ _
      | exact ih1 _ _ _ _ _ _
      | exact ih2 _ _ _ _ _ _ _ _
      | exact ih3 _ _ _ _ _ _ _
      | exact ih4 _ _ _ _ _ _
      | exact ih5 _ _ _ _ _ _
      | exact LeO.none _
      | refine LeO.ite ?_ ?_
      | refine LeO.bind ?_ (fun _ => ?_)
    · intro y0 y1 y2 y3 y4 y5
      unfold reply_first.j4
      repeat' first
      | (with_reducible exact ih0 _ _ _)
      | (with_reducible exact ih1 _ _ _ _ _ _)
      | (with_reducible exact ih2 _ _ _ _ _ _ _ _)
      | (with_reducible exact ih3 _ _ _ _ _ _ _)
      | (with_reducible exact ih4 _ _ _ _ _ _)
      | (with_reducible exact ih5 _ _ _ _ _ _)
      | (with_reducible exact LeO.refl _)
      | (with_reducible exact LeO.none _)
      | (with_reducible refine LeO.ite ?_ ?_)
      | (with_reducible refine LeO.bind ?_ (fun _ => ?_))
      | exact ih0 _ _ _
      | exact ih1 _ _ _ _ _ _
      | exact ih2 _ _ _ _ _ _ _ _
      | exact ih3 _ _ _ _ _ _ _
      | exact ih4 _ _ _ _ _ _
      | exact ih5 _ _ _ _ _ _
      | exact LeO.none _
      | refine LeO.ite ?_ ?_
      | refine LeO.bind ?_ (fun _ => ?_)
    · intro y0 y1 y2 y3 y4 y5
      unfold reply_first.j5
      repeat' first
      | (with_reducible exact ih0 _ _ _)
      | (with_reducible exact ih1 _ _ _ _ _ _)
      | (with_reducible exact ih2 _ _ _ _ _ _ _ _)
      | (with_reducible exact ih3 _ _ _ _ _ _ _)
      | (with_reducible exact ih4 _ _ _ _ _ _)
      | (with_reducible exact ih5 _ _ _ _ _ _)
      | (with_reducible exact LeO.refl _)
      | (with_reducible exact LeO.none _)
      | (with_reducible refine LeO.ite ?_ ?_)
      | (with_reducible refine LeO.bind ?_ (fun _ => ?_))
      | exact ih0 _ _ _
      | exact ih1 _ _ _ _ _ _
      | exact ih2 _ _ _ _ _ _ _ _
      | exact ih3 _ _ _ _ _ _ _
      | exact ih4 _ _ _ _ _ _
      | exact ih5 _ _ _ _ _ _
      | exact LeO.none _
      | refine LeO.ite ?_ ?_
      | refine LeO.bind ?_ (fun _ => ?_)
theorem reply_first.mono : ∀ a0 k, LeO (reply_first.f k a0) (reply_first.f (k + 1) a0) := by
  intro a0 k
  obtain ⟨ih0, ih1, ih2, ih3, ih4, ih5⟩ := reply_first.mono_l k
  unfold reply_first.f
  repeat' first
      | (with_reducible exact ih0 _ _ _)
      | (with_reducible exact ih1 _ _ _ _ _ _)
      | (with_reducible exact ih2 _ _ _ _ _ _ _ _)
      | (with_reducible exact ih3 _ _ _ _ _ _ _)
      | (with_reducible exact ih4 _ _ _ _ _ _)
      | (with_reducible exact ih5 _ _ _ _ _ _)
      | (with_reducible exact LeO.refl _)
      | (with_reducible exact LeO.none _)
      | (with_reducible refine LeO.ite ?_ ?_)
      | (with_reducible refine LeO.bind ?_ (fun _ => ?_))
      | exact ih0 _ _ _
      | exact ih1 _ _ _ _ _ _
      | exact ih2 _ _ _ _ _ _ _ _
      | exact ih3 _ _ _ _ _ _ _
      | exact ih4 _ _ _ _ _ _
      | exact ih5 _ _ _ _ _ _
      | exact LeO.none _
      | refine LeO.ite ?_ ?_
      | refine LeO.bind ?_ (fun _ => ?_)
set_option maxHeartbeats 8000000 in
set_option maxRecDepth 100000 in
theorem reply_first.calls (k : Nat) (A0 : Option Addr) (c0 : Nat) (l0 : List Int) (r1 : Int) (r2 : Int) (w : World) (hr0 : Kd.C (Kd.int .u8) w A0 l0.length l0) (hc0 : l0.length ≤ c0) (hT : Tryz.Ln.Tabs w) (h : reply_first.f k l0 = some (r1, r2)) :
    Calls Tryz.prog 28 #[.slice A0 l0.length c0] w fun e w' => e = .returned (.tuple #[.int .i64 r1, .int .i64 r2]) ∧ Below w.heap.size w w' := by
  have HT0 := Aside0.mk hT
  clear hT
  have HR0 := Aside0.mk hr0
  have HC0 := Aside0.mk hc0
  clear hr0 hc0
  have HB := Aside0.mk (Below.refl w.heap.size w)
  have H : ((strings_Cut.f (strOfNums l0) (⟨#[13, 10]⟩ : ByteArray)).bind fun bt155 => (if bt155.2.2 = true then (reply_first.j0 k l0 bt155.1 (bt155.1.toList == ([] : List UInt8))) else (reply_first.j0 k l0 bt155.1 true))) = some (r1, r2) := h
  clear h
  replace H := Option.bind_eq_some_iff.mp H
  obtain ⟨⟨t155, t156, t157⟩, A20, H⟩ := H
  replace H : (if t157 = true then (reply_first.j0 k l0 t155 (t155.toList == ([] : List UInt8))) else (reply_first.j0 k l0 t155 true)) = some (r1, r2) := H
  have A2 := Aside0.mk A20
  clear A20
  have HC3 := Aside0.mk H
  clear H
  have hcv4 := Kd.C_string (P := Tryz.prog) (A := A0) (c := c0) Tryz.underlying22 Tryz.underlying5 Tryz.underlying9 HR0.out
  have hcv5 := fun n_ : Nat => Kd.C_string (P := Tryz.prog) (A := A0) (c := c0) Tryz.underlying22 Tryz.underlying5 Tryz.underlying9 (Kd.C_drewN HR0.out n_)
  go_enter Tryz.func28, Tryz.ntmps28
  go_upto_region 2 with (first | ((with_reducible refine gate_callee (f := 37) rfl ?_); refine goesL_ (some 15) rfl rfl Tryz.func37 (by kernel_rfl) rfl #[.string (strOfNums l0), .string (⟨#[13, 10]⟩ : ByteArray)] rfl (by (try simp only [List.map_toArray, List.map_cons, List.map_nil]); first | done | rfl | (simp only [List.length_drop, List.length_take]; rfl)) ?_; (with_reducible refine (strings_Cut.calls (strOfNums l0) (⟨#[13, 10]⟩ : ByteArray) t155 t156 t157 _ ?side1 A2.out).mono ?_); (case side1 => exact Tryz.Ln.tabs_below HT0.out (by repeat (first | (with_reducible first | exact HB.out | apply below_alloc | apply pw_below_drewN | apply below_drew1) | exact HB.out))); rintro e w6 ⟨rfl, hb⟩; refine ⟨_, rfl, ?_⟩; have n0_ := Aside0.mk (below_step (by repeat (first | (with_reducible first | exact HB.out | apply below_alloc | apply pw_below_drewN | apply below_drew1) | exact HB.out)) hb); clear HB; have HB := n0_; clear n0_; (try clear hb); (try clear hb2); (try clear hk); (try clear hi)))
  (try simp only [Act.put, List.setIfInBounds_toArray, List.set_cons_zero, List.set_cons_succ])
  go_cut [24] (fun v24 wc => ∃ (kq : Nat) (x24_2 : Bool), v24 = .bool x24_2 ∧ Aside0 (reply_first.j0 kq l0 t155 x24_2 = some (r1, r2)) ∧ Aside0 (kq ≤ k) ∧ Aside0 (Below w.heap.size w wc))
  case first =>
    have H := HC3.out
    clear HC3
    by_cases c7 : t157 = true
    · subst c7
      have H1 : (reply_first.j0 k l0 t155 (t155.toList == ([] : List UInt8))) = some (r1, r2) := by rw [if_pos rfl] at H; exact H
      clear H
      have H := H1
      clear H1
      have H' := Aside0.mk H
      clear H
      go_wp2
      go_meet
      case rel => exact ⟨_, ((t155.toList == ([] : List UInt8))), (by first | rfl | (simp; done) | (simp [*]; done)), H', ⟨by first | omega | exact Nat.le_refl _⟩, ⟨by repeat (first | (with_reducible first | exact HB.out | apply below_alloc | apply pw_below_drewN | apply below_drew1) | exact HB.out)⟩⟩
    · replace c7 := Bool.eq_false_iff.mpr c7
      subst c7
      have H1 : (reply_first.j0 k l0 t155 true) = some (r1, r2) := by rw [if_neg (show ¬ (false = true) by decide)] at H; exact H
      clear H
      have H := H1
      clear H1
      have H' := Aside0.mk H
      clear H
      go_wp2
      go_meet
      case rel => exact ⟨_, (true), (by first | rfl | (simp; done) | (simp [*]; done)), H', ⟨by first | omega | exact Nat.le_refl _⟩, ⟨by repeat (first | (with_reducible first | exact HB.out | apply below_alloc | apply pw_below_drewN | apply below_drew1) | exact HB.out)⟩⟩
  case rest =>
    clear HC3
    try clear c2
    try clear p2
    try clear c3
    try clear hcv4
    try clear hcv5
    try clear c7
    obtain ⟨kq, x24_2, rfl, HA, HJ2, HB⟩ := hcut
    cases kq with
    | zero => exact absurd HA.out (by simp [reply_first.j0])
    | succ kj2 =>
      have H := HA.out
      clear HA
      simp only [reply_first.j0] at H
      by_cases c8 : x24_2 = true
      · subst c8
        have H1 : (some ((-1), 0)) = some (r1, r2) := by rw [if_pos rfl] at H; exact H
        clear H
        have H := H1
        clear H1
        simp only [Option.some.injEq, Prod.mk.injEq] at H
        obtain ⟨rfl, rfl⟩ := H
        go_wp2
        go_ret2
        exact ⟨by first | rfl | (simp [errW_none, errW_some] <;> rfl) | (simp [*, errW_none, errW_some] <;> rfl), by repeat (first | (with_reducible first | exact HB.out | apply below_alloc | apply pw_below_drewN | apply below_drew1) | exact HB.out)⟩
      · replace c8 := Bool.eq_false_iff.mpr c8
        subst c8
        have H1 : (if 1 ≤ (t155.size : Int) then ((num_Parse.f (t155.extract 1 t155.size)).bind fun bt158 => (if bt158.2 = true then (reply_first.j1 kj2 l0 t155 (wrap64 ((t155.size : Int) + 2)) bt158.1 bt158.2 (bt158.1 == (-1))) else (reply_first.j1 kj2 l0 t155 (wrap64 ((t155.size : Int) + 2)) bt158.1 bt158.2 false))) else (none)) = some (r1, r2) := by rw [if_neg (show ¬ (false = true) by decide)] at H; exact H
        clear H
        have H := H1
        clear H1
        by_cases c9 : 1 ≤ (t155.size : Int)
        · rw [if_pos c9] at H
          have c9b0 := eq_true c9
          have c9b1 : decide (1 ≤ (t155.size : Int)) = true := decide_eq_true c9
          clear c9
          replace H := Option.bind_eq_some_iff.mp H
          obtain ⟨⟨t158, t159⟩, A100, H⟩ := H
          replace H : (if t159 = true then (reply_first.j1 kj2 l0 t155 (wrap64 ((t155.size : Int) + 2)) t158 t159 (t158 == (-1))) else (reply_first.j1 kj2 l0 t155 (wrap64 ((t155.size : Int) + 2)) t158 t159 false)) = some (r1, r2) := H
          have A10 := Aside0.mk A100
          clear A100
          have HC11 := Aside0.mk H
          clear H
          go_upto_region 6 with (first | ((with_reducible refine gate_callee (f := 38) rfl ?_); refine goesL_ (some 31) rfl rfl Tryz.func38 (by kernel_rfl) rfl #[.string (t155.extract 1 t155.size)] rfl (by (try simp only [List.map_toArray, List.map_cons, List.map_nil]); first | done | rfl | (simp only [List.length_drop, List.length_take]; rfl)) ?_; (with_reducible refine (num_Parse.calls (t155.extract 1 t155.size) t158 t159 _ ?side1 A10.out).mono ?_); (case side1 => exact Tryz.Ln.tabs_below HT0.out (by repeat (first | (with_reducible first | exact HB.out | apply below_alloc | apply pw_below_drewN | apply below_drew1) | exact HB.out))); rintro e w12 ⟨rfl, hb⟩; refine ⟨_, rfl, ?_⟩; have n0_ := Aside0.mk (below_step (by repeat (first | (with_reducible first | exact HB.out | apply below_alloc | apply pw_below_drewN | apply below_drew1) | exact HB.out)) hb); clear HB; have HB := n0_; clear n0_; (try clear hb); (try clear hb2); (try clear hk); (try clear hi)))
          (try simp only [Act.put, List.setIfInBounds_toArray, List.set_cons_zero, List.set_cons_succ])
          go_cut [10] (fun v10 wc => ∃ (kq : Nat) (x10_10 : Bool), v10 = .bool x10_10 ∧ Aside0 (reply_first.j1 kq l0 t155 (wrap64 ((t155.size : Int) + 2)) t158 t159 x10_10 = some (r1, r2)) ∧ Aside0 (kq ≤ kj2) ∧ Aside0 (Below w.heap.size w wc))
          case first =>
            have H := HC11.out
            clear HC11
            by_cases c13 : t159 = true
            · subst c13
              have H1 : (reply_first.j1 kj2 l0 t155 (wrap64 ((t155.size : Int) + 2)) t158 true (t158 == (-1))) = some (r1, r2) := by rw [if_pos rfl] at H; exact H
              clear H
              have H := H1
              clear H1
              have H' := Aside0.mk H
              clear H
              go_wp2
              go_meet
              case rel => exact ⟨_, ((t158 == (-1))), (by first | rfl | (simp; done) | (simp [*]; done)), H', ⟨by have := HJ2.out; first | omega | exact Nat.le_refl _⟩, ⟨by repeat (first | (with_reducible first | exact HB.out | apply below_alloc | apply pw_below_drewN | apply below_drew1) | exact HB.out)⟩⟩
            · replace c13 := Bool.eq_false_iff.mpr c13
              subst c13
              have H1 : (reply_first.j1 kj2 l0 t155 (wrap64 ((t155.size : Int) + 2)) t158 false false) = some (r1, r2) := by rw [if_neg (show ¬ (false = true) by decide)] at H; exact H
              clear H
              have H := H1
              clear H1
              have H' := Aside0.mk H
              clear H
              go_wp2
              go_meet
              case rel => exact ⟨_, (false), (by first | rfl | (simp; done) | (simp [*]; done)), H', ⟨by have := HJ2.out; first | omega | exact Nat.le_refl _⟩, ⟨by repeat (first | (with_reducible first | exact HB.out | apply below_alloc | apply pw_below_drewN | apply below_drew1) | exact HB.out)⟩⟩
          case rest =>
            clear HC11
            try clear c1
            try clear c2
            try clear p2
            try clear c3
            try clear hcv4
            try clear hcv5
            try clear p6
            try clear c7
            try clear c8
            try clear c9
            try clear c9b0
            try clear c9b1
            try clear c13
            try clear p2
            obtain ⟨kq, x10_10, rfl, HA, HJ10, HB⟩ := hcut
            cases kq with
            | zero => exact absurd HA.out (by simp [reply_first.j1])
            | succ kj10 =>
              have H := HA.out
              clear HA
              simp only [reply_first.j1] at H
              by_cases c14 : 0 < (t155.size : Int)
              · rw [if_pos c14] at H
                have c14b0 : decide (0 < (t155.size : Int)) = true := decide_eq_true c14
                have c14b1 : decide (0 < t155.size) = true := decide_eq_true (by omega)
                clear c14
                have HC16 := Aside0.mk H
                clear H
                have p15 : 0 ≤ (0 : Int) := (by omega)
                have q15 : 0 < t155.size := (by have : (0 : Int) < (t155.size : Int) := of_decide_eq_true (by first | (with_reducible assumption) | assumption); omega)
                have hx15 : ∀ h : 0 < t155.size, ((t155[0]'h).toNat : Int) = bt t155 0 := bt_at t155 0
                clear p15
                have qi15 : (0 < (t155.size : Int)) = True := eq_true (of_decide_eq_true (by first | (with_reducible assumption) | assumption))
                replace q15 := eq_true q15
                go_upto_region 8 with (fail)
                go_cut [41] (fun v41 wc => ∃ (kq : Nat) (x41_15 : Bool), v41 = .bool x41_15 ∧ Aside0 (reply_first.j2 kq l0 t155 (wrap64 ((t155.size : Int) + 2)) t158 t159 x10_10 (bt t155 0) x41_15 = some (r1, r2)) ∧ Aside0 (kq ≤ kj10) ∧ Aside0 (Below w.heap.size w wc))
                case first =>
                  have H := HC16.out
                  clear HC16
                  by_cases c17 : (bt t155 0) = 43
                  · rw [if_pos c17] at H
                    have c17b0 : ((bt t155 0) == 43) = true := beq_iff_eq.mpr c17
                    have c17b1 : ((bt t155 0) != 43) = false := bne_eq_false_iff_eq.mpr c17
                    clear c17
                    (first | rw [c17b0] | (simp only [i64_w, i32_w]; rw [c17b0]) | skip)
                    have H' := Aside0.mk H
                    clear H
                    go_wp2
                    go_meet
                    case rel => exact ⟨_, (true), (by first | rfl | (simp; done) | (simp [*]; done)), H', ⟨by have := HJ2.out; have := HJ10.out; first | omega | exact Nat.le_refl _⟩, ⟨by repeat (first | (with_reducible first | exact HB.out | apply below_alloc | apply pw_below_drewN | apply below_drew1) | exact HB.out)⟩⟩
                  · rw [if_neg c17] at H
                    have c17b0 : ((bt t155 0) == 43) = false := beq_eq_false_iff_ne.mpr c17
                    have c17b1 : ((bt t155 0) != 43) = true := bne_iff_ne.mpr c17
                    (first | rw [c17b0] | (simp only [i64_w, i32_w]; rw [c17b0]) | skip)
                    have H' := Aside0.mk H
                    clear H
                    go_wp2
                    go_meet
                    case rel => exact ⟨_, (((bt t155 0) == 45)), (by first | rfl | (simp; done) | (simp [*]; done)), H', ⟨by have := HJ2.out; have := HJ10.out; first | omega | exact Nat.le_refl _⟩, ⟨by repeat (first | (with_reducible first | exact HB.out | apply below_alloc | apply pw_below_drewN | apply below_drew1) | exact HB.out)⟩⟩
                case rest =>
                  clear HC16
                  try clear c1
                  try clear p1
                  try clear q1
                  try clear hx1
                  try clear qi1
                  try clear c2
                  try clear p2
                  try clear c3
                  try clear hcv4
                  try clear hcv5
                  try clear p6
                  try clear c7
                  try clear c8
                  try clear c9
                  try clear c9b0
                  try clear c9b1
                  try clear c13
                  try clear c14
                  try clear c14b0
                  try clear c14b1
                  try clear p15
                  try clear q15
                  try clear hx15
                  try clear qi15
                  try clear c17
                  try clear c17b0
                  try clear c17b1
                  try clear p15
                  try clear p2
                  try clear p6
                  try clear q15
                  obtain ⟨kq, x41_15, rfl, HA, HJ15, HB⟩ := hcut
                  cases kq with
                  | zero => exact absurd HA.out (by simp [reply_first.j2])
                  | succ kj15 =>
                    have H := HA.out
                    clear HA
                    simp only [reply_first.j2] at H
                    by_cases c18 : x41_15 = true
                    · subst c18
                      have H1 : ((strings_ContainsAny.f t155 (⟨#[13, 10]⟩ : ByteArray)).bind fun t160 => (if t160 = true then (some ((-1), 0)) else (some ((wrap64 ((t155.size : Int) + 2)), 0)))) = some (r1, r2) := by rw [if_pos rfl] at H; exact H
                      clear H
                      have H := H1
                      clear H1
                      replace H := Option.bind_eq_some_iff.mp H
                      obtain ⟨t160, A190, H⟩ := H
                      replace H : (if t160 = true then (some ((-1), 0)) else (some ((wrap64 ((t155.size : Int) + 2)), 0))) = some (r1, r2) := H
                      have A19 := Aside0.mk A190
                      clear A190
                      by_cases c20 : t160 = true
                      · subst c20
                        have H1 : (some ((-1), 0)) = some (r1, r2) := by rw [if_pos rfl] at H; exact H
                        clear H
                        have H := H1
                        clear H1
                        simp only [Option.some.injEq, Prod.mk.injEq] at H
                        obtain ⟨rfl, rfl⟩ := H
                        go_wp2_with (first | ((with_reducible refine gate_callee (f := 39) rfl ?_); refine goesL_ (some 49) rfl rfl Tryz.func39 (by kernel_rfl) rfl #[.string t155, .string (⟨#[13, 10]⟩ : ByteArray)] rfl (by (try simp only [List.map_toArray, List.map_cons, List.map_nil]); first | done | rfl | (simp only [List.length_drop, List.length_take]; rfl)) ?_; (with_reducible refine (strings_ContainsAny.calls t155 (⟨#[13, 10]⟩ : ByteArray) true _ A19.out).mono ?_); rintro e w21 ⟨rfl, hb⟩; refine ⟨_, rfl, ?_⟩; have n0_ := Aside0.mk (below_step (by repeat (first | (with_reducible first | exact HB.out | apply below_alloc | apply pw_below_drewN | apply below_drew1) | exact HB.out)) hb); clear HB; have HB := n0_; clear n0_; (try clear hb); (try clear hb2); (try clear hk); (try clear hi)))
                        go_ret2
                        exact ⟨by first | rfl | (simp [errW_none, errW_some] <;> rfl) | (simp [*, errW_none, errW_some] <;> rfl), by repeat (first | (with_reducible first | exact HB.out | apply below_alloc | apply pw_below_drewN | apply below_drew1) | exact HB.out)⟩
                      · replace c20 := Bool.eq_false_iff.mpr c20
                        subst c20
                        have H1 : (some ((wrap64 ((t155.size : Int) + 2)), 0)) = some (r1, r2) := by rw [if_neg (show ¬ (false = true) by decide)] at H; exact H
                        clear H
                        have H := H1
                        clear H1
                        simp only [Option.some.injEq, Prod.mk.injEq] at H
                        obtain ⟨rfl, rfl⟩ := H
                        go_wp2_with (first | ((with_reducible refine gate_callee (f := 39) rfl ?_); refine goesL_ (some 49) rfl rfl Tryz.func39 (by kernel_rfl) rfl #[.string t155, .string (⟨#[13, 10]⟩ : ByteArray)] rfl (by (try simp only [List.map_toArray, List.map_cons, List.map_nil]); first | done | rfl | (simp only [List.length_drop, List.length_take]; rfl)) ?_; (with_reducible refine (strings_ContainsAny.calls t155 (⟨#[13, 10]⟩ : ByteArray) false _ A19.out).mono ?_); rintro e w22 ⟨rfl, hb⟩; refine ⟨_, rfl, ?_⟩; have n0_ := Aside0.mk (below_step (by repeat (first | (with_reducible first | exact HB.out | apply below_alloc | apply pw_below_drewN | apply below_drew1) | exact HB.out)) hb); clear HB; have HB := n0_; clear n0_; (try clear hb); (try clear hb2); (try clear hk); (try clear hi)))
                        go_ret2
                        exact ⟨by first | rfl | (simp [errW_none, errW_some] <;> rfl) | (simp [*, errW_none, errW_some] <;> rfl), by repeat (first | (with_reducible first | exact HB.out | apply below_alloc | apply pw_below_drewN | apply below_drew1) | exact HB.out)⟩
                    · replace c18 := Bool.eq_false_iff.mpr c18
                      subst c18
                      have H1 : (if (bt t155 0) = 58 then (reply_first.j3 kj15 l0 (wrap64 ((t155.size : Int) + 2)) t158 t159 x10_10 (bt t155 0) t159) else (reply_first.j3 kj15 l0 (wrap64 ((t155.size : Int) + 2)) t158 t159 x10_10 (bt t155 0) false)) = some (r1, r2) := by rw [if_neg (show ¬ (false = true) by decide)] at H; exact H
                      clear H
                      have H := H1
                      clear H1
                      have HC23 := Aside0.mk H
                      clear H
                      go_upto_region 12 with (fail)
                      go_cut [51] (fun v51 wc => ∃ (kq : Nat) (x51_22 : Bool), v51 = .bool x51_22 ∧ Aside0 (reply_first.j3 kq l0 (wrap64 ((t155.size : Int) + 2)) t158 t159 x10_10 (bt t155 0) x51_22 = some (r1, r2)) ∧ Aside0 (kq ≤ kj15) ∧ Aside0 (Below w.heap.size w wc))
                      case first =>
                        have H := HC23.out
                        clear HC23
                        by_cases c24 : (bt t155 0) = 58
                        · rw [if_pos c24] at H
                          have c24b0 : ((bt t155 0) == 58) = true := beq_iff_eq.mpr c24
                          have c24b1 : ((bt t155 0) != 58) = false := bne_eq_false_iff_eq.mpr c24
                          clear c24
                          (first | rw [c24b0] | (simp only [i64_w, i32_w]; rw [c24b0]) | skip)
                          have H' := Aside0.mk H
                          clear H
                          go_wp2
                          go_meet
                          case rel => exact ⟨_, (t159), (by first | rfl | (simp; done) | (simp [*]; done)), H', ⟨by have := HJ2.out; have := HJ10.out; have := HJ15.out; first | omega | exact Nat.le_refl _⟩, ⟨by repeat (first | (with_reducible first | exact HB.out | apply below_alloc | apply pw_below_drewN | apply below_drew1) | exact HB.out)⟩⟩
                        · rw [if_neg c24] at H
                          have c24b0 : ((bt t155 0) == 58) = false := beq_eq_false_iff_ne.mpr c24
                          have c24b1 : ((bt t155 0) != 58) = true := bne_iff_ne.mpr c24
                          (first | rw [c24b0] | (simp only [i64_w, i32_w]; rw [c24b0]) | skip)
                          have H' := Aside0.mk H
                          clear H
                          go_wp2
                          go_meet
                          case rel => exact ⟨_, (false), (by first | rfl | (simp; done) | (simp [*]; done)), H', ⟨by have := HJ2.out; have := HJ10.out; have := HJ15.out; first | omega | exact Nat.le_refl _⟩, ⟨by repeat (first | (with_reducible first | exact HB.out | apply below_alloc | apply pw_below_drewN | apply below_drew1) | exact HB.out)⟩⟩
                      case rest =>
                        clear HC23
                        try clear c1
                        try clear p1
                        try clear q1
                        try clear hx1
                        try clear qi1
                        try clear c2
                        try clear p2
                        try clear c3
                        try clear hcv4
                        try clear hcv5
                        try clear p6
                        try clear c7
                        try clear c8
                        try clear c9
                        try clear c9b0
                        try clear c9b1
                        try clear c13
                        try clear c14
                        try clear c14b0
                        try clear c14b1
                        try clear p15
                        try clear q15
                        try clear hx15
                        try clear qi15
                        try clear c17
                        try clear c17b0
                        try clear c17b1
                        try clear c18
                        try clear c20
                        try clear c24
                        try clear c24b0
                        try clear c24b1
                        try clear p1
                        try clear p15
                        try clear p2
                        try clear p6
                        try clear q1
                        try clear q15
                        obtain ⟨kq, x51_22, rfl, HA, HJ22, HB⟩ := hcut
                        cases kq with
                        | zero => exact absurd HA.out (by simp [reply_first.j3])
                        | succ kj22 =>
                          have H := HA.out
                          clear HA
                          simp only [reply_first.j3] at H
                          have HC25 := Aside0.mk H
                          clear H
                          go_upto_if 51 with (fail)
                          go_cut [51] (fun v51 wc => ∃ (kq : Nat) (x51_24 : Bool), v51 = .bool x51_24 ∧ Aside0 (reply_first.j4 kq l0 (wrap64 ((t155.size : Int) + 2)) t158 t159 (bt t155 0) x51_24 = some (r1, r2)) ∧ Aside0 (kq ≤ kj22) ∧ Aside0 (Below w.heap.size w wc))
                          case first =>
                            have H := HC25.out
                            clear HC25
                            by_cases c26 : x51_22 = true
                            · subst c26
                              have H1 : (reply_first.j4 kj22 l0 (wrap64 ((t155.size : Int) + 2)) t158 t159 (bt t155 0) true) = some (r1, r2) := by rw [if_pos rfl] at H; exact H
                              clear H
                              have H := H1
                              clear H1
                              have H' := Aside0.mk H
                              clear H
                              go_wp2
                              go_meet
                              case rel => exact ⟨_, (true), (by first | rfl | (simp; done) | (simp [*]; done)), H', ⟨by have := HJ2.out; have := HJ10.out; have := HJ15.out; have := HJ22.out; first | omega | exact Nat.le_refl _⟩, ⟨by repeat (first | (with_reducible first | exact HB.out | apply below_alloc | apply pw_below_drewN | apply below_drew1) | exact HB.out)⟩⟩
                            · replace c26 := Bool.eq_false_iff.mpr c26
                              subst c26
                              have H1 : (if (bt t155 0) = 36 then (if x10_10 = true then (reply_first.j4 kj22 l0 (wrap64 ((t155.size : Int) + 2)) t158 t159 (bt t155 0) x10_10) else (if (bt t155 0) = 42 then (reply_first.j4 kj22 l0 (wrap64 ((t155.size : Int) + 2)) t158 t159 (bt t155 0) x10_10) else (reply_first.j4 kj22 l0 (wrap64 ((t155.size : Int) + 2)) t158 t159 (bt t155 0) false))) else (if (bt t155 0) = 42 then (reply_first.j4 kj22 l0 (wrap64 ((t155.size : Int) + 2)) t158 t159 (bt t155 0) x10_10) else (reply_first.j4 kj22 l0 (wrap64 ((t155.size : Int) + 2)) t158 t159 (bt t155 0) false))) = some (r1, r2) := by rw [if_neg (show ¬ (false = true) by decide)] at H; exact H
                              clear H
                              have H := H1
                              clear H1
                              by_cases c27 : (bt t155 0) = 36
                              · rw [if_pos c27] at H
                                have c27b0 : ((bt t155 0) == 36) = true := beq_iff_eq.mpr c27
                                have c27b1 : ((bt t155 0) != 36) = false := bne_eq_false_iff_eq.mpr c27
                                clear c27
                                (first | rw [c27b0] | (simp only [i64_w, i32_w]; rw [c27b0]) | skip)
                                by_cases c28 : x10_10 = true
                                · subst c28
                                  have H1 : (reply_first.j4 kj22 l0 (wrap64 ((t155.size : Int) + 2)) t158 t159 (bt t155 0) true) = some (r1, r2) := by rw [if_pos rfl] at H; exact H
                                  clear H
                                  have H := H1
                                  clear H1
                                  have H' := Aside0.mk H
                                  clear H
                                  go_wp2
                                  go_meet
                                  case rel => exact ⟨_, (true), (by first | rfl | (simp; done) | (simp [*]; done)), H', ⟨by have := HJ2.out; have := HJ10.out; have := HJ15.out; have := HJ22.out; first | omega | exact Nat.le_refl _⟩, ⟨by repeat (first | (with_reducible first | exact HB.out | apply below_alloc | apply pw_below_drewN | apply below_drew1) | exact HB.out)⟩⟩
                                · replace c28 := Bool.eq_false_iff.mpr c28
                                  subst c28
                                  have H1 : (if (bt t155 0) = 42 then (reply_first.j4 kj22 l0 (wrap64 ((t155.size : Int) + 2)) t158 t159 (bt t155 0) false) else (reply_first.j4 kj22 l0 (wrap64 ((t155.size : Int) + 2)) t158 t159 (bt t155 0) false)) = some (r1, r2) := by rw [if_neg (show ¬ (false = true) by decide)] at H; exact H
                                  clear H
                                  have H := H1
                                  clear H1
                                  by_cases c29 : (bt t155 0) = 42
                                  · rw [if_pos c29] at H
                                    have c29b0 : ((bt t155 0) == 42) = true := beq_iff_eq.mpr c29
                                    have c29b1 : ((bt t155 0) != 42) = false := bne_eq_false_iff_eq.mpr c29
                                    clear c29
                                    have H' := Aside0.mk H
                                    clear H
                                    go_wp2
                                    go_meet
                                    case rel => exact ⟨_, (false), (by first | rfl | (simp; done) | (simp [*]; done)), H', ⟨by have := HJ2.out; have := HJ10.out; have := HJ15.out; have := HJ22.out; first | omega | exact Nat.le_refl _⟩, ⟨by repeat (first | (with_reducible first | exact HB.out | apply below_alloc | apply pw_below_drewN | apply below_drew1) | exact HB.out)⟩⟩
                                  · rw [if_neg c29] at H
                                    have c29b0 : ((bt t155 0) == 42) = false := beq_eq_false_iff_ne.mpr c29
                                    have c29b1 : ((bt t155 0) != 42) = true := bne_iff_ne.mpr c29
                                    have H' := Aside0.mk H
                                    clear H
                                    go_wp2
                                    go_meet
                                    case rel => exact ⟨_, (false), (by first | rfl | (simp; done) | (simp [*]; done)), H', ⟨by have := HJ2.out; have := HJ10.out; have := HJ15.out; have := HJ22.out; first | omega | exact Nat.le_refl _⟩, ⟨by repeat (first | (with_reducible first | exact HB.out | apply below_alloc | apply pw_below_drewN | apply below_drew1) | exact HB.out)⟩⟩
                              · rw [if_neg c27] at H
                                have c27b0 : ((bt t155 0) == 36) = false := beq_eq_false_iff_ne.mpr c27
                                have c27b1 : ((bt t155 0) != 36) = true := bne_iff_ne.mpr c27
                                (first | rw [c27b0] | (simp only [i64_w, i32_w]; rw [c27b0]) | skip)
                                by_cases c30 : (bt t155 0) = 42
                                · rw [if_pos c30] at H
                                  have c30b0 : ((bt t155 0) == 42) = true := beq_iff_eq.mpr c30
                                  have c30b1 : ((bt t155 0) != 42) = false := bne_eq_false_iff_eq.mpr c30
                                  clear c30
                                  have H' := Aside0.mk H
                                  clear H
                                  go_wp2
                                  go_meet
                                  case rel => exact ⟨_, (x10_10), (by first | rfl | (simp; done) | (simp [*]; done)), H', ⟨by have := HJ2.out; have := HJ10.out; have := HJ15.out; have := HJ22.out; first | omega | exact Nat.le_refl _⟩, ⟨by repeat (first | (with_reducible first | exact HB.out | apply below_alloc | apply pw_below_drewN | apply below_drew1) | exact HB.out)⟩⟩
                                · rw [if_neg c30] at H
                                  have c30b0 : ((bt t155 0) == 42) = false := beq_eq_false_iff_ne.mpr c30
                                  have c30b1 : ((bt t155 0) != 42) = true := bne_iff_ne.mpr c30
                                  have H' := Aside0.mk H
                                  clear H
                                  go_wp2
                                  go_meet
                                  case rel => exact ⟨_, (false), (by first | rfl | (simp; done) | (simp [*]; done)), H', ⟨by have := HJ2.out; have := HJ10.out; have := HJ15.out; have := HJ22.out; first | omega | exact Nat.le_refl _⟩, ⟨by repeat (first | (with_reducible first | exact HB.out | apply below_alloc | apply pw_below_drewN | apply below_drew1) | exact HB.out)⟩⟩
                          case rest =>
                            clear HC25
                            try clear c1
                            try clear p1
                            try clear q1
                            try clear hx1
                            try clear qi1
                            try clear c2
                            try clear p2
                            try clear c3
                            try clear hcv4
                            try clear hcv5
                            try clear p6
                            try clear c7
                            try clear c8
                            try clear c9
                            try clear c9b0
                            try clear c9b1
                            try clear c13
                            try clear c14
                            try clear c14b0
                            try clear c14b1
                            try clear p15
                            try clear q15
                            try clear hx15
                            try clear qi15
                            try clear c17
                            try clear c17b0
                            try clear c17b1
                            try clear c18
                            try clear c20
                            try clear c24
                            try clear c24b0
                            try clear c24b1
                            try clear c26
                            try clear c27
                            try clear c27b0
                            try clear c27b1
                            try clear c28
                            try clear c29
                            try clear c29b0
                            try clear c29b1
                            try clear c30
                            try clear c30b0
                            try clear c30b1
                            try clear p1
                            try clear p15
                            try clear p2
                            try clear p6
                            try clear q1
                            try clear q15
                            obtain ⟨kq, x51_24, rfl, HA, HJ24, HB⟩ := hcut
                            cases kq with
                            | zero => exact absurd HA.out (by simp [reply_first.j4])
                            | succ kj24 =>
                              have H := HA.out
                              clear HA
                              simp only [reply_first.j4] at H
                              by_cases c31 : x51_24 = true
                              · subst c31
                                have H1 : (some ((wrap64 ((t155.size : Int) + 2)), 0)) = some (r1, r2) := by rw [if_pos rfl] at H; exact H
                                clear H
                                have H := H1
                                clear H1
                                simp only [Option.some.injEq, Prod.mk.injEq] at H
                                obtain ⟨rfl, rfl⟩ := H
                                go_wp2
                                go_ret2
                                exact ⟨by first | rfl | (simp [errW_none, errW_some] <;> rfl) | (simp [*, errW_none, errW_some] <;> rfl), by repeat (first | (with_reducible first | exact HB.out | apply below_alloc | apply pw_below_drewN | apply below_drew1) | exact HB.out)⟩
                              · replace c31 := Bool.eq_false_iff.mpr c31
                                subst c31
                                have H1 : (if (bt t155 0) = 36 then (if t159 = true then (if t158 ≥ 0 then (if t158 ≤ (wrap64 ((wrap64 ((l0.length : Int) - (wrap64 ((t155.size : Int) + 2)))) - 2)) then (if 0 ≤ (wrap64 ((wrap64 ((t155.size : Int) + 2)) + t158)) then (if (wrap64 ((wrap64 ((t155.size : Int) + 2)) + t158)) ≤ (wrap64 ((wrap64 ((wrap64 ((t155.size : Int) + 2)) + t158)) + 2)) then (if (wrap64 ((wrap64 ((wrap64 ((t155.size : Int) + 2)) + t158)) + 2)) ≤ (l0.length : Int) then (reply_first.j5 kj24 l0 (wrap64 ((t155.size : Int) + 2)) t158 t159 (bt t155 0) ((strOfNums ((l0.take ((wrap64 ((wrap64 ((wrap64 ((t155.size : Int) + 2)) + t158)) + 2)) : Int).toNat).drop ((wrap64 ((wrap64 ((t155.size : Int) + 2)) + t158)) : Int).toNat)).toList == ([13, 10] : List UInt8))) else (none)) else (none)) else (none)) else (reply_first.j5 kj24 l0 (wrap64 ((t155.size : Int) + 2)) t158 t159 (bt t155 0) false)) else (reply_first.j5 kj24 l0 (wrap64 ((t155.size : Int) + 2)) t158 t159 (bt t155 0) false)) else (reply_first.j5 kj24 l0 (wrap64 ((t155.size : Int) + 2)) t158 t159 (bt t155 0) false)) else (reply_first.j5 kj24 l0 (wrap64 ((t155.size : Int) + 2)) t158 t159 (bt t155 0) false)) = some (r1, r2) := by rw [if_neg (show ¬ (false = true) by decide)] at H; exact H
                                clear H
                                have H := H1
                                clear H1
                                have HC32 := Aside0.mk H
                                clear H
                                go_upto_region 16 with (fail)
                                go_cut [68] (fun v68 wc => ∃ (kq : Nat) (x68_31 : Bool), v68 = .bool x68_31 ∧ Aside0 (reply_first.j5 kq l0 (wrap64 ((t155.size : Int) + 2)) t158 t159 (bt t155 0) x68_31 = some (r1, r2)) ∧ Aside0 (kq ≤ kj24) ∧ Aside0 (Below w.heap.size w wc))
                                case first =>
                                  have H := HC32.out
                                  clear HC32
                                  by_cases c33 : (bt t155 0) = 36
                                  · rw [if_pos c33] at H
                                    have c33b0 : ((bt t155 0) == 36) = true := beq_iff_eq.mpr c33
                                    have c33b1 : ((bt t155 0) != 36) = false := bne_eq_false_iff_eq.mpr c33
                                    clear c33
                                    (first | rw [c33b0] | (simp only [i64_w, i32_w]; rw [c33b0]) | skip)
                                    by_cases c34 : t159 = true
                                    · subst c34
                                      have H1 : (if t158 ≥ 0 then (if t158 ≤ (wrap64 ((wrap64 ((l0.length : Int) - (wrap64 ((t155.size : Int) + 2)))) - 2)) then (if 0 ≤ (wrap64 ((wrap64 ((t155.size : Int) + 2)) + t158)) then (if (wrap64 ((wrap64 ((t155.size : Int) + 2)) + t158)) ≤ (wrap64 ((wrap64 ((wrap64 ((t155.size : Int) + 2)) + t158)) + 2)) then (if (wrap64 ((wrap64 ((wrap64 ((t155.size : Int) + 2)) + t158)) + 2)) ≤ (l0.length : Int) then (reply_first.j5 kj24 l0 (wrap64 ((t155.size : Int) + 2)) t158 true (bt t155 0) ((strOfNums ((l0.take ((wrap64 ((wrap64 ((wrap64 ((t155.size : Int) + 2)) + t158)) + 2)) : Int).toNat).drop ((wrap64 ((wrap64 ((t155.size : Int) + 2)) + t158)) : Int).toNat)).toList == ([13, 10] : List UInt8))) else (none)) else (none)) else (none)) else (reply_first.j5 kj24 l0 (wrap64 ((t155.size : Int) + 2)) t158 true (bt t155 0) false)) else (reply_first.j5 kj24 l0 (wrap64 ((t155.size : Int) + 2)) t158 true (bt t155 0) false)) = some (r1, r2) := by rw [if_pos rfl] at H; exact H
                                      clear H
                                      have H := H1
                                      clear H1
                                      by_cases c35 : t158 ≥ 0
                                      · rw [if_pos c35] at H
                                        have c35b0 : decide (0 ≤ t158) = true := decide_eq_true c35
                                        clear c35
                                        by_cases c36 : t158 ≤ (wrap64 ((wrap64 ((l0.length : Int) - (wrap64 ((t155.size : Int) + 2)))) - 2))
                                        · rw [if_pos c36] at H
                                          have c36b0 : decide (t158 ≤ (wrap64 ((wrap64 ((l0.length : Int) - (wrap64 ((t155.size : Int) + 2)))) - 2))) = true := decide_eq_true c36
                                          clear c36
                                          obtain ⟨ji37, hji37⟩ : ∃ j_ : Int, (wrap64 ((wrap64 ((t155.size : Int) + 2)) + t158)) = j_ := ⟨_, rfl⟩
                                          replace H : (if 0 ≤ (ji37) then (if (ji37) ≤ (wrap64 ((ji37) + 2)) then (if (wrap64 ((ji37) + 2)) ≤ (l0.length : Int) then (reply_first.j5 kj24 l0 (wrap64 ((t155.size : Int) + 2)) t158 true (bt t155 0) ((strOfNums ((l0.take ((wrap64 ((ji37) + 2)) : Int).toNat).drop ((ji37) : Int).toNat)).toList == ([13, 10] : List UInt8))) else (none)) else (none)) else (none)) = some (r1, r2) := by first | (rw [hji37] at H; exact H) | (simp only [hji37] at H ⊢; exact H)
                                          have hji37w : (IntKind.i64.wrap ((wrap64 ((t155.size : Int) + 2)) + t158)) = ji37 := (i64_w _).trans hji37
                                          by_cases c38 : 0 ≤ (ji37)
                                          · rw [if_pos c38] at H
                                            have c38b0 := eq_true c38
                                            have c38b1 : decide (0 ≤ (ji37)) = true := decide_eq_true c38
                                            clear c38
                                            by_cases c39 : (ji37) ≤ (wrap64 ((ji37) + 2))
                                            · rw [if_pos c39] at H
                                              have c39b0 := eq_true c39
                                              have c39b1 : decide ((ji37) ≤ (wrap64 ((ji37) + 2))) = true := decide_eq_true c39
                                              by_cases c40 : (wrap64 ((ji37) + 2)) ≤ (l0.length : Int)
                                              · rw [if_pos c40] at H
                                                have c40b0 := eq_true c40
                                                have c40b1 : decide ((wrap64 ((ji37) + 2)) ≤ (l0.length : Int)) = true := decide_eq_true c40
                                                have H' := Aside0.mk H
                                                clear H
                                                obtain ⟨i041, hi041, _, hsz41, _⟩ := info_parts info5
                                                obtain ⟨A41, hcut41, hA41, hC41⟩ := print_mid_of (P := Tryz.prog) (Value.int .u8) 0 22 5 .i64 .i64 Tryz.underlying22 hi041 hsz41 A0 c0 l0 (ji37) (wrap64 ((ji37) + 2)) (of_decide_eq_true (by first | (with_reducible assumption) | assumption)) (by first | omega | exact of_decide_eq_true (by first | (with_reducible assumption) | assumption)) (of_decide_eq_true (by first | (with_reducible assumption) | assumption)) HC0.out
                                                have HR161 := Aside0.mk (Kd.C_of_reads (h1 := fun _ => rfl) (hA41 _ (Kd.reads_of_C HR0.out)))
                                                have HC161 := Aside0.mk hC41
                                                clear hA41 hC41 hi041 hsz41
                                                have hcv42 := Kd.C_string (P := Tryz.prog) (A := A41) (c := (c0 - (ji37).toNat)) Tryz.underlying22 Tryz.underlying5 Tryz.underlying9 (Kd.C_below HR161.out HB.out)
                                                have hcv43 := fun n_ : Nat => Kd.C_string (P := Tryz.prog) (A := A41) (c := (c0 - (ji37).toNat)) Tryz.underlying22 Tryz.underlying5 Tryz.underlying9 (Kd.C_drewN (Kd.C_below HR161.out HB.out) n_)
                                                (try (have hz_ : (List.drop ((ji37)).toNat (List.take ((wrap64 ((ji37) + 2))).toNat l0)).length = ((wrap64 ((ji37) + 2))).toNat - ((ji37)).toNat := (by have h_ := of_decide_eq_true (show decide ((wrap64 ((ji37) + 2)) ≤ (l0.length : Int)) = true by assumption); simp only [List.length_drop, List.length_take]; omega)); (try rw [hz_] at hcv42); (try rw [hz_] at hcv43); (try clear hz_))
                                                go_wp2
                                                go_meet
                                                case rel => exact ⟨_, (((strOfNums ((l0.take ((wrap64 ((ji37) + 2)) : Int).toNat).drop ((ji37) : Int).toNat)).toList == ([13, 10] : List UInt8))), (by first | rfl | (simp; done) | (simp only [← hji37] <;> (first | rfl | simp)) | (simp [*]; done)), H', ⟨by have := HJ2.out; have := HJ10.out; have := HJ15.out; have := HJ22.out; have := HJ24.out; first | omega | exact Nat.le_refl _⟩, ⟨by repeat (first | (with_reducible first | exact HB.out | apply below_alloc | apply pw_below_drewN | apply below_drew1) | exact HB.out)⟩⟩
                                              · rw [if_neg c40] at H
                                                exact absurd H (by simp)
                                            · rw [if_neg c39] at H
                                              exact absurd H (by simp)
                                          · rw [if_neg c38] at H
                                            exact absurd H (by simp)
                                        · rw [if_neg c36] at H
                                          have c36b0 : decide (t158 ≤ (wrap64 ((wrap64 ((l0.length : Int) - (wrap64 ((t155.size : Int) + 2)))) - 2))) = false := decide_eq_false c36
                                          clear c36
                                          have H' := Aside0.mk H
                                          clear H
                                          go_wp2
                                          go_meet
                                          case rel => exact ⟨_, (false), (by first | rfl | (simp; done) | (simp [*]; done)), H', ⟨by have := HJ2.out; have := HJ10.out; have := HJ15.out; have := HJ22.out; have := HJ24.out; first | omega | exact Nat.le_refl _⟩, ⟨by repeat (first | (with_reducible first | exact HB.out | apply below_alloc | apply pw_below_drewN | apply below_drew1) | exact HB.out)⟩⟩
                                      · rw [if_neg c35] at H
                                        have c35b0 : decide (0 ≤ t158) = false := decide_eq_false c35
                                        clear c35
                                        have H' := Aside0.mk H
                                        clear H
                                        go_wp2
                                        go_meet
                                        case rel => exact ⟨_, (false), (by first | rfl | (simp; done) | (simp [*]; done)), H', ⟨by have := HJ2.out; have := HJ10.out; have := HJ15.out; have := HJ22.out; have := HJ24.out; first | omega | exact Nat.le_refl _⟩, ⟨by repeat (first | (with_reducible first | exact HB.out | apply below_alloc | apply pw_below_drewN | apply below_drew1) | exact HB.out)⟩⟩
                                    · replace c34 := Bool.eq_false_iff.mpr c34
                                      subst c34
                                      have H1 : (reply_first.j5 kj24 l0 (wrap64 ((t155.size : Int) + 2)) t158 false (bt t155 0) false) = some (r1, r2) := by rw [if_neg (show ¬ (false = true) by decide)] at H; exact H
                                      clear H
                                      have H := H1
                                      clear H1
                                      have H' := Aside0.mk H
                                      clear H
                                      go_wp2
                                      go_meet
                                      case rel => exact ⟨_, (false), (by first | rfl | (simp; done) | (simp [*]; done)), H', ⟨by have := HJ2.out; have := HJ10.out; have := HJ15.out; have := HJ22.out; have := HJ24.out; first | omega | exact Nat.le_refl _⟩, ⟨by repeat (first | (with_reducible first | exact HB.out | apply below_alloc | apply pw_below_drewN | apply below_drew1) | exact HB.out)⟩⟩
                                  · rw [if_neg c33] at H
                                    have c33b0 : ((bt t155 0) == 36) = false := beq_eq_false_iff_ne.mpr c33
                                    have c33b1 : ((bt t155 0) != 36) = true := bne_iff_ne.mpr c33
                                    (first | rw [c33b0] | (simp only [i64_w, i32_w]; rw [c33b0]) | skip)
                                    have H' := Aside0.mk H
                                    clear H
                                    go_wp2
                                    go_meet
                                    case rel => exact ⟨_, (false), (by first | rfl | (simp; done) | (simp [*]; done)), H', ⟨by have := HJ2.out; have := HJ10.out; have := HJ15.out; have := HJ22.out; have := HJ24.out; first | omega | exact Nat.le_refl _⟩, ⟨by repeat (first | (with_reducible first | exact HB.out | apply below_alloc | apply pw_below_drewN | apply below_drew1) | exact HB.out)⟩⟩
                                case rest =>
                                  clear HC32
                                  try clear c1
                                  try clear p1
                                  try clear q1
                                  try clear hx1
                                  try clear qi1
                                  try clear c2
                                  try clear p2
                                  try clear c3
                                  try clear c4
                                  try clear hcv4
                                  try clear hcv5
                                  try clear p6
                                  try clear c7
                                  try clear c8
                                  try clear c9
                                  try clear c9b0
                                  try clear c9b1
                                  try clear c13
                                  try clear c14
                                  try clear c14b0
                                  try clear c14b1
                                  try clear p15
                                  try clear q15
                                  try clear hx15
                                  try clear qi15
                                  try clear c17
                                  try clear c17b0
                                  try clear c17b1
                                  try clear c18
                                  try clear c20
                                  try clear c24
                                  try clear c24b0
                                  try clear c24b1
                                  try clear c26
                                  try clear c27
                                  try clear c27b0
                                  try clear c27b1
                                  try clear c28
                                  try clear c29
                                  try clear c29b0
                                  try clear c29b1
                                  try clear c30
                                  try clear c30b0
                                  try clear c30b1
                                  try clear c31
                                  try clear c33
                                  try clear c33b0
                                  try clear c33b1
                                  try clear c34
                                  try clear c35
                                  try clear c35b0
                                  try clear c36
                                  try clear c36b0
                                  try clear c37
                                  try clear c38
                                  try clear c38b0
                                  try clear c38b1
                                  try clear c39
                                  try clear c39b0
                                  try clear c39b1
                                  try clear c40
                                  try clear c40b0
                                  try clear c40b1
                                  try clear hcv42
                                  try clear hcv43
                                  try clear p1
                                  try clear p15
                                  try clear p2
                                  try clear p6
                                  try clear q1
                                  try clear q15
                                  obtain ⟨kq, x68_31, rfl, HA, HJ31, HB⟩ := hcut
                                  cases kq with
                                  | zero => exact absurd HA.out (by simp [reply_first.j5])
                                  | succ kj31 =>
                                    have H := HA.out
                                    clear HA
                                    simp only [reply_first.j5] at H
                                    by_cases c44 : x68_31 = true
                                    · subst c44
                                      have H1 : (some (wrap64 ((wrap64 ((wrap64 ((t155.size : Int) + 2)) + t158)) + 2), 0)) = some (r1, r2) := by rw [if_pos rfl] at H; exact H
                                      clear H
                                      have H := H1
                                      clear H1
                                      simp only [Option.some.injEq, Prod.mk.injEq] at H
                                      obtain ⟨rfl, rfl⟩ := H
                                      go_wp2
                                      go_ret2
                                      exact ⟨by first | rfl | (simp [errW_none, errW_some] <;> rfl) | (simp [*, errW_none, errW_some] <;> rfl), by repeat (first | (with_reducible first | exact HB.out | apply below_alloc | apply pw_below_drewN | apply below_drew1) | exact HB.out)⟩
                                    · replace c44 := Bool.eq_false_iff.mpr c44
                                      subst c44
                                      have H1 : (if (bt t155 0) = 42 then (if t159 = true then (if t158 ≥ 0 then (if t158 ≤ (l0.length : Int) then (some ((wrap64 ((t155.size : Int) + 2)), t158)) else (some ((-1), 0))) else (some ((-1), 0))) else (some ((-1), 0))) else (some ((-1), 0))) = some (r1, r2) := by rw [if_neg (show ¬ (false = true) by decide)] at H; exact H
                                      clear H
                                      have H := H1
                                      clear H1
                                      by_cases c45 : (bt t155 0) = 42
                                      · rw [if_pos c45] at H
                                        have c45b0 : ((bt t155 0) == 42) = true := beq_iff_eq.mpr c45
                                        have c45b1 : ((bt t155 0) != 42) = false := bne_eq_false_iff_eq.mpr c45
                                        clear c45
                                        by_cases c46 : t159 = true
                                        · subst c46
                                          have H1 : (if t158 ≥ 0 then (if t158 ≤ (l0.length : Int) then (some ((wrap64 ((t155.size : Int) + 2)), t158)) else (some ((-1), 0))) else (some ((-1), 0))) = some (r1, r2) := by rw [if_pos rfl] at H; exact H
                                          clear H
                                          have H := H1
                                          clear H1
                                          by_cases c47 : t158 ≥ 0
                                          · rw [if_pos c47] at H
                                            have c47b0 : decide (0 ≤ t158) = true := decide_eq_true c47
                                            clear c47
                                            by_cases c48 : t158 ≤ (l0.length : Int)
                                            · rw [if_pos c48] at H
                                              have c48b0 : decide (t158 ≤ (l0.length : Int)) = true := decide_eq_true c48
                                              clear c48
                                              simp only [Option.some.injEq, Prod.mk.injEq] at H
                                              obtain ⟨rfl, rfl⟩ := H
                                              go_wp2
                                              go_ret2
                                              exact ⟨by first | rfl | (simp [errW_none, errW_some] <;> rfl) | (simp [*, errW_none, errW_some] <;> rfl), by repeat (first | (with_reducible first | exact HB.out | apply below_alloc | apply pw_below_drewN | apply below_drew1) | exact HB.out)⟩
                                            · rw [if_neg c48] at H
                                              have c48b0 : decide (t158 ≤ (l0.length : Int)) = false := decide_eq_false c48
                                              clear c48
                                              simp only [Option.some.injEq, Prod.mk.injEq] at H
                                              obtain ⟨rfl, rfl⟩ := H
                                              go_wp2
                                              go_ret2
                                              exact ⟨by first | rfl | (simp [errW_none, errW_some] <;> rfl) | (simp [*, errW_none, errW_some] <;> rfl), by repeat (first | (with_reducible first | exact HB.out | apply below_alloc | apply pw_below_drewN | apply below_drew1) | exact HB.out)⟩
                                          · rw [if_neg c47] at H
                                            have c47b0 : decide (0 ≤ t158) = false := decide_eq_false c47
                                            clear c47
                                            simp only [Option.some.injEq, Prod.mk.injEq] at H
                                            obtain ⟨rfl, rfl⟩ := H
                                            go_wp2
                                            go_ret2
                                            exact ⟨by first | rfl | (simp [errW_none, errW_some] <;> rfl) | (simp [*, errW_none, errW_some] <;> rfl), by repeat (first | (with_reducible first | exact HB.out | apply below_alloc | apply pw_below_drewN | apply below_drew1) | exact HB.out)⟩
                                        · replace c46 := Bool.eq_false_iff.mpr c46
                                          subst c46
                                          have H1 : (some ((-1), 0)) = some (r1, r2) := by rw [if_neg (show ¬ (false = true) by decide)] at H; exact H
                                          clear H
                                          have H := H1
                                          clear H1
                                          simp only [Option.some.injEq, Prod.mk.injEq] at H
                                          obtain ⟨rfl, rfl⟩ := H
                                          go_wp2
                                          go_ret2
                                          exact ⟨by first | rfl | (simp [errW_none, errW_some] <;> rfl) | (simp [*, errW_none, errW_some] <;> rfl), by repeat (first | (with_reducible first | exact HB.out | apply below_alloc | apply pw_below_drewN | apply below_drew1) | exact HB.out)⟩
                                      · rw [if_neg c45] at H
                                        have c45b0 : ((bt t155 0) == 42) = false := beq_eq_false_iff_ne.mpr c45
                                        have c45b1 : ((bt t155 0) != 42) = true := bne_iff_ne.mpr c45
                                        simp only [Option.some.injEq, Prod.mk.injEq] at H
                                        obtain ⟨rfl, rfl⟩ := H
                                        go_wp2
                                        go_ret2
                                        exact ⟨by first | rfl | (simp [errW_none, errW_some] <;> rfl) | (simp [*, errW_none, errW_some] <;> rfl), by repeat (first | (with_reducible first | exact HB.out | apply below_alloc | apply pw_below_drewN | apply below_drew1) | exact HB.out)⟩
              · rw [if_neg c14] at H
                exact absurd H (by simp)
        · rw [if_neg c9] at H
          exact absurd H (by simp)

end Go.Proofs.YtefpcffompgceaaGreatDoor.Zr
