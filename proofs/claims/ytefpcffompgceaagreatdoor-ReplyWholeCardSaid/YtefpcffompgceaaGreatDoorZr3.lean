/- Printed by a program of this session. -/
import Derived.Test.YtefpcffompgceaaGreatDoorZr0
import Derived.Test.YtefpcffompgceaaGreatDoorZr1
import Derived.Test.YtefpcffompgceaaGreatDoorZr2
import Derived.Test.YtefpcffompgceaaGreatDoorTabs
namespace Go.Proofs.YtefpcffompgceaaGreatDoor.Zr
open Go.RowKit Go.Proofs.YtefpcffompgceaaGreatDoorW.PrintWords Go.Proofs.YtefpcffompgceaaGreatDoorW.PrintLast Go.Proofs.YtefpcffompgceaaGreatDoorW.PrintMore
attribute [local go_sem] max2_int min2_int max_two min_two max_three min_three max_four min_four   -- for this text's walks alone
set_option linter.unusedVariables false
set_option linter.unusedSimpArgs false

/-! ### tipstaffref05_one: function 30 -/
mutual
def tipstaffref05_one.j0 : Nat → List Int → ByteArray → Int → Bool → Option (Int × Int)
  | 0, _, _, _, _ => none
  | k + 1, x0, x6, x7, x22 => if x22 = true then (some ((-1), 0)) else (if 1 ≤ (x6.size : Int) then ((tipstaffref01_Parse.f k (x6.extract 1 x6.size)).bind fun bt122 => (if 0 < (x6.size : Int) then (if (bt x6 0) = 43 then (tipstaffref05_one.j1 k x0 x6 x7 bt122.1 bt122.2 (bt x6 0) ((bt x6 0) == 43)) else (tipstaffref05_one.j1 k x0 x6 x7 bt122.1 bt122.2 (bt x6 0) ((bt x6 0) == 45))) else (none))) else (none))
def tipstaffref05_one.j1 : Nat → List Int → ByteArray → Int → Int → Bool → Int → Bool → Option (Int × Int)
  | 0, _, _, _, _, _, _, _ => none
  | k + 1, x0, x6, x7, x8, x9, x30, x31 => if x31 = true then ((tipstaffref05_clean.f k x6).bind fun t124 => (if t124 = true then (some (x7, 0)) else (some ((-1), 0)))) else (if x30 = 58 then (if x9 = true then (some (x7, 0)) else (some ((-1), 0))) else (if x30 = 36 then (if x9 = true then (tipstaffref05_one.j2 k x0 x7 x8 x9 (x8 == (-1))) else (tipstaffref05_one.j2 k x0 x7 x8 x9 false)) else (if x30 = 42 then (if x9 = true then (tipstaffref05_one.j3 k x0 x7 x8 x9 (x8 == (-1))) else (tipstaffref05_one.j3 k x0 x7 x8 x9 false)) else (some ((-1), 0)))))
def tipstaffref05_one.j2 : Nat → List Int → Int → Int → Bool → Bool → Option (Int × Int)
  | 0, _, _, _, _, _ => none
  | k + 1, x0, x7, x8, x9, x47 => if x47 = true then (some (x7, 0)) else (if x9 = true then (if x8 ≥ 0 then (if x8 ≤ (wrap64 ((wrap64 ((x0.length : Int) - x7)) - 2)) then (if 0 ≤ (wrap64 (x7 + x8)) then (if (wrap64 (x7 + x8)) < (x0.length : Int) then (if (rd x0 (wrap64 (x7 + x8))) = 13 then (if 0 ≤ (wrap64 ((wrap64 (x7 + x8)) + 1)) then (if (wrap64 ((wrap64 (x7 + x8)) + 1)) < (x0.length : Int) then (if (rd x0 (wrap64 ((wrap64 (x7 + x8)) + 1))) = 10 then (some (wrap64 ((wrap64 (x7 + x8)) + 2), 0)) else (some ((-1), 0))) else (none)) else (none)) else (some ((-1), 0))) else (none)) else (none)) else (some ((-1), 0))) else (some ((-1), 0))) else (some ((-1), 0)))
def tipstaffref05_one.j3 : Nat → List Int → Int → Int → Bool → Bool → Option (Int × Int)
  | 0, _, _, _, _, _ => none
  | k + 1, x0, x7, x8, x9, x92 => if x92 = true then (some (x7, 0)) else (if x9 = true then (if x8 ≥ 0 then (if x8 ≤ (x0.length : Int) then (some (x7, x8)) else (some ((-1), 0))) else (some ((-1), 0))) else (some ((-1), 0)))
end
def tipstaffref05_one.f (k : Nat) (l0 : List Int) (a1 : Int) : Option (Int × Int) := (tipstaffref05_line.f k l0 a1).bind fun bt120 => (if bt120.2 < 0 then (tipstaffref05_one.j0 k l0 bt120.1 bt120.2 true) else (tipstaffref05_one.j0 k l0 bt120.1 bt120.2 ((bt120.1.size : Int) == 0)))
theorem tipstaffref05_one.mono_l : ∀ k, (∀ y0 y1 y2 y3, LeO (tipstaffref05_one.j0 k y0 y1 y2 y3) (tipstaffref05_one.j0 (k + 1) y0 y1 y2 y3)) ∧ (∀ y0 y1 y2 y3 y4 y5 y6, LeO (tipstaffref05_one.j1 k y0 y1 y2 y3 y4 y5 y6) (tipstaffref05_one.j1 (k + 1) y0 y1 y2 y3 y4 y5 y6)) ∧ (∀ y0 y1 y2 y3 y4, LeO (tipstaffref05_one.j2 k y0 y1 y2 y3 y4) (tipstaffref05_one.j2 (k + 1) y0 y1 y2 y3 y4)) ∧ (∀ y0 y1 y2 y3 y4, LeO (tipstaffref05_one.j3 k y0 y1 y2 y3 y4) (tipstaffref05_one.j3 (k + 1) y0 y1 y2 y3 y4))
  | 0 => ⟨fun _ _ _ _ r h => by simp [tipstaffref05_one.j0] at h, fun _ _ _ _ _ _ _ r h => by simp [tipstaffref05_one.j1] at h, fun _ _ _ _ _ r h => by simp [tipstaffref05_one.j2] at h, fun _ _ _ _ _ r h => by simp [tipstaffref05_one.j3] at h⟩
  | k + 1 => by
    obtain ⟨ih0, ih1, ih2, ih3⟩ := tipstaffref05_one.mono_l k
    refine ⟨?_, ?_, ?_, ?_⟩
    · intro y0 y1 y2 y3
      unfold tipstaffref05_one.j0
      repeat' first
      | (with_reducible exact ih0 _ _ _ _)
      | (with_reducible exact ih1 _ _ _ _ _ _ _)
      | (with_reducible exact ih2 _ _ _ _ _)
      | (with_reducible exact ih3 _ _ _ _ _)
      | (with_reducible exact tipstaffref01_Parse.mono _ _)
      | (with_reducible exact tipstaffref05_clean.mono _ _)
      | (with_reducible exact tipstaffref05_line.mono _ _ _)
      | (with_reducible exact LeO.refl _)
      | (with_reducible exact LeO.none _)
      | (with_reducible refine LeO.ite ?_ ?_)
      | (with_reducible refine LeO.bind ?_ (fun _ => ?_))
      | exact ih0 _ _ _ _
      | exact ih1 _ _ _ _ _ _ _
      | exact ih2 _ _ _ _ _
      | exact ih3 _ _ _ _ _
      | exact tipstaffref01_Parse.mono _ _
      | exact tipstaffref05_clean.mono _ _
      | exact tipstaffref05_line.mono _ _ _
      | exact LeO.none _
      | refine LeO.ite ?_ ?_
      | refine LeO.bind ?_ (fun _ => ?_)
    · intro y0 y1 y2 y3 y4 y5 y6
      unfold tipstaffref05_one.j1
      repeat' first
      | (with_reducible exact ih0 _ _ _ _)
      | (with_reducible exact ih1 _ _ _ _ _ _ _)
      | (with_reducible exact ih2 _ _ _ _ _)
      | (with_reducible exact ih3 _ _ _ _ _)
      | (with_reducible exact tipstaffref01_Parse.mono _ _)
      | (with_reducible exact tipstaffref05_clean.mono _ _)
      | (with_reducible exact tipstaffref05_line.mono _ _ _)
      | (with_reducible exact LeO.refl _)
      | (with_reducible exact LeO.none _)
      | (with_reducible refine LeO.ite ?_ ?_)
      | (with_reducible refine LeO.bind ?_ (fun _ => ?_))
      | exact ih0 _ _ _ _
      | exact ih1 _ _ _ _ _ _ _
      | exact ih2 _ _ _ _ _
      | exact ih3 _ _ _ _ _
      | exact tipstaffref01_Parse.mono _ _
      | exact tipstaffref05_clean.mono _ _
      | exact tipstaffref05_line.mono _ _ _
      | exact LeO.none _
      | refine LeO.ite ?_ ?_
      | refine LeO.bind ?_ (fun _ => ?_)
    · intro y0 y1 y2 y3 y4
      unfold tipstaffref05_one.j2
      repeat' first
      | (with_reducible exact ih0 _ _ _ _)
      | (with_reducible exact ih1 _ _ _ _ _ _ _)
      | (with_reducible exact ih2 _ _ _ _ _)
      | (with_reducible exact ih3 _ _ _ _ _)
      | (with_reducible exact tipstaffref01_Parse.mono _ _)
      | (with_reducible exact tipstaffref05_clean.mono _ _)
      | (with_reducible exact tipstaffref05_line.mono _ _ _)
      | (with_reducible exact LeO.refl _)
      | (with_reducible exact LeO.none _)
      | (with_reducible refine LeO.ite ?_ ?_)
      | (with_reducible refine LeO.bind ?_ (fun _ => ?_))
      | exact ih0 _ _ _ _
      | exact ih1 _ _ _ _ _ _ _
      | exact ih2 _ _ _ _ _
      | exact ih3 _ _ _ _ _
      | exact tipstaffref01_Parse.mono _ _
      | exact tipstaffref05_clean.mono _ _
      | exact tipstaffref05_line.mono _ _ _
      | exact LeO.none _
      | refine LeO.ite ?_ ?_
      | refine LeO.bind ?_ (fun _ => ?_)
    · intro y0 y1 y2 y3 y4
      unfold tipstaffref05_one.j3
      repeat' first
      | (with_reducible exact ih0 _ _ _ _)
      | (with_reducible exact ih1 _ _ _ _ _ _ _)
      | (with_reducible exact ih2 _ _ _ _ _)
      | (with_reducible exact ih3 _ _ _ _ _)
      | (with_reducible exact tipstaffref01_Parse.mono _ _)
      | (with_reducible exact tipstaffref05_clean.mono _ _)
      | (with_reducible exact tipstaffref05_line.mono _ _ _)
      | (with_reducible exact LeO.refl _)
      | (with_reducible exact LeO.none _)
      | (with_reducible refine LeO.ite ?_ ?_)
      | (with_reducible refine LeO.bind ?_ (fun _ => ?_))
      | exact ih0 _ _ _ _
      | exact ih1 _ _ _ _ _ _ _
      | exact ih2 _ _ _ _ _
      | exact ih3 _ _ _ _ _
      | exact tipstaffref01_Parse.mono _ _
      | exact tipstaffref05_clean.mono _ _
      | exact tipstaffref05_line.mono _ _ _
      | exact LeO.none _
      | refine LeO.ite ?_ ?_
      | refine LeO.bind ?_ (fun _ => ?_)
theorem tipstaffref05_one.mono : ∀ a0 a1 k, LeO (tipstaffref05_one.f k a0 a1) (tipstaffref05_one.f (k + 1) a0 a1) := by
  intro a0 a1 k
  obtain ⟨ih0, ih1, ih2, ih3⟩ := tipstaffref05_one.mono_l k
  unfold tipstaffref05_one.f
  repeat' first
      | (with_reducible exact ih0 _ _ _ _)
      | (with_reducible exact ih1 _ _ _ _ _ _ _)
      | (with_reducible exact ih2 _ _ _ _ _)
      | (with_reducible exact ih3 _ _ _ _ _)
      | (with_reducible exact tipstaffref01_Parse.mono _ _)
      | (with_reducible exact tipstaffref05_clean.mono _ _)
      | (with_reducible exact tipstaffref05_line.mono _ _ _)
      | (with_reducible exact LeO.refl _)
      | (with_reducible exact LeO.none _)
      | (with_reducible refine LeO.ite ?_ ?_)
      | (with_reducible refine LeO.bind ?_ (fun _ => ?_))
      | exact ih0 _ _ _ _
      | exact ih1 _ _ _ _ _ _ _
      | exact ih2 _ _ _ _ _
      | exact ih3 _ _ _ _ _
      | exact tipstaffref01_Parse.mono _ _
      | exact tipstaffref05_clean.mono _ _
      | exact tipstaffref05_line.mono _ _ _
      | exact LeO.none _
      | refine LeO.ite ?_ ?_
      | refine LeO.bind ?_ (fun _ => ?_)
set_option maxHeartbeats 8000000 in
set_option maxRecDepth 100000 in
theorem tipstaffref05_one.calls (k : Nat) (A0 : Option Addr) (c0 : Nat) (l0 : List Int) (a1 : Int) (r1 : Int) (r2 : Int) (w : World) (hr0 : Kd.C (Kd.int .u8) w A0 l0.length l0) (hc0 : l0.length ≤ c0) (h : tipstaffref05_one.f k l0 a1 = some (r1, r2)) :
    Calls Tryz.prog 30 #[.slice A0 l0.length c0, .int .i64 a1] w fun e w' => e = .returned (.tuple #[.int .i64 r1, .int .i64 r2]) ∧ Below w.heap.size w w' := by
  have HR0 := Aside0.mk hr0
  have HC0 := Aside0.mk hc0
  clear hr0 hc0
  have HB := Aside0.mk (Below.refl w.heap.size w)
  have H : ((tipstaffref05_line.f k l0 a1).bind fun bt120 => (if bt120.2 < 0 then (tipstaffref05_one.j0 k l0 bt120.1 bt120.2 true) else (tipstaffref05_one.j0 k l0 bt120.1 bt120.2 ((bt120.1.size : Int) == 0)))) = some (r1, r2) := h
  clear h
  replace H := Option.bind_eq_some_iff.mp H
  obtain ⟨⟨t120, t121⟩, A30, H⟩ := H
  replace H : (if t121 < 0 then (tipstaffref05_one.j0 k l0 t120 t121 true) else (tipstaffref05_one.j0 k l0 t120 t121 ((t120.size : Int) == 0))) = some (r1, r2) := H
  have A3 := Aside0.mk A30
  clear A30
  have HC4 := Aside0.mk H
  clear H
  go_enter Tryz.func30, Tryz.ntmps30
  go_upto_region 2 with (first | ((with_reducible refine gate_callee (f := 40) rfl ?_); refine goesL_ (some 13) rfl rfl Tryz.func40 (by kernel_rfl) rfl #[.slice A0 l0.length c0, .int .i64 a1] rfl (by (try simp only [List.map_toArray, List.map_cons, List.map_nil]); first | done | rfl | (simp only [List.length_drop, List.length_take]; rfl)) ?_; (with_reducible refine (tipstaffref05_line.calls k _ _ l0 a1 t120 t121 _ ?side1 ?side2 A3.out).mono ?_); (case side1 => repeat (first | exact HR0.out | (with_reducible refine Kd.C_alloc ?_ _) | (with_reducible refine Kd.C_drewN ?_ _) | (with_reducible refine Kd.C_drew ?_))); (case side2 => exact HC0.out); rintro e w' ⟨rfl, ⟨nd, rfl⟩⟩; refine ⟨_, rfl, ?_⟩))
  (try simp only [Act.put, List.setIfInBounds_toArray, List.set_cons_zero, List.set_cons_succ])
  go_cut [22] (fun v22 wc => ∃ (kq : Nat) (x22_3 : Bool), v22 = .bool x22_3 ∧ Aside0 (tipstaffref05_one.j0 kq l0 t120 t121 x22_3 = some (r1, r2)) ∧ Aside0 (kq ≤ k) ∧ Aside0 (Below w.heap.size w wc))
  case first =>
    have H := HC4.out
    clear HC4
    by_cases c5 : t121 < 0
    · rw [if_pos c5] at H
      have c5b0 : decide (t121 < 0) = true := decide_eq_true c5
      clear c5
      (first | rw [c5b0] | (simp only [i64_w, i32_w]; rw [c5b0]) | skip)
      have H' := Aside0.mk H
      clear H
      go_wp2
      go_meet
      case rel => exact ⟨_, (true), (by first | rfl | (simp; done) | (simp [*]; done)), H', ⟨by first | omega | exact Nat.le_refl _⟩, ⟨by repeat (first | (with_reducible first | exact HB.out | apply below_alloc | apply pw_below_drewN | apply below_drew1) | exact HB.out)⟩⟩
    · rw [if_neg c5] at H
      have c5b0 : decide (t121 < 0) = false := decide_eq_false c5
      clear c5
      (first | rw [c5b0] | (simp only [i64_w, i32_w]; rw [c5b0]) | skip)
      have H' := Aside0.mk H
      clear H
      go_wp2
      go_meet
      case rel => exact ⟨_, (((t120.size : Int) == 0)), (by first | rfl | (simp; done) | (simp [*]; done)), H', ⟨by first | omega | exact Nat.le_refl _⟩, ⟨by repeat (first | (with_reducible first | exact HB.out | apply below_alloc | apply pw_below_drewN | apply below_drew1) | exact HB.out)⟩⟩
  case rest =>
    clear HC4
    try clear p2
    try clear c3
    try clear c4
    try clear c5
    try clear c5b0
    obtain ⟨kq, x22_3, rfl, HA, HJ3, HB⟩ := hcut
    cases kq with
    | zero => exact absurd HA.out (by simp [tipstaffref05_one.j0])
    | succ kj3 =>
      have H := HA.out
      clear HA
      simp only [tipstaffref05_one.j0] at H
      by_cases c6 : x22_3 = true
      · subst c6
        have H1 : (some ((-1), 0)) = some (r1, r2) := by rw [if_pos rfl] at H; exact H
        clear H
        have H := H1
        clear H1
        simp only [Option.some.injEq, Prod.mk.injEq] at H
        obtain ⟨rfl, rfl⟩ := H
        go_wp2
        go_ret2
        exact ⟨by first | rfl | (simp [errW_none, errW_some] <;> rfl) | (simp [*, errW_none, errW_some] <;> rfl), by repeat (first | (with_reducible first | exact HB.out | apply below_alloc | apply pw_below_drewN | apply below_drew1) | exact HB.out)⟩
      · replace c6 := Bool.eq_false_iff.mpr c6
        subst c6
        have H1 : (if 1 ≤ (t120.size : Int) then ((tipstaffref01_Parse.f kj3 (t120.extract 1 t120.size)).bind fun bt122 => (if 0 < (t120.size : Int) then (if (bt t120 0) = 43 then (tipstaffref05_one.j1 kj3 l0 t120 t121 bt122.1 bt122.2 (bt t120 0) ((bt t120 0) == 43)) else (tipstaffref05_one.j1 kj3 l0 t120 t121 bt122.1 bt122.2 (bt t120 0) ((bt t120 0) == 45))) else (none))) else (none)) = some (r1, r2) := by rw [if_neg (show ¬ (false = true) by decide)] at H; exact H
        clear H
        have H := H1
        clear H1
        by_cases c7 : 1 ≤ (t120.size : Int)
        · rw [if_pos c7] at H
          have c7b0 := eq_true c7
          have c7b1 : decide (1 ≤ (t120.size : Int)) = true := decide_eq_true c7
          clear c7
          replace H := Option.bind_eq_some_iff.mp H
          obtain ⟨⟨t122, t123⟩, A80, H⟩ := H
          replace H : (if 0 < (t120.size : Int) then (if (bt t120 0) = 43 then (tipstaffref05_one.j1 kj3 l0 t120 t121 t122 t123 (bt t120 0) ((bt t120 0) == 43)) else (tipstaffref05_one.j1 kj3 l0 t120 t121 t122 t123 (bt t120 0) ((bt t120 0) == 45))) else (none)) = some (r1, r2) := H
          have A8 := Aside0.mk A80
          clear A80
          by_cases c9 : 0 < (t120.size : Int)
          · rw [if_pos c9] at H
            have c9b0 : decide (0 < (t120.size : Int)) = true := decide_eq_true c9
            have c9b1 : decide (0 < t120.size) = true := decide_eq_true (by omega)
            clear c9
            have HC11 := Aside0.mk H
            clear H
            go_upto_if 31 with (first | ((with_reducible refine gate_callee (f := 41) rfl ?_); refine goesL_ (some 26) rfl rfl Tryz.func41 (by kernel_rfl) rfl #[.string (t120.extract 1 t120.size)] rfl (by (try simp only [List.map_toArray, List.map_cons, List.map_nil]); first | done | rfl | (simp only [List.length_drop, List.length_take]; rfl)) ?_; (with_reducible refine (tipstaffref01_Parse.calls kj3 (t120.extract 1 t120.size) t122 t123 _ A8.out).mono ?_); rintro e w12 ⟨rfl, hb⟩; refine ⟨_, rfl, ?_⟩; have n0_ := Aside0.mk (below_step (by repeat (first | (with_reducible first | exact HB.out | apply below_alloc | apply pw_below_drewN | apply below_drew1) | exact HB.out)) hb); clear HB; have HB := n0_; clear n0_; (try clear hb); (try clear hb2); (try clear hk); (try clear hi); have p10 : 0 ≤ (0 : Int) := (by omega); have q10 : 0 < t120.size := (by have : (0 : Int) < (t120.size : Int) := of_decide_eq_true (by first | (with_reducible assumption) | assumption); omega); have hx10 : ∀ h : 0 < t120.size, ((t120[0]'h).toNat : Int) = bt t120 0 := bt_at t120 0; clear p10; have qi10 : (0 < (t120.size : Int)) = True := eq_true (of_decide_eq_true (by first | (with_reducible assumption) | assumption)); replace q10 := eq_true q10))
            (try simp only [Act.put, List.setIfInBounds_toArray, List.set_cons_zero, List.set_cons_succ])
            go_cut [31] (fun v31 wc => ∃ (kq : Nat) (x31_10 : Bool), v31 = .bool x31_10 ∧ Aside0 (tipstaffref05_one.j1 kq l0 t120 t121 t122 t123 (bt t120 0) x31_10 = some (r1, r2)) ∧ Aside0 (kq ≤ kj3) ∧ Aside0 (Below w.heap.size w wc))
            case first =>
              have H := HC11.out
              clear HC11
              by_cases c13 : (bt t120 0) = 43
              · rw [if_pos c13] at H
                have c13b0 : ((bt t120 0) == 43) = true := beq_iff_eq.mpr c13
                have c13b1 : ((bt t120 0) != 43) = false := bne_eq_false_iff_eq.mpr c13
                clear c13
                (first | rw [c13b0] | (simp only [i64_w, i32_w]; rw [c13b0]) | skip)
                have H' := Aside0.mk H
                clear H
                go_wp2
                go_meet
                case rel => exact ⟨_, (((bt t120 0) == 43)), (by first | rfl | (simp; done) | (simp [*]; done)), H', ⟨by have := HJ3.out; first | omega | exact Nat.le_refl _⟩, ⟨by repeat (first | (with_reducible first | exact HB.out | apply below_alloc | apply pw_below_drewN | apply below_drew1) | exact HB.out)⟩⟩
              · rw [if_neg c13] at H
                have c13b0 : ((bt t120 0) == 43) = false := beq_eq_false_iff_ne.mpr c13
                have c13b1 : ((bt t120 0) != 43) = true := bne_iff_ne.mpr c13
                (first | rw [c13b0] | (simp only [i64_w, i32_w]; rw [c13b0]) | skip)
                have H' := Aside0.mk H
                clear H
                go_wp2
                go_meet
                case rel => exact ⟨_, (((bt t120 0) == 45)), (by first | rfl | (simp; done) | (simp [*]; done)), H', ⟨by have := HJ3.out; first | omega | exact Nat.le_refl _⟩, ⟨by repeat (first | (with_reducible first | exact HB.out | apply below_alloc | apply pw_below_drewN | apply below_drew1) | exact HB.out)⟩⟩
            case rest =>
              clear HC11
              try clear c1
              try clear p1
              try clear q1
              try clear hx1
              try clear qi1
              try clear p2
              try clear c3
              try clear c4
              try clear c5
              try clear c5b0
              try clear c6
              try clear c7
              try clear c7b0
              try clear c7b1
              try clear c9
              try clear c9b0
              try clear c9b1
              try clear p10
              try clear q10
              try clear hx10
              try clear qi10
              try clear c13
              try clear c13b0
              try clear c13b1
              try clear p10
              try clear p2
              try clear q10
              obtain ⟨kq, x31_10, rfl, HA, HJ10, HB⟩ := hcut
              cases kq with
              | zero => exact absurd HA.out (by simp [tipstaffref05_one.j1])
              | succ kj10 =>
                have H := HA.out
                clear HA
                simp only [tipstaffref05_one.j1] at H
                by_cases c14 : x31_10 = true
                · subst c14
                  have H1 : ((tipstaffref05_clean.f kj10 t120).bind fun t124 => (if t124 = true then (some (t121, 0)) else (some ((-1), 0)))) = some (r1, r2) := by rw [if_pos rfl] at H; exact H
                  clear H
                  have H := H1
                  clear H1
                  replace H := Option.bind_eq_some_iff.mp H
                  obtain ⟨t124, A150, H⟩ := H
                  replace H : (if t124 = true then (some (t121, 0)) else (some ((-1), 0))) = some (r1, r2) := H
                  have A15 := Aside0.mk A150
                  clear A150
                  by_cases c16 : t124 = true
                  · subst c16
                    have H1 : (some (t121, 0)) = some (r1, r2) := by rw [if_pos rfl] at H; exact H
                    clear H
                    have H := H1
                    clear H1
                    simp only [Option.some.injEq, Prod.mk.injEq] at H
                    obtain ⟨rfl, rfl⟩ := H
                    go_wp2_with (first | ((with_reducible refine gate_callee (f := 42) rfl ?_); refine goesL_ (some 35) rfl rfl Tryz.func42 (by kernel_rfl) rfl #[.string t120] rfl (by (try simp only [List.map_toArray, List.map_cons, List.map_nil]); first | done | rfl | (simp only [List.length_drop, List.length_take]; rfl)) ?_; (with_reducible refine (tipstaffref05_clean.calls kj10 t120 true _ A15.out).mono ?_); rintro e w' ⟨rfl, ⟨nd, rfl⟩⟩; refine ⟨_, rfl, ?_⟩))
                    go_ret2
                    exact ⟨by first | rfl | (simp [errW_none, errW_some] <;> rfl) | (simp [*, errW_none, errW_some] <;> rfl), by repeat (first | (with_reducible first | exact HB.out | apply below_alloc | apply pw_below_drewN | apply below_drew1) | exact HB.out)⟩
                  · replace c16 := Bool.eq_false_iff.mpr c16
                    subst c16
                    have H1 : (some ((-1), 0)) = some (r1, r2) := by rw [if_neg (show ¬ (false = true) by decide)] at H; exact H
                    clear H
                    have H := H1
                    clear H1
                    simp only [Option.some.injEq, Prod.mk.injEq] at H
                    obtain ⟨rfl, rfl⟩ := H
                    go_wp2_with (first | ((with_reducible refine gate_callee (f := 42) rfl ?_); refine goesL_ (some 35) rfl rfl Tryz.func42 (by kernel_rfl) rfl #[.string t120] rfl (by (try simp only [List.map_toArray, List.map_cons, List.map_nil]); first | done | rfl | (simp only [List.length_drop, List.length_take]; rfl)) ?_; (with_reducible refine (tipstaffref05_clean.calls kj10 t120 false _ A15.out).mono ?_); rintro e w' ⟨rfl, ⟨nd, rfl⟩⟩; refine ⟨_, rfl, ?_⟩))
                    go_ret2
                    exact ⟨by first | rfl | (simp [errW_none, errW_some] <;> rfl) | (simp [*, errW_none, errW_some] <;> rfl), by repeat (first | (with_reducible first | exact HB.out | apply below_alloc | apply pw_below_drewN | apply below_drew1) | exact HB.out)⟩
                · replace c14 := Bool.eq_false_iff.mpr c14
                  subst c14
                  have H1 : (if (bt t120 0) = 58 then (if t123 = true then (some (t121, 0)) else (some ((-1), 0))) else (if (bt t120 0) = 36 then (if t123 = true then (tipstaffref05_one.j2 kj10 l0 t121 t122 t123 (t122 == (-1))) else (tipstaffref05_one.j2 kj10 l0 t121 t122 t123 false)) else (if (bt t120 0) = 42 then (if t123 = true then (tipstaffref05_one.j3 kj10 l0 t121 t122 t123 (t122 == (-1))) else (tipstaffref05_one.j3 kj10 l0 t121 t122 t123 false)) else (some ((-1), 0))))) = some (r1, r2) := by rw [if_neg (show ¬ (false = true) by decide)] at H; exact H
                  clear H
                  have H := H1
                  clear H1
                  by_cases c17 : (bt t120 0) = 58
                  · rw [if_pos c17] at H
                    have c17b0 : ((bt t120 0) == 58) = true := beq_iff_eq.mpr c17
                    have c17b1 : ((bt t120 0) != 58) = false := bne_eq_false_iff_eq.mpr c17
                    clear c17
                    by_cases c18 : t123 = true
                    · subst c18
                      have H1 : (some (t121, 0)) = some (r1, r2) := by rw [if_pos rfl] at H; exact H
                      clear H
                      have H := H1
                      clear H1
                      simp only [Option.some.injEq, Prod.mk.injEq] at H
                      obtain ⟨rfl, rfl⟩ := H
                      go_wp2
                      go_ret2
                      exact ⟨by first | rfl | (simp [errW_none, errW_some] <;> rfl) | (simp [*, errW_none, errW_some] <;> rfl), by repeat (first | (with_reducible first | exact HB.out | apply below_alloc | apply pw_below_drewN | apply below_drew1) | exact HB.out)⟩
                    · replace c18 := Bool.eq_false_iff.mpr c18
                      subst c18
                      have H1 : (some ((-1), 0)) = some (r1, r2) := by rw [if_neg (show ¬ (false = true) by decide)] at H; exact H
                      clear H
                      have H := H1
                      clear H1
                      simp only [Option.some.injEq, Prod.mk.injEq] at H
                      obtain ⟨rfl, rfl⟩ := H
                      go_wp2
                      go_ret2
                      exact ⟨by first | rfl | (simp [errW_none, errW_some] <;> rfl) | (simp [*, errW_none, errW_some] <;> rfl), by repeat (first | (with_reducible first | exact HB.out | apply below_alloc | apply pw_below_drewN | apply below_drew1) | exact HB.out)⟩
                  · rw [if_neg c17] at H
                    have c17b0 : ((bt t120 0) == 58) = false := beq_eq_false_iff_ne.mpr c17
                    have c17b1 : ((bt t120 0) != 58) = true := bne_iff_ne.mpr c17
                    by_cases c19 : (bt t120 0) = 36
                    · rw [if_pos c19] at H
                      have c19b0 : ((bt t120 0) == 36) = true := beq_iff_eq.mpr c19
                      have c19b1 : ((bt t120 0) != 36) = false := bne_eq_false_iff_eq.mpr c19
                      clear c19
                      have HC20 := Aside0.mk H
                      clear H
                      go_upto_region 14 with (fail)
                      go_cut [47] (fun v47 wc => ∃ (kq : Nat) (x47_19 : Bool), v47 = .bool x47_19 ∧ Aside0 (tipstaffref05_one.j2 kq l0 t121 t122 t123 x47_19 = some (r1, r2)) ∧ Aside0 (kq ≤ kj10) ∧ Aside0 (Below w.heap.size w wc))
                      case first =>
                        have H := HC20.out
                        clear HC20
                        by_cases c21 : t123 = true
                        · subst c21
                          have H1 : (tipstaffref05_one.j2 kj10 l0 t121 t122 true (t122 == (-1))) = some (r1, r2) := by rw [if_pos rfl] at H; exact H
                          clear H
                          have H := H1
                          clear H1
                          have H' := Aside0.mk H
                          clear H
                          go_wp2
                          go_meet
                          case rel => exact ⟨_, ((t122 == (-1))), (by first | rfl | (simp; done) | (simp [*]; done)), H', ⟨by have := HJ3.out; have := HJ10.out; first | omega | exact Nat.le_refl _⟩, ⟨by repeat (first | (with_reducible first | exact HB.out | apply below_alloc | apply pw_below_drewN | apply below_drew1) | exact HB.out)⟩⟩
                        · replace c21 := Bool.eq_false_iff.mpr c21
                          subst c21
                          have H1 : (tipstaffref05_one.j2 kj10 l0 t121 t122 false false) = some (r1, r2) := by rw [if_neg (show ¬ (false = true) by decide)] at H; exact H
                          clear H
                          have H := H1
                          clear H1
                          have H' := Aside0.mk H
                          clear H
                          go_wp2
                          go_meet
                          case rel => exact ⟨_, (false), (by first | rfl | (simp; done) | (simp [*]; done)), H', ⟨by have := HJ3.out; have := HJ10.out; first | omega | exact Nat.le_refl _⟩, ⟨by repeat (first | (with_reducible first | exact HB.out | apply below_alloc | apply pw_below_drewN | apply below_drew1) | exact HB.out)⟩⟩
                      case rest =>
                        clear HC20
                        try clear c1
                        try clear p1
                        try clear q1
                        try clear hx1
                        try clear qi1
                        try clear c2
                        try clear p2
                        try clear c3
                        try clear c4
                        try clear c5
                        try clear c5b0
                        try clear c6
                        try clear c7
                        try clear c7b0
                        try clear c7b1
                        try clear c9
                        try clear c9b0
                        try clear c9b1
                        try clear p10
                        try clear q10
                        try clear hx10
                        try clear qi10
                        try clear c13
                        try clear c13b0
                        try clear c13b1
                        try clear c14
                        try clear c16
                        try clear c17
                        try clear c17b0
                        try clear c17b1
                        try clear c18
                        try clear c19
                        try clear c19b0
                        try clear c19b1
                        try clear c21
                        try clear p1
                        try clear p10
                        try clear p2
                        try clear q1
                        try clear q10
                        obtain ⟨kq, x47_19, rfl, HA, HJ19, HB⟩ := hcut
                        cases kq with
                        | zero => exact absurd HA.out (by simp [tipstaffref05_one.j2])
                        | succ kj19 =>
                          have H := HA.out
                          clear HA
                          simp only [tipstaffref05_one.j2] at H
                          by_cases c22 : x47_19 = true
                          · subst c22
                            have H1 : (some (t121, 0)) = some (r1, r2) := by rw [if_pos rfl] at H; exact H
                            clear H
                            have H := H1
                            clear H1
                            simp only [Option.some.injEq, Prod.mk.injEq] at H
                            obtain ⟨rfl, rfl⟩ := H
                            go_wp2
                            go_ret2
                            exact ⟨by first | rfl | (simp [errW_none, errW_some] <;> rfl) | (simp [*, errW_none, errW_some] <;> rfl), by repeat (first | (with_reducible first | exact HB.out | apply below_alloc | apply pw_below_drewN | apply below_drew1) | exact HB.out)⟩
                          · replace c22 := Bool.eq_false_iff.mpr c22
                            subst c22
                            have H1 : (if t123 = true then (if t122 ≥ 0 then (if t122 ≤ (wrap64 ((wrap64 ((l0.length : Int) - t121)) - 2)) then (if 0 ≤ (wrap64 (t121 + t122)) then (if (wrap64 (t121 + t122)) < (l0.length : Int) then (if (rd l0 (wrap64 (t121 + t122))) = 13 then (if 0 ≤ (wrap64 ((wrap64 (t121 + t122)) + 1)) then (if (wrap64 ((wrap64 (t121 + t122)) + 1)) < (l0.length : Int) then (if (rd l0 (wrap64 ((wrap64 (t121 + t122)) + 1))) = 10 then (some (wrap64 ((wrap64 (t121 + t122)) + 2), 0)) else (some ((-1), 0))) else (none)) else (none)) else (some ((-1), 0))) else (none)) else (none)) else (some ((-1), 0))) else (some ((-1), 0))) else (some ((-1), 0))) = some (r1, r2) := by rw [if_neg (show ¬ (false = true) by decide)] at H; exact H
                            clear H
                            have H := H1
                            clear H1
                            by_cases c23 : t123 = true
                            · subst c23
                              have H1 : (if t122 ≥ 0 then (if t122 ≤ (wrap64 ((wrap64 ((l0.length : Int) - t121)) - 2)) then (if 0 ≤ (wrap64 (t121 + t122)) then (if (wrap64 (t121 + t122)) < (l0.length : Int) then (if (rd l0 (wrap64 (t121 + t122))) = 13 then (if 0 ≤ (wrap64 ((wrap64 (t121 + t122)) + 1)) then (if (wrap64 ((wrap64 (t121 + t122)) + 1)) < (l0.length : Int) then (if (rd l0 (wrap64 ((wrap64 (t121 + t122)) + 1))) = 10 then (some (wrap64 ((wrap64 (t121 + t122)) + 2), 0)) else (some ((-1), 0))) else (none)) else (none)) else (some ((-1), 0))) else (none)) else (none)) else (some ((-1), 0))) else (some ((-1), 0))) = some (r1, r2) := by rw [if_pos rfl] at H; exact H
                              clear H
                              have H := H1
                              clear H1
                              by_cases c24 : t122 ≥ 0
                              · rw [if_pos c24] at H
                                have c24b0 : decide (0 ≤ t122) = true := decide_eq_true c24
                                clear c24
                                by_cases c25 : t122 ≤ (wrap64 ((wrap64 ((l0.length : Int) - t121)) - 2))
                                · rw [if_pos c25] at H
                                  have c25b0 : decide (t122 ≤ (wrap64 ((wrap64 ((l0.length : Int) - t121)) - 2))) = true := decide_eq_true c25
                                  clear c25
                                  obtain ⟨ji26, hji26⟩ : ∃ j_ : Int, (wrap64 (t121 + t122)) = j_ := ⟨_, rfl⟩
                                  replace H : (if 0 ≤ (ji26) then (if (ji26) < (l0.length : Int) then (if (rd l0 (ji26)) = 13 then (if 0 ≤ (wrap64 ((ji26) + 1)) then (if (wrap64 ((ji26) + 1)) < (l0.length : Int) then (if (rd l0 (wrap64 ((ji26) + 1))) = 10 then (some (wrap64 ((ji26) + 2), 0)) else (some ((-1), 0))) else (none)) else (none)) else (some ((-1), 0))) else (none)) else (none)) = some (r1, r2) := by first | (rw [hji26] at H; exact H) | (simp only [hji26] at H ⊢; exact H)
                                  have hji26w : (IntKind.i64.wrap (t121 + t122)) = ji26 := (i64_w _).trans hji26
                                  by_cases c27 : 0 ≤ (ji26)
                                  · rw [if_pos c27] at H
                                    have c27b0 : decide (0 ≤ (ji26)) = true := decide_eq_true c27
                                    clear c27
                                    by_cases c28 : (ji26) < (l0.length : Int)
                                    · rw [if_pos c28] at H
                                      have c28b0 : decide ((ji26) < (l0.length : Int)) = true := decide_eq_true c28
                                      clear c28
                                      by_cases c29 : (rd l0 (ji26)) = 13
                                      · rw [if_pos c29] at H
                                        have c29b0 : ((rd l0 (ji26)) == 13) = true := beq_iff_eq.mpr c29
                                        have c29b1 : ((rd l0 (ji26)) != 13) = false := bne_eq_false_iff_eq.mpr c29
                                        clear c29
                                        obtain ⟨ji30, hji30⟩ : ∃ j_ : Int, (wrap64 ((ji26) + 1)) = j_ := ⟨_, rfl⟩
                                        replace H : (if 0 ≤ (ji30) then (if (ji30) < (l0.length : Int) then (if (rd l0 (ji30)) = 10 then (some (wrap64 ((ji26) + 2), 0)) else (some ((-1), 0))) else (none)) else (none)) = some (r1, r2) := by first | (rw [hji30] at H; exact H) | (simp only [hji30] at H ⊢; exact H)
                                        have hji30w : (IntKind.i64.wrap ((ji26) + 1)) = ji30 := (i64_w _).trans hji30
                                        by_cases c31 : 0 ≤ (ji30)
                                        · rw [if_pos c31] at H
                                          have c31b0 : decide (0 ≤ (ji30)) = true := decide_eq_true c31
                                          clear c31
                                          by_cases c32 : (ji30) < (l0.length : Int)
                                          · rw [if_pos c32] at H
                                            have c32b0 : decide ((ji30) < (l0.length : Int)) = true := decide_eq_true c32
                                            clear c32
                                            by_cases c33 : (rd l0 (ji30)) = 10
                                            · rw [if_pos c33] at H
                                              have c33b0 : ((rd l0 (ji30)) == 10) = true := beq_iff_eq.mpr c33
                                              have c33b1 : ((rd l0 (ji30)) != 10) = false := bne_eq_false_iff_eq.mpr c33
                                              clear c33
                                              simp only [Option.some.injEq, Prod.mk.injEq] at H
                                              obtain ⟨rfl, rfl⟩ := H
                                              have p125 : 0 ≤ ((ji26) : Int) := of_decide_eq_true (by first | (with_reducible assumption) | assumption)
                                              have q125 : (ji26) < (l0.length : Int) := of_decide_eq_true (by first | (with_reducible assumption) | assumption)
                                              obtain ⟨ad125, e125, hx125_0⟩ := Kd.at_int HR0.out (ji26) p125 q125
                                              cases e125
                                              replace hx125_0 := (HB.out.cell (World.block_lt_of_cell? w _ hx125_0)).trans hx125_0
                                              replace p125 := eq_true p125
                                              replace q125 := eq_true q125
                                              have p126 : 0 ≤ ((ji30) : Int) := of_decide_eq_true (by first | (with_reducible assumption) | assumption)
                                              have q126 : (ji30) < (l0.length : Int) := of_decide_eq_true (by first | (with_reducible assumption) | assumption)
                                              obtain ⟨ad126, e126, hx126_0⟩ := Kd.at_int HR0.out (ji30) p126 q126
                                              obtain rfl : ad125 = ad126 := (by injection e126)
                                              replace hx126_0 := (HB.out.cell (World.block_lt_of_cell? w _ hx126_0)).trans hx126_0
                                              replace p126 := eq_true p126
                                              replace q126 := eq_true q126
                                              go_wp2
                                              go_ret2
                                              exact ⟨by first | rfl | (simp [errW_none, errW_some] <;> rfl) | (simp only [← hji26, ← hji30]; first | rfl | (simp [errW_none, errW_some] <;> rfl)) | (simp [*, errW_none, errW_some] <;> rfl), by repeat (first | (with_reducible first | exact HB.out | apply below_alloc | apply pw_below_drewN | apply below_drew1) | exact HB.out)⟩
                                            · rw [if_neg c33] at H
                                              have c33b0 : ((rd l0 (ji30)) == 10) = false := beq_eq_false_iff_ne.mpr c33
                                              have c33b1 : ((rd l0 (ji30)) != 10) = true := bne_iff_ne.mpr c33
                                              simp only [Option.some.injEq, Prod.mk.injEq] at H
                                              obtain ⟨rfl, rfl⟩ := H
                                              have p125 : 0 ≤ ((ji26) : Int) := of_decide_eq_true (by first | (with_reducible assumption) | assumption)
                                              have q125 : (ji26) < (l0.length : Int) := of_decide_eq_true (by first | (with_reducible assumption) | assumption)
                                              obtain ⟨ad125, e125, hx125_0⟩ := Kd.at_int HR0.out (ji26) p125 q125
                                              cases e125
                                              replace hx125_0 := (HB.out.cell (World.block_lt_of_cell? w _ hx125_0)).trans hx125_0
                                              replace p125 := eq_true p125
                                              replace q125 := eq_true q125
                                              have p126 : 0 ≤ ((ji30) : Int) := of_decide_eq_true (by first | (with_reducible assumption) | assumption)
                                              have q126 : (ji30) < (l0.length : Int) := of_decide_eq_true (by first | (with_reducible assumption) | assumption)
                                              obtain ⟨ad126, e126, hx126_0⟩ := Kd.at_int HR0.out (ji30) p126 q126
                                              obtain rfl : ad125 = ad126 := (by injection e126)
                                              replace hx126_0 := (HB.out.cell (World.block_lt_of_cell? w _ hx126_0)).trans hx126_0
                                              replace p126 := eq_true p126
                                              replace q126 := eq_true q126
                                              go_wp2
                                              go_ret2
                                              exact ⟨by first | rfl | (simp [errW_none, errW_some] <;> rfl) | (simp only [← hji26, ← hji30]; first | rfl | (simp [errW_none, errW_some] <;> rfl)) | (simp [*, errW_none, errW_some] <;> rfl), by repeat (first | (with_reducible first | exact HB.out | apply below_alloc | apply pw_below_drewN | apply below_drew1) | exact HB.out)⟩
                                          · rw [if_neg c32] at H
                                            exact absurd H (by simp)
                                        · rw [if_neg c31] at H
                                          exact absurd H (by simp)
                                      · rw [if_neg c29] at H
                                        have c29b0 : ((rd l0 (ji26)) == 13) = false := beq_eq_false_iff_ne.mpr c29
                                        have c29b1 : ((rd l0 (ji26)) != 13) = true := bne_iff_ne.mpr c29
                                        simp only [Option.some.injEq, Prod.mk.injEq] at H
                                        obtain ⟨rfl, rfl⟩ := H
                                        have p125 : 0 ≤ ((ji26) : Int) := of_decide_eq_true (by first | (with_reducible assumption) | assumption)
                                        have q125 : (ji26) < (l0.length : Int) := of_decide_eq_true (by first | (with_reducible assumption) | assumption)
                                        obtain ⟨ad125, e125, hx125_0⟩ := Kd.at_int HR0.out (ji26) p125 q125
                                        cases e125
                                        replace hx125_0 := (HB.out.cell (World.block_lt_of_cell? w _ hx125_0)).trans hx125_0
                                        replace p125 := eq_true p125
                                        replace q125 := eq_true q125
                                        go_wp2
                                        go_ret2
                                        exact ⟨by first | rfl | (simp [errW_none, errW_some] <;> rfl) | (simp only [← hji26]; first | rfl | (simp [errW_none, errW_some] <;> rfl)) | (simp [*, errW_none, errW_some] <;> rfl), by repeat (first | (with_reducible first | exact HB.out | apply below_alloc | apply pw_below_drewN | apply below_drew1) | exact HB.out)⟩
                                    · rw [if_neg c28] at H
                                      exact absurd H (by simp)
                                  · rw [if_neg c27] at H
                                    exact absurd H (by simp)
                                · rw [if_neg c25] at H
                                  have c25b0 : decide (t122 ≤ (wrap64 ((wrap64 ((l0.length : Int) - t121)) - 2))) = false := decide_eq_false c25
                                  clear c25
                                  simp only [Option.some.injEq, Prod.mk.injEq] at H
                                  obtain ⟨rfl, rfl⟩ := H
                                  go_wp2
                                  go_ret2
                                  exact ⟨by first | rfl | (simp [errW_none, errW_some] <;> rfl) | (simp [*, errW_none, errW_some] <;> rfl), by repeat (first | (with_reducible first | exact HB.out | apply below_alloc | apply pw_below_drewN | apply below_drew1) | exact HB.out)⟩
                              · rw [if_neg c24] at H
                                have c24b0 : decide (0 ≤ t122) = false := decide_eq_false c24
                                clear c24
                                simp only [Option.some.injEq, Prod.mk.injEq] at H
                                obtain ⟨rfl, rfl⟩ := H
                                go_wp2
                                go_ret2
                                exact ⟨by first | rfl | (simp [errW_none, errW_some] <;> rfl) | (simp [*, errW_none, errW_some] <;> rfl), by repeat (first | (with_reducible first | exact HB.out | apply below_alloc | apply pw_below_drewN | apply below_drew1) | exact HB.out)⟩
                            · replace c23 := Bool.eq_false_iff.mpr c23
                              subst c23
                              have H1 : (some ((-1), 0)) = some (r1, r2) := by rw [if_neg (show ¬ (false = true) by decide)] at H; exact H
                              clear H
                              have H := H1
                              clear H1
                              simp only [Option.some.injEq, Prod.mk.injEq] at H
                              obtain ⟨rfl, rfl⟩ := H
                              go_wp2
                              go_ret2
                              exact ⟨by first | rfl | (simp [errW_none, errW_some] <;> rfl) | (simp [*, errW_none, errW_some] <;> rfl), by repeat (first | (with_reducible first | exact HB.out | apply below_alloc | apply pw_below_drewN | apply below_drew1) | exact HB.out)⟩
                    · rw [if_neg c19] at H
                      have c19b0 : ((bt t120 0) == 36) = false := beq_eq_false_iff_ne.mpr c19
                      have c19b1 : ((bt t120 0) != 36) = true := bne_iff_ne.mpr c19
                      by_cases c34 : (bt t120 0) = 42
                      · rw [if_pos c34] at H
                        have c34b0 : ((bt t120 0) == 42) = true := beq_iff_eq.mpr c34
                        have c34b1 : ((bt t120 0) != 42) = false := bne_eq_false_iff_eq.mpr c34
                        clear c34
                        have HC35 := Aside0.mk H
                        clear H
                        go_upto_region 19 with (fail)
                        go_cut [92] (fun v92 wc => ∃ (kq : Nat) (x92_34 : Bool), v92 = .bool x92_34 ∧ Aside0 (tipstaffref05_one.j3 kq l0 t121 t122 t123 x92_34 = some (r1, r2)) ∧ Aside0 (kq ≤ kj10) ∧ Aside0 (Below w.heap.size w wc))
                        case first =>
                          have H := HC35.out
                          clear HC35
                          by_cases c36 : t123 = true
                          · subst c36
                            have H1 : (tipstaffref05_one.j3 kj10 l0 t121 t122 true (t122 == (-1))) = some (r1, r2) := by rw [if_pos rfl] at H; exact H
                            clear H
                            have H := H1
                            clear H1
                            have H' := Aside0.mk H
                            clear H
                            go_wp2
                            go_meet
                            case rel => exact ⟨_, ((t122 == (-1))), (by first | rfl | (simp; done) | (simp [*]; done)), H', ⟨by have := HJ3.out; have := HJ10.out; first | omega | exact Nat.le_refl _⟩, ⟨by repeat (first | (with_reducible first | exact HB.out | apply below_alloc | apply pw_below_drewN | apply below_drew1) | exact HB.out)⟩⟩
                          · replace c36 := Bool.eq_false_iff.mpr c36
                            subst c36
                            have H1 : (tipstaffref05_one.j3 kj10 l0 t121 t122 false false) = some (r1, r2) := by rw [if_neg (show ¬ (false = true) by decide)] at H; exact H
                            clear H
                            have H := H1
                            clear H1
                            have H' := Aside0.mk H
                            clear H
                            go_wp2
                            go_meet
                            case rel => exact ⟨_, (false), (by first | rfl | (simp; done) | (simp [*]; done)), H', ⟨by have := HJ3.out; have := HJ10.out; first | omega | exact Nat.le_refl _⟩, ⟨by repeat (first | (with_reducible first | exact HB.out | apply below_alloc | apply pw_below_drewN | apply below_drew1) | exact HB.out)⟩⟩
                        case rest =>
                          clear HC35
                          try clear c1
                          try clear p1
                          try clear q1
                          try clear hx1
                          try clear qi1
                          try clear c2
                          try clear p2
                          try clear c3
                          try clear c4
                          try clear c5
                          try clear c5b0
                          try clear c6
                          try clear p6
                          try clear c7
                          try clear c7b0
                          try clear c7b1
                          try clear c9
                          try clear c9b0
                          try clear c9b1
                          try clear p10
                          try clear q10
                          try clear hx10
                          try clear qi10
                          try clear p12
                          try clear q12
                          try clear hx12
                          try clear c13
                          try clear c13b0
                          try clear c13b1
                          try clear c14
                          try clear c16
                          try clear c17
                          try clear c17b0
                          try clear c17b1
                          try clear c18
                          try clear c19
                          try clear c19b0
                          try clear c19b1
                          try clear c21
                          try clear c22
                          try clear c23
                          try clear c24
                          try clear c24b0
                          try clear c25
                          try clear c25b0
                          try clear c27
                          try clear c27b0
                          try clear c28
                          try clear c28b0
                          try clear c29
                          try clear c29b0
                          try clear c29b1
                          try clear c30
                          try clear c31
                          try clear c31b0
                          try clear c32
                          try clear c32b0
                          try clear c33
                          try clear c33b0
                          try clear c33b1
                          try clear c34
                          try clear c34b0
                          try clear c34b1
                          try clear c36
                          try clear hx125_0
                          try clear hx126_0
                          try clear p1
                          try clear p10
                          try clear p125
                          try clear p126
                          try clear p2
                          try clear q1
                          try clear q10
                          try clear q125
                          try clear q126
                          obtain ⟨kq, x92_34, rfl, HA, HJ34, HB⟩ := hcut
                          cases kq with
                          | zero => exact absurd HA.out (by simp [tipstaffref05_one.j3])
                          | succ kj34 =>
                            have H := HA.out
                            clear HA
                            simp only [tipstaffref05_one.j3] at H
                            by_cases c37 : x92_34 = true
                            · subst c37
                              have H1 : (some (t121, 0)) = some (r1, r2) := by rw [if_pos rfl] at H; exact H
                              clear H
                              have H := H1
                              clear H1
                              simp only [Option.some.injEq, Prod.mk.injEq] at H
                              obtain ⟨rfl, rfl⟩ := H
                              go_wp2
                              go_ret2
                              exact ⟨by first | rfl | (simp [errW_none, errW_some] <;> rfl) | (simp [*, errW_none, errW_some] <;> rfl), by repeat (first | (with_reducible first | exact HB.out | apply below_alloc | apply pw_below_drewN | apply below_drew1) | exact HB.out)⟩
                            · replace c37 := Bool.eq_false_iff.mpr c37
                              subst c37
                              have H1 : (if t123 = true then (if t122 ≥ 0 then (if t122 ≤ (l0.length : Int) then (some (t121, t122)) else (some ((-1), 0))) else (some ((-1), 0))) else (some ((-1), 0))) = some (r1, r2) := by rw [if_neg (show ¬ (false = true) by decide)] at H; exact H
                              clear H
                              have H := H1
                              clear H1
                              by_cases c38 : t123 = true
                              · subst c38
                                have H1 : (if t122 ≥ 0 then (if t122 ≤ (l0.length : Int) then (some (t121, t122)) else (some ((-1), 0))) else (some ((-1), 0))) = some (r1, r2) := by rw [if_pos rfl] at H; exact H
                                clear H
                                have H := H1
                                clear H1
                                by_cases c39 : t122 ≥ 0
                                · rw [if_pos c39] at H
                                  have c39b0 : decide (0 ≤ t122) = true := decide_eq_true c39
                                  clear c39
                                  by_cases c40 : t122 ≤ (l0.length : Int)
                                  · rw [if_pos c40] at H
                                    have c40b0 : decide (t122 ≤ (l0.length : Int)) = true := decide_eq_true c40
                                    clear c40
                                    simp only [Option.some.injEq, Prod.mk.injEq] at H
                                    obtain ⟨rfl, rfl⟩ := H
                                    go_wp2
                                    go_ret2
                                    exact ⟨by first | rfl | (simp [errW_none, errW_some] <;> rfl) | (simp [*, errW_none, errW_some] <;> rfl), by repeat (first | (with_reducible first | exact HB.out | apply below_alloc | apply pw_below_drewN | apply below_drew1) | exact HB.out)⟩
                                  · rw [if_neg c40] at H
                                    have c40b0 : decide (t122 ≤ (l0.length : Int)) = false := decide_eq_false c40
                                    clear c40
                                    simp only [Option.some.injEq, Prod.mk.injEq] at H
                                    obtain ⟨rfl, rfl⟩ := H
                                    go_wp2
                                    go_ret2
                                    exact ⟨by first | rfl | (simp [errW_none, errW_some] <;> rfl) | (simp [*, errW_none, errW_some] <;> rfl), by repeat (first | (with_reducible first | exact HB.out | apply below_alloc | apply pw_below_drewN | apply below_drew1) | exact HB.out)⟩
                                · rw [if_neg c39] at H
                                  have c39b0 : decide (0 ≤ t122) = false := decide_eq_false c39
                                  clear c39
                                  simp only [Option.some.injEq, Prod.mk.injEq] at H
                                  obtain ⟨rfl, rfl⟩ := H
                                  go_wp2
                                  go_ret2
                                  exact ⟨by first | rfl | (simp [errW_none, errW_some] <;> rfl) | (simp [*, errW_none, errW_some] <;> rfl), by repeat (first | (with_reducible first | exact HB.out | apply below_alloc | apply pw_below_drewN | apply below_drew1) | exact HB.out)⟩
                              · replace c38 := Bool.eq_false_iff.mpr c38
                                subst c38
                                have H1 : (some ((-1), 0)) = some (r1, r2) := by rw [if_neg (show ¬ (false = true) by decide)] at H; exact H
                                clear H
                                have H := H1
                                clear H1
                                simp only [Option.some.injEq, Prod.mk.injEq] at H
                                obtain ⟨rfl, rfl⟩ := H
                                go_wp2
                                go_ret2
                                exact ⟨by first | rfl | (simp [errW_none, errW_some] <;> rfl) | (simp [*, errW_none, errW_some] <;> rfl), by repeat (first | (with_reducible first | exact HB.out | apply below_alloc | apply pw_below_drewN | apply below_drew1) | exact HB.out)⟩
                      · rw [if_neg c34] at H
                        have c34b0 : ((bt t120 0) == 42) = false := beq_eq_false_iff_ne.mpr c34
                        have c34b1 : ((bt t120 0) != 42) = true := bne_iff_ne.mpr c34
                        simp only [Option.some.injEq, Prod.mk.injEq] at H
                        obtain ⟨rfl, rfl⟩ := H
                        go_wp2
                        go_ret2
                        exact ⟨by first | rfl | (simp [errW_none, errW_some] <;> rfl) | (simp [*, errW_none, errW_some] <;> rfl), by repeat (first | (with_reducible first | exact HB.out | apply below_alloc | apply pw_below_drewN | apply below_drew1) | exact HB.out)⟩
          · rw [if_neg c9] at H
            exact absurd H (by simp)
        · rw [if_neg c7] at H
          exact absurd H (by simp)

end Go.Proofs.YtefpcffompgceaaGreatDoor.Zr
