/- Printed by a program of this session. -/
import Derived.Test.YtefpcffompgceaaGreatDoorZc0
import Derived.Test.YtefpcffompgceaaGreatDoorZc1
import Derived.Test.YtefpcffompgceaaGreatDoorTake
import Derived.Test.YtefpcffompgceaaGreatDoorStr
namespace Go.Proofs.YtefpcffompgceaaGreatDoor.Zc
open Go.RowKit Go.Proofs.YtefpcffompgceaaGreatDoorW.PrintWords Go.Proofs.YtefpcffompgceaaGreatDoorW.PrintLast Go.Proofs.YtefpcffompgceaaGreatDoorW.PrintMore
attribute [local go_sem] max2_int min2_int max_two min_two max_three min_three max_four min_four   -- for this text's walks alone
set_option linter.unusedVariables false
set_option linter.unusedSimpArgs false

/-! ### tipstafflaw05_ReplyArrays: function 6 -/
mutual
def tipstafflaw05_ReplyArrays.l0 : Nat → List ByteArray → Bool → List (List Int) → List Int → Int → Option (Bool)
 | 0, _, _, _, _, _ => none
 | k + 1, x0, x5, x6, x7, x8 => if x8 < (x6.length : Int) then (if 0 ≤ x8 then (if x7.length + (rd_L2 x6 x8).length < 140737488355328 then (tipstafflaw05_ReplyArrays.l0 k x0 x5 x6 (x7 ++ (rd_L2 x6 x8)) (wrap64 (x8 + 1))) else (none)) else (none)) else ((reply_Int.f (x6.length : Int)).bind fun t166 => (tipstafflaw05_ReplyArrays.l1 k x0 x5 x6 x7 t166 (([] : List (List Int))) 0))
def tipstafflaw05_ReplyArrays.l1 : Nat → List ByteArray → Bool → List (List Int) → List Int → List Int → List (List Int) → Int → Option (Bool)
 | 0, _, _, _, _, _, _, _ => none
 | k + 1, x0, x5, x6, x7, x9, x10, x11 => (tipstafflaw05_few.f k x0).bind fun t172 => (if x11 < (t172.length : Int) then ((tipstafflaw05_few.f k x0).bind fun t175 => (if 0 ≤ x11 then (if x11 < (t175.length : Int) then ((reply_Bulk.f (rdOf ByteArray.empty t175 x11)).bind fun t179 => (if x10.length < 5864062014805 then (tipstafflaw05_ReplyArrays.l1 k x0 x5 x6 x7 x9 (x10 ++ [t179]) (wrap64 (x11 + 1))) else (none))) else (none)) else (none))) else ((Tryz.Ln.arrX).bind fun t185 => ((reply_Take.f t185).bind fun bt188 => (if x5 = true then ((reply_Array.f x6).bind fun t195 => (if 1 ≤ (x9.length : Int) then ((some (x9.drop 1 : List Int)).bind fun y198 => (if 1 + (strOfNums y198).size ≤ 9223372036854775807 then (if ((⟨#[42]⟩ : ByteArray) ++ (strOfNums y198)).size + (strOfNums x7).size ≤ 9223372036854775807 then (if (strOfNums t195).toList = (((⟨#[42]⟩ : ByteArray) ++ (strOfNums y198)) ++ (strOfNums x7)).toList then ((tipstafflaw05_few.f k x0).bind fun t203 => ((reply_Texts.f t203).bind fun t206 => ((reply_Array.f x10).bind fun t209 => (if (strOfNums t206).toList = (strOfNums t209).toList then (if bt188.2.2 = true then (if (strOfNums bt188.1).toList = ([42, 48, 13, 10] : List UInt8) then (some ((strOfNums bt188.2.1).toList == ([120] : List UInt8))) else (none)) else (none)) else (none))))) else (none)) else (none)) else (none))) else (none))) else (none)))))
end
def tipstafflaw05_ReplyArrays.f (k : Nat) (l0 : List ByteArray) (a1 : Int) : Option (Bool) := (tipstafflaw05_shown.f).bind fun t152 => ((tipstafflaw05_few.f k l0).bind fun t153 => ((tipstafflaw05_replies.f k t153 a1).bind fun t156 => (tipstafflaw05_ReplyArrays.l0 k l0 t152 t156 (([] : List Int)) 0)))
theorem tipstafflaw05_ReplyArrays.mono_l : ∀ k, (∀ y0 y1 y2 y3 y4, LeO (tipstafflaw05_ReplyArrays.l0 k y0 y1 y2 y3 y4) (tipstafflaw05_ReplyArrays.l0 (k + 1) y0 y1 y2 y3 y4)) ∧ (∀ y0 y1 y2 y3 y4 y5 y6, LeO (tipstafflaw05_ReplyArrays.l1 k y0 y1 y2 y3 y4 y5 y6) (tipstafflaw05_ReplyArrays.l1 (k + 1) y0 y1 y2 y3 y4 y5 y6))
 | 0 => ⟨fun _ _ _ _ _ r h => by simp [tipstafflaw05_ReplyArrays.l0] at h, fun _ _ _ _ _ _ _ r h => by simp [tipstafflaw05_ReplyArrays.l1] at h⟩
 | k + 1 => by
  obtain ⟨ih0, ih1⟩ := tipstafflaw05_ReplyArrays.mono_l k
  refine ⟨?_, ?_⟩
  ·intro y0 y1 y2 y3 y4
   unfold tipstafflaw05_ReplyArrays.l0
   repeat' first
   | (with_reducible exact ih0 _ _ _ _ _)
   | (with_reducible exact ih1 _ _ _ _ _ _ _)
   | (with_reducible exact tipstafflaw05_few.mono _ _)
   | (with_reducible exact tipstafflaw05_replies.mono _ _ _)
   | (with_reducible exact LeO.refl _)
   | (with_reducible exact LeO.none _)
   | (with_reducible refine LeO.ite ?_ ?_)
   | (with_reducible refine LeO.bind ?_ (fun _ => ?_))
   | exact ih0 _ _ _ _ _
   | exact ih1 _ _ _ _ _ _ _
   | exact tipstafflaw05_few.mono _ _
   | exact tipstafflaw05_replies.mono _ _ _
   | exact LeO.none _
   | refine LeO.ite ?_ ?_
   | refine LeO.bind ?_ (fun _ => ?_)
  ·intro y0 y1 y2 y3 y4 y5 y6
   unfold tipstafflaw05_ReplyArrays.l1
   repeat' first
   | (with_reducible exact ih0 _ _ _ _ _)
   | (with_reducible exact ih1 _ _ _ _ _ _ _)
   | (with_reducible exact tipstafflaw05_few.mono _ _)
   | (with_reducible exact tipstafflaw05_replies.mono _ _ _)
   | (with_reducible exact LeO.refl _)
   | (with_reducible exact LeO.none _)
   | (with_reducible refine LeO.ite ?_ ?_)
   | (with_reducible refine LeO.bind ?_ (fun _ => ?_))
   | exact ih0 _ _ _ _ _
   | exact ih1 _ _ _ _ _ _ _
   | exact tipstafflaw05_few.mono _ _
   | exact tipstafflaw05_replies.mono _ _ _
   | exact LeO.none _
   | refine LeO.ite ?_ ?_
   | refine LeO.bind ?_ (fun _ => ?_)
theorem tipstafflaw05_ReplyArrays.mono : ∀ a0 a1 k, LeO (tipstafflaw05_ReplyArrays.f k a0 a1) (tipstafflaw05_ReplyArrays.f (k + 1) a0 a1) := by
 intro a0 a1 k
 obtain ⟨ih0, ih1⟩ := tipstafflaw05_ReplyArrays.mono_l k
 unfold tipstafflaw05_ReplyArrays.f
 repeat' first
   | (with_reducible exact ih0 _ _ _ _ _)
   | (with_reducible exact ih1 _ _ _ _ _ _ _)
   | (with_reducible exact tipstafflaw05_few.mono _ _)
   | (with_reducible exact tipstafflaw05_replies.mono _ _ _)
   | (with_reducible exact LeO.refl _)
   | (with_reducible exact LeO.none _)
   | (with_reducible refine LeO.ite ?_ ?_)
   | (with_reducible refine LeO.bind ?_ (fun _ => ?_))
   | exact ih0 _ _ _ _ _
   | exact ih1 _ _ _ _ _ _ _
   | exact tipstafflaw05_few.mono _ _
   | exact tipstafflaw05_replies.mono _ _ _
   | exact LeO.none _
   | refine LeO.ite ?_ ?_
   | refine LeO.bind ?_ (fun _ => ?_)
def tipstafflaw05_ReplyArrays.T15 : Bool × List (List Nat × List Nat) := (true, [([], []), ([0], [0]), ([1], [1]), ([2, 1, 1], [1, 2]), ([3, 1], [1, 3]), ([1], [1]), ([5, 1], [1, 5]), ([6, 1], [1, 6]), ([7, 1], [1, 7]), ([1], [1]), ([9, 1], [1, 9]), ([8, 10, 1], [1, 8, 10]), ([4, 11, 1], [1, 4, 11]), ([1, 12], [1, 12]), ([13, 3], [13]), ([14], [14]), ([15, 14, 14], [14, 15]), ([16, 16, 14], [14, 16]), ([17, 14], [14, 17]), ([14], [14]), ([19, 17, 14], [14, 19]), ([20, 14], [14, 20]), ([18, 21, 14], [14, 18, 21]), ([14, 22], [14, 22]), ([23, 20], [23]), ([24], [24]), ([24, 25], [24, 25]), ([26, 24], [26]), ([27], [27]), ([28, 27], [27, 28]), ([29, 27], [27, 29]), ([27, 30], [27, 30]), ([31, 27], [31]), ([32], [32]), ([33, 32], [32, 33]), ([34, 32], [32, 34]), ([32, 35], [32, 35]), ([36, 32, 0, 1, 2, 3, 4, 5, 6, 7, 8, 9, 10, 11, 12, 13, 14, 15, 16, 17, 18, 19, 20, 21, 22, 23, 24, 25, 26, 27, 28, 29, 30, 31, 32, 33, 34, 35, 36], [36])])
def tipstafflaw05_ReplyArrays.B15 : List Nat := [0, 1, 3, 7, 15, 3, 35, 99, 227, 3, 515, 2019, 4095, 8191, 16383, 32767, 65535, 131071, 262143, 32767, 786431, 1835007, 4194303, 8388607, 16777215, 33554431, 67108863, 134217727, 268435455, 536870911, 1073741823, 2147483647, 4294967295, 8589934591, 17179869183, 34359738367, 68719476735, 137438953471]
theorem tipstafflaw05_ReplyArrays.tab15 : rtab .any (opsOf Tryz.f6 15) = tipstafflaw05_ReplyArrays.T15 := by kernel_rfl
theorem tipstafflaw05_ReplyArrays.bits15 : waitsOk tipstafflaw05_ReplyArrays.T15.2 tipstafflaw05_ReplyArrays.B15 = true := by kernel_rfl
set_option maxHeartbeats 8000000 in
set_option maxRecDepth 100000 in
theorem tipstafflaw05_ReplyArrays.calls (k : Nat) (A0 : Option Addr) (c0 : Nat) (l0 : List ByteArray) (a1 : Int) (r : Bool) (w : World) (hr0 : Kd.C Kd.string w A0 l0.length l0) (hc0 : l0.length ≤ c0) (hT : Tryz.Ln.Tabs w) (h : tipstafflaw05_ReplyArrays.f k l0 a1 = some r) :
  Calls Tryz.prog 6 #[.slice A0 l0.length c0, .int .i64 a1] w fun e w' => e = .returned (.bool r) ∧ Below w.heap.size w w' := by
 have HT0 := Aside0.mk hT
 clear hT
 have HR0 := Aside0.mk hr0
 have HC0 := Aside0.mk hc0
 clear hr0 hc0
 have HB := Aside0.mk (Below.refl w.heap.size w)
 have H : ((tipstafflaw05_shown.f).bind fun t152 => ((tipstafflaw05_few.f k l0).bind fun t153 => ((tipstafflaw05_replies.f k t153 a1).bind fun t156 => (tipstafflaw05_ReplyArrays.l0 k l0 t152 t156 (([] : List Int)) 0)))) = some r := h
 clear h
 replace H := Option.bind_eq_some_iff.mp H
 obtain ⟨t152, A30, H⟩ := H
 replace H : ((tipstafflaw05_few.f k l0).bind fun t153 => ((tipstafflaw05_replies.f k t153 a1).bind fun t156 => (tipstafflaw05_ReplyArrays.l0 k l0 t152 t156 (([] : List Int)) 0))) = some r := H
 have A3 := Aside0.mk A30
 clear A30
 replace H := Option.bind_eq_some_iff.mp H
 obtain ⟨t153, A40, H⟩ := H
 replace H : ((tipstafflaw05_replies.f k t153 a1).bind fun t156 => (tipstafflaw05_ReplyArrays.l0 k l0 t152 t156 (([] : List Int)) 0)) = some r := H
 have A4 := Aside0.mk A40
 clear A40
 replace H := Option.bind_eq_some_iff.mp H
 obtain ⟨t156, A50, H⟩ := H
 replace H : (tipstafflaw05_ReplyArrays.l0 k l0 t152 t156 (([] : List Int)) 0) = some r := H
 have A5 := Aside0.mk A50
 clear A50
 obtain ⟨y159, hy159⟩ : ∃ y_ : List Int, y_ = (([] : List Int)) := ⟨_, rfl⟩
 replace H : (tipstafflaw05_ReplyArrays.l0 k l0 t152 t156 y159 0) = some r := by first | (rw [hy159]; with_reducible exact H) | (have H2_ := (Option.bind_some _ _).symm.trans H; rw [hy159]; with_reducible exact H2_) | (have H2_ := (Option.bind_some _ _).symm.trans H; with_reducible exact H2_) | with_reducible exact H | (rw [hy159]; exact H) | exact H
 have Ny159 := Aside0.mk hy159
 clear hy159
 have H' := Aside0.mk H
 clear H
 go_enter Tryz.func6, Tryz.ntmps6
 go_wp2_with (first | ((with_reducible refine gate_callee (f := 7) rfl ?_); refine goesL_ (some 15) rfl rfl Tryz.func7 (by kernel_rfl) rfl #[] rfl (by (try simp only [List.map_toArray, List.map_cons, List.map_nil]); first | done | rfl | (simp only [List.length_drop, List.length_take]; rfl)) ?_; (with_reducible refine (tipstafflaw05_shown.calls  t152 _ ?side1 A3.out).mono ?_); (case side1 => exact Tryz.Ln.tabs_below HT0.out HB.out); rintro e w6 ⟨rfl, hb⟩; refine ⟨_, rfl, ?_⟩; have n0_ := Aside0.mk (below_step HB.out hb); clear HB; have HB := n0_; clear n0_; (try clear hb); (try clear hb2); (try clear hk); (try clear hi)) | ((with_reducible refine gate_callee (f := 10) rfl ?_); refine goesL_ (some 17) rfl rfl Tryz.func10 (by kernel_rfl) rfl #[.slice A0 l0.length c0] rfl (by (try simp only [List.map_toArray, List.map_cons, List.map_nil]); first | done | rfl | (simp only [List.length_drop, List.length_take]; rfl)) ?_; (with_reducible refine (tipstafflaw05_few.calls k _ _ l0 t153 _ ?side1 ?side2 A4.out).mono ?_); (case side1 => repeat (first | exact (Kd.C_below HR0.out HB.out) | (with_reducible refine Kd.C_alloc ?_ _) | (with_reducible refine Kd.C_drewN ?_ _) | (with_reducible refine Kd.C_drew ?_))); (case side2 => exact HC0.out); rintro e w7 ⟨v154, rfl, ho0, hb⟩; refine ⟨_, rfl, ?_⟩; have n0_ := Aside0.mk (Kd.R_lower ho0 (below_size HB.out)); have n1_ := Aside0.mk (below_step HB.out hb); clear HB; have HO155 := n0_; have HB := n1_; clear n0_ n1_; (try clear hb); (try clear hb2); (try clear hk); (try clear hi); (try clear ho0); obtain ⟨Ao8, co8, eo8⟩ := Kd.R_slice HO155.out; subst eo8) | ((with_reducible refine gate_callee (f := 26) rfl ?_); refine goesL_ (some 19) rfl rfl Tryz.func26 (by kernel_rfl) rfl #[.slice Ao8 t153.length co8, .int .i64 a1] rfl (by (try simp only [List.map_toArray, List.map_cons, List.map_nil]); first | done | rfl | (simp only [List.length_drop, List.length_take]; rfl)) ?_; (with_reducible refine (tipstafflaw05_replies.calls k _ _ t153 a1 t156 _ ?side1 ?side2 ?side3 A5.out).mono ?_); (case side1 => repeat (first | exact (Kd.R_reads' HO155.out).2.2 | (with_reducible refine Kd.C_alloc ?_ _) | (with_reducible refine Kd.C_drewN ?_ _) | (with_reducible refine Kd.C_drew ?_))); (case side2 => exact (Kd.R_reads' HO155.out).2.1); (case side3 => exact Tryz.Ln.tabs_below HT0.out HB.out); rintro e w9 ⟨v157, rfl, ho0, hb⟩; refine ⟨_, rfl, ?_⟩; have n0_ := Aside0.mk (Kd.R_below HO155.out hb); have n1_ := Aside0.mk (Kd.N_lower (Kd.N_mono (ok' := fun k_ => nb k_ (.slice Ao8 t153.length co8)) ho0 (fun k_ hk_ => (Kd.fresh' (Kd.R_lt HO155.out) k_ hk_))) (below_size HB.out)); have n2_ := Aside0.mk (below_step HB.out hb); clear HO155; clear HB; have HO155 := n0_; have HO158 := n1_; have HB := n2_; clear n0_ n1_ n2_; (try clear hb); (try clear hb2); (try clear hk); (try clear hi); (try clear ho0)) | ((with_reducible refine gate_dst (N := 20) rfl ?_); refine Kd.R_lit (Kd.int .u8) _ 5 ?hg (N := 20) ?hd (xs := ([] : List Int)) (inner := []) (ok := fun _ => True) (okp := fun _ => True) ?hr ?hp (fun _ hk => hk) trivial (Below.refl _ _) (Nat.le_refl _) (by simp) ?_; (case hd => rfl); (case hg => rfl); (case hr => first | (go_simp; done) | (go_simp; rfl)); (case hp => exact (Reps.none _ _)); intro v160 w10 ho11 hb hg_ hnew_; clear hg_ hnew_; (first | rw [← Ny159.out] at ho11 | (simp only [Int.reduceToNat] at ho11; rw [← Ny159.out] at ho11)); have n0_ := Aside0.mk (Kd.R_below HO155.out hb); have n1_ := Aside0.mk (Kd.N_elder' HO158.out (Kd.R_base ho11) hb); have n2_ := Aside0.mk (Kd.R_lower ho11 (below_size HB.out)); have n3_ := Aside0.mk (below_step HB.out hb); clear HO155; clear HO158; clear HB; have HO155 := n0_; have HO158 := n1_; have HO161 := n2_; have HB := n3_; clear n0_ n1_ n2_ n3_; clear hb ho11))
 go_loopg [7, 8] k (fun kq v7 v8 w' => ∃ (x7_1 : List Int) (x8_1 : Int), v8 = .int .i64 x8_1 ∧ Aside0 (tipstafflaw05_ReplyArrays.l0 kq l0 t152 t156 x7_1 x8_1 = some r) ∧ Aside0 (kq ≤ k) ∧ Aside0 (Kd.N (Kd.slice 5 (Kd.int .u8)) 22 w' w.heap.size (fun k_ => nb k_ v7) v157 t156) ∧ Aside0 (Kd.R (Kd.int .u8) 5 w' w.heap.size (fun _ => True) v7 x7_1) ∧ Aside0 (Below w.heap.size w w'))
 case atStart => exact ⟨(y159), (0), (by first | rfl | (simp; done) | (simp [*]; done)), H', ⟨Nat.le_refl _⟩, ⟨by (with_reducible repeat (first | apply Kd.N_alloc | apply Kd.N_drewN | apply Kd.N_drew)); exact Kd.N_mono HO158.out (fun _ hk => hk.2)⟩, ⟨by (with_reducible repeat (first | apply Kd.R_alloc | apply Kd.R_drewN | apply Kd.R_drew)); exact HO161.out⟩, ⟨by repeat (first | (with_reducible first | exact HB.out | apply below_alloc | apply pw_below_drewN | apply below_drew1) | exact HB.out)⟩⟩
 case round =>
  clear H'
  try clear c1
  try clear c2
  try clear p2
  try clear c6
  try clear c7
  try clear c10
  obtain ⟨x7_1, x8_1, rfl, HA, HK1, HO_6, HO_7, HB⟩ := hrel
  cases gk with
  | zero => exact absurd HA.out (by simp [tipstafflaw05_ReplyArrays.l0])
  | succ k1 =>
   have H := HA.out
   clear HA
   simp only [tipstafflaw05_ReplyArrays.l0] at H
   by_cases c12 : x8_1 < (t156.length : Int)
   ·rw [if_pos c12] at H
    have c12b0 : decide (x8_1 < (t156.length : Int)) = true := decide_eq_true c12
    clear c12
    by_cases c13 : 0 ≤ x8_1
    ·rw [if_pos c13] at H
     have c13b0 : decide (0 ≤ x8_1) = true := decide_eq_true c13
     clear c13
     by_cases c14 : x7_1.length + (rd_L2 t156 x8_1).length < 140737488355328
     ·rw [if_pos c14] at H
      have LMc14 := Aside0.mk c14
      clear c14
      obtain ⟨y163, hy163⟩ : ∃ y_ : List Int, y_ = (x7_1 ++ (rd_L2 t156 x8_1)) := ⟨_, rfl⟩
      replace H : (tipstafflaw05_ReplyArrays.l0 k1 l0 t152 t156 y163 (wrap64 (x8_1 + 1))) = some r := by first | (rw [hy163]; with_reducible exact H) | (have H2_ := (Option.bind_some _ _).symm.trans H; rw [hy163]; with_reducible exact H2_) | (have H2_ := (Option.bind_some _ _).symm.trans H; with_reducible exact H2_) | with_reducible exact H | (rw [hy163]; exact H) | exact H
      have Ny163 := Aside0.mk hy163
      clear hy163
      have H' := Aside0.mk H
      clear H
      obtain ⟨Ao15, co15, eo15⟩ := Kd.N_slice HO_6.out
      subst eo15
      have p162 : 0 ≤ (x8_1 : Int) := of_decide_eq_true (by first | (with_reducible assumption) | assumption)
      have q162 : x8_1 < (t156.length : Int) := of_decide_eq_true (by first | (with_reducible assumption) | assumption)
      obtain ⟨ad162, A162_0, c162_0, e162, hx162_0, hl162_0, hi162_0⟩ := at_L2 (Kd.N_reads' HO_6.out).2.2 x8_1 p162 q162
      cases e162
      obtain ⟨ce162, hce162, hMe162, hcc162⟩ := Kd.N_get HO_6.out [] x8_1 p162 (by first | exact q162 | exact of_decide_eq_true (by first | (with_reducible assumption) | assumption) | (have e_ := (Kd.N_reads' HO_6.out).1; omega))
      obtain ⟨ua162_0, uc162_0, rfl, ul162_0, ge162_0⟩ := Kd.FK_slice_open hMe162
      have hv162_0 := hcc162 0 _ rfl
      rw [Nat.add_zero, show ((Kd.slice 5 (Kd.int .u8))).sz = 1 from rfl, Nat.mul_one] at hv162_0
      replace hv162_0 := Option.some.inj (hv162_0.symm.trans hx162_0)
      injection hv162_0 with hva_ hvn_ hvc_
      rw [hva_] at ge162_0
      rw [hvc_] at ul162_0
      have HL162_0 := Aside0.mk (show Kd.V (Kd.int .u8) 5 _ w.heap.size _ _ (rd_L2 t156 x8_1) from Kd.V_mk ul162_0 ge162_0)
      clear hva_ hvn_ hvc_ ge162_0 ul162_0
      clear hcc162 hce162
      have HR162_0 := Aside0.mk hi162_0
      have HC162_0 := Aside0.mk hl162_0
      clear hi162_0 hl162_0
      replace p162 := eq_true p162
      replace q162 := eq_true q162
      go_wp2_with (first | ((with_reducible refine gate_builtin (b := .append) (xs := #[.tmp 27, .tmp 31]) rfl ?_); at_builtin; refine Kd.R_append_rows (Kd.int .u8) (w0 := w) w.heap.size rfl (.tmp 27) (.tmp 31) 22 5 (.int .u8 0) 1 rfl Tryz.underlying22 info5 rfl (by decide) (by omega) u7 x7_1 (rd_L2 t156 x8_1) _ _ _ (fun _ => True) (fun _ => False) rfl rfl ?aO ?aR (fun _ _ h => h) (fun _ h => h.elim) ?aF ?aB ?aS ?aL ?_; (case aR => repeat (first | exact (by repeat (first | (with_reducible exact HR162_0.out) | (with_reducible refine Kd.C_alloc ?_ _) | (with_reducible refine Kd.C_drewN ?_ _) | (with_reducible refine Kd.C_drew ?_) | exact HR162_0.out)) | (with_reducible refine Kd.C_alloc ?_ _) | (with_reducible refine Kd.C_drewN ?_ _) | (with_reducible refine Kd.C_drew ?_))); (case aB => exact HB.out); (case aF => exact (fun _ _ => trivial)); (case aO => exact HO_7.out); (case aS => exact (below_size HB.out)); (case aL => have := LMc14.out; omega); intro v164 w16 ho hb hg hat; rw [← Ny163.out] at ho; have n0_ := Aside0.mk (Kd.N_afterv (ok := (fun _ => True)) (by (with_reducible repeat (first | apply Kd.N_alloc | apply Kd.N_drewN | apply Kd.N_drew)); exact Kd.N_mono HO_6.out (fun _ hk => ⟨trivial, hk⟩)) hg hat); have n1_ := Aside0.mk (Kd.V_afterv (ok := (fun k_ => nb k_ (.slice (some ad162) t156.length co15))) (by (with_reducible repeat (first | apply Kd.V_alloc | apply Kd.V_drewN | apply Kd.V_drew)); exact Kd.V_mono HL162_0.out (fun _ hk => ⟨hk.2, hk.1⟩)) hg hat); have n2_ := Aside0.mk (hb); have n3_ := Aside0.mk (ho); clear HO_6; clear HL162_0; clear HB; clear HO_7; have HO_6 := n0_; have HL162_0 := n1_; have HB := n2_; have HO165 := n3_; clear n0_ n1_ n2_ n3_; clear ho hb hg hat))
      go_roundg k1
      case measure => have := HK1.out; omega
      case rel => exact ⟨(y163), (wrap64 (x8_1 + 1)), (by first | rfl | (simp; done) | (simp [*]; done)), H', ⟨by have := HK1.out; omega⟩, ⟨by (with_reducible repeat (first | apply Kd.N_alloc | apply Kd.N_drewN | apply Kd.N_drew)); exact Kd.N_mono HO_6.out (fun _ hk => hk.2)⟩, ⟨by (with_reducible repeat (first | apply Kd.R_alloc | apply Kd.R_drewN | apply Kd.R_drew)); exact HO165.out⟩, ⟨by repeat (first | (with_reducible first | exact HB.out | apply below_alloc | apply pw_below_drewN | apply below_drew1) | exact HB.out)⟩⟩
     ·rw [if_neg c14] at H
      exact absurd H (by simp)
    ·rw [if_neg c13] at H
     exact absurd H (by simp)
   ·rw [if_neg c12] at H
    have c12b0 : decide (x8_1 < (t156.length : Int)) = false := decide_eq_false c12
    clear c12
    replace H := Option.bind_eq_some_iff.mp H
    obtain ⟨t166, A170, H⟩ := H
    replace H : (tipstafflaw05_ReplyArrays.l1 k1 l0 t152 t156 x7_1 t166 (([] : List (List Int))) 0) = some r := H
    have A17 := Aside0.mk A170
    clear A170
    obtain ⟨y169, hy169⟩ : ∃ y_ : List (List Int), y_ = (([] : List (List Int))) := ⟨_, rfl⟩
    replace H : (tipstafflaw05_ReplyArrays.l1 k1 l0 t152 t156 x7_1 t166 y169 0) = some r := by first | (rw [hy169]; with_reducible exact H) | (have H2_ := (Option.bind_some _ _).symm.trans H; rw [hy169]; with_reducible exact H2_) | (have H2_ := (Option.bind_some _ _).symm.trans H; with_reducible exact H2_) | with_reducible exact H | (rw [hy169]; exact H) | exact H
    have Ny169 := Aside0.mk hy169
    clear hy169
    have H' := Aside0.mk H
    clear H
    obtain ⟨Ao18, co18, eo18⟩ := Kd.N_slice HO_6.out
    subst eo18
    go_wp2_with (first | ((with_reducible refine gate_callee (f := 16) rfl ?_); refine goesL_ (some 35) rfl rfl Tryz.func16 (by kernel_rfl) rfl #[.int .i64 (t156.length : Int)] rfl (by (try simp only [List.map_toArray, List.map_cons, List.map_nil]); first | done | rfl | (simp only [List.length_drop, List.length_take]; rfl)) ?_; (with_reducible refine (reply_Int.calls (t156.length : Int) t166 _ ?side1 A17.out).mono ?_); (case side1 => exact Tryz.Ln.tabs_below HT0.out HB.out); rintro e w19 ⟨v167, rfl, ho0, hb⟩; refine ⟨_, rfl, ?_⟩; have n0_ := Aside0.mk (Kd.N_below HO_6.out hb); have n1_ := Aside0.mk (Kd.R_below HO_7.out hb); have n2_ := Aside0.mk (Kd.V_lower (Kd.V_mono (ok' := fun k_ => nb k_ (.slice Ao18 t156.length co18) ∧ nb k_ u7) ho0 (fun k_ hk_ => ⟨(Kd.fresh' (Kd.N_lt HO_6.out) k_ hk_), (Kd.fresh' (Kd.R_lt HO_7.out) k_ hk_)⟩)) (below_size HB.out)); have n3_ := Aside0.mk (below_step HB.out hb); clear HO_6; clear HO_7; clear HB; have HO_6 := n0_; have HO_7 := n1_; have HO168 := n2_; have HB := n3_; clear n0_ n1_ n2_ n3_; (try clear hb); (try clear hb2); (try clear hk); (try clear hi); (try clear ho0)) | ((with_reducible refine gate_dst (N := 36) rfl ?_); refine Kd.N_lit (Kd.slice 5 (Kd.int .u8)) _ 22 ?hg (N' := 36) ?hd (xs := ([] : List (List Int))) (inner := []) (ok := (fun k_ => nb k_ (.slice Ao18 t156.length co18) ∧ nb k_ u7)) (okp := (fun k_ => nb k_ (.slice Ao18 t156.length co18) ∧ nb k_ u7)) ?hr ?hp (fun _ hk => hk) ((show ∀ k_, w19.heap.size ≤ k_ → (fun k_ => nb k_ (.slice Ao18 t156.length co18) ∧ nb k_ u7) k_ from fun k_ hk => ⟨Kd.fresh' (Kd.N_lt HO_6.out) k_ hk, Kd.fresh' (Kd.R_lt HO_7.out) k_ hk⟩) _ (Nat.le_refl _)) (Below.refl _ _) (Nat.le_refl _) (by simp) ?_; (case hd => rfl); (case hg => rfl); (case hr => first | (go_simp; done) | (go_simp; rfl)); (case hp => exact (Reps.none _ _)); intro v170 w20 ho21 hb hg_ hnew_; clear hg_ hnew_; (first | rw [← Ny169.out] at ho21 | (simp only [Int.reduceToNat] at ho21; rw [← Ny169.out] at ho21)); have n0_ := Aside0.mk (Kd.N_elder' HO_6.out (Kd.N_base ho21) hb); have n1_ := Aside0.mk (Kd.R_below HO_7.out hb); have n2_ := Aside0.mk (Kd.V_elder' HO168.out (Kd.N_base ho21) hb); have n3_ := Aside0.mk (Kd.N_lower ho21 (below_size HB.out)); have n4_ := Aside0.mk (below_step HB.out hb); clear HO_6; clear HO_7; clear HO168; clear HB; have HO_6 := n0_; have HO_7 := n1_; have HO168 := n2_; have HO171 := n3_; have HB := n4_; clear n0_ n1_ n2_ n3_ n4_; clear hb ho21))
    go_loopg [10, 11] k1 (fun kq v10 v11 w' => ∃ (x10_2 : List (List Int)) (x11_2 : Int), v11 = .int .i64 x11_2 ∧ Aside0 (tipstafflaw05_ReplyArrays.l1 kq l0 t152 t156 x7_1 t166 x10_2 x11_2 = some r) ∧ Aside0 (kq ≤ k1) ∧ Aside0 (Kd.N (Kd.slice 5 (Kd.int .u8)) 22 w' w.heap.size (fun k_ => nb k_ u7 ∧ nb k_ v10) (.slice Ao18 t156.length co18) t156) ∧ Aside0 (Kd.R (Kd.int .u8) 5 w' w.heap.size (fun _ => True) u7 x7_1) ∧ Aside0 (Kd.V (Kd.int .u8) 5 w' w.heap.size (fun k_ => nb k_ ((.slice Ao18 t156.length co18)) ∧ nb k_ u7 ∧ nb k_ v10) v167 t166) ∧ Aside0 (Kd.N (Kd.slice 5 (Kd.int .u8)) 22 w' w.heap.size (fun k_ => nb k_ ((.slice Ao18 t156.length co18)) ∧ nb k_ u7) v10 x10_2) ∧ Aside0 (Below w.heap.size w w'))
    case atStart => exact ⟨(y169), (0), (by first | rfl | (simp; done) | (simp [*]; done)), H', ⟨Nat.le_refl _⟩, ⟨by (with_reducible repeat (first | apply Kd.N_alloc | apply Kd.N_drewN | apply Kd.N_drew)); exact HO_6.out⟩, ⟨by (with_reducible repeat (first | apply Kd.R_alloc | apply Kd.R_drewN | apply Kd.R_drew)); exact HO_7.out⟩, ⟨by (with_reducible repeat (first | apply Kd.V_alloc | apply Kd.V_drewN | apply Kd.V_drew)); exact Kd.V_mono HO168.out (fun _ hk => ⟨hk.1.1, ⟨hk.1.2, hk.2⟩⟩)⟩, ⟨by (with_reducible repeat (first | apply Kd.N_alloc | apply Kd.N_drewN | apply Kd.N_drew)); exact HO171.out⟩, ⟨by repeat (first | (with_reducible first | exact HB.out | apply below_alloc | apply pw_below_drewN | apply below_drew1) | exact HB.out)⟩⟩
    case round =>
     clear H'
     try clear c1
     try clear p1
     try clear q1
     try clear hx1
     try clear c2
     try clear p2
     try clear c6
     try clear p6
     try clear c7
     try clear c10
     try clear c12
     try clear c12b0
     try clear c13
     try clear c13b0
     try clear c14
     try clear c16
     try clear p16
     try clear q16
     try clear hx16
     try clear hx162_0
     try clear p162
     try clear p2
     try clear q162
     obtain ⟨x10_2, x11_2, rfl, HA, HK2, HO_6, HO_7, HO_9, HO_10, HB⟩ := hrel
     cases gk with
     | zero => exact absurd HA.out (by simp [tipstafflaw05_ReplyArrays.l1])
     | succ k2 =>
      have H := HA.out
      clear HA
      simp only [tipstafflaw05_ReplyArrays.l1] at H
      replace H := Option.bind_eq_some_iff.mp H
      obtain ⟨t172, A220, H⟩ := H
      replace H : (if x11_2 < (t172.length : Int) then ((tipstafflaw05_few.f k2 l0).bind fun t175 => (if 0 ≤ x11_2 then (if x11_2 < (t175.length : Int) then ((reply_Bulk.f (rdOf ByteArray.empty t175 x11_2)).bind fun t179 => (if x10_2.length < 5864062014805 then (tipstafflaw05_ReplyArrays.l1 k2 l0 t152 t156 x7_1 t166 (x10_2 ++ [t179]) (wrap64 (x11_2 + 1))) else (none))) else (none)) else (none))) else ((Tryz.Ln.arrX).bind fun t185 => ((reply_Take.f t185).bind fun bt188 => (if t152 = true then ((reply_Array.f t156).bind fun t195 => (if 1 ≤ (t166.length : Int) then ((some (t166.drop 1 : List Int)).bind fun y198 => (if 1 + (strOfNums y198).size ≤ 9223372036854775807 then (if ((⟨#[42]⟩ : ByteArray) ++ (strOfNums y198)).size + (strOfNums x7_1).size ≤ 9223372036854775807 then (if (strOfNums t195).toList = (((⟨#[42]⟩ : ByteArray) ++ (strOfNums y198)) ++ (strOfNums x7_1)).toList then ((tipstafflaw05_few.f k2 l0).bind fun t203 => ((reply_Texts.f t203).bind fun t206 => ((reply_Array.f x10_2).bind fun t209 => (if (strOfNums t206).toList = (strOfNums t209).toList then (if bt188.2.2 = true then (if (strOfNums bt188.1).toList = ([42, 48, 13, 10] : List UInt8) then (some ((strOfNums bt188.2.1).toList == ([120] : List UInt8))) else (none)) else (none)) else (none))))) else (none)) else (none)) else (none))) else (none))) else (none))))) = some r := H
      have A22 := Aside0.mk A220
      clear A220
      by_cases c23 : x11_2 < (t172.length : Int)
      ·rw [if_pos c23] at H
       have c23b0 : decide (x11_2 < (t172.length : Int)) = true := decide_eq_true c23
       clear c23
       replace H := Option.bind_eq_some_iff.mp H
       obtain ⟨t175, A240, H⟩ := H
       replace H : (if 0 ≤ x11_2 then (if x11_2 < (t175.length : Int) then ((reply_Bulk.f (rdOf ByteArray.empty t175 x11_2)).bind fun t179 => (if x10_2.length < 5864062014805 then (tipstafflaw05_ReplyArrays.l1 k2 l0 t152 t156 x7_1 t166 (x10_2 ++ [t179]) (wrap64 (x11_2 + 1))) else (none))) else (none)) else (none)) = some r := H
       have A24 := Aside0.mk A240
       clear A240
       by_cases c25 : 0 ≤ x11_2
       ·rw [if_pos c25] at H
        have c25b0 : decide (0 ≤ x11_2) = true := decide_eq_true c25
        clear c25
        by_cases c26 : x11_2 < (t175.length : Int)
        ·rw [if_pos c26] at H
         have c26b0 : decide (x11_2 < (t175.length : Int)) = true := decide_eq_true c26
         clear c26
         replace H := Option.bind_eq_some_iff.mp H
         obtain ⟨t179, A270, H⟩ := H
         replace H : (if x10_2.length < 5864062014805 then (tipstafflaw05_ReplyArrays.l1 k2 l0 t152 t156 x7_1 t166 (x10_2 ++ [t179]) (wrap64 (x11_2 + 1))) else (none)) = some r := H
         have A27 := Aside0.mk A270
         clear A270
         by_cases c28 : x10_2.length < 5864062014805
         ·rw [if_pos c28] at H
          have LMc28 := Aside0.mk c28
          clear c28
          obtain ⟨y182, hy182⟩ : ∃ y_ : List (List Int), y_ = (x10_2 ++ [t179]) := ⟨_, rfl⟩
          replace H : (tipstafflaw05_ReplyArrays.l1 k2 l0 t152 t156 x7_1 t166 y182 (wrap64 (x11_2 + 1))) = some r := by first | (rw [hy182]; with_reducible exact H) | (have H2_ := (Option.bind_some _ _).symm.trans H; rw [hy182]; with_reducible exact H2_) | (have H2_ := (Option.bind_some _ _).symm.trans H; with_reducible exact H2_) | with_reducible exact H | (rw [hy182]; exact H) | exact H
          have Ny182 := Aside0.mk hy182
          clear hy182
          have H' := Aside0.mk H
          clear H
          go_wp2_with (first | ((with_reducible refine gate_callee (f := 10) rfl ?_); refine goesL_ (some 39) rfl rfl Tryz.func10 (by kernel_rfl) rfl #[.slice A0 l0.length c0] rfl (by (try simp only [List.map_toArray, List.map_cons, List.map_nil]); first | done | rfl | (simp only [List.length_drop, List.length_take]; rfl)) ?_; (with_reducible refine (tipstafflaw05_few.calls k2 _ _ l0 t172 _ ?side1 ?side2 A22.out).mono ?_); (case side1 => repeat (first | exact (Kd.C_below HR0.out HB.out) | (with_reducible refine Kd.C_alloc ?_ _) | (with_reducible refine Kd.C_drewN ?_ _) | (with_reducible refine Kd.C_drew ?_))); (case side2 => exact HC0.out); rintro e w29 ⟨v173, rfl, ho0, hb⟩; refine ⟨_, rfl, ?_⟩; have n0_ := Aside0.mk (Kd.N_elder' HO_6.out (Kd.R_base ho0) hb); have n1_ := Aside0.mk (Kd.R_below HO_7.out hb); have n2_ := Aside0.mk (Kd.V_elder' HO_9.out (Kd.R_base ho0) hb); have n3_ := Aside0.mk (Kd.N_elder' HO_10.out (Kd.R_base ho0) hb); have n4_ := Aside0.mk (Kd.R_lower ho0 (below_size HB.out)); have n5_ := Aside0.mk (below_step HB.out hb); clear HO_6; clear HO_7; clear HO_9; clear HO_10; clear HB; have HO_6 := n0_; have HO_7 := n1_; have HO_9 := n2_; have HO_10 := n3_; have HO174 := n4_; have HB := n5_; clear n0_ n1_ n2_ n3_ n4_ n5_; (try clear hb); (try clear hb2); (try clear hk); (try clear hi); (try clear ho0); obtain ⟨Ao30, co30, eo30⟩ := Kd.R_slice HO174.out; subst eo30) | ((with_reducible refine gate_callee (f := 10) rfl ?_); refine goesL_ (some 46) rfl rfl Tryz.func10 (by kernel_rfl) rfl #[.slice A0 l0.length c0] rfl (by (try simp only [List.map_toArray, List.map_cons, List.map_nil]); first | done | rfl | (simp only [List.length_drop, List.length_take]; rfl)) ?_; (with_reducible refine (tipstafflaw05_few.calls k2 _ _ l0 t175 _ ?side1 ?side2 A24.out).mono ?_); (case side1 => repeat (first | exact (Kd.C_below HR0.out HB.out) | (with_reducible refine Kd.C_alloc ?_ _) | (with_reducible refine Kd.C_drewN ?_ _) | (with_reducible refine Kd.C_drew ?_))); (case side2 => exact HC0.out); rintro e w31 ⟨v176, rfl, ho0, hb⟩; refine ⟨_, rfl, ?_⟩; have n0_ := Aside0.mk (Kd.N_elder' HO_6.out (Kd.R_base ho0) hb); have n1_ := Aside0.mk (Kd.R_below HO_7.out hb); have n2_ := Aside0.mk (Kd.V_elder' HO_9.out (Kd.R_base ho0) hb); have n3_ := Aside0.mk (Kd.N_elder' HO_10.out (Kd.R_base ho0) hb); have n4_ := Aside0.mk (Kd.R_elder' HO174.out (Kd.R_base ho0) hb); have n5_ := Aside0.mk (Kd.R_lower (Kd.R_new' ho0 (Kd.R_lt HO174.out)) (below_size HB.out)); have n6_ := Aside0.mk (below_step HB.out hb); clear HO_6; clear HO_7; clear HO_9; clear HO_10; clear HO174; clear HB; have HO_6 := n0_; have HO_7 := n1_; have HO_9 := n2_; have HO_10 := n3_; have HO174 := n4_; have HO177 := n5_; have HB := n6_; clear n0_ n1_ n2_ n3_ n4_ n5_ n6_; (try clear hb); (try clear hb2); (try clear hk); (try clear hi); (try clear ho0); obtain ⟨Ao32, co32, eo32⟩ := Kd.R_slice HO177.out; subst eo32; have p178 : 0 ≤ (x11_2 : Int) := of_decide_eq_true (by first | (with_reducible assumption) | assumption); have q178 : x11_2 < (t175.length : Int) := of_decide_eq_true (by first | (with_reducible assumption) | assumption); obtain ⟨ad178, e178, hx178_0⟩ := Kd.at_string (Kd.R_reads' HO177.out).2.2 x11_2 p178 q178; cases e178; replace p178 := eq_true p178; replace q178 := eq_true q178) | ((with_reducible refine gate_callee (f := 18) rfl ?_); refine goesL_ (some 50) rfl rfl Tryz.func18 (by kernel_rfl) rfl #[.string (rdOf ByteArray.empty t175 x11_2)] rfl (by (try simp only [List.map_toArray, List.map_cons, List.map_nil]); first | done | rfl | (simp only [List.length_drop, List.length_take]; rfl)) ?_; (with_reducible refine (reply_Bulk.calls (rdOf ByteArray.empty t175 x11_2) t179 _ ?side1 A27.out).mono ?_); (case side1 => exact Tryz.Ln.tabs_below HT0.out HB.out); rintro e w33 ⟨v180, rfl, ho0, hb⟩; refine ⟨_, rfl, ?_⟩; have n0_ := Aside0.mk (Kd.N_below HO_6.out hb); have n1_ := Aside0.mk (Kd.R_below HO_7.out hb); have n2_ := Aside0.mk (Kd.V_below HO_9.out hb); have n3_ := Aside0.mk (Kd.N_below HO_10.out hb); have n4_ := Aside0.mk (Kd.R_below HO174.out hb); have n5_ := Aside0.mk (Kd.R_below HO177.out hb); have n6_ := Aside0.mk (Kd.V_lower (Kd.V_mono (ok' := fun k_ => nb k_ (.slice Ao18 t156.length co18) ∧ nb k_ u7 ∧ nb k_ u10 ∧ nb k_ (.slice Ao30 t172.length co30) ∧ nb k_ (.slice (some ad178) t175.length co32)) ho0 (fun k_ hk_ => ⟨(Kd.fresh' (Kd.N_lt HO_6.out) k_ hk_), (Kd.fresh' (Kd.R_lt HO_7.out) k_ hk_), (Kd.fresh' (Kd.N_lt HO_10.out) k_ hk_), (Kd.fresh' (Kd.R_lt HO174.out) k_ hk_), (Kd.fresh' (Kd.R_lt HO177.out) k_ hk_)⟩)) (below_size HB.out)); have n7_ := Aside0.mk (below_step HB.out hb); clear HO_6; clear HO_7; clear HO_9; clear HO_10; clear HO174; clear HO177; clear HB; have HO_6 := n0_; have HO_7 := n1_; have HO_9 := n2_; have HO_10 := n3_; have HO174 := n4_; have HO177 := n5_; have HO181 := n6_; have HB := n7_; clear n0_ n1_ n2_ n3_ n4_ n5_ n6_ n7_; (try clear hb); (try clear hb2); (try clear hk); (try clear hi); (try clear ho0); obtain ⟨Ao35, co35, eo35⟩ := Kd.V_slice HO181.out; subst eo35) | ((with_reducible refine gate_builtin (b := .append) (xs := #[.tmp 44, .tmp 51]) rfl ?_); at_builtin; refine Kd.N_append (Kd.slice 5 (Kd.int .u8)) (w0 := w) w.heap.size rfl (.tmp 44) (.tmp 51) 39 22 (.slice none 0 0) 24 rfl Tryz.underlying39 info22 rfl (by decide) (by omega) u10 x10_2 t179 [.slice Ao35 t179.length co35] (fun k_ => nb k_ (.slice Ao18 t156.length co18) ∧ nb k_ u7 ∧ nb k_ (.slice Ao30 t172.length co30) ∧ nb k_ (.slice (some ad178) t175.length co32)) (fun k_ => ((fun k_ => nb k_ (.slice Ao18 t156.length co18) ∧ nb k_ u7 ∧ nb k_ (.slice Ao30 t172.length co30) ∧ nb k_ (.slice (some ad178) t175.length co32))) k_ ∧ nb k_ u10) rfl rfl ?aP (fun _ hk => hk) ?aF ?aO ?aB ?aS ?aL ?_; (case aP => exact (Kd.FK_slice_mk (Kd.V_reads' (Kd.V_mono (ok' := (fun k_ => ((fun k_ => nb k_ (.slice Ao18 t156.length co18) ∧ nb k_ u7 ∧ nb k_ (.slice Ao30 t172.length co30) ∧ nb k_ (.slice (some ad178) t175.length co32))) k_ ∧ nb k_ u10)) (HO181.out) (fun k_ hk => ⟨⟨hk.1, ⟨hk.2.1, ⟨hk.2.2.2.1, hk.2.2.2.2⟩⟩⟩, hk.2.2.1⟩))).2.1 (Kd.V_F (Kd.V_mono (ok' := (fun k_ => ((fun k_ => nb k_ (.slice Ao18 t156.length co18) ∧ nb k_ u7 ∧ nb k_ (.slice Ao30 t172.length co30) ∧ nb k_ (.slice (some ad178) t175.length co32))) k_ ∧ nb k_ u10)) (HO181.out) (fun k_ hk => ⟨⟨hk.1, ⟨hk.2.1, ⟨hk.2.2.2.1, hk.2.2.2.2⟩⟩⟩, hk.2.2.1⟩))))); (case aB => exact HB.out); (case aF => exact (fun k_ hk => ⟨Kd.fresh' (Kd.N_lt HO_6.out) k_ hk, Kd.fresh' (Kd.R_lt HO_7.out) k_ hk, Kd.fresh' (Kd.R_lt HO174.out) k_ hk, Kd.fresh' (Kd.R_lt HO177.out) k_ hk⟩)); (case aO => exact (by (with_reducible repeat (first | apply Kd.N_alloc | apply Kd.N_drewN | apply Kd.N_drew)); exact Kd.N_mono HO_10.out (fun _ hk => ⟨hk.1.1.1, ⟨hk.1.1.2, ⟨hk.1.2, hk.2⟩⟩⟩))); (case aS => exact (below_size HB.out)); (case aL => have := LMc28.out; omega); intro v183 w34 ho hb hg hat; rw [← Ny182.out] at ho; have n0_ := Aside0.mk (Kd.N_afterv (ok := (fun k_ => nb k_ u7 ∧ nb k_ (.slice Ao30 t172.length co30) ∧ nb k_ (.slice (some ad178) t175.length co32))) (by (with_reducible repeat (first | apply Kd.N_alloc | apply Kd.N_drewN | apply Kd.N_drew)); exact Kd.N_mono HO_6.out (fun _ hk => ⟨⟨hk.1.1.1, ⟨hk.1.2, hk.2⟩⟩, hk.1.1.2⟩)) hg hat); have n1_ := Aside0.mk (Kd.R_over' HO_7.out (Kd.N_typed HO_10.out) (by decide) hg); have n2_ := Aside0.mk (Kd.V_afterv (ok := (fun k_ => nb k_ (.slice Ao18 t156.length co18) ∧ nb k_ u7 ∧ nb k_ (.slice Ao30 t172.length co30) ∧ nb k_ (.slice (some ad178) t175.length co32))) (by (with_reducible repeat (first | apply Kd.V_alloc | apply Kd.V_drewN | apply Kd.V_drew)); exact Kd.V_mono HO_9.out (fun _ hk => ⟨⟨hk.1.1.1, ⟨hk.1.1.2.1, ⟨hk.1.2, hk.2⟩⟩⟩, hk.1.1.2.2⟩)) hg hat); have n3_ := Aside0.mk (Kd.R_over' HO174.out (Kd.N_typed HO_10.out) (by decide) hg); have n4_ := Aside0.mk (Kd.R_over' HO177.out (Kd.N_typed HO_10.out) (by decide) hg); have n5_ := Aside0.mk (Kd.V_afterv (ok := (fun k_ => nb k_ (.slice Ao18 t156.length co18) ∧ nb k_ u7 ∧ nb k_ (.slice Ao30 t172.length co30) ∧ nb k_ (.slice (some ad178) t175.length co32))) (by (with_reducible repeat (first | apply Kd.V_alloc | apply Kd.V_drewN | apply Kd.V_drew)); exact Kd.V_mono HO181.out (fun _ hk => ⟨⟨hk.1, ⟨hk.2.1, ⟨hk.2.2.2.1, hk.2.2.2.2⟩⟩⟩, hk.2.2.1⟩)) hg hat); have n6_ := Aside0.mk (hb); have n7_ := Aside0.mk (ho); clear HO_6; clear HO_7; clear HO_9; clear HO174; clear HO177; clear HO181; clear HB; clear HO_10; have HO_6 := n0_; have HO_7 := n1_; have HO_9 := n2_; have HO174 := n3_; have HO177 := n4_; have HO181 := n5_; have HB := n6_; have HO184 := n7_; clear n0_ n1_ n2_ n3_ n4_ n5_ n6_ n7_; clear ho hb hg hat))
          go_roundg k2
          case measure => have := HK1.out; have := HK2.out; omega
          case rel => exact ⟨(y182), (wrap64 (x11_2 + 1)), (by first | rfl | (simp; done) | (simp [*]; done)), H', ⟨by have := HK1.out; have := HK2.out; omega⟩, ⟨by (with_reducible repeat (first | apply Kd.N_alloc | apply Kd.N_drewN | apply Kd.N_drew)); exact Kd.N_mono HO_6.out (fun _ hk => ⟨hk.1.1, hk.2⟩)⟩, ⟨by (with_reducible repeat (first | apply Kd.R_alloc | apply Kd.R_drewN | apply Kd.R_drew)); exact HO_7.out⟩, ⟨by (with_reducible repeat (first | apply Kd.V_alloc | apply Kd.V_drewN | apply Kd.V_drew)); exact Kd.V_mono HO_9.out (fun _ hk => ⟨hk.1.1, ⟨hk.1.2.1, hk.2⟩⟩)⟩, ⟨by (with_reducible repeat (first | apply Kd.N_alloc | apply Kd.N_drewN | apply Kd.N_drew)); exact Kd.N_mono HO184.out (fun _ hk => ⟨hk.1, hk.2.1⟩)⟩, ⟨by repeat (first | (with_reducible first | exact HB.out | apply below_alloc | apply pw_below_drewN | apply below_drew1) | exact HB.out)⟩⟩
         ·rw [if_neg c28] at H
          exact absurd H (by simp)
        ·rw [if_neg c26] at H
         exact absurd H (by simp)
       ·rw [if_neg c25] at H
        exact absurd H (by simp)
      ·rw [if_neg c23] at H
       have c23b0 : decide (x11_2 < (t172.length : Int)) = false := decide_eq_false c23
       clear c23
       replace H := Option.bind_eq_some_iff.mp H
       obtain ⟨t185, A360, H⟩ := H
       replace H : ((reply_Take.f t185).bind fun bt188 => (if t152 = true then ((reply_Array.f t156).bind fun t195 => (if 1 ≤ (t166.length : Int) then ((some (t166.drop 1 : List Int)).bind fun y198 => (if 1 + (strOfNums y198).size ≤ 9223372036854775807 then (if ((⟨#[42]⟩ : ByteArray) ++ (strOfNums y198)).size + (strOfNums x7_1).size ≤ 9223372036854775807 then (if (strOfNums t195).toList = (((⟨#[42]⟩ : ByteArray) ++ (strOfNums y198)) ++ (strOfNums x7_1)).toList then ((tipstafflaw05_few.f k2 l0).bind fun t203 => ((reply_Texts.f t203).bind fun t206 => ((reply_Array.f x10_2).bind fun t209 => (if (strOfNums t206).toList = (strOfNums t209).toList then (if bt188.2.2 = true then (if (strOfNums bt188.1).toList = ([42, 48, 13, 10] : List UInt8) then (some ((strOfNums bt188.2.1).toList == ([120] : List UInt8))) else (none)) else (none)) else (none))))) else (none)) else (none)) else (none))) else (none))) else (none))) = some r := H
       have A36 := Aside0.mk A360
       clear A360
       replace H := Option.bind_eq_some_iff.mp H
       obtain ⟨⟨t188, t189, t190⟩, A370, H⟩ := H
       replace H : (if t152 = true then ((reply_Array.f t156).bind fun t195 => (if 1 ≤ (t166.length : Int) then ((some (t166.drop 1 : List Int)).bind fun y198 => (if 1 + (strOfNums y198).size ≤ 9223372036854775807 then (if ((⟨#[42]⟩ : ByteArray) ++ (strOfNums y198)).size + (strOfNums x7_1).size ≤ 9223372036854775807 then (if (strOfNums t195).toList = (((⟨#[42]⟩ : ByteArray) ++ (strOfNums y198)) ++ (strOfNums x7_1)).toList then ((tipstafflaw05_few.f k2 l0).bind fun t203 => ((reply_Texts.f t203).bind fun t206 => ((reply_Array.f x10_2).bind fun t209 => (if (strOfNums t206).toList = (strOfNums t209).toList then (if t190 = true then (if (strOfNums t188).toList = ([42, 48, 13, 10] : List UInt8) then (some ((strOfNums t189).toList == ([120] : List UInt8))) else (none)) else (none)) else (none))))) else (none)) else (none)) else (none))) else (none))) else (none)) = some r := H
       have A37 := Aside0.mk A370
       clear A370
       by_cases c38 : t152 = true
       ·subst c38
        have H1 : ((reply_Array.f t156).bind fun t195 => (if 1 ≤ (t166.length : Int) then ((some (t166.drop 1 : List Int)).bind fun y198 => (if 1 + (strOfNums y198).size ≤ 9223372036854775807 then (if ((⟨#[42]⟩ : ByteArray) ++ (strOfNums y198)).size + (strOfNums x7_1).size ≤ 9223372036854775807 then (if (strOfNums t195).toList = (((⟨#[42]⟩ : ByteArray) ++ (strOfNums y198)) ++ (strOfNums x7_1)).toList then ((tipstafflaw05_few.f k2 l0).bind fun t203 => ((reply_Texts.f t203).bind fun t206 => ((reply_Array.f x10_2).bind fun t209 => (if (strOfNums t206).toList = (strOfNums t209).toList then (if t190 = true then (if (strOfNums t188).toList = ([42, 48, 13, 10] : List UInt8) then (some ((strOfNums t189).toList == ([120] : List UInt8))) else (none)) else (none)) else (none))))) else (none)) else (none)) else (none))) else (none))) = some r := by rw [if_pos rfl] at H; exact H
        clear H
        have H := H1
        clear H1
        replace H := Option.bind_eq_some_iff.mp H
        obtain ⟨t195, A390, H⟩ := H
        replace H : (if 1 ≤ (t166.length : Int) then ((some (t166.drop 1 : List Int)).bind fun y198 => (if 1 + (strOfNums y198).size ≤ 9223372036854775807 then (if ((⟨#[42]⟩ : ByteArray) ++ (strOfNums y198)).size + (strOfNums x7_1).size ≤ 9223372036854775807 then (if (strOfNums t195).toList = (((⟨#[42]⟩ : ByteArray) ++ (strOfNums y198)) ++ (strOfNums x7_1)).toList then ((tipstafflaw05_few.f k2 l0).bind fun t203 => ((reply_Texts.f t203).bind fun t206 => ((reply_Array.f x10_2).bind fun t209 => (if (strOfNums t206).toList = (strOfNums t209).toList then (if t190 = true then (if (strOfNums t188).toList = ([42, 48, 13, 10] : List UInt8) then (some ((strOfNums t189).toList == ([120] : List UInt8))) else (none)) else (none)) else (none))))) else (none)) else (none)) else (none))) else (none)) = some r := H
        have A39 := Aside0.mk A390
        clear A390
        by_cases c40 : 1 ≤ (t166.length : Int)
        ·rw [if_pos c40] at H
         have c40b0 := eq_true c40
         have c40b1 : decide (1 ≤ (t166.length : Int)) = true := decide_eq_true c40
         clear c40
         obtain ⟨y198, hy198⟩ : ∃ y_ : List Int, y_ = (t166.drop 1) := ⟨_, rfl⟩
         replace H : (if 1 + (strOfNums y198).size ≤ 9223372036854775807 then (if ((⟨#[42]⟩ : ByteArray) ++ (strOfNums y198)).size + (strOfNums x7_1).size ≤ 9223372036854775807 then (if (strOfNums t195).toList = (((⟨#[42]⟩ : ByteArray) ++ (strOfNums y198)) ++ (strOfNums x7_1)).toList then ((tipstafflaw05_few.f k2 l0).bind fun t203 => ((reply_Texts.f t203).bind fun t206 => ((reply_Array.f x10_2).bind fun t209 => (if (strOfNums t206).toList = (strOfNums t209).toList then (if t190 = true then (if (strOfNums t188).toList = ([42, 48, 13, 10] : List UInt8) then (some ((strOfNums t189).toList == ([120] : List UInt8))) else (none)) else (none)) else (none))))) else (none)) else (none)) else (none)) = some r := by first | (rw [hy198]; with_reducible exact H) | (have H2_ := (Option.bind_some _ _).symm.trans H; rw [hy198]; with_reducible exact H2_) | (have H2_ := (Option.bind_some _ _).symm.trans H; with_reducible exact H2_) | with_reducible exact H | (rw [hy198]; exact H) | exact H
         have Ny198 := Aside0.mk hy198
         clear hy198
         by_cases c41 : 1 + (strOfNums y198).size ≤ 9223372036854775807
         ·rw [if_pos c41] at H
          have c41b0 := eq_true c41
          have c41b1 : decide (1 + (strOfNums y198).size ≤ 9223372036854775807) = true := decide_eq_true c41
          try have c41b2 : (9223372036854775807 < 1 + (strOfNums y198).size) = False := eq_false (Nat.not_lt.2 c41)
          by_cases c42 : ((⟨#[42]⟩ : ByteArray) ++ (strOfNums y198)).size + (strOfNums x7_1).size ≤ 9223372036854775807
          ·rw [if_pos c42] at H
           have c42b0 := eq_true c42
           have c42b1 : decide (((⟨#[42]⟩ : ByteArray) ++ (strOfNums y198)).size + (strOfNums x7_1).size ≤ 9223372036854775807) = true := decide_eq_true c42
           try have c42b2 : (9223372036854775807 < ((⟨#[42]⟩ : ByteArray) ++ (strOfNums y198)).size + (strOfNums x7_1).size) = False := eq_false (Nat.not_lt.2 c42)
           have c42b3 : (9223372036854775807 < 1 + (strOfNums y198).size + (strOfNums x7_1).size) = False := eq_false (Nat.not_lt.2 (by have h_ := c42; rw [ByteArray.size_append] at h_; exact h_))
           by_cases c43 : (strOfNums t195).toList = (((⟨#[42]⟩ : ByteArray) ++ (strOfNums y198)) ++ (strOfNums x7_1)).toList
           ·rw [if_pos c43] at H
            have c43b0 : ((strOfNums t195).toList == (((⟨#[42]⟩ : ByteArray) ++ (strOfNums y198)) ++ (strOfNums x7_1)).toList) = true := beq_iff_eq.mpr c43
            have c43b1 : ((strOfNums t195).toList != (((⟨#[42]⟩ : ByteArray) ++ (strOfNums y198)) ++ (strOfNums x7_1)).toList) = false := bne_eq_false_iff_eq.mpr c43
            clear c43
            replace H := Option.bind_eq_some_iff.mp H
            obtain ⟨t203, A440, H⟩ := H
            replace H : ((reply_Texts.f t203).bind fun t206 => ((reply_Array.f x10_2).bind fun t209 => (if (strOfNums t206).toList = (strOfNums t209).toList then (if t190 = true then (if (strOfNums t188).toList = ([42, 48, 13, 10] : List UInt8) then (some ((strOfNums t189).toList == ([120] : List UInt8))) else (none)) else (none)) else (none)))) = some r := H
            have A44 := Aside0.mk A440
            clear A440
            replace H := Option.bind_eq_some_iff.mp H
            obtain ⟨t206, A450, H⟩ := H
            replace H : ((reply_Array.f x10_2).bind fun t209 => (if (strOfNums t206).toList = (strOfNums t209).toList then (if t190 = true then (if (strOfNums t188).toList = ([42, 48, 13, 10] : List UInt8) then (some ((strOfNums t189).toList == ([120] : List UInt8))) else (none)) else (none)) else (none))) = some r := H
            have A45 := Aside0.mk A450
            clear A450
            replace H := Option.bind_eq_some_iff.mp H
            obtain ⟨t209, A460, H⟩ := H
            replace H : (if (strOfNums t206).toList = (strOfNums t209).toList then (if t190 = true then (if (strOfNums t188).toList = ([42, 48, 13, 10] : List UInt8) then (some ((strOfNums t189).toList == ([120] : List UInt8))) else (none)) else (none)) else (none)) = some r := H
            have A46 := Aside0.mk A460
            clear A460
            by_cases c47 : (strOfNums t206).toList = (strOfNums t209).toList
            ·rw [if_pos c47] at H
             have c47b0 : ((strOfNums t206).toList == (strOfNums t209).toList) = true := beq_iff_eq.mpr c47
             have c47b1 : ((strOfNums t206).toList != (strOfNums t209).toList) = false := bne_eq_false_iff_eq.mpr c47
             clear c47
             by_cases c48 : t190 = true
             ·subst c48
              have H1 : (if (strOfNums t188).toList = ([42, 48, 13, 10] : List UInt8) then (some ((strOfNums t189).toList == ([120] : List UInt8))) else (none)) = some r := by rw [if_pos rfl] at H; exact H
              clear H
              have H := H1
              clear H1
              by_cases c49 : (strOfNums t188).toList = ([42, 48, 13, 10] : List UInt8)
              ·rw [if_pos c49] at H
               have c49b0 : ((strOfNums t188).toList == ([42, 48, 13, 10] : List UInt8)) = true := beq_iff_eq.mpr c49
               have c49b1 : ((strOfNums t188).toList != ([42, 48, 13, 10] : List UInt8)) = false := bne_eq_false_iff_eq.mpr c49
               clear c49
               obtain rfl := Option.some.inj H
               try go_wp2_with (first | ((with_reducible refine gate_callee (f := 10) rfl ?_); refine goesL_ (some 39) rfl rfl Tryz.func10 (by kernel_rfl) rfl #[.slice A0 l0.length c0] rfl (by (try simp only [List.map_toArray, List.map_cons, List.map_nil]); first | done | rfl | (simp only [List.length_drop, List.length_take]; rfl)) ?_; (with_reducible refine (tipstafflaw05_few.calls k2 _ _ l0 t172 _ ?side1 ?side2 A22.out).mono ?_); (case side1 => repeat (first | exact (Kd.C_below HR0.out HB.out) | (with_reducible refine Kd.C_alloc ?_ _) | (with_reducible refine Kd.C_drewN ?_ _) | (with_reducible refine Kd.C_drew ?_))); (case side2 => exact HC0.out); rintro e w50 ⟨v173, rfl, ho0, hb⟩; refine ⟨_, rfl, ?_⟩; have n0_ := Aside0.mk (Kd.N_elder' HO_6.out (Kd.R_base ho0) hb); have n1_ := Aside0.mk (Kd.R_below HO_7.out hb); have n2_ := Aside0.mk (Kd.V_elder' HO_9.out (Kd.R_base ho0) hb); have n3_ := Aside0.mk (Kd.N_elder' HO_10.out (Kd.R_base ho0) hb); have n4_ := Aside0.mk (Kd.R_lower ho0 (below_size HB.out)); have n5_ := Aside0.mk (below_step HB.out hb); clear HO_6; clear HO_7; clear HO_9; clear HO_10; clear HB; have HO_6 := n0_; have HO_7 := n1_; have HO_9 := n2_; have HO_10 := n3_; have HO174 := n4_; have HB := n5_; clear n0_ n1_ n2_ n3_ n4_ n5_; (try clear hb); (try clear hb2); (try clear hk); (try clear hi); (try clear ho0); obtain ⟨Ao51, co51, eo51⟩ := Kd.R_slice HO174.out; subst eo51) | ((with_reducible refine gate_callee (f := 27) rfl ?_); refine goesL_ (some 54) rfl rfl Tryz.func27 (by kernel_rfl) rfl #[.slice none 0 0] rfl (by (try simp only [List.map_toArray, List.map_cons, List.map_nil]); first | done | rfl | (simp only [List.length_drop, List.length_take]; rfl)) ?_; (refine (Tryz.Ln.array0 _ (Tryz.Ln.tabs_below HT0.out HB.out).tab).mono ?_); rintro e w52 ⟨A_, m_, c_, rfl, hm_, hF_, hb_⟩; refine ⟨_, rfl, ?_⟩; have HM_ := Aside0.mk hm_; have HF_ := Aside0.mk hF_; have HBF_ := Aside0.mk hb_; clear hm_ hF_ hb_) | ((with_reducible refine gate_builtin (b := .append) rfl ?_); at_builtin; refine Tryz.Ln.app_lit rfl _ _ 22 9 5 rfl Tryz.underlying22 Tryz.underlying9 (by kernel_rfl) _ _ _ _ ⟨#[120]⟩ rfl rfl HF_.out HBF_.out HM_.out ?_; intro v186 w52 ho0 hb; rw [Tryz.Ln.arrX_eq A36.out] at ho0; clear HF_ HBF_ HM_; have n0_ := Aside0.mk (Kd.N_below HO_6.out hb); have n1_ := Aside0.mk (Kd.R_below HO_7.out hb); have n2_ := Aside0.mk (Kd.V_below HO_9.out hb); have n3_ := Aside0.mk (Kd.N_below HO_10.out hb); have n4_ := Aside0.mk (Kd.R_below HO174.out hb); have n5_ := Aside0.mk (Kd.V_lower (Kd.V_mono (ok' := fun k_ => nb k_ (.slice Ao18 t156.length co18) ∧ nb k_ u7 ∧ nb k_ u10 ∧ nb k_ (.slice Ao51 t172.length co51)) ho0 (fun k_ hk_ => ⟨(Kd.fresh' (Kd.N_lt HO_6.out) k_ hk_), (Kd.fresh' (Kd.R_lt HO_7.out) k_ hk_), (Kd.fresh' (Kd.N_lt HO_10.out) k_ hk_), (Kd.fresh' (Kd.R_lt HO174.out) k_ hk_)⟩)) (below_size HB.out)); have n6_ := Aside0.mk (below_step HB.out hb); clear HO_6; clear HO_7; clear HO_9; clear HO_10; clear HO174; clear HB; have HO_6 := n0_; have HO_7 := n1_; have HO_9 := n2_; have HO_10 := n3_; have HO174 := n4_; have HO187 := n5_; have HB := n6_; clear n0_ n1_ n2_ n3_ n4_ n5_ n6_; (try clear hb); (try clear hb2); (try clear hk); (try clear hi); (try clear ho0); obtain ⟨Ao53, co53, eo53⟩ := Kd.V_slice HO187.out; subst eo53) | ((with_reducible refine gate_callee (f := 8) rfl ?_); refine goesL_ (some 56) rfl rfl Tryz.func8 (by kernel_rfl) rfl #[.slice Ao53 t185.length co53] rfl (by (try simp only [List.map_toArray, List.map_cons, List.map_nil]); first | done | rfl | (simp only [List.length_drop, List.length_take]; rfl)) ?_; (with_reducible refine (reply_Take.calls _ _ t185 t188 t189 true _ ?side1 ?side2 ?side3 A37.out).mono ?_); (case side1 => repeat (first | exact (Kd.V_reads' HO187.out).2.2 | (with_reducible refine Kd.C_alloc ?_ _) | (with_reducible refine Kd.C_drewN ?_ _) | (with_reducible refine Kd.C_drew ?_))); (case side2 => exact (Kd.V_reads' HO187.out).2.1); (case side3 => exact Tryz.Ln.tabs_below HT0.out HB.out); rintro e w54 ⟨v191, v193, rfl, ho0, ho1, hb⟩; refine ⟨_, rfl, ?_⟩; have n0_ := Aside0.mk (Kd.N_mono (Kd.N_told (Kd.N_told (Kd.N_old HO_6.out hb) (Kd.R_base ho0)) (Kd.R_base ho1)) (fun _ h_ => h_.1)); have n1_ := Aside0.mk (Kd.R_mono (Kd.R_told (Kd.R_told (Kd.R_old HO_7.out hb) (Kd.R_base ho0)) (Kd.R_base ho1)) (fun _ h_ => h_.1)); have n2_ := Aside0.mk (Kd.V_mono (Kd.V_told (Kd.V_told (Kd.V_old HO_9.out hb) (Kd.R_base ho0)) (Kd.R_base ho1)) (fun _ h_ => h_.1)); have n3_ := Aside0.mk (Kd.N_mono (Kd.N_told (Kd.N_told (Kd.N_old HO_10.out hb) (Kd.R_base ho0)) (Kd.R_base ho1)) (fun _ h_ => h_.1)); have n4_ := Aside0.mk (Kd.R_below HO174.out hb); have n5_ := Aside0.mk (Kd.V_mono (Kd.V_told (Kd.V_told (Kd.V_old HO187.out hb) (Kd.R_base ho0)) (Kd.R_base ho1)) (fun _ h_ => h_.1)); have n6_ := Aside0.mk (Kd.R_lower (Kd.R_new' ho0 (Kd.R_lt HO_7.out)) (below_size HB.out)); have n7_ := Aside0.mk (Kd.R_lower (Kd.R_new' ho1 (Kd.R_lt HO_7.out)) (below_size HB.out)); have n8_ := Aside0.mk (below_step HB.out hb); clear HO_6; clear HO_7; clear HO_9; clear HO_10; clear HO174; clear HO187; clear HB; have HO_6 := n0_; have HO_7 := n1_; have HO_9 := n2_; have HO_10 := n3_; have HO174 := n4_; have HO187 := n5_; have HO192 := n6_; have HO194 := n7_; have HB := n8_; clear n0_ n1_ n2_ n3_ n4_ n5_ n6_ n7_ n8_; (try clear hb); (try clear hb2); (try clear hk); (try clear hi); (try clear ho0); (try clear ho1); obtain ⟨Ao55, co55, eo55⟩ := Kd.N_slice HO_10.out; subst eo55))
               have n0_ := Aside0.mk (Kd.N_drew HO_6.out)
               have n1_ := Aside0.mk (Kd.R_drew HO_7.out)
               have n2_ := Aside0.mk (Kd.V_drew HO_9.out)
               have n3_ := Aside0.mk (Kd.N_drew HO_10.out)
               have n4_ := Aside0.mk (Kd.R_drew HO174.out)
               have n5_ := Aside0.mk (Kd.V_drew HO187.out)
               have n6_ := Aside0.mk (Kd.R_drew HO192.out)
               have n7_ := Aside0.mk (Kd.R_drew HO194.out)
               have n8_ := Aside0.mk (below_drew1 HB.out)
               clear HO_6
               clear HO_7
               clear HO_9
               clear HO_10
               clear HO174
               clear HO187
               clear HO192
               clear HO194
               clear HB
               have HO_6 := n0_
               have HO_7 := n1_
               have HO_9 := n2_
               have HO_10 := n3_
               have HO174 := n4_
               have HO187 := n5_
               have HO192 := n6_
               have HO194 := n7_
               have HB := n8_
               clear n0_ n1_ n2_ n3_ n4_ n5_ n6_ n7_ n8_
               obtain ⟨Ao58, co58, eo58⟩ := Kd.V_slice HO_9.out
               (first | subst eo58 | (injection eo58 with f1_ f2_ f3_; have f4_ := f1_.symm; have f5_ := f3_.symm; clear f1_ f2_ f3_; subst f4_; subst f5_))
               have q57 : (1 : Int) ≤ ((t166.length : Int) : Int) := of_decide_eq_true (by first | (with_reducible assumption) | assumption)
               obtain ⟨i057, hi057, _, hsz57, _⟩ := info_parts info5
               have hroom57 : t166.length ≤ co58 := (Kd.V_reads' HO_9.out).2.1
               have hC57 : Kd.F (Kd.int .u8) _ _ Ao58 t166.length t166 := (Kd.V_at (base := w.heap.size) HO_9.out).2.2
               have hcut57 := cut_from (P := Tryz.prog) 22 5 .i64 Tryz.underlying22 hi057 1 hsz57 Ao58 t166.length co58 1 (by omega) q57
               have hr57 := Kd.F_cut (m := (1 : Int).toNat) (c := co58) hC57 (by omega) hroom57
               obtain ⟨A57, hA57⟩ : ∃ A1, A1 = (if co58 = (1 : Int).toNat then Ao58 else (Ao58 : Option Addr).map (·.add ((1 : Int).toNat * 1))) := ⟨_, rfl⟩
               obtain ⟨c57, hc57⟩ : ∃ c1, c1 = co58 - (1 : Int).toNat := ⟨_, rfl⟩
               have hy57 : y198.length = t166.length - (1 : Int).toNat := (by rw [Ny198.out, List.length_drop] <;> omega)
               rw [show (t166).drop (1 : Int).toNat = y198 from Ny198.out.symm] at hr57
               replace hr57 : Kd.F (Kd.int .u8) _ _ A57 y198.length y198 := (by rw [hA57]; exact hr57)
               rw [← hy57, ← hA57, ← hc57] at hcut57
               have HO202 := Aside0.mk (show Kd.V (Kd.int .u8) 5 _ w.heap.size _ (.slice A57 y198.length c57) y198 from Kd.V_mk (by rw [hy57, hc57]; exact Nat.sub_le_sub_right hroom57 _) hr57)
               have HC202 := Aside0.mk (show y198.length ≤ c57 from by rw [hy57, hc57]; exact Nat.sub_le_sub_right hroom57 _)
               clear hr57 hC57 hroom57 hi057 hsz57 hc57
               have KY57 := Aside0.mk hy57
               have KA57 := Aside0.mk hA57
               clear hy57 hA57
               replace q57 := eq_true q57
               refine start_ (n := 38) (S := fun w' => True) (ds := []) #[false, false, false, false, false, false, false, false, false, false, false, false, false, false, false, false, false, false, false, false, false, false, false, false, false, false, false, false, false, false, false, false, false, false, false, false, false, false] (by kernel_rfl) rfl rfl trivial (fun hHeld => ?_); refine with_tabW tipstafflaw05_ReplyArrays.tab15 tipstafflaw05_ReplyArrays.bits15 (fun HT_ HW_ => ?_)
               generalize w54.drew = w56 at HO_6 HO_7 HO_9 HO_10 HO174 HO187 HO192 HO194 HB HO202 hHeld ⊢
               refine pure_ (i := 0) (N := some 60) (v := ?_) (a' := ?_) #[true, false, false, false, false, false, false, false, false, false, false, false, false, false, false, false, false, false, false, false, false, false, false, false, false, false, false, false, false, false, false, false, false, false, false, false, false, false] rfl rfl (any_of HT_.out (by kernel_rfl)) (fun _ _ _ h => h) (Or.inl ⟨by rfl, ?_⟩) ?_ ?_
               rotate_left
               ·intro w'
                go_simp
                with_reducible rfl
               rotate_left
               ·simp only [Act.put, List.setIfInBounds_toArray, List.set_cons_zero, List.set_cons_succ, i64_w, i32_w]
                rfl
               refine pure_ (i := 1) (N := some 61) (v := ?_) (a' := ?_) #[true, true, false, false, false, false, false, false, false, false, false, false, false, false, false, false, false, false, false, false, false, false, false, false, false, false, false, false, false, false, false, false, false, false, false, false, false, false] rfl rfl (any_of HT_.out (by kernel_rfl)) (fun _ _ _ h => h) (Or.inl ⟨by rfl, ?_⟩) ?_ ?_
               rotate_left
               ·intro w'
                go_simp
                with_reducible rfl
               rotate_left
               ·simp only [Act.put, List.setIfInBounds_toArray, List.set_cons_zero, List.set_cons_succ, i64_w, i32_w]
                rfl
               refine pure_ (i := 2) (N := some 62) (v := ?_) (a' := ?_) #[true, true, true, false, false, false, false, false, false, false, false, false, false, false, false, false, false, false, false, false, false, false, false, false, false, false, false, false, false, false, false, false, false, false, false, false, false, false] rfl rfl (any_of HT_.out (by kernel_rfl)) (fun _ _ _ h => h) (Or.inl ⟨by rfl, ?_⟩) ?_ ?_
               rotate_left
               ·intro w'
                go_simp
                with_reducible rfl
               rotate_left
               ·simp only [Act.put, List.setIfInBounds_toArray, List.set_cons_zero, List.set_cons_succ, i64_w, i32_w]
                rfl
               refine pure_ (i := 5) (N := some 65) (v := ?_) (a' := ?_) #[true, true, true, false, false, true, false, false, false, false, false, false, false, false, false, false, false, false, false, false, false, false, false, false, false, false, false, false, false, false, false, false, false, false, false, false, false, false] rfl rfl (any_of HT_.out (by kernel_rfl)) (fun _ _ _ h => h) (Or.inl ⟨by rfl, ?_⟩) ?_ ?_
               rotate_left
               ·intro w'
                go_simp
                with_reducible rfl
               rotate_left
               ·simp only [Act.put, List.setIfInBounds_toArray, List.set_cons_zero, List.set_cons_succ, i64_w, i32_w]
                rfl
               refine pure_ (i := 6) (N := some 66) (v := ?_) (a' := ?_) #[true, true, true, false, false, true, true, false, false, false, false, false, false, false, false, false, false, false, false, false, false, false, false, false, false, false, false, false, false, false, false, false, false, false, false, false, false, false] rfl rfl (any_of HT_.out (by kernel_rfl)) (fun _ _ _ h => h) (Or.inl ⟨by rfl, ?_⟩) ?_ ?_
               rotate_left
               ·intro w'
                go_simp
                with_reducible rfl
               rotate_left
               ·simp only [Act.put, List.setIfInBounds_toArray, List.set_cons_zero, List.set_cons_succ, i64_w, i32_w]
                rfl
               refine pure_ (i := 9) (N := some 69) (v := ?_) (a' := ?_) #[true, true, true, false, false, true, true, false, false, true, false, false, false, false, false, false, false, false, false, false, false, false, false, false, false, false, false, false, false, false, false, false, false, false, false, false, false, false] rfl rfl (any_of HT_.out (by kernel_rfl)) (fun _ _ _ h => h) (Or.inl ⟨by rfl, ?_⟩) ?_ ?_
               rotate_left
               ·intro w'
                go_simp
                with_reducible rfl
               rotate_left
               ·simp only [Act.put, List.setIfInBounds_toArray, List.set_cons_zero, List.set_cons_succ, i64_w, i32_w]
                rfl
               refine join_ (σ := Value × Value × Value × Value) 16 #[true, true, true, true, true, true, true, true, true, true, true, true, true, true, true, true, true, true, true, true, true, true, false, false, false, false, false, false, false, false, false, false, false, false, false, false, false, false] (fun s_ => [(63, s_.1), (64, .string (strOfNums t195)), (67, .string (strOfNums y198)), (70, .string (strOfNums x7_1)), (76, s_.2.1), (77, s_.2.2.1), (78, .string (strOfNums t206)), (80, s_.2.2.2), (81, .string (strOfNums t209)), (68, .string ((⟨#[42]⟩ : ByteArray) ++ (strOfNums y198))), (71, .string (((⟨#[42]⟩ : ByteArray) ++ (strOfNums y198)) ++ (strOfNums x7_1))), (72, .bool true), (73, .bool true), (74, .bool true), (75, .slice A0 l0.length c0), (79, .slice Ao55 x10_2.length co55)]) (fun s_ w' => (Kd.R Kd.string 9 w' w.heap.size (fun k_ => nb k_ (s_.2.1)) (.slice Ao51 t172.length co51) t172) ∧ (Kd.V (Kd.int .u8) 5 w' w.heap.size (fun k_ => nb k_ (.slice Ao51 t172.length co51) ∧ nb k_ v191 ∧ nb k_ v193 ∧ nb k_ (s_.2.1) ∧ nb k_ (.slice Ao55 x10_2.length co55) ∧ nb k_ (.slice Ao18 t156.length co18) ∧ nb k_ u7) (.slice Ao53 t185.length co53) t185) ∧ (Kd.R (Kd.int .u8) 5 w' w.heap.size (fun k_ => nb k_ v193 ∧ nb k_ u7) v191 t188) ∧ (Kd.R (Kd.int .u8) 5 w' w.heap.size (fun k_ => nb k_ v191 ∧ nb k_ u7) v193 t189) ∧ (Kd.V (Kd.int .u8) 5 w' w.heap.size (fun k_ => nb k_ (.slice Ao51 t172.length co51) ∧ nb k_ v191 ∧ nb k_ v193 ∧ nb k_ (s_.2.1) ∧ nb k_ (.slice Ao55 x10_2.length co55) ∧ nb k_ (.slice Ao18 t156.length co18) ∧ nb k_ u7) s_.1 t195) ∧ (Kd.V (Kd.int .u8) 5 w' w.heap.size (fun k_ => nb k_ (.slice Ao51 t172.length co51) ∧ nb k_ v191 ∧ nb k_ v193 ∧ nb k_ (s_.2.1) ∧ nb k_ (.slice Ao55 x10_2.length co55) ∧ nb k_ (.slice Ao18 t156.length co18) ∧ nb k_ u7) (.slice A57 y198.length c57) y198) ∧ (Kd.R Kd.string 9 w' w.heap.size (fun k_ => nb k_ (.slice Ao51 t172.length co51)) s_.2.1 t203) ∧ (Kd.V (Kd.int .u8) 5 w' w.heap.size (fun k_ => nb k_ (.slice Ao51 t172.length co51) ∧ nb k_ v191 ∧ nb k_ v193 ∧ nb k_ (s_.2.1) ∧ nb k_ (.slice Ao55 x10_2.length co55) ∧ nb k_ (.slice Ao18 t156.length co18) ∧ nb k_ u7) s_.2.2.1 t206) ∧ (Kd.V (Kd.int .u8) 5 w' w.heap.size (fun k_ => nb k_ (.slice Ao51 t172.length co51) ∧ nb k_ v191 ∧ nb k_ v193 ∧ nb k_ (s_.2.1) ∧ nb k_ (.slice Ao55 x10_2.length co55) ∧ nb k_ (.slice Ao18 t156.length co18) ∧ nb k_ u7) s_.2.2.2 t209) ∧ (Kd.N (Kd.slice 5 (Kd.int .u8)) 22 w' w.heap.size (fun k_ => nb k_ (.slice Ao51 t172.length co51) ∧ nb k_ v191 ∧ nb k_ v193 ∧ nb k_ (s_.2.1) ∧ nb k_ (.slice Ao18 t156.length co18) ∧ nb k_ u7) (.slice Ao55 x10_2.length co55) x10_2) ∧ (Kd.N (Kd.slice 5 (Kd.int .u8)) 22 w' w.heap.size (fun k_ => nb k_ (.slice Ao51 t172.length co51) ∧ nb k_ v191 ∧ nb k_ v193 ∧ nb k_ (s_.2.1) ∧ nb k_ (.slice Ao55 x10_2.length co55) ∧ nb k_ u7) (.slice Ao18 t156.length co18) t156) ∧ (Kd.R (Kd.int .u8) 5 w' w.heap.size (fun k_ => nb k_ v191 ∧ nb k_ v193) u7 x7_1) ∧ (Kd.V (Kd.int .u8) 5 w' w.heap.size (fun k_ => nb k_ (.slice Ao51 t172.length co51) ∧ nb k_ v191 ∧ nb k_ v193 ∧ nb k_ (s_.2.1) ∧ nb k_ (.slice Ao55 x10_2.length co55) ∧ nb k_ (.slice Ao18 t156.length co18) ∧ nb k_ u7) (.slice Ao58 t166.length co58) t166) ∧ (Below w.heap.size w w')) ?_ ?_
               rotate_left
               ·intro hJ3_4_7_10_16_17_18_20_21
                refine join_ (σ := Value × Value × Value × Value) 17 #[true, true, true, true, true, true, true, true, true, true, true, true, true, true, true, true, true, true, true, true, true, false, false, false, false, false, false, false, false, false, false, false, false, false, false, false, false, false] (fun s_ => [(63, s_.1), (64, .string (strOfNums t195)), (67, .string (strOfNums y198)), (70, .string (strOfNums x7_1)), (76, s_.2.1), (77, s_.2.2.1), (78, .string (strOfNums t206)), (80, s_.2.2.2), (68, .string ((⟨#[42]⟩ : ByteArray) ++ (strOfNums y198))), (71, .string (((⟨#[42]⟩ : ByteArray) ++ (strOfNums y198)) ++ (strOfNums x7_1))), (72, .bool true), (73, .bool true), (74, .bool true), (75, .slice A0 l0.length c0), (79, .slice Ao55 x10_2.length co55)]) (fun s_ w' => (Kd.R Kd.string 9 w' w.heap.size (fun k_ => nb k_ (s_.2.1)) (.slice Ao51 t172.length co51) t172) ∧ (Kd.V (Kd.int .u8) 5 w' w.heap.size (fun k_ => nb k_ (.slice Ao51 t172.length co51) ∧ nb k_ v191 ∧ nb k_ v193 ∧ nb k_ (s_.2.1) ∧ nb k_ (.slice Ao55 x10_2.length co55) ∧ nb k_ (.slice Ao18 t156.length co18) ∧ nb k_ u7) (.slice Ao53 t185.length co53) t185) ∧ (Kd.R (Kd.int .u8) 5 w' w.heap.size (fun k_ => nb k_ v193 ∧ nb k_ u7) v191 t188) ∧ (Kd.R (Kd.int .u8) 5 w' w.heap.size (fun k_ => nb k_ v191 ∧ nb k_ u7) v193 t189) ∧ (Kd.V (Kd.int .u8) 5 w' w.heap.size (fun k_ => nb k_ (.slice Ao51 t172.length co51) ∧ nb k_ v191 ∧ nb k_ v193 ∧ nb k_ (s_.2.1) ∧ nb k_ (.slice Ao55 x10_2.length co55) ∧ nb k_ (.slice Ao18 t156.length co18) ∧ nb k_ u7) s_.1 t195) ∧ (Kd.V (Kd.int .u8) 5 w' w.heap.size (fun k_ => nb k_ (.slice Ao51 t172.length co51) ∧ nb k_ v191 ∧ nb k_ v193 ∧ nb k_ (s_.2.1) ∧ nb k_ (.slice Ao55 x10_2.length co55) ∧ nb k_ (.slice Ao18 t156.length co18) ∧ nb k_ u7) (.slice A57 y198.length c57) y198) ∧ (Kd.R Kd.string 9 w' w.heap.size (fun k_ => nb k_ (.slice Ao51 t172.length co51)) s_.2.1 t203) ∧ (Kd.V (Kd.int .u8) 5 w' w.heap.size (fun k_ => nb k_ (.slice Ao51 t172.length co51) ∧ nb k_ v191 ∧ nb k_ v193 ∧ nb k_ (s_.2.1) ∧ nb k_ (.slice Ao55 x10_2.length co55) ∧ nb k_ (.slice Ao18 t156.length co18) ∧ nb k_ u7) s_.2.2.1 t206) ∧ (Kd.V (Kd.int .u8) 5 w' w.heap.size (fun k_ => nb k_ (.slice Ao51 t172.length co51) ∧ nb k_ v191 ∧ nb k_ v193 ∧ nb k_ (s_.2.1) ∧ nb k_ (.slice Ao55 x10_2.length co55) ∧ nb k_ (.slice Ao18 t156.length co18) ∧ nb k_ u7) s_.2.2.2 t209) ∧ (Kd.N (Kd.slice 5 (Kd.int .u8)) 22 w' w.heap.size (fun k_ => nb k_ (.slice Ao51 t172.length co51) ∧ nb k_ v191 ∧ nb k_ v193 ∧ nb k_ (s_.2.1) ∧ nb k_ (.slice Ao18 t156.length co18) ∧ nb k_ u7) (.slice Ao55 x10_2.length co55) x10_2) ∧ (Kd.N (Kd.slice 5 (Kd.int .u8)) 22 w' w.heap.size (fun k_ => nb k_ (.slice Ao51 t172.length co51) ∧ nb k_ v191 ∧ nb k_ v193 ∧ nb k_ (s_.2.1) ∧ nb k_ (.slice Ao55 x10_2.length co55) ∧ nb k_ u7) (.slice Ao18 t156.length co18) t156) ∧ (Kd.R (Kd.int .u8) 5 w' w.heap.size (fun k_ => nb k_ v191 ∧ nb k_ v193) u7 x7_1) ∧ (Kd.V (Kd.int .u8) 5 w' w.heap.size (fun k_ => nb k_ (.slice Ao51 t172.length co51) ∧ nb k_ v191 ∧ nb k_ v193 ∧ nb k_ (s_.2.1) ∧ nb k_ (.slice Ao55 x10_2.length co55) ∧ nb k_ (.slice Ao18 t156.length co18) ∧ nb k_ u7) (.slice Ao58 t166.length co58) t166) ∧ (Below w.heap.size w w')) ?_ ?_
                rotate_left
                ·intro hJ3_4_7_10_16_17_18_20
                 refine join_ (σ := Value × Value × Value × Value) 17 #[true, true, true, true, true, true, true, true, true, true, true, true, true, true, true, true, true, true, false, true, true, true, false, false, false, false, false, false, false, false, false, false, false, false, false, false, false, false] (fun s_ => [(63, s_.1), (64, .string (strOfNums t195)), (67, .string (strOfNums y198)), (70, .string (strOfNums x7_1)), (76, s_.2.1), (77, s_.2.2.1), (80, s_.2.2.2), (81, .string (strOfNums t209)), (68, .string ((⟨#[42]⟩ : ByteArray) ++ (strOfNums y198))), (71, .string (((⟨#[42]⟩ : ByteArray) ++ (strOfNums y198)) ++ (strOfNums x7_1))), (72, .bool true), (73, .bool true), (74, .bool true), (75, .slice A0 l0.length c0), (79, .slice Ao55 x10_2.length co55)]) (fun s_ w' => (Kd.R Kd.string 9 w' w.heap.size (fun k_ => nb k_ (s_.2.1)) (.slice Ao51 t172.length co51) t172) ∧ (Kd.V (Kd.int .u8) 5 w' w.heap.size (fun k_ => nb k_ (.slice Ao51 t172.length co51) ∧ nb k_ v191 ∧ nb k_ v193 ∧ nb k_ (s_.2.1) ∧ nb k_ (.slice Ao55 x10_2.length co55) ∧ nb k_ (.slice Ao18 t156.length co18) ∧ nb k_ u7) (.slice Ao53 t185.length co53) t185) ∧ (Kd.R (Kd.int .u8) 5 w' w.heap.size (fun k_ => nb k_ v193 ∧ nb k_ u7) v191 t188) ∧ (Kd.R (Kd.int .u8) 5 w' w.heap.size (fun k_ => nb k_ v191 ∧ nb k_ u7) v193 t189) ∧ (Kd.V (Kd.int .u8) 5 w' w.heap.size (fun k_ => nb k_ (.slice Ao51 t172.length co51) ∧ nb k_ v191 ∧ nb k_ v193 ∧ nb k_ (s_.2.1) ∧ nb k_ (.slice Ao55 x10_2.length co55) ∧ nb k_ (.slice Ao18 t156.length co18) ∧ nb k_ u7) s_.1 t195) ∧ (Kd.V (Kd.int .u8) 5 w' w.heap.size (fun k_ => nb k_ (.slice Ao51 t172.length co51) ∧ nb k_ v191 ∧ nb k_ v193 ∧ nb k_ (s_.2.1) ∧ nb k_ (.slice Ao55 x10_2.length co55) ∧ nb k_ (.slice Ao18 t156.length co18) ∧ nb k_ u7) (.slice A57 y198.length c57) y198) ∧ (Kd.R Kd.string 9 w' w.heap.size (fun k_ => nb k_ (.slice Ao51 t172.length co51)) s_.2.1 t203) ∧ (Kd.V (Kd.int .u8) 5 w' w.heap.size (fun k_ => nb k_ (.slice Ao51 t172.length co51) ∧ nb k_ v191 ∧ nb k_ v193 ∧ nb k_ (s_.2.1) ∧ nb k_ (.slice Ao55 x10_2.length co55) ∧ nb k_ (.slice Ao18 t156.length co18) ∧ nb k_ u7) s_.2.2.1 t206) ∧ (Kd.V (Kd.int .u8) 5 w' w.heap.size (fun k_ => nb k_ (.slice Ao51 t172.length co51) ∧ nb k_ v191 ∧ nb k_ v193 ∧ nb k_ (s_.2.1) ∧ nb k_ (.slice Ao55 x10_2.length co55) ∧ nb k_ (.slice Ao18 t156.length co18) ∧ nb k_ u7) s_.2.2.2 t209) ∧ (Kd.N (Kd.slice 5 (Kd.int .u8)) 22 w' w.heap.size (fun k_ => nb k_ (.slice Ao51 t172.length co51) ∧ nb k_ v191 ∧ nb k_ v193 ∧ nb k_ (s_.2.1) ∧ nb k_ (.slice Ao18 t156.length co18) ∧ nb k_ u7) (.slice Ao55 x10_2.length co55) x10_2) ∧ (Kd.N (Kd.slice 5 (Kd.int .u8)) 22 w' w.heap.size (fun k_ => nb k_ (.slice Ao51 t172.length co51) ∧ nb k_ v191 ∧ nb k_ v193 ∧ nb k_ (s_.2.1) ∧ nb k_ (.slice Ao55 x10_2.length co55) ∧ nb k_ u7) (.slice Ao18 t156.length co18) t156) ∧ (Kd.R (Kd.int .u8) 5 w' w.heap.size (fun k_ => nb k_ v191 ∧ nb k_ v193) u7 x7_1) ∧ (Kd.V (Kd.int .u8) 5 w' w.heap.size (fun k_ => nb k_ (.slice Ao51 t172.length co51) ∧ nb k_ v191 ∧ nb k_ v193 ∧ nb k_ (s_.2.1) ∧ nb k_ (.slice Ao55 x10_2.length co55) ∧ nb k_ (.slice Ao18 t156.length co18) ∧ nb k_ u7) (.slice Ao58 t166.length co58) t166) ∧ (Below w.heap.size w w')) ?_ ?_
                 rotate_left
                 ·intro hJ3_4_7_10_16_17_20_21
                  refine join_ (σ := Value × Value × Value) 18 #[true, true, true, true, true, true, true, true, true, true, true, true, true, true, true, true, true, true, true, true, false, false, false, false, false, false, false, false, false, false, false, false, false, false, false, false, false, false] (fun s_ => [(63, s_.1), (64, .string (strOfNums t195)), (67, .string (strOfNums y198)), (70, .string (strOfNums x7_1)), (76, s_.2.1), (77, s_.2.2), (78, .string (strOfNums t206)), (68, .string ((⟨#[42]⟩ : ByteArray) ++ (strOfNums y198))), (71, .string (((⟨#[42]⟩ : ByteArray) ++ (strOfNums y198)) ++ (strOfNums x7_1))), (72, .bool true), (73, .bool true), (74, .bool true), (75, .slice A0 l0.length c0), (79, .slice Ao55 x10_2.length co55)]) (fun s_ w' => (Kd.R Kd.string 9 w' w.heap.size (fun k_ => nb k_ (s_.2.1)) (.slice Ao51 t172.length co51) t172) ∧ (Kd.V (Kd.int .u8) 5 w' w.heap.size (fun k_ => nb k_ (.slice Ao51 t172.length co51) ∧ nb k_ v191 ∧ nb k_ v193 ∧ nb k_ (s_.2.1) ∧ nb k_ (.slice Ao55 x10_2.length co55) ∧ nb k_ (.slice Ao18 t156.length co18) ∧ nb k_ u7) (.slice Ao53 t185.length co53) t185) ∧ (Kd.R (Kd.int .u8) 5 w' w.heap.size (fun k_ => nb k_ v193 ∧ nb k_ u7) v191 t188) ∧ (Kd.R (Kd.int .u8) 5 w' w.heap.size (fun k_ => nb k_ v191 ∧ nb k_ u7) v193 t189) ∧ (Kd.V (Kd.int .u8) 5 w' w.heap.size (fun k_ => nb k_ (.slice Ao51 t172.length co51) ∧ nb k_ v191 ∧ nb k_ v193 ∧ nb k_ (s_.2.1) ∧ nb k_ (.slice Ao55 x10_2.length co55) ∧ nb k_ (.slice Ao18 t156.length co18) ∧ nb k_ u7) s_.1 t195) ∧ (Kd.V (Kd.int .u8) 5 w' w.heap.size (fun k_ => nb k_ (.slice Ao51 t172.length co51) ∧ nb k_ v191 ∧ nb k_ v193 ∧ nb k_ (s_.2.1) ∧ nb k_ (.slice Ao55 x10_2.length co55) ∧ nb k_ (.slice Ao18 t156.length co18) ∧ nb k_ u7) (.slice A57 y198.length c57) y198) ∧ (Kd.R Kd.string 9 w' w.heap.size (fun k_ => nb k_ (.slice Ao51 t172.length co51)) s_.2.1 t203) ∧ (Kd.V (Kd.int .u8) 5 w' w.heap.size (fun k_ => nb k_ (.slice Ao51 t172.length co51) ∧ nb k_ v191 ∧ nb k_ v193 ∧ nb k_ (s_.2.1) ∧ nb k_ (.slice Ao55 x10_2.length co55) ∧ nb k_ (.slice Ao18 t156.length co18) ∧ nb k_ u7) s_.2.2 t206) ∧ (Kd.N (Kd.slice 5 (Kd.int .u8)) 22 w' w.heap.size (fun k_ => nb k_ (.slice Ao51 t172.length co51) ∧ nb k_ v191 ∧ nb k_ v193 ∧ nb k_ (s_.2.1) ∧ nb k_ (.slice Ao18 t156.length co18) ∧ nb k_ u7) (.slice Ao55 x10_2.length co55) x10_2) ∧ (Kd.N (Kd.slice 5 (Kd.int .u8)) 22 w' w.heap.size (fun k_ => nb k_ (.slice Ao51 t172.length co51) ∧ nb k_ v191 ∧ nb k_ v193 ∧ nb k_ (s_.2.1) ∧ nb k_ (.slice Ao55 x10_2.length co55) ∧ nb k_ u7) (.slice Ao18 t156.length co18) t156) ∧ (Kd.R (Kd.int .u8) 5 w' w.heap.size (fun k_ => nb k_ v191 ∧ nb k_ v193) u7 x7_1) ∧ (Kd.V (Kd.int .u8) 5 w' w.heap.size (fun k_ => nb k_ (.slice Ao51 t172.length co51) ∧ nb k_ v191 ∧ nb k_ v193 ∧ nb k_ (s_.2.1) ∧ nb k_ (.slice Ao55 x10_2.length co55) ∧ nb k_ (.slice Ao18 t156.length co18) ∧ nb k_ u7) (.slice Ao58 t166.length co58) t166) ∧ (Below w.heap.size w w')) ?_ ?_
                  rotate_left
                  ·intro hJ3_4_7_10_16_17_18
                   refine join_ (σ := Value × Value × Value × Value) 18 #[true, true, true, true, true, true, true, true, true, true, true, true, true, true, true, true, true, true, false, true, true, false, false, false, false, false, false, false, false, false, false, false, false, false, false, false, false, false] (fun s_ => [(63, s_.1), (64, .string (strOfNums t195)), (67, .string (strOfNums y198)), (70, .string (strOfNums x7_1)), (76, s_.2.1), (77, s_.2.2.1), (80, s_.2.2.2), (68, .string ((⟨#[42]⟩ : ByteArray) ++ (strOfNums y198))), (71, .string (((⟨#[42]⟩ : ByteArray) ++ (strOfNums y198)) ++ (strOfNums x7_1))), (72, .bool true), (73, .bool true), (74, .bool true), (75, .slice A0 l0.length c0), (79, .slice Ao55 x10_2.length co55)]) (fun s_ w' => (Kd.R Kd.string 9 w' w.heap.size (fun k_ => nb k_ (s_.2.1)) (.slice Ao51 t172.length co51) t172) ∧ (Kd.V (Kd.int .u8) 5 w' w.heap.size (fun k_ => nb k_ (.slice Ao51 t172.length co51) ∧ nb k_ v191 ∧ nb k_ v193 ∧ nb k_ (s_.2.1) ∧ nb k_ (.slice Ao55 x10_2.length co55) ∧ nb k_ (.slice Ao18 t156.length co18) ∧ nb k_ u7) (.slice Ao53 t185.length co53) t185) ∧ (Kd.R (Kd.int .u8) 5 w' w.heap.size (fun k_ => nb k_ v193 ∧ nb k_ u7) v191 t188) ∧ (Kd.R (Kd.int .u8) 5 w' w.heap.size (fun k_ => nb k_ v191 ∧ nb k_ u7) v193 t189) ∧ (Kd.V (Kd.int .u8) 5 w' w.heap.size (fun k_ => nb k_ (.slice Ao51 t172.length co51) ∧ nb k_ v191 ∧ nb k_ v193 ∧ nb k_ (s_.2.1) ∧ nb k_ (.slice Ao55 x10_2.length co55) ∧ nb k_ (.slice Ao18 t156.length co18) ∧ nb k_ u7) s_.1 t195) ∧ (Kd.V (Kd.int .u8) 5 w' w.heap.size (fun k_ => nb k_ (.slice Ao51 t172.length co51) ∧ nb k_ v191 ∧ nb k_ v193 ∧ nb k_ (s_.2.1) ∧ nb k_ (.slice Ao55 x10_2.length co55) ∧ nb k_ (.slice Ao18 t156.length co18) ∧ nb k_ u7) (.slice A57 y198.length c57) y198) ∧ (Kd.R Kd.string 9 w' w.heap.size (fun k_ => nb k_ (.slice Ao51 t172.length co51)) s_.2.1 t203) ∧ (Kd.V (Kd.int .u8) 5 w' w.heap.size (fun k_ => nb k_ (.slice Ao51 t172.length co51) ∧ nb k_ v191 ∧ nb k_ v193 ∧ nb k_ (s_.2.1) ∧ nb k_ (.slice Ao55 x10_2.length co55) ∧ nb k_ (.slice Ao18 t156.length co18) ∧ nb k_ u7) s_.2.2.1 t206) ∧ (Kd.V (Kd.int .u8) 5 w' w.heap.size (fun k_ => nb k_ (.slice Ao51 t172.length co51) ∧ nb k_ v191 ∧ nb k_ v193 ∧ nb k_ (s_.2.1) ∧ nb k_ (.slice Ao55 x10_2.length co55) ∧ nb k_ (.slice Ao18 t156.length co18) ∧ nb k_ u7) s_.2.2.2 t209) ∧ (Kd.N (Kd.slice 5 (Kd.int .u8)) 22 w' w.heap.size (fun k_ => nb k_ (.slice Ao51 t172.length co51) ∧ nb k_ v191 ∧ nb k_ v193 ∧ nb k_ (s_.2.1) ∧ nb k_ (.slice Ao18 t156.length co18) ∧ nb k_ u7) (.slice Ao55 x10_2.length co55) x10_2) ∧ (Kd.N (Kd.slice 5 (Kd.int .u8)) 22 w' w.heap.size (fun k_ => nb k_ (.slice Ao51 t172.length co51) ∧ nb k_ v191 ∧ nb k_ v193 ∧ nb k_ (s_.2.1) ∧ nb k_ (.slice Ao55 x10_2.length co55) ∧ nb k_ u7) (.slice Ao18 t156.length co18) t156) ∧ (Kd.R (Kd.int .u8) 5 w' w.heap.size (fun k_ => nb k_ v191 ∧ nb k_ v193) u7 x7_1) ∧ (Kd.V (Kd.int .u8) 5 w' w.heap.size (fun k_ => nb k_ (.slice Ao51 t172.length co51) ∧ nb k_ v191 ∧ nb k_ v193 ∧ nb k_ (s_.2.1) ∧ nb k_ (.slice Ao55 x10_2.length co55) ∧ nb k_ (.slice Ao18 t156.length co18) ∧ nb k_ u7) (.slice Ao58 t166.length co58) t166) ∧ (Below w.heap.size w w')) ?_ ?_
                   rotate_left
                   ·intro hJ3_4_7_10_16_17_20
                    refine join_ (σ := Value × Value × Value) 19 #[true, true, true, true, true, true, true, true, true, true, true, true, true, true, true, true, true, true, false, true, false, false, false, false, false, false, false, false, false, false, false, false, false, false, false, false, false, false] (fun s_ => [(63, s_.1), (64, .string (strOfNums t195)), (67, .string (strOfNums y198)), (70, .string (strOfNums x7_1)), (76, s_.2.1), (77, s_.2.2), (68, .string ((⟨#[42]⟩ : ByteArray) ++ (strOfNums y198))), (71, .string (((⟨#[42]⟩ : ByteArray) ++ (strOfNums y198)) ++ (strOfNums x7_1))), (72, .bool true), (73, .bool true), (74, .bool true), (75, .slice A0 l0.length c0), (79, .slice Ao55 x10_2.length co55)]) (fun s_ w' => (Kd.R Kd.string 9 w' w.heap.size (fun k_ => nb k_ (s_.2.1)) (.slice Ao51 t172.length co51) t172) ∧ (Kd.V (Kd.int .u8) 5 w' w.heap.size (fun k_ => nb k_ (.slice Ao51 t172.length co51) ∧ nb k_ v191 ∧ nb k_ v193 ∧ nb k_ (s_.2.1) ∧ nb k_ (.slice Ao55 x10_2.length co55) ∧ nb k_ (.slice Ao18 t156.length co18) ∧ nb k_ u7) (.slice Ao53 t185.length co53) t185) ∧ (Kd.R (Kd.int .u8) 5 w' w.heap.size (fun k_ => nb k_ v193 ∧ nb k_ u7) v191 t188) ∧ (Kd.R (Kd.int .u8) 5 w' w.heap.size (fun k_ => nb k_ v191 ∧ nb k_ u7) v193 t189) ∧ (Kd.V (Kd.int .u8) 5 w' w.heap.size (fun k_ => nb k_ (.slice Ao51 t172.length co51) ∧ nb k_ v191 ∧ nb k_ v193 ∧ nb k_ (s_.2.1) ∧ nb k_ (.slice Ao55 x10_2.length co55) ∧ nb k_ (.slice Ao18 t156.length co18) ∧ nb k_ u7) s_.1 t195) ∧ (Kd.V (Kd.int .u8) 5 w' w.heap.size (fun k_ => nb k_ (.slice Ao51 t172.length co51) ∧ nb k_ v191 ∧ nb k_ v193 ∧ nb k_ (s_.2.1) ∧ nb k_ (.slice Ao55 x10_2.length co55) ∧ nb k_ (.slice Ao18 t156.length co18) ∧ nb k_ u7) (.slice A57 y198.length c57) y198) ∧ (Kd.R Kd.string 9 w' w.heap.size (fun k_ => nb k_ (.slice Ao51 t172.length co51)) s_.2.1 t203) ∧ (Kd.V (Kd.int .u8) 5 w' w.heap.size (fun k_ => nb k_ (.slice Ao51 t172.length co51) ∧ nb k_ v191 ∧ nb k_ v193 ∧ nb k_ (s_.2.1) ∧ nb k_ (.slice Ao55 x10_2.length co55) ∧ nb k_ (.slice Ao18 t156.length co18) ∧ nb k_ u7) s_.2.2 t206) ∧ (Kd.N (Kd.slice 5 (Kd.int .u8)) 22 w' w.heap.size (fun k_ => nb k_ (.slice Ao51 t172.length co51) ∧ nb k_ v191 ∧ nb k_ v193 ∧ nb k_ (s_.2.1) ∧ nb k_ (.slice Ao18 t156.length co18) ∧ nb k_ u7) (.slice Ao55 x10_2.length co55) x10_2) ∧ (Kd.N (Kd.slice 5 (Kd.int .u8)) 22 w' w.heap.size (fun k_ => nb k_ (.slice Ao51 t172.length co51) ∧ nb k_ v191 ∧ nb k_ v193 ∧ nb k_ (s_.2.1) ∧ nb k_ (.slice Ao55 x10_2.length co55) ∧ nb k_ u7) (.slice Ao18 t156.length co18) t156) ∧ (Kd.R (Kd.int .u8) 5 w' w.heap.size (fun k_ => nb k_ v191 ∧ nb k_ v193) u7 x7_1) ∧ (Kd.V (Kd.int .u8) 5 w' w.heap.size (fun k_ => nb k_ (.slice Ao51 t172.length co51) ∧ nb k_ v191 ∧ nb k_ v193 ∧ nb k_ (s_.2.1) ∧ nb k_ (.slice Ao55 x10_2.length co55) ∧ nb k_ (.slice Ao18 t156.length co18) ∧ nb k_ u7) (.slice Ao58 t166.length co58) t166) ∧ (Below w.heap.size w w')) ?_ ?_
                    rotate_left
                    ·intro hJ3_4_7_10_16_17
                     refine join_ (σ := Value × Value) 20 #[true, true, true, true, true, true, true, true, true, true, true, true, true, true, true, true, true, false, false, true, false, false, false, false, false, false, false, false, false, false, false, false, false, false, false, false, false, false] (fun s_ => [(63, s_.1), (64, .string (strOfNums t195)), (67, .string (strOfNums y198)), (70, .string (strOfNums x7_1)), (76, s_.2), (68, .string ((⟨#[42]⟩ : ByteArray) ++ (strOfNums y198))), (71, .string (((⟨#[42]⟩ : ByteArray) ++ (strOfNums y198)) ++ (strOfNums x7_1))), (72, .bool true), (73, .bool true), (74, .bool true), (75, .slice A0 l0.length c0), (79, .slice Ao55 x10_2.length co55)]) (fun s_ w' => (Kd.R Kd.string 9 w' w.heap.size (fun k_ => nb k_ (s_.2)) (.slice Ao51 t172.length co51) t172) ∧ (Kd.V (Kd.int .u8) 5 w' w.heap.size (fun k_ => nb k_ (.slice Ao51 t172.length co51) ∧ nb k_ v191 ∧ nb k_ v193 ∧ nb k_ (s_.2) ∧ nb k_ (.slice Ao55 x10_2.length co55) ∧ nb k_ (.slice Ao18 t156.length co18) ∧ nb k_ u7) (.slice Ao53 t185.length co53) t185) ∧ (Kd.R (Kd.int .u8) 5 w' w.heap.size (fun k_ => nb k_ v193 ∧ nb k_ u7) v191 t188) ∧ (Kd.R (Kd.int .u8) 5 w' w.heap.size (fun k_ => nb k_ v191 ∧ nb k_ u7) v193 t189) ∧ (Kd.V (Kd.int .u8) 5 w' w.heap.size (fun k_ => nb k_ (.slice Ao51 t172.length co51) ∧ nb k_ v191 ∧ nb k_ v193 ∧ nb k_ (s_.2) ∧ nb k_ (.slice Ao55 x10_2.length co55) ∧ nb k_ (.slice Ao18 t156.length co18) ∧ nb k_ u7) s_.1 t195) ∧ (Kd.V (Kd.int .u8) 5 w' w.heap.size (fun k_ => nb k_ (.slice Ao51 t172.length co51) ∧ nb k_ v191 ∧ nb k_ v193 ∧ nb k_ (s_.2) ∧ nb k_ (.slice Ao55 x10_2.length co55) ∧ nb k_ (.slice Ao18 t156.length co18) ∧ nb k_ u7) (.slice A57 y198.length c57) y198) ∧ (Kd.R Kd.string 9 w' w.heap.size (fun k_ => nb k_ (.slice Ao51 t172.length co51)) s_.2 t203) ∧ (Kd.N (Kd.slice 5 (Kd.int .u8)) 22 w' w.heap.size (fun k_ => nb k_ (.slice Ao51 t172.length co51) ∧ nb k_ v191 ∧ nb k_ v193 ∧ nb k_ (s_.2) ∧ nb k_ (.slice Ao18 t156.length co18) ∧ nb k_ u7) (.slice Ao55 x10_2.length co55) x10_2) ∧ (Kd.N (Kd.slice 5 (Kd.int .u8)) 22 w' w.heap.size (fun k_ => nb k_ (.slice Ao51 t172.length co51) ∧ nb k_ v191 ∧ nb k_ v193 ∧ nb k_ (s_.2) ∧ nb k_ (.slice Ao55 x10_2.length co55) ∧ nb k_ u7) (.slice Ao18 t156.length co18) t156) ∧ (Kd.R (Kd.int .u8) 5 w' w.heap.size (fun k_ => nb k_ v191 ∧ nb k_ v193) u7 x7_1) ∧ (Kd.V (Kd.int .u8) 5 w' w.heap.size (fun k_ => nb k_ (.slice Ao51 t172.length co51) ∧ nb k_ v191 ∧ nb k_ v193 ∧ nb k_ (s_.2) ∧ nb k_ (.slice Ao55 x10_2.length co55) ∧ nb k_ (.slice Ao18 t156.length co18) ∧ nb k_ u7) (.slice Ao58 t166.length co58) t166) ∧ (Below w.heap.size w w')) ?_ ?_
                     rotate_left
                     ·intro hJ3_4_7_10_16
                      refine join_ (σ := Value) 21 #[true, true, true, true, true, true, true, true, true, true, true, true, true, true, true, true, false, false, false, true, false, false, false, false, false, false, false, false, false, false, false, false, false, false, false, false, false, false] (fun s_ => [(63, s_), (64, .string (strOfNums t195)), (67, .string (strOfNums y198)), (70, .string (strOfNums x7_1)), (68, .string ((⟨#[42]⟩ : ByteArray) ++ (strOfNums y198))), (71, .string (((⟨#[42]⟩ : ByteArray) ++ (strOfNums y198)) ++ (strOfNums x7_1))), (72, .bool true), (73, .bool true), (74, .bool true), (75, .slice A0 l0.length c0), (79, .slice Ao55 x10_2.length co55)]) (fun s_ w' => (Kd.R Kd.string 9 w' w.heap.size (fun _ => True) (.slice Ao51 t172.length co51) t172) ∧ (Kd.V (Kd.int .u8) 5 w' w.heap.size (fun k_ => nb k_ (.slice Ao51 t172.length co51) ∧ nb k_ v191 ∧ nb k_ v193 ∧ nb k_ (.slice Ao55 x10_2.length co55) ∧ nb k_ (.slice Ao18 t156.length co18) ∧ nb k_ u7) (.slice Ao53 t185.length co53) t185) ∧ (Kd.R (Kd.int .u8) 5 w' w.heap.size (fun k_ => nb k_ v193 ∧ nb k_ u7) v191 t188) ∧ (Kd.R (Kd.int .u8) 5 w' w.heap.size (fun k_ => nb k_ v191 ∧ nb k_ u7) v193 t189) ∧ (Kd.V (Kd.int .u8) 5 w' w.heap.size (fun k_ => nb k_ (.slice Ao51 t172.length co51) ∧ nb k_ v191 ∧ nb k_ v193 ∧ nb k_ (.slice Ao55 x10_2.length co55) ∧ nb k_ (.slice Ao18 t156.length co18) ∧ nb k_ u7) s_ t195) ∧ (Kd.V (Kd.int .u8) 5 w' w.heap.size (fun k_ => nb k_ (.slice Ao51 t172.length co51) ∧ nb k_ v191 ∧ nb k_ v193 ∧ nb k_ (.slice Ao55 x10_2.length co55) ∧ nb k_ (.slice Ao18 t156.length co18) ∧ nb k_ u7) (.slice A57 y198.length c57) y198) ∧ (Kd.N (Kd.slice 5 (Kd.int .u8)) 22 w' w.heap.size (fun k_ => nb k_ (.slice Ao51 t172.length co51) ∧ nb k_ v191 ∧ nb k_ v193 ∧ nb k_ (.slice Ao18 t156.length co18) ∧ nb k_ u7) (.slice Ao55 x10_2.length co55) x10_2) ∧ (Kd.N (Kd.slice 5 (Kd.int .u8)) 22 w' w.heap.size (fun k_ => nb k_ (.slice Ao51 t172.length co51) ∧ nb k_ v191 ∧ nb k_ v193 ∧ nb k_ (.slice Ao55 x10_2.length co55) ∧ nb k_ u7) (.slice Ao18 t156.length co18) t156) ∧ (Kd.R (Kd.int .u8) 5 w' w.heap.size (fun k_ => nb k_ v191 ∧ nb k_ v193) u7 x7_1) ∧ (Kd.V (Kd.int .u8) 5 w' w.heap.size (fun k_ => nb k_ (.slice Ao51 t172.length co51) ∧ nb k_ v191 ∧ nb k_ v193 ∧ nb k_ (.slice Ao55 x10_2.length co55) ∧ nb k_ (.slice Ao18 t156.length co18) ∧ nb k_ u7) (.slice Ao58 t166.length co58) t166) ∧ (Below w.heap.size w w')) ?_ ?_
                      rotate_left
                      ·intro hJ3_4_7_10
                       refine join_ (σ := Value) 28 #[true, true, true, true, true, true, true, true, true, true, false, false, false, false, false, false, false, false, false, false, false, false, false, false, false, false, false, false, false, false, false, false, false, false, false, false, false, false] (fun s_ => [(63, s_), (64, .string (strOfNums t195)), (67, .string (strOfNums y198)), (68, .string ((⟨#[42]⟩ : ByteArray) ++ (strOfNums y198)))]) (fun s_ w' => (Kd.R Kd.string 9 w' w.heap.size (fun _ => True) (.slice Ao51 t172.length co51) t172) ∧ (Kd.V (Kd.int .u8) 5 w' w.heap.size (fun k_ => nb k_ (.slice Ao51 t172.length co51) ∧ nb k_ v191 ∧ nb k_ v193 ∧ nb k_ (.slice Ao55 x10_2.length co55) ∧ nb k_ (.slice Ao18 t156.length co18) ∧ nb k_ u7) (.slice Ao53 t185.length co53) t185) ∧ (Kd.R (Kd.int .u8) 5 w' w.heap.size (fun k_ => nb k_ v193 ∧ nb k_ u7) v191 t188) ∧ (Kd.R (Kd.int .u8) 5 w' w.heap.size (fun k_ => nb k_ v191 ∧ nb k_ u7) v193 t189) ∧ (Kd.V (Kd.int .u8) 5 w' w.heap.size (fun k_ => nb k_ (.slice Ao51 t172.length co51) ∧ nb k_ v191 ∧ nb k_ v193 ∧ nb k_ (.slice Ao55 x10_2.length co55) ∧ nb k_ (.slice Ao18 t156.length co18) ∧ nb k_ u7) s_ t195) ∧ (Kd.V (Kd.int .u8) 5 w' w.heap.size (fun k_ => nb k_ (.slice Ao51 t172.length co51) ∧ nb k_ v191 ∧ nb k_ v193 ∧ nb k_ (.slice Ao55 x10_2.length co55) ∧ nb k_ (.slice Ao18 t156.length co18) ∧ nb k_ u7) (.slice A57 y198.length c57) y198) ∧ (Kd.N (Kd.slice 5 (Kd.int .u8)) 22 w' w.heap.size (fun k_ => nb k_ (.slice Ao51 t172.length co51) ∧ nb k_ v191 ∧ nb k_ v193 ∧ nb k_ (.slice Ao18 t156.length co18) ∧ nb k_ u7) (.slice Ao55 x10_2.length co55) x10_2) ∧ (Kd.N (Kd.slice 5 (Kd.int .u8)) 22 w' w.heap.size (fun k_ => nb k_ (.slice Ao51 t172.length co51) ∧ nb k_ v191 ∧ nb k_ v193 ∧ nb k_ (.slice Ao55 x10_2.length co55) ∧ nb k_ u7) (.slice Ao18 t156.length co18) t156) ∧ (Kd.R (Kd.int .u8) 5 w' w.heap.size (fun k_ => nb k_ v191 ∧ nb k_ v193) u7 x7_1) ∧ (Kd.V (Kd.int .u8) 5 w' w.heap.size (fun k_ => nb k_ (.slice Ao51 t172.length co51) ∧ nb k_ v191 ∧ nb k_ v193 ∧ nb k_ (.slice Ao55 x10_2.length co55) ∧ nb k_ (.slice Ao18 t156.length co18) ∧ nb k_ u7) (.slice Ao58 t166.length co58) t166) ∧ (Below w.heap.size w w')) ?_ ?_
                       rotate_left
                       ·intro hJ3_4_7
                        refine join_ (σ := Value) 29 #[true, true, true, true, true, true, true, false, false, true, true, false, false, false, false, false, false, false, false, false, false, false, false, false, false, false, false, false, false, false, false, false, false, false, false, false, false, false] (fun s_ => [(63, s_), (64, .string (strOfNums t195)), (70, .string (strOfNums x7_1))]) (fun s_ w' => (Kd.R Kd.string 9 w' w.heap.size (fun _ => True) (.slice Ao51 t172.length co51) t172) ∧ (Kd.V (Kd.int .u8) 5 w' w.heap.size (fun k_ => nb k_ (.slice Ao51 t172.length co51) ∧ nb k_ v191 ∧ nb k_ v193 ∧ nb k_ (.slice Ao55 x10_2.length co55) ∧ nb k_ (.slice Ao18 t156.length co18) ∧ nb k_ u7) (.slice Ao53 t185.length co53) t185) ∧ (Kd.R (Kd.int .u8) 5 w' w.heap.size (fun k_ => nb k_ v193 ∧ nb k_ u7) v191 t188) ∧ (Kd.R (Kd.int .u8) 5 w' w.heap.size (fun k_ => nb k_ v191 ∧ nb k_ u7) v193 t189) ∧ (Kd.V (Kd.int .u8) 5 w' w.heap.size (fun k_ => nb k_ (.slice Ao51 t172.length co51) ∧ nb k_ v191 ∧ nb k_ v193 ∧ nb k_ (.slice Ao55 x10_2.length co55) ∧ nb k_ (.slice Ao18 t156.length co18) ∧ nb k_ u7) s_ t195) ∧ (Kd.V (Kd.int .u8) 5 w' w.heap.size (fun k_ => nb k_ (.slice Ao51 t172.length co51) ∧ nb k_ v191 ∧ nb k_ v193 ∧ nb k_ (.slice Ao55 x10_2.length co55) ∧ nb k_ (.slice Ao18 t156.length co18) ∧ nb k_ u7) (.slice A57 y198.length c57) y198) ∧ (Kd.N (Kd.slice 5 (Kd.int .u8)) 22 w' w.heap.size (fun k_ => nb k_ (.slice Ao51 t172.length co51) ∧ nb k_ v191 ∧ nb k_ v193 ∧ nb k_ (.slice Ao18 t156.length co18) ∧ nb k_ u7) (.slice Ao55 x10_2.length co55) x10_2) ∧ (Kd.N (Kd.slice 5 (Kd.int .u8)) 22 w' w.heap.size (fun k_ => nb k_ (.slice Ao51 t172.length co51) ∧ nb k_ v191 ∧ nb k_ v193 ∧ nb k_ (.slice Ao55 x10_2.length co55) ∧ nb k_ u7) (.slice Ao18 t156.length co18) t156) ∧ (Kd.R (Kd.int .u8) 5 w' w.heap.size (fun k_ => nb k_ v191 ∧ nb k_ v193) u7 x7_1) ∧ (Kd.V (Kd.int .u8) 5 w' w.heap.size (fun k_ => nb k_ (.slice Ao51 t172.length co51) ∧ nb k_ v191 ∧ nb k_ v193 ∧ nb k_ (.slice Ao55 x10_2.length co55) ∧ nb k_ (.slice Ao18 t156.length co18) ∧ nb k_ u7) (.slice Ao58 t166.length co58) t166) ∧ (Below w.heap.size w w')) ?_ ?_
                        rotate_left
                        ·intro hJ3_4_10
                         refine join_ (σ := Value) 27 #[true, true, true, true, false, true, true, true, true, true, true, true, false, false, false, false, false, false, false, false, false, false, false, false, false, false, false, false, false, false, false, false, false, false, false, false, false, false] (fun s_ => [(63, s_), (67, .string (strOfNums y198)), (70, .string (strOfNums x7_1)), (68, .string ((⟨#[42]⟩ : ByteArray) ++ (strOfNums y198))), (71, .string (((⟨#[42]⟩ : ByteArray) ++ (strOfNums y198)) ++ (strOfNums x7_1)))]) (fun s_ w' => (Kd.R Kd.string 9 w' w.heap.size (fun _ => True) (.slice Ao51 t172.length co51) t172) ∧ (Kd.V (Kd.int .u8) 5 w' w.heap.size (fun k_ => nb k_ (.slice Ao51 t172.length co51) ∧ nb k_ v191 ∧ nb k_ v193 ∧ nb k_ (.slice Ao55 x10_2.length co55) ∧ nb k_ (.slice Ao18 t156.length co18) ∧ nb k_ u7) (.slice Ao53 t185.length co53) t185) ∧ (Kd.R (Kd.int .u8) 5 w' w.heap.size (fun k_ => nb k_ v193 ∧ nb k_ u7) v191 t188) ∧ (Kd.R (Kd.int .u8) 5 w' w.heap.size (fun k_ => nb k_ v191 ∧ nb k_ u7) v193 t189) ∧ (Kd.V (Kd.int .u8) 5 w' w.heap.size (fun k_ => nb k_ (.slice Ao51 t172.length co51) ∧ nb k_ v191 ∧ nb k_ v193 ∧ nb k_ (.slice Ao55 x10_2.length co55) ∧ nb k_ (.slice Ao18 t156.length co18) ∧ nb k_ u7) s_ t195) ∧ (Kd.V (Kd.int .u8) 5 w' w.heap.size (fun k_ => nb k_ (.slice Ao51 t172.length co51) ∧ nb k_ v191 ∧ nb k_ v193 ∧ nb k_ (.slice Ao55 x10_2.length co55) ∧ nb k_ (.slice Ao18 t156.length co18) ∧ nb k_ u7) (.slice A57 y198.length c57) y198) ∧ (Kd.N (Kd.slice 5 (Kd.int .u8)) 22 w' w.heap.size (fun k_ => nb k_ (.slice Ao51 t172.length co51) ∧ nb k_ v191 ∧ nb k_ v193 ∧ nb k_ (.slice Ao18 t156.length co18) ∧ nb k_ u7) (.slice Ao55 x10_2.length co55) x10_2) ∧ (Kd.N (Kd.slice 5 (Kd.int .u8)) 22 w' w.heap.size (fun k_ => nb k_ (.slice Ao51 t172.length co51) ∧ nb k_ v191 ∧ nb k_ v193 ∧ nb k_ (.slice Ao55 x10_2.length co55) ∧ nb k_ u7) (.slice Ao18 t156.length co18) t156) ∧ (Kd.R (Kd.int .u8) 5 w' w.heap.size (fun k_ => nb k_ v191 ∧ nb k_ v193) u7 x7_1) ∧ (Kd.V (Kd.int .u8) 5 w' w.heap.size (fun k_ => nb k_ (.slice Ao51 t172.length co51) ∧ nb k_ v191 ∧ nb k_ v193 ∧ nb k_ (.slice Ao55 x10_2.length co55) ∧ nb k_ (.slice Ao18 t156.length co18) ∧ nb k_ u7) (.slice Ao58 t166.length co58) t166) ∧ (Below w.heap.size w w')) ?_ ?_
                         rotate_left
                         ·intro hJ3_7_10
                          refine join_ (σ := Value) 30 #[true, true, true, true, true, true, true, false, false, true, false, false, false, false, false, false, false, false, false, false, false, false, false, false, false, false, false, false, false, false, false, false, false, false, false, false, false, false] (fun s_ => [(63, s_), (64, .string (strOfNums t195))]) (fun s_ w' => (Kd.R Kd.string 9 w' w.heap.size (fun _ => True) (.slice Ao51 t172.length co51) t172) ∧ (Kd.V (Kd.int .u8) 5 w' w.heap.size (fun k_ => nb k_ (.slice Ao51 t172.length co51) ∧ nb k_ v191 ∧ nb k_ v193 ∧ nb k_ (.slice Ao55 x10_2.length co55) ∧ nb k_ (.slice Ao18 t156.length co18) ∧ nb k_ u7) (.slice Ao53 t185.length co53) t185) ∧ (Kd.R (Kd.int .u8) 5 w' w.heap.size (fun k_ => nb k_ v193 ∧ nb k_ u7) v191 t188) ∧ (Kd.R (Kd.int .u8) 5 w' w.heap.size (fun k_ => nb k_ v191 ∧ nb k_ u7) v193 t189) ∧ (Kd.V (Kd.int .u8) 5 w' w.heap.size (fun k_ => nb k_ (.slice Ao51 t172.length co51) ∧ nb k_ v191 ∧ nb k_ v193 ∧ nb k_ (.slice Ao55 x10_2.length co55) ∧ nb k_ (.slice Ao18 t156.length co18) ∧ nb k_ u7) s_ t195) ∧ (Kd.V (Kd.int .u8) 5 w' w.heap.size (fun k_ => nb k_ (.slice Ao51 t172.length co51) ∧ nb k_ v191 ∧ nb k_ v193 ∧ nb k_ (.slice Ao55 x10_2.length co55) ∧ nb k_ (.slice Ao18 t156.length co18) ∧ nb k_ u7) (.slice A57 y198.length c57) y198) ∧ (Kd.N (Kd.slice 5 (Kd.int .u8)) 22 w' w.heap.size (fun k_ => nb k_ (.slice Ao51 t172.length co51) ∧ nb k_ v191 ∧ nb k_ v193 ∧ nb k_ (.slice Ao18 t156.length co18) ∧ nb k_ u7) (.slice Ao55 x10_2.length co55) x10_2) ∧ (Kd.N (Kd.slice 5 (Kd.int .u8)) 22 w' w.heap.size (fun k_ => nb k_ (.slice Ao51 t172.length co51) ∧ nb k_ v191 ∧ nb k_ v193 ∧ nb k_ (.slice Ao55 x10_2.length co55) ∧ nb k_ u7) (.slice Ao18 t156.length co18) t156) ∧ (Kd.R (Kd.int .u8) 5 w' w.heap.size (fun k_ => nb k_ v191 ∧ nb k_ v193) u7 x7_1) ∧ (Kd.V (Kd.int .u8) 5 w' w.heap.size (fun k_ => nb k_ (.slice Ao51 t172.length co51) ∧ nb k_ v191 ∧ nb k_ v193 ∧ nb k_ (.slice Ao55 x10_2.length co55) ∧ nb k_ (.slice Ao18 t156.length co18) ∧ nb k_ u7) (.slice Ao58 t166.length co58) t166) ∧ (Below w.heap.size w w')) ?_ ?_
                          rotate_left
                          ·intro hJ3_4
                           refine join_ (σ := Value) 29 #[true, true, true, true, false, true, true, true, true, true, false, false, false, false, false, false, false, false, false, false, false, false, false, false, false, false, false, false, false, false, false, false, false, false, false, false, false, false] (fun s_ => [(63, s_), (67, .string (strOfNums y198)), (68, .string ((⟨#[42]⟩ : ByteArray) ++ (strOfNums y198)))]) (fun s_ w' => (Kd.R Kd.string 9 w' w.heap.size (fun _ => True) (.slice Ao51 t172.length co51) t172) ∧ (Kd.V (Kd.int .u8) 5 w' w.heap.size (fun k_ => nb k_ (.slice Ao51 t172.length co51) ∧ nb k_ v191 ∧ nb k_ v193 ∧ nb k_ (.slice Ao55 x10_2.length co55) ∧ nb k_ (.slice Ao18 t156.length co18) ∧ nb k_ u7) (.slice Ao53 t185.length co53) t185) ∧ (Kd.R (Kd.int .u8) 5 w' w.heap.size (fun k_ => nb k_ v193 ∧ nb k_ u7) v191 t188) ∧ (Kd.R (Kd.int .u8) 5 w' w.heap.size (fun k_ => nb k_ v191 ∧ nb k_ u7) v193 t189) ∧ (Kd.V (Kd.int .u8) 5 w' w.heap.size (fun k_ => nb k_ (.slice Ao51 t172.length co51) ∧ nb k_ v191 ∧ nb k_ v193 ∧ nb k_ (.slice Ao55 x10_2.length co55) ∧ nb k_ (.slice Ao18 t156.length co18) ∧ nb k_ u7) s_ t195) ∧ (Kd.V (Kd.int .u8) 5 w' w.heap.size (fun k_ => nb k_ (.slice Ao51 t172.length co51) ∧ nb k_ v191 ∧ nb k_ v193 ∧ nb k_ (.slice Ao55 x10_2.length co55) ∧ nb k_ (.slice Ao18 t156.length co18) ∧ nb k_ u7) (.slice A57 y198.length c57) y198) ∧ (Kd.N (Kd.slice 5 (Kd.int .u8)) 22 w' w.heap.size (fun k_ => nb k_ (.slice Ao51 t172.length co51) ∧ nb k_ v191 ∧ nb k_ v193 ∧ nb k_ (.slice Ao18 t156.length co18) ∧ nb k_ u7) (.slice Ao55 x10_2.length co55) x10_2) ∧ (Kd.N (Kd.slice 5 (Kd.int .u8)) 22 w' w.heap.size (fun k_ => nb k_ (.slice Ao51 t172.length co51) ∧ nb k_ v191 ∧ nb k_ v193 ∧ nb k_ (.slice Ao55 x10_2.length co55) ∧ nb k_ u7) (.slice Ao18 t156.length co18) t156) ∧ (Kd.R (Kd.int .u8) 5 w' w.heap.size (fun k_ => nb k_ v191 ∧ nb k_ v193) u7 x7_1) ∧ (Kd.V (Kd.int .u8) 5 w' w.heap.size (fun k_ => nb k_ (.slice Ao51 t172.length co51) ∧ nb k_ v191 ∧ nb k_ v193 ∧ nb k_ (.slice Ao55 x10_2.length co55) ∧ nb k_ (.slice Ao18 t156.length co18) ∧ nb k_ u7) (.slice Ao58 t166.length co58) t166) ∧ (Below w.heap.size w w')) ?_ ?_
                           rotate_left
                           ·intro hJ3_7
                            refine join_ (σ := Value) 30 #[true, true, true, true, false, true, true, false, false, true, true, false, false, false, false, false, false, false, false, false, false, false, false, false, false, false, false, false, false, false, false, false, false, false, false, false, false, false] (fun s_ => [(63, s_), (70, .string (strOfNums x7_1))]) (fun s_ w' => (Kd.R Kd.string 9 w' w.heap.size (fun _ => True) (.slice Ao51 t172.length co51) t172) ∧ (Kd.V (Kd.int .u8) 5 w' w.heap.size (fun k_ => nb k_ (.slice Ao51 t172.length co51) ∧ nb k_ v191 ∧ nb k_ v193 ∧ nb k_ (.slice Ao55 x10_2.length co55) ∧ nb k_ (.slice Ao18 t156.length co18) ∧ nb k_ u7) (.slice Ao53 t185.length co53) t185) ∧ (Kd.R (Kd.int .u8) 5 w' w.heap.size (fun k_ => nb k_ v193 ∧ nb k_ u7) v191 t188) ∧ (Kd.R (Kd.int .u8) 5 w' w.heap.size (fun k_ => nb k_ v191 ∧ nb k_ u7) v193 t189) ∧ (Kd.V (Kd.int .u8) 5 w' w.heap.size (fun k_ => nb k_ (.slice Ao51 t172.length co51) ∧ nb k_ v191 ∧ nb k_ v193 ∧ nb k_ (.slice Ao55 x10_2.length co55) ∧ nb k_ (.slice Ao18 t156.length co18) ∧ nb k_ u7) s_ t195) ∧ (Kd.V (Kd.int .u8) 5 w' w.heap.size (fun k_ => nb k_ (.slice Ao51 t172.length co51) ∧ nb k_ v191 ∧ nb k_ v193 ∧ nb k_ (.slice Ao55 x10_2.length co55) ∧ nb k_ (.slice Ao18 t156.length co18) ∧ nb k_ u7) (.slice A57 y198.length c57) y198) ∧ (Kd.N (Kd.slice 5 (Kd.int .u8)) 22 w' w.heap.size (fun k_ => nb k_ (.slice Ao51 t172.length co51) ∧ nb k_ v191 ∧ nb k_ v193 ∧ nb k_ (.slice Ao18 t156.length co18) ∧ nb k_ u7) (.slice Ao55 x10_2.length co55) x10_2) ∧ (Kd.N (Kd.slice 5 (Kd.int .u8)) 22 w' w.heap.size (fun k_ => nb k_ (.slice Ao51 t172.length co51) ∧ nb k_ v191 ∧ nb k_ v193 ∧ nb k_ (.slice Ao55 x10_2.length co55) ∧ nb k_ u7) (.slice Ao18 t156.length co18) t156) ∧ (Kd.R (Kd.int .u8) 5 w' w.heap.size (fun k_ => nb k_ v191 ∧ nb k_ v193) u7 x7_1) ∧ (Kd.V (Kd.int .u8) 5 w' w.heap.size (fun k_ => nb k_ (.slice Ao51 t172.length co51) ∧ nb k_ v191 ∧ nb k_ v193 ∧ nb k_ (.slice Ao55 x10_2.length co55) ∧ nb k_ (.slice Ao18 t156.length co18) ∧ nb k_ u7) (.slice Ao58 t166.length co58) t166) ∧ (Below w.heap.size w w')) ?_ ?_
                            rotate_left
                            ·intro hJ3_10
                             refine join_ (σ := Unit) 28 #[true, true, true, false, false, true, true, true, true, true, true, true, false, false, false, false, false, false, false, false, false, false, false, false, false, false, false, false, false, false, false, false, false, false, false, false, false, false] (fun s_ => [(67, .string (strOfNums y198)), (70, .string (strOfNums x7_1)), (68, .string ((⟨#[42]⟩ : ByteArray) ++ (strOfNums y198))), (71, .string (((⟨#[42]⟩ : ByteArray) ++ (strOfNums y198)) ++ (strOfNums x7_1)))]) (fun s_ w' => (Kd.R Kd.string 9 w' w.heap.size (fun _ => True) (.slice Ao51 t172.length co51) t172) ∧ (Kd.V (Kd.int .u8) 5 w' w.heap.size (fun k_ => nb k_ (.slice Ao51 t172.length co51) ∧ nb k_ v191 ∧ nb k_ v193 ∧ nb k_ (.slice Ao55 x10_2.length co55) ∧ nb k_ (.slice Ao18 t156.length co18) ∧ nb k_ u7) (.slice Ao53 t185.length co53) t185) ∧ (Kd.R (Kd.int .u8) 5 w' w.heap.size (fun k_ => nb k_ v193 ∧ nb k_ u7) v191 t188) ∧ (Kd.R (Kd.int .u8) 5 w' w.heap.size (fun k_ => nb k_ v191 ∧ nb k_ u7) v193 t189) ∧ (Kd.V (Kd.int .u8) 5 w' w.heap.size (fun k_ => nb k_ (.slice Ao51 t172.length co51) ∧ nb k_ v191 ∧ nb k_ v193 ∧ nb k_ (.slice Ao55 x10_2.length co55) ∧ nb k_ (.slice Ao18 t156.length co18) ∧ nb k_ u7) (.slice A57 y198.length c57) y198) ∧ (Kd.N (Kd.slice 5 (Kd.int .u8)) 22 w' w.heap.size (fun k_ => nb k_ (.slice Ao51 t172.length co51) ∧ nb k_ v191 ∧ nb k_ v193 ∧ nb k_ (.slice Ao18 t156.length co18) ∧ nb k_ u7) (.slice Ao55 x10_2.length co55) x10_2) ∧ (Kd.N (Kd.slice 5 (Kd.int .u8)) 22 w' w.heap.size (fun k_ => nb k_ (.slice Ao51 t172.length co51) ∧ nb k_ v191 ∧ nb k_ v193 ∧ nb k_ (.slice Ao55 x10_2.length co55) ∧ nb k_ u7) (.slice Ao18 t156.length co18) t156) ∧ (Kd.R (Kd.int .u8) 5 w' w.heap.size (fun k_ => nb k_ v191 ∧ nb k_ v193) u7 x7_1) ∧ (Kd.V (Kd.int .u8) 5 w' w.heap.size (fun k_ => nb k_ (.slice Ao51 t172.length co51) ∧ nb k_ v191 ∧ nb k_ v193 ∧ nb k_ (.slice Ao55 x10_2.length co55) ∧ nb k_ (.slice Ao18 t156.length co18) ∧ nb k_ u7) (.slice Ao58 t166.length co58) t166) ∧ (Below w.heap.size w w')) ?_ ?_
                             rotate_left
                             ·intro hJ7_10
                              refine join_ (σ := Value) 31 #[true, true, true, true, false, true, true, false, false, true, false, false, false, false, false, false, false, false, false, false, false, false, false, false, false, false, false, false, false, false, false, false, false, false, false, false, false, false] (fun s_ => [(63, s_)]) (fun s_ w' => (Kd.R Kd.string 9 w' w.heap.size (fun _ => True) (.slice Ao51 t172.length co51) t172) ∧ (Kd.V (Kd.int .u8) 5 w' w.heap.size (fun k_ => nb k_ (.slice Ao51 t172.length co51) ∧ nb k_ v191 ∧ nb k_ v193 ∧ nb k_ (.slice Ao55 x10_2.length co55) ∧ nb k_ (.slice Ao18 t156.length co18) ∧ nb k_ u7) (.slice Ao53 t185.length co53) t185) ∧ (Kd.R (Kd.int .u8) 5 w' w.heap.size (fun k_ => nb k_ v193 ∧ nb k_ u7) v191 t188) ∧ (Kd.R (Kd.int .u8) 5 w' w.heap.size (fun k_ => nb k_ v191 ∧ nb k_ u7) v193 t189) ∧ (Kd.V (Kd.int .u8) 5 w' w.heap.size (fun k_ => nb k_ (.slice Ao51 t172.length co51) ∧ nb k_ v191 ∧ nb k_ v193 ∧ nb k_ (.slice Ao55 x10_2.length co55) ∧ nb k_ (.slice Ao18 t156.length co18) ∧ nb k_ u7) s_ t195) ∧ (Kd.V (Kd.int .u8) 5 w' w.heap.size (fun k_ => nb k_ (.slice Ao51 t172.length co51) ∧ nb k_ v191 ∧ nb k_ v193 ∧ nb k_ (.slice Ao55 x10_2.length co55) ∧ nb k_ (.slice Ao18 t156.length co18) ∧ nb k_ u7) (.slice A57 y198.length c57) y198) ∧ (Kd.N (Kd.slice 5 (Kd.int .u8)) 22 w' w.heap.size (fun k_ => nb k_ (.slice Ao51 t172.length co51) ∧ nb k_ v191 ∧ nb k_ v193 ∧ nb k_ (.slice Ao18 t156.length co18) ∧ nb k_ u7) (.slice Ao55 x10_2.length co55) x10_2) ∧ (Kd.N (Kd.slice 5 (Kd.int .u8)) 22 w' w.heap.size (fun k_ => nb k_ (.slice Ao51 t172.length co51) ∧ nb k_ v191 ∧ nb k_ v193 ∧ nb k_ (.slice Ao55 x10_2.length co55) ∧ nb k_ u7) (.slice Ao18 t156.length co18) t156) ∧ (Kd.R (Kd.int .u8) 5 w' w.heap.size (fun k_ => nb k_ v191 ∧ nb k_ v193) u7 x7_1) ∧ (Kd.V (Kd.int .u8) 5 w' w.heap.size (fun k_ => nb k_ (.slice Ao51 t172.length co51) ∧ nb k_ v191 ∧ nb k_ v193 ∧ nb k_ (.slice Ao55 x10_2.length co55) ∧ nb k_ (.slice Ao18 t156.length co18) ∧ nb k_ u7) (.slice Ao58 t166.length co58) t166) ∧ (Below w.heap.size w w')) ?_ ?_
                              rotate_left
                              ·intro hJ3
                               refine join_ (σ := Unit) 30 #[true, true, true, false, false, true, true, true, true, true, false, false, false, false, false, false, false, false, false, false, false, false, false, false, false, false, false, false, false, false, false, false, false, false, false, false, false, false] (fun s_ => [(67, .string (strOfNums y198)), (68, .string ((⟨#[42]⟩ : ByteArray) ++ (strOfNums y198)))]) (fun s_ w' => (Kd.R Kd.string 9 w' w.heap.size (fun _ => True) (.slice Ao51 t172.length co51) t172) ∧ (Kd.V (Kd.int .u8) 5 w' w.heap.size (fun k_ => nb k_ (.slice Ao51 t172.length co51) ∧ nb k_ v191 ∧ nb k_ v193 ∧ nb k_ (.slice Ao55 x10_2.length co55) ∧ nb k_ (.slice Ao18 t156.length co18) ∧ nb k_ u7) (.slice Ao53 t185.length co53) t185) ∧ (Kd.R (Kd.int .u8) 5 w' w.heap.size (fun k_ => nb k_ v193 ∧ nb k_ u7) v191 t188) ∧ (Kd.R (Kd.int .u8) 5 w' w.heap.size (fun k_ => nb k_ v191 ∧ nb k_ u7) v193 t189) ∧ (Kd.V (Kd.int .u8) 5 w' w.heap.size (fun k_ => nb k_ (.slice Ao51 t172.length co51) ∧ nb k_ v191 ∧ nb k_ v193 ∧ nb k_ (.slice Ao55 x10_2.length co55) ∧ nb k_ (.slice Ao18 t156.length co18) ∧ nb k_ u7) (.slice A57 y198.length c57) y198) ∧ (Kd.N (Kd.slice 5 (Kd.int .u8)) 22 w' w.heap.size (fun k_ => nb k_ (.slice Ao51 t172.length co51) ∧ nb k_ v191 ∧ nb k_ v193 ∧ nb k_ (.slice Ao18 t156.length co18) ∧ nb k_ u7) (.slice Ao55 x10_2.length co55) x10_2) ∧ (Kd.N (Kd.slice 5 (Kd.int .u8)) 22 w' w.heap.size (fun k_ => nb k_ (.slice Ao51 t172.length co51) ∧ nb k_ v191 ∧ nb k_ v193 ∧ nb k_ (.slice Ao55 x10_2.length co55) ∧ nb k_ u7) (.slice Ao18 t156.length co18) t156) ∧ (Kd.R (Kd.int .u8) 5 w' w.heap.size (fun k_ => nb k_ v191 ∧ nb k_ v193) u7 x7_1) ∧ (Kd.V (Kd.int .u8) 5 w' w.heap.size (fun k_ => nb k_ (.slice Ao51 t172.length co51) ∧ nb k_ v191 ∧ nb k_ v193 ∧ nb k_ (.slice Ao55 x10_2.length co55) ∧ nb k_ (.slice Ao18 t156.length co18) ∧ nb k_ u7) (.slice Ao58 t166.length co58) t166) ∧ (Below w.heap.size w w')) ?_ ?_
                               rotate_left
                               ·intro hJ7
                                refine join_ (σ := Unit) 31 #[true, true, true, false, false, true, true, false, false, true, true, false, false, false, false, false, false, false, false, false, false, false, false, false, false, false, false, false, false, false, false, false, false, false, false, false, false, false] (fun s_ => [(70, .string (strOfNums x7_1))]) (fun s_ w' => (Kd.R Kd.string 9 w' w.heap.size (fun _ => True) (.slice Ao51 t172.length co51) t172) ∧ (Kd.V (Kd.int .u8) 5 w' w.heap.size (fun k_ => nb k_ (.slice Ao51 t172.length co51) ∧ nb k_ v191 ∧ nb k_ v193 ∧ nb k_ (.slice Ao55 x10_2.length co55) ∧ nb k_ (.slice Ao18 t156.length co18) ∧ nb k_ u7) (.slice Ao53 t185.length co53) t185) ∧ (Kd.R (Kd.int .u8) 5 w' w.heap.size (fun k_ => nb k_ v193 ∧ nb k_ u7) v191 t188) ∧ (Kd.R (Kd.int .u8) 5 w' w.heap.size (fun k_ => nb k_ v191 ∧ nb k_ u7) v193 t189) ∧ (Kd.V (Kd.int .u8) 5 w' w.heap.size (fun k_ => nb k_ (.slice Ao51 t172.length co51) ∧ nb k_ v191 ∧ nb k_ v193 ∧ nb k_ (.slice Ao55 x10_2.length co55) ∧ nb k_ (.slice Ao18 t156.length co18) ∧ nb k_ u7) (.slice A57 y198.length c57) y198) ∧ (Kd.N (Kd.slice 5 (Kd.int .u8)) 22 w' w.heap.size (fun k_ => nb k_ (.slice Ao51 t172.length co51) ∧ nb k_ v191 ∧ nb k_ v193 ∧ nb k_ (.slice Ao18 t156.length co18) ∧ nb k_ u7) (.slice Ao55 x10_2.length co55) x10_2) ∧ (Kd.N (Kd.slice 5 (Kd.int .u8)) 22 w' w.heap.size (fun k_ => nb k_ (.slice Ao51 t172.length co51) ∧ nb k_ v191 ∧ nb k_ v193 ∧ nb k_ (.slice Ao55 x10_2.length co55) ∧ nb k_ u7) (.slice Ao18 t156.length co18) t156) ∧ (Kd.R (Kd.int .u8) 5 w' w.heap.size (fun k_ => nb k_ v191 ∧ nb k_ v193) u7 x7_1) ∧ (Kd.V (Kd.int .u8) 5 w' w.heap.size (fun k_ => nb k_ (.slice Ao51 t172.length co51) ∧ nb k_ v191 ∧ nb k_ v193 ∧ nb k_ (.slice Ao55 x10_2.length co55) ∧ nb k_ (.slice Ao18 t156.length co18) ∧ nb k_ u7) (.slice Ao58 t166.length co58) t166) ∧ (Below w.heap.size w w')) ?_ ?_
                                rotate_left
                                ·intro hJ10
                                 refine three_ (i := 3) (j := 7) (k := 10) (Ni := some 63) (Nj := some 67) (Nk := some 70) #[true, true, true, true, false, true, true, false, false, true, false, false, false, false, false, false, false, false, false, false, false, false, false, false, false, false, false, false, false, false, false, false, false, false, false, false, false, false] #[true, true, true, false, false, true, true, true, false, true, false, false, false, false, false, false, false, false, false, false, false, false, false, false, false, false, false, false, false, false, false, false, false, false, false, false, false, false] #[true, true, true, false, false, true, true, false, false, true, true, false, false, false, false, false, false, false, false, false, false, false, false, false, false, false, false, false, false, false, false, false, false, false, false, false, false, false] rfl rfl rfl rfl rfl rfl (three_of HT_.out (by kernel_rfl)) (by decide) (by decide) (by decide) (fun K hK => ?_) (fun K hK => ?_) (fun K hK => ?_)
                                 ·skip
                                  refine goes_ Tryz.func27 (by kernel_rfl) rfl #[.slice Ao18 t156.length co18] (by rfl) rfl rfl (by (try simp only [List.map_toArray, List.map_cons, List.map_nil]); first | done | rfl | (simp only [List.length_drop, List.length_take]; rfl)) ?_
                                  with_reducible refine (reply_Array.calls _ _ t156 t195 _ ?side1 ?side2 ?side3 ?side4 A39.out).mono ?_
                                  (case side1 => repeat (first | exact (Kd.N_reads' HO_6.out).2.2 | (with_reducible refine Kd.C_alloc ?_ _) | (with_reducible refine Kd.C_drewN ?_ _) | (with_reducible refine Kd.C_drew ?_)))
                                  (case side2 => exact (Kd.N_reads' HO_6.out).2.1)
                                  (case side3 => exact Spot.spot_N HO_6.out)
                                  (case side4 => exact Tryz.Ln.tabs_below HT0.out HB.out)
                                  rintro e w59 ⟨v196, rfl, ho0, hb⟩
                                  refine ⟨_, rfl, ?_⟩
                                  have n0_ := Aside0.mk (Kd.N_below HO_6.out hb)
                                  have n1_ := Aside0.mk (Kd.R_below HO_7.out hb)
                                  have n2_ := Aside0.mk (Kd.V_below HO_9.out hb)
                                  have n3_ := Aside0.mk (Kd.N_below HO_10.out hb)
                                  have n4_ := Aside0.mk (Kd.R_below HO174.out hb)
                                  have n5_ := Aside0.mk (Kd.V_below HO187.out hb)
                                  have n6_ := Aside0.mk (Kd.R_below HO192.out hb)
                                  have n7_ := Aside0.mk (Kd.R_below HO194.out hb)
                                  have n8_ := Aside0.mk (Kd.V_below HO202.out hb)
                                  have n9_ := Aside0.mk (Kd.V_lower (Kd.V_mono (ok' := fun k_ => nb k_ (.slice Ao18 t156.length co18) ∧ nb k_ u7 ∧ nb k_ (.slice Ao55 x10_2.length co55) ∧ nb k_ (.slice Ao51 t172.length co51) ∧ nb k_ v191 ∧ nb k_ v193) ho0 (fun k_ hk_ => ⟨(Kd.fresh' (Kd.N_lt HO_6.out) k_ hk_), (Kd.fresh' (Kd.R_lt HO_7.out) k_ hk_), (Kd.fresh' (Kd.N_lt HO_10.out) k_ hk_), (Kd.fresh' (Kd.R_lt HO174.out) k_ hk_), (Kd.fresh' (Kd.R_lt HO192.out) k_ hk_), (Kd.fresh' (Kd.R_lt HO194.out) k_ hk_)⟩)) (below_size HB.out))
                                  have n10_ := Aside0.mk (below_step HB.out hb)
                                  clear HO_6
                                  clear HO_7
                                  clear HO_9
                                  clear HO_10
                                  clear HO174
                                  clear HO187
                                  clear HO192
                                  clear HO194
                                  clear HO202
                                  clear HB
                                  have HO_6 := n0_
                                  have HO_7 := n1_
                                  have HO_9 := n2_
                                  have HO_10 := n3_
                                  have HO174 := n4_
                                  have HO187 := n5_
                                  have HO192 := n6_
                                  have HO194 := n7_
                                  have HO202 := n8_
                                  have HO197 := n9_
                                  have HB := n10_
                                  clear n0_ n1_ n2_ n3_ n4_ n5_ n6_ n7_ n8_ n9_ n10_
                                  (try clear hb)
                                  (try clear hb2)
                                  (try clear hk)
                                  (try clear hi)
                                  (try clear ho0)
                                  refine hK.out _ _ trivial (fun hHeld => ?_)
                                  clear hK K
                                  refine norm_ (a' := ?_) ?_ ?_
                                  rotate_left
                                  ·show Act.put _ (some 63) _ = _
                                   simp only [Act.put, List.setIfInBounds_toArray, List.set_cons_zero, List.set_cons_succ, i64_w, i32_w]
                                   rfl
                                  exact norm_ (by simp only [putAll, Act.put, List.setIfInBounds_toArray, List.set_cons_zero, List.set_cons_succ, c43b0]; try rfl) (hJ3 (v196) _ ⟨HO174.out, (by (with_reducible repeat (first | apply Kd.V_alloc | apply Kd.V_drewN | apply Kd.V_drew)); exact Kd.V_mono HO187.out (fun _ hk => ⟨hk.1.1.2.2.2, ⟨hk.1.2, ⟨hk.2, ⟨hk.1.1.2.2.1, ⟨hk.1.1.1, hk.1.1.2.1⟩⟩⟩⟩⟩)), HO192.out, HO194.out, (by (with_reducible repeat (first | apply Kd.V_alloc | apply Kd.V_drewN | apply Kd.V_drew)); exact Kd.V_mono HO197.out (fun _ hk => ⟨hk.2.2.2.1, ⟨hk.2.2.2.2.1, ⟨hk.2.2.2.2.2, ⟨hk.2.2.1, ⟨hk.1, hk.2.1⟩⟩⟩⟩⟩)), (by (with_reducible repeat (first | apply Kd.V_alloc | apply Kd.V_drewN | apply Kd.V_drew)); exact Kd.V_mono HO202.out (fun _ hk => ⟨hk.1.1.2, ⟨hk.1.2, ⟨hk.2, ⟨hk.1.1.1.2.2, ⟨hk.1.1.1.1, hk.1.1.1.2.1⟩⟩⟩⟩⟩)), (by (with_reducible repeat (first | apply Kd.N_alloc | apply Kd.N_drewN | apply Kd.N_drew)); exact Kd.N_mono HO_10.out (fun _ hk => ⟨hk.1.1.2, ⟨hk.1.2, ⟨hk.2, ⟨hk.1.1.1.1, hk.1.1.1.2⟩⟩⟩⟩)), (by (with_reducible repeat (first | apply Kd.N_alloc | apply Kd.N_drewN | apply Kd.N_drew)); exact Kd.N_mono HO_6.out (fun _ hk => ⟨hk.1.1.2, ⟨hk.1.2, ⟨hk.2, ⟨hk.1.1.1.2, hk.1.1.1.1⟩⟩⟩⟩)), (by (with_reducible repeat (first | apply Kd.R_alloc | apply Kd.R_drewN | apply Kd.R_drew)); exact Kd.R_mono HO_7.out (fun _ hk => ⟨hk.1.2, hk.2⟩)), (by (with_reducible repeat (first | apply Kd.V_alloc | apply Kd.V_drewN | apply Kd.V_drew)); exact Kd.V_mono HO_9.out (fun _ hk => ⟨hk.1.1.2, ⟨hk.1.2, ⟨hk.2, ⟨hk.1.1.1.2.2, ⟨hk.1.1.1.1, hk.1.1.1.2.1⟩⟩⟩⟩⟩)), HB.out⟩)
                                 ·skip
                                  have hcv59 := Spot.str_V (P := Tryz.prog) Tryz.underlying22 Tryz.underlying5 Tryz.underlying9 HO202.out
                                  refine value_ (w1 := ?_) (v := ?_) (by rfl) rfl ?_ ?_
                                  rotate_left 2
                                  ·go_simp
                                   constructor
                                   ·rfl
                                   ·rfl
                                  clear hcv59
                                  refine hK.out _ _ trivial (fun hHeld => ?_)
                                  clear hK K
                                  refine norm_ (a' := ?_) ?_ ?_
                                  rotate_left
                                  ·show Act.put _ (some 67) _ = _
                                   simp only [Act.put, List.setIfInBounds_toArray, List.set_cons_zero, List.set_cons_succ, i64_w, i32_w]
                                   rfl
                                  refine pure_ (i := 8) (N := some 68) (v := ?_) (a' := ?_) #[true, true, true, false, false, true, true, true, true, true, false, false, false, false, false, false, false, false, false, false, false, false, false, false, false, false, false, false, false, false, false, false, false, false, false, false, false, false] rfl rfl (any_of HT_.out (by kernel_rfl)) (fun _ _ _ h => h) (Or.inl ⟨by rfl, ?_⟩) ?_ ?_
                                  rotate_left
                                  ·intro w'
                                   go_simp
                                   with_reducible rfl
                                  rotate_left
                                  ·simp only [Act.put, List.setIfInBounds_toArray, List.set_cons_zero, List.set_cons_succ, i64_w, i32_w]
                                   rfl
                                  exact norm_ (by simp only [putAll, Act.put, List.setIfInBounds_toArray, List.set_cons_zero, List.set_cons_succ, c43b0]; try rfl) (hJ7 () _ ⟨HO174.out, (by (with_reducible repeat (first | apply Kd.V_alloc | apply Kd.V_drewN | apply Kd.V_drew)); exact Kd.V_mono HO187.out (fun _ hk => ⟨hk.1.1.2.2.2, ⟨hk.1.2, ⟨hk.2, ⟨hk.1.1.2.2.1, ⟨hk.1.1.1, hk.1.1.2.1⟩⟩⟩⟩⟩)), HO192.out, HO194.out, (by (with_reducible repeat (first | apply Kd.V_alloc | apply Kd.V_drewN | apply Kd.V_drew)); exact Kd.V_mono HO202.out (fun _ hk => ⟨hk.1.1.2, ⟨hk.1.2, ⟨hk.2, ⟨hk.1.1.1.2.2, ⟨hk.1.1.1.1, hk.1.1.1.2.1⟩⟩⟩⟩⟩)), (by (with_reducible repeat (first | apply Kd.N_alloc | apply Kd.N_drewN | apply Kd.N_drew)); exact Kd.N_mono HO_10.out (fun _ hk => ⟨hk.1.1.2, ⟨hk.1.2, ⟨hk.2, ⟨hk.1.1.1.1, hk.1.1.1.2⟩⟩⟩⟩)), (by (with_reducible repeat (first | apply Kd.N_alloc | apply Kd.N_drewN | apply Kd.N_drew)); exact Kd.N_mono HO_6.out (fun _ hk => ⟨hk.1.1.2, ⟨hk.1.2, ⟨hk.2, ⟨hk.1.1.1.2, hk.1.1.1.1⟩⟩⟩⟩)), (by (with_reducible repeat (first | apply Kd.R_alloc | apply Kd.R_drewN | apply Kd.R_drew)); exact Kd.R_mono HO_7.out (fun _ hk => ⟨hk.1.2, hk.2⟩)), (by (with_reducible repeat (first | apply Kd.V_alloc | apply Kd.V_drewN | apply Kd.V_drew)); exact Kd.V_mono HO_9.out (fun _ hk => ⟨hk.1.1.2, ⟨hk.1.2, ⟨hk.2, ⟨hk.1.1.1.2.2, ⟨hk.1.1.1.1, hk.1.1.1.2.1⟩⟩⟩⟩⟩)), HB.out⟩)
                                 ·skip
                                  have hcv59 := Spot.str_R (P := Tryz.prog) Tryz.underlying22 Tryz.underlying5 Tryz.underlying9 HO_7.out
                                  refine value_ (w1 := ?_) (v := ?_) (by rfl) rfl ?_ ?_
                                  rotate_left 2
                                  ·go_simp
                                   constructor
                                   ·rfl
                                   ·rfl
                                  clear hcv59
                                  refine hK.out _ _ trivial (fun hHeld => ?_)
                                  clear hK K
                                  refine norm_ (a' := ?_) ?_ ?_
                                  rotate_left
                                  ·show Act.put _ (some 70) _ = _
                                   simp only [Act.put, List.setIfInBounds_toArray, List.set_cons_zero, List.set_cons_succ, i64_w, i32_w]
                                   rfl
                                  exact norm_ (by simp only [putAll, Act.put, List.setIfInBounds_toArray, List.set_cons_zero, List.set_cons_succ, c43b0]; try rfl) (hJ10 () _ ⟨HO174.out, (by (with_reducible repeat (first | apply Kd.V_alloc | apply Kd.V_drewN | apply Kd.V_drew)); exact Kd.V_mono HO187.out (fun _ hk => ⟨hk.1.1.2.2.2, ⟨hk.1.2, ⟨hk.2, ⟨hk.1.1.2.2.1, ⟨hk.1.1.1, hk.1.1.2.1⟩⟩⟩⟩⟩)), HO192.out, HO194.out, (by (with_reducible repeat (first | apply Kd.V_alloc | apply Kd.V_drewN | apply Kd.V_drew)); exact Kd.V_mono HO202.out (fun _ hk => ⟨hk.1.1.2, ⟨hk.1.2, ⟨hk.2, ⟨hk.1.1.1.2.2, ⟨hk.1.1.1.1, hk.1.1.1.2.1⟩⟩⟩⟩⟩)), (by (with_reducible repeat (first | apply Kd.N_alloc | apply Kd.N_drewN | apply Kd.N_drew)); exact Kd.N_mono HO_10.out (fun _ hk => ⟨hk.1.1.2, ⟨hk.1.2, ⟨hk.2, ⟨hk.1.1.1.1, hk.1.1.1.2⟩⟩⟩⟩)), (by (with_reducible repeat (first | apply Kd.N_alloc | apply Kd.N_drewN | apply Kd.N_drew)); exact Kd.N_mono HO_6.out (fun _ hk => ⟨hk.1.1.2, ⟨hk.1.2, ⟨hk.2, ⟨hk.1.1.1.2, hk.1.1.1.1⟩⟩⟩⟩)), (by (with_reducible repeat (first | apply Kd.R_alloc | apply Kd.R_drewN | apply Kd.R_drew)); exact Kd.R_mono HO_7.out (fun _ hk => ⟨hk.1.2, hk.2⟩)), (by (with_reducible repeat (first | apply Kd.V_alloc | apply Kd.V_drewN | apply Kd.V_drew)); exact Kd.V_mono HO_9.out (fun _ hk => ⟨hk.1.1.2, ⟨hk.1.2, ⟨hk.2, ⟨hk.1.1.1.2.2, ⟨hk.1.1.1.1, hk.1.1.1.2.1⟩⟩⟩⟩⟩)), HB.out⟩)
                                ·skip
                                 rintro _ w60 ⟨h0_, h1_, h2_, h3_, h4_, h5_, h6_, h7_, h8_, h9_⟩
                                 have n0_ : Aside0 (Kd.R Kd.string 9 w60 w.heap.size (fun _ => True) (.slice Ao51 t172.length co51) t172) := ⟨h0_⟩
                                 have n1_ : Aside0 (Kd.V (Kd.int .u8) 5 w60 w.heap.size (fun k_ => nb k_ (.slice Ao51 t172.length co51) ∧ nb k_ v191 ∧ nb k_ v193 ∧ nb k_ (.slice Ao55 x10_2.length co55) ∧ nb k_ (.slice Ao18 t156.length co18) ∧ nb k_ u7) (.slice Ao53 t185.length co53) t185) := ⟨h1_⟩
                                 have n2_ : Aside0 (Kd.R (Kd.int .u8) 5 w60 w.heap.size (fun k_ => nb k_ v193 ∧ nb k_ u7) v191 t188) := ⟨h2_⟩
                                 have n3_ : Aside0 (Kd.R (Kd.int .u8) 5 w60 w.heap.size (fun k_ => nb k_ v191 ∧ nb k_ u7) v193 t189) := ⟨h3_⟩
                                 have n4_ : Aside0 (Kd.V (Kd.int .u8) 5 w60 w.heap.size (fun k_ => nb k_ (.slice Ao51 t172.length co51) ∧ nb k_ v191 ∧ nb k_ v193 ∧ nb k_ (.slice Ao55 x10_2.length co55) ∧ nb k_ (.slice Ao18 t156.length co18) ∧ nb k_ u7) (.slice A57 y198.length c57) y198) := ⟨h4_⟩
                                 have n5_ : Aside0 (Kd.N (Kd.slice 5 (Kd.int .u8)) 22 w60 w.heap.size (fun k_ => nb k_ (.slice Ao51 t172.length co51) ∧ nb k_ v191 ∧ nb k_ v193 ∧ nb k_ (.slice Ao18 t156.length co18) ∧ nb k_ u7) (.slice Ao55 x10_2.length co55) x10_2) := ⟨h5_⟩
                                 have n6_ : Aside0 (Kd.N (Kd.slice 5 (Kd.int .u8)) 22 w60 w.heap.size (fun k_ => nb k_ (.slice Ao51 t172.length co51) ∧ nb k_ v191 ∧ nb k_ v193 ∧ nb k_ (.slice Ao55 x10_2.length co55) ∧ nb k_ u7) (.slice Ao18 t156.length co18) t156) := ⟨h6_⟩
                                 have n7_ : Aside0 (Kd.R (Kd.int .u8) 5 w60 w.heap.size (fun k_ => nb k_ v191 ∧ nb k_ v193) u7 x7_1) := ⟨h7_⟩
                                 have n8_ : Aside0 (Kd.V (Kd.int .u8) 5 w60 w.heap.size (fun k_ => nb k_ (.slice Ao51 t172.length co51) ∧ nb k_ v191 ∧ nb k_ v193 ∧ nb k_ (.slice Ao55 x10_2.length co55) ∧ nb k_ (.slice Ao18 t156.length co18) ∧ nb k_ u7) (.slice Ao58 t166.length co58) t166) := ⟨h8_⟩
                                 have n9_ : Aside0 (Below w.heap.size w w60) := ⟨h9_⟩
                                 clear HO_6
                                 clear HO_7
                                 clear HO_9
                                 clear HO_10
                                 clear HO174
                                 clear HO187
                                 clear HO192
                                 clear HO194
                                 clear HB
                                 clear h0_ h1_ h2_ h3_ h4_ h5_ h6_ h7_ h8_ h9_
                                 have HO174 := n0_
                                 have HO187 := n1_
                                 have HO192 := n2_
                                 have HO194 := n3_
                                 have HO202 := n4_
                                 have HO_10 := n5_
                                 have HO_6 := n6_
                                 have HO_7 := n7_
                                 have HO_9 := n8_
                                 have HB := n9_
                                 clear n0_ n1_ n2_ n3_ n4_ n5_ n6_ n7_ n8_ n9_
                                 have hHeld := trivial
                                 refine norm_ (a' := ?_) ?_ ?_
                                 rotate_left
                                 ·simp only [putAll, Act.put, List.setIfInBounds_toArray, List.set_cons_zero, List.set_cons_succ]
                                  rfl
                                 refine two_ (i := 3) (j := 7) (Ni := some 63) (Nj := some 67) #[true, true, true, true, false, true, true, false, false, true, true, false, false, false, false, false, false, false, false, false, false, false, false, false, false, false, false, false, false, false, false, false, false, false, false, false, false, false] #[true, true, true, false, false, true, true, true, false, true, true, false, false, false, false, false, false, false, false, false, false, false, false, false, false, false, false, false, false, false, false, false, false, false, false, false, false, false] rfl rfl rfl rfl (two_of HT_.out (by kernel_rfl)) (by decide) (by decide) (fun K hK => ?_) (fun K hK => ?_)
                                 ·skip
                                  refine goes_ Tryz.func27 (by kernel_rfl) rfl #[.slice Ao18 t156.length co18] (by rfl) rfl rfl (by (try simp only [List.map_toArray, List.map_cons, List.map_nil]); first | done | rfl | (simp only [List.length_drop, List.length_take]; rfl)) ?_
                                  with_reducible refine (reply_Array.calls _ _ t156 t195 _ ?side1 ?side2 ?side3 ?side4 A39.out).mono ?_
                                  (case side1 => repeat (first | exact (Kd.N_reads' HO_6.out).2.2 | (with_reducible refine Kd.C_alloc ?_ _) | (with_reducible refine Kd.C_drewN ?_ _) | (with_reducible refine Kd.C_drew ?_)))
                                  (case side2 => exact (Kd.N_reads' HO_6.out).2.1)
                                  (case side3 => exact Spot.spot_N HO_6.out)
                                  (case side4 => exact Tryz.Ln.tabs_below HT0.out HB.out)
                                  rintro e w61 ⟨v196, rfl, ho0, hb⟩
                                  refine ⟨_, rfl, ?_⟩
                                  have n0_ := Aside0.mk (Kd.N_below HO_6.out hb)
                                  have n1_ := Aside0.mk (Kd.R_below HO_7.out hb)
                                  have n2_ := Aside0.mk (Kd.V_below HO_9.out hb)
                                  have n3_ := Aside0.mk (Kd.N_below HO_10.out hb)
                                  have n4_ := Aside0.mk (Kd.R_below HO174.out hb)
                                  have n5_ := Aside0.mk (Kd.V_below HO187.out hb)
                                  have n6_ := Aside0.mk (Kd.R_below HO192.out hb)
                                  have n7_ := Aside0.mk (Kd.R_below HO194.out hb)
                                  have n8_ := Aside0.mk (Kd.V_below HO202.out hb)
                                  have n9_ := Aside0.mk (Kd.V_lower (Kd.V_mono (ok' := fun k_ => nb k_ (.slice Ao18 t156.length co18) ∧ nb k_ u7 ∧ nb k_ (.slice Ao55 x10_2.length co55) ∧ nb k_ (.slice Ao51 t172.length co51) ∧ nb k_ v191 ∧ nb k_ v193) ho0 (fun k_ hk_ => ⟨(Kd.fresh' (Kd.N_lt HO_6.out) k_ hk_), (Kd.fresh' (Kd.R_lt HO_7.out) k_ hk_), (Kd.fresh' (Kd.N_lt HO_10.out) k_ hk_), (Kd.fresh' (Kd.R_lt HO174.out) k_ hk_), (Kd.fresh' (Kd.R_lt HO192.out) k_ hk_), (Kd.fresh' (Kd.R_lt HO194.out) k_ hk_)⟩)) (below_size HB.out))
                                  have n10_ := Aside0.mk (below_step HB.out hb)
                                  clear HO_6
                                  clear HO_7
                                  clear HO_9
                                  clear HO_10
                                  clear HO174
                                  clear HO187
                                  clear HO192
                                  clear HO194
                                  clear HO202
                                  clear HB
                                  have HO_6 := n0_
                                  have HO_7 := n1_
                                  have HO_9 := n2_
                                  have HO_10 := n3_
                                  have HO174 := n4_
                                  have HO187 := n5_
                                  have HO192 := n6_
                                  have HO194 := n7_
                                  have HO202 := n8_
                                  have HO197 := n9_
                                  have HB := n10_
                                  clear n0_ n1_ n2_ n3_ n4_ n5_ n6_ n7_ n8_ n9_ n10_
                                  (try clear hb)
                                  (try clear hb2)
                                  (try clear hk)
                                  (try clear hi)
                                  (try clear ho0)
                                  refine hK.out _ _ trivial (fun hHeld => ?_)
                                  clear hK K
                                  refine norm_ (a' := ?_) ?_ ?_
                                  rotate_left
                                  ·show Act.put _ (some 63) _ = _
                                   simp only [Act.put, List.setIfInBounds_toArray, List.set_cons_zero, List.set_cons_succ, i64_w, i32_w]
                                   rfl
                                  exact norm_ (by simp only [putAll, Act.put, List.setIfInBounds_toArray, List.set_cons_zero, List.set_cons_succ, c43b0]; try rfl) (hJ3_10 (v196) _ ⟨HO174.out, HO187.out, HO192.out, HO194.out, (by (with_reducible repeat (first | apply Kd.V_alloc | apply Kd.V_drewN | apply Kd.V_drew)); exact Kd.V_mono HO197.out (fun _ hk => ⟨hk.2.2.2.1, ⟨hk.2.2.2.2.1, ⟨hk.2.2.2.2.2, ⟨hk.2.2.1, ⟨hk.1, hk.2.1⟩⟩⟩⟩⟩)), HO202.out, HO_10.out, HO_6.out, HO_7.out, HO_9.out, HB.out⟩)
                                 ·skip
                                  have hcv61 := Spot.str_V (P := Tryz.prog) Tryz.underlying22 Tryz.underlying5 Tryz.underlying9 HO202.out
                                  refine value_ (w1 := ?_) (v := ?_) (by rfl) rfl ?_ ?_
                                  rotate_left 2
                                  ·go_simp
                                   constructor
                                   ·rfl
                                   ·rfl
                                  clear hcv61
                                  refine hK.out _ _ trivial (fun hHeld => ?_)
                                  clear hK K
                                  refine norm_ (a' := ?_) ?_ ?_
                                  rotate_left
                                  ·show Act.put _ (some 67) _ = _
                                   simp only [Act.put, List.setIfInBounds_toArray, List.set_cons_zero, List.set_cons_succ, i64_w, i32_w]
                                   rfl
                                  refine pure_ (i := 8) (N := some 68) (v := ?_) (a' := ?_) #[true, true, true, false, false, true, true, true, true, true, true, false, false, false, false, false, false, false, false, false, false, false, false, false, false, false, false, false, false, false, false, false, false, false, false, false, false, false] rfl rfl (any_of HT_.out (by kernel_rfl)) (fun _ _ _ h => h) (Or.inl ⟨by rfl, ?_⟩) ?_ ?_
                                  rotate_left
                                  ·intro w'
                                   go_simp
                                   with_reducible rfl
                                  rotate_left
                                  ·simp only [Act.put, List.setIfInBounds_toArray, List.set_cons_zero, List.set_cons_succ, i64_w, i32_w]
                                   rfl
                                  refine pure_ (i := 11) (N := some 71) (v := ?_) (a' := ?_) #[true, true, true, false, false, true, true, true, true, true, true, true, false, false, false, false, false, false, false, false, false, false, false, false, false, false, false, false, false, false, false, false, false, false, false, false, false, false] rfl rfl (any_of HT_.out (by kernel_rfl)) (fun _ _ _ h => h) (Or.inl ⟨by rfl, ?_⟩) ?_ ?_
                                  rotate_left
                                  ·intro w'
                                   go_simp
                                   with_reducible rfl
                                  rotate_left
                                  ·simp only [Act.put, List.setIfInBounds_toArray, List.set_cons_zero, List.set_cons_succ, i64_w, i32_w]
                                   rfl
                                  exact norm_ (by simp only [putAll, Act.put, List.setIfInBounds_toArray, List.set_cons_zero, List.set_cons_succ, c43b0]; try rfl) (hJ7_10 () _ ⟨HO174.out, HO187.out, HO192.out, HO194.out, HO202.out, HO_10.out, HO_6.out, HO_7.out, HO_9.out, HB.out⟩)
                               ·skip
                                rintro _ w60 ⟨h0_, h1_, h2_, h3_, h4_, h5_, h6_, h7_, h8_, h9_⟩
                                have n0_ : Aside0 (Kd.R Kd.string 9 w60 w.heap.size (fun _ => True) (.slice Ao51 t172.length co51) t172) := ⟨h0_⟩
                                have n1_ : Aside0 (Kd.V (Kd.int .u8) 5 w60 w.heap.size (fun k_ => nb k_ (.slice Ao51 t172.length co51) ∧ nb k_ v191 ∧ nb k_ v193 ∧ nb k_ (.slice Ao55 x10_2.length co55) ∧ nb k_ (.slice Ao18 t156.length co18) ∧ nb k_ u7) (.slice Ao53 t185.length co53) t185) := ⟨h1_⟩
                                have n2_ : Aside0 (Kd.R (Kd.int .u8) 5 w60 w.heap.size (fun k_ => nb k_ v193 ∧ nb k_ u7) v191 t188) := ⟨h2_⟩
                                have n3_ : Aside0 (Kd.R (Kd.int .u8) 5 w60 w.heap.size (fun k_ => nb k_ v191 ∧ nb k_ u7) v193 t189) := ⟨h3_⟩
                                have n4_ : Aside0 (Kd.V (Kd.int .u8) 5 w60 w.heap.size (fun k_ => nb k_ (.slice Ao51 t172.length co51) ∧ nb k_ v191 ∧ nb k_ v193 ∧ nb k_ (.slice Ao55 x10_2.length co55) ∧ nb k_ (.slice Ao18 t156.length co18) ∧ nb k_ u7) (.slice A57 y198.length c57) y198) := ⟨h4_⟩
                                have n5_ : Aside0 (Kd.N (Kd.slice 5 (Kd.int .u8)) 22 w60 w.heap.size (fun k_ => nb k_ (.slice Ao51 t172.length co51) ∧ nb k_ v191 ∧ nb k_ v193 ∧ nb k_ (.slice Ao18 t156.length co18) ∧ nb k_ u7) (.slice Ao55 x10_2.length co55) x10_2) := ⟨h5_⟩
                                have n6_ : Aside0 (Kd.N (Kd.slice 5 (Kd.int .u8)) 22 w60 w.heap.size (fun k_ => nb k_ (.slice Ao51 t172.length co51) ∧ nb k_ v191 ∧ nb k_ v193 ∧ nb k_ (.slice Ao55 x10_2.length co55) ∧ nb k_ u7) (.slice Ao18 t156.length co18) t156) := ⟨h6_⟩
                                have n7_ : Aside0 (Kd.R (Kd.int .u8) 5 w60 w.heap.size (fun k_ => nb k_ v191 ∧ nb k_ v193) u7 x7_1) := ⟨h7_⟩
                                have n8_ : Aside0 (Kd.V (Kd.int .u8) 5 w60 w.heap.size (fun k_ => nb k_ (.slice Ao51 t172.length co51) ∧ nb k_ v191 ∧ nb k_ v193 ∧ nb k_ (.slice Ao55 x10_2.length co55) ∧ nb k_ (.slice Ao18 t156.length co18) ∧ nb k_ u7) (.slice Ao58 t166.length co58) t166) := ⟨h8_⟩
                                have n9_ : Aside0 (Below w.heap.size w w60) := ⟨h9_⟩
                                clear HO_6
                                clear HO_7
                                clear HO_9
                                clear HO_10
                                clear HO174
                                clear HO187
                                clear HO192
                                clear HO194
                                clear HB
                                clear h0_ h1_ h2_ h3_ h4_ h5_ h6_ h7_ h8_ h9_
                                have HO174 := n0_
                                have HO187 := n1_
                                have HO192 := n2_
                                have HO194 := n3_
                                have HO202 := n4_
                                have HO_10 := n5_
                                have HO_6 := n6_
                                have HO_7 := n7_
                                have HO_9 := n8_
                                have HB := n9_
                                clear n0_ n1_ n2_ n3_ n4_ n5_ n6_ n7_ n8_ n9_
                                have hHeld := trivial
                                refine norm_ (a' := ?_) ?_ ?_
                                rotate_left
                                ·simp only [putAll, Act.put, List.setIfInBounds_toArray, List.set_cons_zero, List.set_cons_succ]
                                 rfl
                                refine two_ (i := 3) (j := 10) (Ni := some 63) (Nj := some 70) #[true, true, true, true, false, true, true, true, true, true, false, false, false, false, false, false, false, false, false, false, false, false, false, false, false, false, false, false, false, false, false, false, false, false, false, false, false, false] #[true, true, true, false, false, true, true, true, true, true, true, false, false, false, false, false, false, false, false, false, false, false, false, false, false, false, false, false, false, false, false, false, false, false, false, false, false, false] rfl rfl rfl rfl (two_of HT_.out (by kernel_rfl)) (by decide) (by decide) (fun K hK => ?_) (fun K hK => ?_)
                                ·skip
                                 refine goes_ Tryz.func27 (by kernel_rfl) rfl #[.slice Ao18 t156.length co18] (by rfl) rfl rfl (by (try simp only [List.map_toArray, List.map_cons, List.map_nil]); first | done | rfl | (simp only [List.length_drop, List.length_take]; rfl)) ?_
                                 with_reducible refine (reply_Array.calls _ _ t156 t195 _ ?side1 ?side2 ?side3 ?side4 A39.out).mono ?_
                                 (case side1 => repeat (first | exact (Kd.N_reads' HO_6.out).2.2 | (with_reducible refine Kd.C_alloc ?_ _) | (with_reducible refine Kd.C_drewN ?_ _) | (with_reducible refine Kd.C_drew ?_)))
                                 (case side2 => exact (Kd.N_reads' HO_6.out).2.1)
                                 (case side3 => exact Spot.spot_N HO_6.out)
                                 (case side4 => exact Tryz.Ln.tabs_below HT0.out HB.out)
                                 rintro e w61 ⟨v196, rfl, ho0, hb⟩
                                 refine ⟨_, rfl, ?_⟩
                                 have n0_ := Aside0.mk (Kd.N_below HO_6.out hb)
                                 have n1_ := Aside0.mk (Kd.R_below HO_7.out hb)
                                 have n2_ := Aside0.mk (Kd.V_below HO_9.out hb)
                                 have n3_ := Aside0.mk (Kd.N_below HO_10.out hb)
                                 have n4_ := Aside0.mk (Kd.R_below HO174.out hb)
                                 have n5_ := Aside0.mk (Kd.V_below HO187.out hb)
                                 have n6_ := Aside0.mk (Kd.R_below HO192.out hb)
                                 have n7_ := Aside0.mk (Kd.R_below HO194.out hb)
                                 have n8_ := Aside0.mk (Kd.V_below HO202.out hb)
                                 have n9_ := Aside0.mk (Kd.V_lower (Kd.V_mono (ok' := fun k_ => nb k_ (.slice Ao18 t156.length co18) ∧ nb k_ u7 ∧ nb k_ (.slice Ao55 x10_2.length co55) ∧ nb k_ (.slice Ao51 t172.length co51) ∧ nb k_ v191 ∧ nb k_ v193) ho0 (fun k_ hk_ => ⟨(Kd.fresh' (Kd.N_lt HO_6.out) k_ hk_), (Kd.fresh' (Kd.R_lt HO_7.out) k_ hk_), (Kd.fresh' (Kd.N_lt HO_10.out) k_ hk_), (Kd.fresh' (Kd.R_lt HO174.out) k_ hk_), (Kd.fresh' (Kd.R_lt HO192.out) k_ hk_), (Kd.fresh' (Kd.R_lt HO194.out) k_ hk_)⟩)) (below_size HB.out))
                                 have n10_ := Aside0.mk (below_step HB.out hb)
                                 clear HO_6
                                 clear HO_7
                                 clear HO_9
                                 clear HO_10
                                 clear HO174
                                 clear HO187
                                 clear HO192
                                 clear HO194
                                 clear HO202
                                 clear HB
                                 have HO_6 := n0_
                                 have HO_7 := n1_
                                 have HO_9 := n2_
                                 have HO_10 := n3_
                                 have HO174 := n4_
                                 have HO187 := n5_
                                 have HO192 := n6_
                                 have HO194 := n7_
                                 have HO202 := n8_
                                 have HO197 := n9_
                                 have HB := n10_
                                 clear n0_ n1_ n2_ n3_ n4_ n5_ n6_ n7_ n8_ n9_ n10_
                                 (try clear hb)
                                 (try clear hb2)
                                 (try clear hk)
                                 (try clear hi)
                                 (try clear ho0)
                                 refine hK.out _ _ trivial (fun hHeld => ?_)
                                 clear hK K
                                 refine norm_ (a' := ?_) ?_ ?_
                                 rotate_left
                                 ·show Act.put _ (some 63) _ = _
                                  simp only [Act.put, List.setIfInBounds_toArray, List.set_cons_zero, List.set_cons_succ, i64_w, i32_w]
                                  rfl
                                 exact norm_ (by simp only [putAll, Act.put, List.setIfInBounds_toArray, List.set_cons_zero, List.set_cons_succ, c43b0]; try rfl) (hJ3_7 (v196) _ ⟨HO174.out, HO187.out, HO192.out, HO194.out, (by (with_reducible repeat (first | apply Kd.V_alloc | apply Kd.V_drewN | apply Kd.V_drew)); exact Kd.V_mono HO197.out (fun _ hk => ⟨hk.2.2.2.1, ⟨hk.2.2.2.2.1, ⟨hk.2.2.2.2.2, ⟨hk.2.2.1, ⟨hk.1, hk.2.1⟩⟩⟩⟩⟩)), HO202.out, HO_10.out, HO_6.out, HO_7.out, HO_9.out, HB.out⟩)
                                ·skip
                                 have hcv61 := Spot.str_R (P := Tryz.prog) Tryz.underlying22 Tryz.underlying5 Tryz.underlying9 HO_7.out
                                 refine value_ (w1 := ?_) (v := ?_) (by rfl) rfl ?_ ?_
                                 rotate_left 2
                                 ·go_simp
                                  constructor
                                  ·rfl
                                  ·rfl
                                 clear hcv61
                                 refine hK.out _ _ trivial (fun hHeld => ?_)
                                 clear hK K
                                 refine norm_ (a' := ?_) ?_ ?_
                                 rotate_left
                                 ·show Act.put _ (some 70) _ = _
                                  simp only [Act.put, List.setIfInBounds_toArray, List.set_cons_zero, List.set_cons_succ, i64_w, i32_w]
                                  rfl
                                 refine pure_ (i := 11) (N := some 71) (v := ?_) (a' := ?_) #[true, true, true, false, false, true, true, true, true, true, true, true, false, false, false, false, false, false, false, false, false, false, false, false, false, false, false, false, false, false, false, false, false, false, false, false, false, false] rfl rfl (any_of HT_.out (by kernel_rfl)) (fun _ _ _ h => h) (Or.inl ⟨by rfl, ?_⟩) ?_ ?_
                                 rotate_left
                                 ·intro w'
                                  go_simp
                                  with_reducible rfl
                                 rotate_left
                                 ·simp only [Act.put, List.setIfInBounds_toArray, List.set_cons_zero, List.set_cons_succ, i64_w, i32_w]
                                  rfl
                                 exact norm_ (by simp only [putAll, Act.put, List.setIfInBounds_toArray, List.set_cons_zero, List.set_cons_succ, c43b0]; try rfl) (hJ7_10 () _ ⟨HO174.out, HO187.out, HO192.out, HO194.out, HO202.out, HO_10.out, HO_6.out, HO_7.out, HO_9.out, HB.out⟩)
                              ·skip
                               rintro v196 w60 ⟨h0_, h1_, h2_, h3_, h4_, h5_, h6_, h7_, h8_, h9_, h10_⟩
                               have n0_ : Aside0 (Kd.R Kd.string 9 w60 w.heap.size (fun _ => True) (.slice Ao51 t172.length co51) t172) := ⟨h0_⟩
                               have n1_ : Aside0 (Kd.V (Kd.int .u8) 5 w60 w.heap.size (fun k_ => nb k_ (.slice Ao51 t172.length co51) ∧ nb k_ v191 ∧ nb k_ v193 ∧ nb k_ (.slice Ao55 x10_2.length co55) ∧ nb k_ (.slice Ao18 t156.length co18) ∧ nb k_ u7) (.slice Ao53 t185.length co53) t185) := ⟨h1_⟩
                               have n2_ : Aside0 (Kd.R (Kd.int .u8) 5 w60 w.heap.size (fun k_ => nb k_ v193 ∧ nb k_ u7) v191 t188) := ⟨h2_⟩
                               have n3_ : Aside0 (Kd.R (Kd.int .u8) 5 w60 w.heap.size (fun k_ => nb k_ v191 ∧ nb k_ u7) v193 t189) := ⟨h3_⟩
                               have n4_ : Aside0 (Kd.V (Kd.int .u8) 5 w60 w.heap.size (fun k_ => nb k_ (.slice Ao51 t172.length co51) ∧ nb k_ v191 ∧ nb k_ v193 ∧ nb k_ (.slice Ao55 x10_2.length co55) ∧ nb k_ (.slice Ao18 t156.length co18) ∧ nb k_ u7) v196 t195) := ⟨h4_⟩
                               have n5_ : Aside0 (Kd.V (Kd.int .u8) 5 w60 w.heap.size (fun k_ => nb k_ (.slice Ao51 t172.length co51) ∧ nb k_ v191 ∧ nb k_ v193 ∧ nb k_ (.slice Ao55 x10_2.length co55) ∧ nb k_ (.slice Ao18 t156.length co18) ∧ nb k_ u7) (.slice A57 y198.length c57) y198) := ⟨h5_⟩
                               have n6_ : Aside0 (Kd.N (Kd.slice 5 (Kd.int .u8)) 22 w60 w.heap.size (fun k_ => nb k_ (.slice Ao51 t172.length co51) ∧ nb k_ v191 ∧ nb k_ v193 ∧ nb k_ (.slice Ao18 t156.length co18) ∧ nb k_ u7) (.slice Ao55 x10_2.length co55) x10_2) := ⟨h6_⟩
                               have n7_ : Aside0 (Kd.N (Kd.slice 5 (Kd.int .u8)) 22 w60 w.heap.size (fun k_ => nb k_ (.slice Ao51 t172.length co51) ∧ nb k_ v191 ∧ nb k_ v193 ∧ nb k_ (.slice Ao55 x10_2.length co55) ∧ nb k_ u7) (.slice Ao18 t156.length co18) t156) := ⟨h7_⟩
                               have n8_ : Aside0 (Kd.R (Kd.int .u8) 5 w60 w.heap.size (fun k_ => nb k_ v191 ∧ nb k_ v193) u7 x7_1) := ⟨h8_⟩
                               have n9_ : Aside0 (Kd.V (Kd.int .u8) 5 w60 w.heap.size (fun k_ => nb k_ (.slice Ao51 t172.length co51) ∧ nb k_ v191 ∧ nb k_ v193 ∧ nb k_ (.slice Ao55 x10_2.length co55) ∧ nb k_ (.slice Ao18 t156.length co18) ∧ nb k_ u7) (.slice Ao58 t166.length co58) t166) := ⟨h9_⟩
                               have n10_ : Aside0 (Below w.heap.size w w60) := ⟨h10_⟩
                               clear HO_6
                               clear HO_7
                               clear HO_9
                               clear HO_10
                               clear HO174
                               clear HO187
                               clear HO192
                               clear HO194
                               clear HB
                               clear h0_ h1_ h2_ h3_ h4_ h5_ h6_ h7_ h8_ h9_ h10_
                               have HO174 := n0_
                               have HO187 := n1_
                               have HO192 := n2_
                               have HO194 := n3_
                               have HO197 := n4_
                               have HO202 := n5_
                               have HO_10 := n6_
                               have HO_6 := n7_
                               have HO_7 := n8_
                               have HO_9 := n9_
                               have HB := n10_
                               clear n0_ n1_ n2_ n3_ n4_ n5_ n6_ n7_ n8_ n9_ n10_
                               have hHeld := trivial
                               refine norm_ (a' := ?_) ?_ ?_
                               rotate_left
                               ·simp only [putAll, Act.put, List.setIfInBounds_toArray, List.set_cons_zero, List.set_cons_succ]
                                rfl
                               refine three_ (i := 4) (j := 7) (k := 10) (Ni := some 64) (Nj := some 67) (Nk := some 70) #[true, true, true, true, true, true, true, false, false, true, false, false, false, false, false, false, false, false, false, false, false, false, false, false, false, false, false, false, false, false, false, false, false, false, false, false, false, false] #[true, true, true, true, false, true, true, true, false, true, false, false, false, false, false, false, false, false, false, false, false, false, false, false, false, false, false, false, false, false, false, false, false, false, false, false, false, false] #[true, true, true, true, false, true, true, false, false, true, true, false, false, false, false, false, false, false, false, false, false, false, false, false, false, false, false, false, false, false, false, false, false, false, false, false, false, false] rfl rfl rfl rfl rfl rfl (three_of HT_.out (by kernel_rfl)) (by decide) (by decide) (by decide) (fun K hK => ?_) (fun K hK => ?_) (fun K hK => ?_)
                               ·skip
                                have hcv61 := Spot.str_V (P := Tryz.prog) Tryz.underlying22 Tryz.underlying5 Tryz.underlying9 HO197.out
                                refine value_ (w1 := ?_) (v := ?_) (by rfl) rfl ?_ ?_
                                rotate_left 2
                                ·go_simp
                                 constructor
                                 ·rfl
                                 ·rfl
                                clear hcv61
                                refine hK.out _ _ trivial (fun hHeld => ?_)
                                clear hK K
                                refine norm_ (a' := ?_) ?_ ?_
                                rotate_left
                                ·show Act.put _ (some 64) _ = _
                                 simp only [Act.put, List.setIfInBounds_toArray, List.set_cons_zero, List.set_cons_succ, i64_w, i32_w]
                                 rfl
                                exact norm_ (by simp only [putAll, Act.put, List.setIfInBounds_toArray, List.set_cons_zero, List.set_cons_succ, c43b0]; try rfl) (hJ3_4 (v196) _ ⟨HO174.out, HO187.out, HO192.out, HO194.out, HO197.out, HO202.out, HO_10.out, HO_6.out, HO_7.out, HO_9.out, HB.out⟩)
                               ·skip
                                have hcv61 := Spot.str_V (P := Tryz.prog) Tryz.underlying22 Tryz.underlying5 Tryz.underlying9 HO202.out
                                refine value_ (w1 := ?_) (v := ?_) (by rfl) rfl ?_ ?_
                                rotate_left 2
                                ·go_simp
                                 constructor
                                 ·rfl
                                 ·rfl
                                clear hcv61
                                refine hK.out _ _ trivial (fun hHeld => ?_)
                                clear hK K
                                refine norm_ (a' := ?_) ?_ ?_
                                rotate_left
                                ·show Act.put _ (some 67) _ = _
                                 simp only [Act.put, List.setIfInBounds_toArray, List.set_cons_zero, List.set_cons_succ, i64_w, i32_w]
                                 rfl
                                refine pure_ (i := 8) (N := some 68) (v := ?_) (a' := ?_) #[true, true, true, true, false, true, true, true, true, true, false, false, false, false, false, false, false, false, false, false, false, false, false, false, false, false, false, false, false, false, false, false, false, false, false, false, false, false] rfl rfl (any_of HT_.out (by kernel_rfl)) (fun _ _ _ h => h) (Or.inl ⟨by rfl, ?_⟩) ?_ ?_
                                rotate_left
                                ·intro w'
                                 go_simp
                                 with_reducible rfl
                                rotate_left
                                ·simp only [Act.put, List.setIfInBounds_toArray, List.set_cons_zero, List.set_cons_succ, i64_w, i32_w]
                                 rfl
                                exact norm_ (by simp only [putAll, Act.put, List.setIfInBounds_toArray, List.set_cons_zero, List.set_cons_succ, c43b0]; try rfl) (hJ3_7 (v196) _ ⟨HO174.out, HO187.out, HO192.out, HO194.out, HO197.out, HO202.out, HO_10.out, HO_6.out, HO_7.out, HO_9.out, HB.out⟩)
                               ·skip
                                have hcv61 := Spot.str_R (P := Tryz.prog) Tryz.underlying22 Tryz.underlying5 Tryz.underlying9 HO_7.out
                                refine value_ (w1 := ?_) (v := ?_) (by rfl) rfl ?_ ?_
                                rotate_left 2
                                ·go_simp
                                 constructor
                                 ·rfl
                                 ·rfl
                                clear hcv61
                                refine hK.out _ _ trivial (fun hHeld => ?_)
                                clear hK K
                                refine norm_ (a' := ?_) ?_ ?_
                                rotate_left
                                ·show Act.put _ (some 70) _ = _
                                 simp only [Act.put, List.setIfInBounds_toArray, List.set_cons_zero, List.set_cons_succ, i64_w, i32_w]
                                 rfl
                                exact norm_ (by simp only [putAll, Act.put, List.setIfInBounds_toArray, List.set_cons_zero, List.set_cons_succ, c43b0]; try rfl) (hJ3_10 (v196) _ ⟨HO174.out, HO187.out, HO192.out, HO194.out, HO197.out, HO202.out, HO_10.out, HO_6.out, HO_7.out, HO_9.out, HB.out⟩)
                             ·skip
                              rintro _ w61 ⟨h0_, h1_, h2_, h3_, h4_, h5_, h6_, h7_, h8_, h9_⟩
                              have n0_ : Aside0 (Kd.R Kd.string 9 w61 w.heap.size (fun _ => True) (.slice Ao51 t172.length co51) t172) := ⟨h0_⟩
                              have n1_ : Aside0 (Kd.V (Kd.int .u8) 5 w61 w.heap.size (fun k_ => nb k_ (.slice Ao51 t172.length co51) ∧ nb k_ v191 ∧ nb k_ v193 ∧ nb k_ (.slice Ao55 x10_2.length co55) ∧ nb k_ (.slice Ao18 t156.length co18) ∧ nb k_ u7) (.slice Ao53 t185.length co53) t185) := ⟨h1_⟩
                              have n2_ : Aside0 (Kd.R (Kd.int .u8) 5 w61 w.heap.size (fun k_ => nb k_ v193 ∧ nb k_ u7) v191 t188) := ⟨h2_⟩
                              have n3_ : Aside0 (Kd.R (Kd.int .u8) 5 w61 w.heap.size (fun k_ => nb k_ v191 ∧ nb k_ u7) v193 t189) := ⟨h3_⟩
                              have n4_ : Aside0 (Kd.V (Kd.int .u8) 5 w61 w.heap.size (fun k_ => nb k_ (.slice Ao51 t172.length co51) ∧ nb k_ v191 ∧ nb k_ v193 ∧ nb k_ (.slice Ao55 x10_2.length co55) ∧ nb k_ (.slice Ao18 t156.length co18) ∧ nb k_ u7) (.slice A57 y198.length c57) y198) := ⟨h4_⟩
                              have n5_ : Aside0 (Kd.N (Kd.slice 5 (Kd.int .u8)) 22 w61 w.heap.size (fun k_ => nb k_ (.slice Ao51 t172.length co51) ∧ nb k_ v191 ∧ nb k_ v193 ∧ nb k_ (.slice Ao18 t156.length co18) ∧ nb k_ u7) (.slice Ao55 x10_2.length co55) x10_2) := ⟨h5_⟩
                              have n6_ : Aside0 (Kd.N (Kd.slice 5 (Kd.int .u8)) 22 w61 w.heap.size (fun k_ => nb k_ (.slice Ao51 t172.length co51) ∧ nb k_ v191 ∧ nb k_ v193 ∧ nb k_ (.slice Ao55 x10_2.length co55) ∧ nb k_ u7) (.slice Ao18 t156.length co18) t156) := ⟨h6_⟩
                              have n7_ : Aside0 (Kd.R (Kd.int .u8) 5 w61 w.heap.size (fun k_ => nb k_ v191 ∧ nb k_ v193) u7 x7_1) := ⟨h7_⟩
                              have n8_ : Aside0 (Kd.V (Kd.int .u8) 5 w61 w.heap.size (fun k_ => nb k_ (.slice Ao51 t172.length co51) ∧ nb k_ v191 ∧ nb k_ v193 ∧ nb k_ (.slice Ao55 x10_2.length co55) ∧ nb k_ (.slice Ao18 t156.length co18) ∧ nb k_ u7) (.slice Ao58 t166.length co58) t166) := ⟨h8_⟩
                              have n9_ : Aside0 (Below w.heap.size w w61) := ⟨h9_⟩
                              clear HO_6
                              clear HO_7
                              clear HO_9
                              clear HO_10
                              clear HO174
                              clear HO187
                              clear HO192
                              clear HO194
                              clear HB
                              clear h0_ h1_ h2_ h3_ h4_ h5_ h6_ h7_ h8_ h9_
                              have HO174 := n0_
                              have HO187 := n1_
                              have HO192 := n2_
                              have HO194 := n3_
                              have HO202 := n4_
                              have HO_10 := n5_
                              have HO_6 := n6_
                              have HO_7 := n7_
                              have HO_9 := n8_
                              have HB := n9_
                              clear n0_ n1_ n2_ n3_ n4_ n5_ n6_ n7_ n8_ n9_
                              have hHeld := trivial
                              refine norm_ (a' := ?_) ?_ ?_
                              rotate_left
                              ·simp only [putAll, Act.put, List.setIfInBounds_toArray, List.set_cons_zero, List.set_cons_succ]
                               rfl
                              refine one_ (i := 3) (N := some 63) #[true, true, true, true, false, true, true, true, true, true, true, true, false, false, false, false, false, false, false, false, false, false, false, false, false, false, false, false, false, false, false, false, false, false, false, false, false, false] rfl rfl (one_of HT_.out (by kernel_rfl)) (by decide) (fun K hK => ?_)
                              refine goes_ Tryz.func27 (by kernel_rfl) rfl #[.slice Ao18 t156.length co18] (by rfl) rfl rfl (by (try simp only [List.map_toArray, List.map_cons, List.map_nil]); first | done | rfl | (simp only [List.length_drop, List.length_take]; rfl)) ?_
                              with_reducible refine (reply_Array.calls _ _ t156 t195 _ ?side1 ?side2 ?side3 ?side4 A39.out).mono ?_
                              (case side1 => repeat (first | exact (Kd.N_reads' HO_6.out).2.2 | (with_reducible refine Kd.C_alloc ?_ _) | (with_reducible refine Kd.C_drewN ?_ _) | (with_reducible refine Kd.C_drew ?_)))
                              (case side2 => exact (Kd.N_reads' HO_6.out).2.1)
                              (case side3 => exact Spot.spot_N HO_6.out)
                              (case side4 => exact Tryz.Ln.tabs_below HT0.out HB.out)
                              rintro e w62 ⟨v196, rfl, ho0, hb⟩
                              refine ⟨_, rfl, ?_⟩
                              have n0_ := Aside0.mk (Kd.N_below HO_6.out hb)
                              have n1_ := Aside0.mk (Kd.R_below HO_7.out hb)
                              have n2_ := Aside0.mk (Kd.V_below HO_9.out hb)
                              have n3_ := Aside0.mk (Kd.N_below HO_10.out hb)
                              have n4_ := Aside0.mk (Kd.R_below HO174.out hb)
                              have n5_ := Aside0.mk (Kd.V_below HO187.out hb)
                              have n6_ := Aside0.mk (Kd.R_below HO192.out hb)
                              have n7_ := Aside0.mk (Kd.R_below HO194.out hb)
                              have n8_ := Aside0.mk (Kd.V_below HO202.out hb)
                              have n9_ := Aside0.mk (Kd.V_lower (Kd.V_mono (ok' := fun k_ => nb k_ (.slice Ao18 t156.length co18) ∧ nb k_ u7 ∧ nb k_ (.slice Ao55 x10_2.length co55) ∧ nb k_ (.slice Ao51 t172.length co51) ∧ nb k_ v191 ∧ nb k_ v193) ho0 (fun k_ hk_ => ⟨(Kd.fresh' (Kd.N_lt HO_6.out) k_ hk_), (Kd.fresh' (Kd.R_lt HO_7.out) k_ hk_), (Kd.fresh' (Kd.N_lt HO_10.out) k_ hk_), (Kd.fresh' (Kd.R_lt HO174.out) k_ hk_), (Kd.fresh' (Kd.R_lt HO192.out) k_ hk_), (Kd.fresh' (Kd.R_lt HO194.out) k_ hk_)⟩)) (below_size HB.out))
                              have n10_ := Aside0.mk (below_step HB.out hb)
                              clear HO_6
                              clear HO_7
                              clear HO_9
                              clear HO_10
                              clear HO174
                              clear HO187
                              clear HO192
                              clear HO194
                              clear HO202
                              clear HB
                              have HO_6 := n0_
                              have HO_7 := n1_
                              have HO_9 := n2_
                              have HO_10 := n3_
                              have HO174 := n4_
                              have HO187 := n5_
                              have HO192 := n6_
                              have HO194 := n7_
                              have HO202 := n8_
                              have HO197 := n9_
                              have HB := n10_
                              clear n0_ n1_ n2_ n3_ n4_ n5_ n6_ n7_ n8_ n9_ n10_
                              (try clear hb)
                              (try clear hb2)
                              (try clear hk)
                              (try clear hi)
                              (try clear ho0)
                              refine hK.out _ _ trivial (fun hHeld => ?_)
                              clear hK K
                              refine norm_ (a' := ?_) ?_ ?_
                              rotate_left
                              ·show Act.put _ (some 63) _ = _
                               simp only [Act.put, List.setIfInBounds_toArray, List.set_cons_zero, List.set_cons_succ, i64_w, i32_w]
                               rfl
                              exact norm_ (by simp only [putAll, Act.put, List.setIfInBounds_toArray, List.set_cons_zero, List.set_cons_succ, c43b0]; try rfl) (hJ3_7_10 (v196) _ ⟨HO174.out, HO187.out, HO192.out, HO194.out, (by (with_reducible repeat (first | apply Kd.V_alloc | apply Kd.V_drewN | apply Kd.V_drew)); exact Kd.V_mono HO197.out (fun _ hk => ⟨hk.2.2.2.1, ⟨hk.2.2.2.2.1, ⟨hk.2.2.2.2.2, ⟨hk.2.2.1, ⟨hk.1, hk.2.1⟩⟩⟩⟩⟩)), HO202.out, HO_10.out, HO_6.out, HO_7.out, HO_9.out, HB.out⟩)
                            ·skip
                             rintro v196 w61 ⟨h0_, h1_, h2_, h3_, h4_, h5_, h6_, h7_, h8_, h9_, h10_⟩
                             have n0_ : Aside0 (Kd.R Kd.string 9 w61 w.heap.size (fun _ => True) (.slice Ao51 t172.length co51) t172) := ⟨h0_⟩
                             have n1_ : Aside0 (Kd.V (Kd.int .u8) 5 w61 w.heap.size (fun k_ => nb k_ (.slice Ao51 t172.length co51) ∧ nb k_ v191 ∧ nb k_ v193 ∧ nb k_ (.slice Ao55 x10_2.length co55) ∧ nb k_ (.slice Ao18 t156.length co18) ∧ nb k_ u7) (.slice Ao53 t185.length co53) t185) := ⟨h1_⟩
                             have n2_ : Aside0 (Kd.R (Kd.int .u8) 5 w61 w.heap.size (fun k_ => nb k_ v193 ∧ nb k_ u7) v191 t188) := ⟨h2_⟩
                             have n3_ : Aside0 (Kd.R (Kd.int .u8) 5 w61 w.heap.size (fun k_ => nb k_ v191 ∧ nb k_ u7) v193 t189) := ⟨h3_⟩
                             have n4_ : Aside0 (Kd.V (Kd.int .u8) 5 w61 w.heap.size (fun k_ => nb k_ (.slice Ao51 t172.length co51) ∧ nb k_ v191 ∧ nb k_ v193 ∧ nb k_ (.slice Ao55 x10_2.length co55) ∧ nb k_ (.slice Ao18 t156.length co18) ∧ nb k_ u7) v196 t195) := ⟨h4_⟩
                             have n5_ : Aside0 (Kd.V (Kd.int .u8) 5 w61 w.heap.size (fun k_ => nb k_ (.slice Ao51 t172.length co51) ∧ nb k_ v191 ∧ nb k_ v193 ∧ nb k_ (.slice Ao55 x10_2.length co55) ∧ nb k_ (.slice Ao18 t156.length co18) ∧ nb k_ u7) (.slice A57 y198.length c57) y198) := ⟨h5_⟩
                             have n6_ : Aside0 (Kd.N (Kd.slice 5 (Kd.int .u8)) 22 w61 w.heap.size (fun k_ => nb k_ (.slice Ao51 t172.length co51) ∧ nb k_ v191 ∧ nb k_ v193 ∧ nb k_ (.slice Ao18 t156.length co18) ∧ nb k_ u7) (.slice Ao55 x10_2.length co55) x10_2) := ⟨h6_⟩
                             have n7_ : Aside0 (Kd.N (Kd.slice 5 (Kd.int .u8)) 22 w61 w.heap.size (fun k_ => nb k_ (.slice Ao51 t172.length co51) ∧ nb k_ v191 ∧ nb k_ v193 ∧ nb k_ (.slice Ao55 x10_2.length co55) ∧ nb k_ u7) (.slice Ao18 t156.length co18) t156) := ⟨h7_⟩
                             have n8_ : Aside0 (Kd.R (Kd.int .u8) 5 w61 w.heap.size (fun k_ => nb k_ v191 ∧ nb k_ v193) u7 x7_1) := ⟨h8_⟩
                             have n9_ : Aside0 (Kd.V (Kd.int .u8) 5 w61 w.heap.size (fun k_ => nb k_ (.slice Ao51 t172.length co51) ∧ nb k_ v191 ∧ nb k_ v193 ∧ nb k_ (.slice Ao55 x10_2.length co55) ∧ nb k_ (.slice Ao18 t156.length co18) ∧ nb k_ u7) (.slice Ao58 t166.length co58) t166) := ⟨h9_⟩
                             have n10_ : Aside0 (Below w.heap.size w w61) := ⟨h10_⟩
                             clear HO_6
                             clear HO_7
                             clear HO_9
                             clear HO_10
                             clear HO174
                             clear HO187
                             clear HO192
                             clear HO194
                             clear HB
                             clear h0_ h1_ h2_ h3_ h4_ h5_ h6_ h7_ h8_ h9_ h10_
                             have HO174 := n0_
                             have HO187 := n1_
                             have HO192 := n2_
                             have HO194 := n3_
                             have HO197 := n4_
                             have HO202 := n5_
                             have HO_10 := n6_
                             have HO_6 := n7_
                             have HO_7 := n8_
                             have HO_9 := n9_
                             have HB := n10_
                             clear n0_ n1_ n2_ n3_ n4_ n5_ n6_ n7_ n8_ n9_ n10_
                             have hHeld := trivial
                             refine norm_ (a' := ?_) ?_ ?_
                             rotate_left
                             ·simp only [putAll, Act.put, List.setIfInBounds_toArray, List.set_cons_zero, List.set_cons_succ]
                              rfl
                             refine two_ (i := 4) (j := 7) (Ni := some 64) (Nj := some 67) #[true, true, true, true, true, true, true, false, false, true, true, false, false, false, false, false, false, false, false, false, false, false, false, false, false, false, false, false, false, false, false, false, false, false, false, false, false, false] #[true, true, true, true, false, true, true, true, false, true, true, false, false, false, false, false, false, false, false, false, false, false, false, false, false, false, false, false, false, false, false, false, false, false, false, false, false, false] rfl rfl rfl rfl (two_of HT_.out (by kernel_rfl)) (by decide) (by decide) (fun K hK => ?_) (fun K hK => ?_)
                             ·skip
                              have hcv62 := Spot.str_V (P := Tryz.prog) Tryz.underlying22 Tryz.underlying5 Tryz.underlying9 HO197.out
                              refine value_ (w1 := ?_) (v := ?_) (by rfl) rfl ?_ ?_
                              rotate_left 2
                              ·go_simp
                               constructor
                               ·rfl
                               ·rfl
                              clear hcv62
                              refine hK.out _ _ trivial (fun hHeld => ?_)
                              clear hK K
                              refine norm_ (a' := ?_) ?_ ?_
                              rotate_left
                              ·show Act.put _ (some 64) _ = _
                               simp only [Act.put, List.setIfInBounds_toArray, List.set_cons_zero, List.set_cons_succ, i64_w, i32_w]
                               rfl
                              exact norm_ (by simp only [putAll, Act.put, List.setIfInBounds_toArray, List.set_cons_zero, List.set_cons_succ, c43b0]; try rfl) (hJ3_4_10 (v196) _ ⟨HO174.out, HO187.out, HO192.out, HO194.out, HO197.out, HO202.out, HO_10.out, HO_6.out, HO_7.out, HO_9.out, HB.out⟩)
                             ·skip
                              have hcv62 := Spot.str_V (P := Tryz.prog) Tryz.underlying22 Tryz.underlying5 Tryz.underlying9 HO202.out
                              refine value_ (w1 := ?_) (v := ?_) (by rfl) rfl ?_ ?_
                              rotate_left 2
                              ·go_simp
                               constructor
                               ·rfl
                               ·rfl
                              clear hcv62
                              refine hK.out _ _ trivial (fun hHeld => ?_)
                              clear hK K
                              refine norm_ (a' := ?_) ?_ ?_
                              rotate_left
                              ·show Act.put _ (some 67) _ = _
                               simp only [Act.put, List.setIfInBounds_toArray, List.set_cons_zero, List.set_cons_succ, i64_w, i32_w]
                               rfl
                              refine pure_ (i := 8) (N := some 68) (v := ?_) (a' := ?_) #[true, true, true, true, false, true, true, true, true, true, true, false, false, false, false, false, false, false, false, false, false, false, false, false, false, false, false, false, false, false, false, false, false, false, false, false, false, false] rfl rfl (any_of HT_.out (by kernel_rfl)) (fun _ _ _ h => h) (Or.inl ⟨by rfl, ?_⟩) ?_ ?_
                              rotate_left
                              ·intro w'
                               go_simp
                               with_reducible rfl
                              rotate_left
                              ·simp only [Act.put, List.setIfInBounds_toArray, List.set_cons_zero, List.set_cons_succ, i64_w, i32_w]
                               rfl
                              refine pure_ (i := 11) (N := some 71) (v := ?_) (a' := ?_) #[true, true, true, true, false, true, true, true, true, true, true, true, false, false, false, false, false, false, false, false, false, false, false, false, false, false, false, false, false, false, false, false, false, false, false, false, false, false] rfl rfl (any_of HT_.out (by kernel_rfl)) (fun _ _ _ h => h) (Or.inl ⟨by rfl, ?_⟩) ?_ ?_
                              rotate_left
                              ·intro w'
                               go_simp
                               with_reducible rfl
                              rotate_left
                              ·simp only [Act.put, List.setIfInBounds_toArray, List.set_cons_zero, List.set_cons_succ, i64_w, i32_w]
                               rfl
                              exact norm_ (by simp only [putAll, Act.put, List.setIfInBounds_toArray, List.set_cons_zero, List.set_cons_succ, c43b0]; try rfl) (hJ3_7_10 (v196) _ ⟨HO174.out, HO187.out, HO192.out, HO194.out, HO197.out, HO202.out, HO_10.out, HO_6.out, HO_7.out, HO_9.out, HB.out⟩)
                           ·skip
                            rintro v196 w61 ⟨h0_, h1_, h2_, h3_, h4_, h5_, h6_, h7_, h8_, h9_, h10_⟩
                            have n0_ : Aside0 (Kd.R Kd.string 9 w61 w.heap.size (fun _ => True) (.slice Ao51 t172.length co51) t172) := ⟨h0_⟩
                            have n1_ : Aside0 (Kd.V (Kd.int .u8) 5 w61 w.heap.size (fun k_ => nb k_ (.slice Ao51 t172.length co51) ∧ nb k_ v191 ∧ nb k_ v193 ∧ nb k_ (.slice Ao55 x10_2.length co55) ∧ nb k_ (.slice Ao18 t156.length co18) ∧ nb k_ u7) (.slice Ao53 t185.length co53) t185) := ⟨h1_⟩
                            have n2_ : Aside0 (Kd.R (Kd.int .u8) 5 w61 w.heap.size (fun k_ => nb k_ v193 ∧ nb k_ u7) v191 t188) := ⟨h2_⟩
                            have n3_ : Aside0 (Kd.R (Kd.int .u8) 5 w61 w.heap.size (fun k_ => nb k_ v191 ∧ nb k_ u7) v193 t189) := ⟨h3_⟩
                            have n4_ : Aside0 (Kd.V (Kd.int .u8) 5 w61 w.heap.size (fun k_ => nb k_ (.slice Ao51 t172.length co51) ∧ nb k_ v191 ∧ nb k_ v193 ∧ nb k_ (.slice Ao55 x10_2.length co55) ∧ nb k_ (.slice Ao18 t156.length co18) ∧ nb k_ u7) v196 t195) := ⟨h4_⟩
                            have n5_ : Aside0 (Kd.V (Kd.int .u8) 5 w61 w.heap.size (fun k_ => nb k_ (.slice Ao51 t172.length co51) ∧ nb k_ v191 ∧ nb k_ v193 ∧ nb k_ (.slice Ao55 x10_2.length co55) ∧ nb k_ (.slice Ao18 t156.length co18) ∧ nb k_ u7) (.slice A57 y198.length c57) y198) := ⟨h5_⟩
                            have n6_ : Aside0 (Kd.N (Kd.slice 5 (Kd.int .u8)) 22 w61 w.heap.size (fun k_ => nb k_ (.slice Ao51 t172.length co51) ∧ nb k_ v191 ∧ nb k_ v193 ∧ nb k_ (.slice Ao18 t156.length co18) ∧ nb k_ u7) (.slice Ao55 x10_2.length co55) x10_2) := ⟨h6_⟩
                            have n7_ : Aside0 (Kd.N (Kd.slice 5 (Kd.int .u8)) 22 w61 w.heap.size (fun k_ => nb k_ (.slice Ao51 t172.length co51) ∧ nb k_ v191 ∧ nb k_ v193 ∧ nb k_ (.slice Ao55 x10_2.length co55) ∧ nb k_ u7) (.slice Ao18 t156.length co18) t156) := ⟨h7_⟩
                            have n8_ : Aside0 (Kd.R (Kd.int .u8) 5 w61 w.heap.size (fun k_ => nb k_ v191 ∧ nb k_ v193) u7 x7_1) := ⟨h8_⟩
                            have n9_ : Aside0 (Kd.V (Kd.int .u8) 5 w61 w.heap.size (fun k_ => nb k_ (.slice Ao51 t172.length co51) ∧ nb k_ v191 ∧ nb k_ v193 ∧ nb k_ (.slice Ao55 x10_2.length co55) ∧ nb k_ (.slice Ao18 t156.length co18) ∧ nb k_ u7) (.slice Ao58 t166.length co58) t166) := ⟨h9_⟩
                            have n10_ : Aside0 (Below w.heap.size w w61) := ⟨h10_⟩
                            clear HO_6
                            clear HO_7
                            clear HO_9
                            clear HO_10
                            clear HO174
                            clear HO187
                            clear HO192
                            clear HO194
                            clear HB
                            clear h0_ h1_ h2_ h3_ h4_ h5_ h6_ h7_ h8_ h9_ h10_
                            have HO174 := n0_
                            have HO187 := n1_
                            have HO192 := n2_
                            have HO194 := n3_
                            have HO197 := n4_
                            have HO202 := n5_
                            have HO_10 := n6_
                            have HO_6 := n7_
                            have HO_7 := n8_
                            have HO_9 := n9_
                            have HB := n10_
                            clear n0_ n1_ n2_ n3_ n4_ n5_ n6_ n7_ n8_ n9_ n10_
                            have hHeld := trivial
                            refine norm_ (a' := ?_) ?_ ?_
                            rotate_left
                            ·simp only [putAll, Act.put, List.setIfInBounds_toArray, List.set_cons_zero, List.set_cons_succ]
                             rfl
                            refine two_ (i := 4) (j := 10) (Ni := some 64) (Nj := some 70) #[true, true, true, true, true, true, true, true, true, true, false, false, false, false, false, false, false, false, false, false, false, false, false, false, false, false, false, false, false, false, false, false, false, false, false, false, false, false] #[true, true, true, true, false, true, true, true, true, true, true, false, false, false, false, false, false, false, false, false, false, false, false, false, false, false, false, false, false, false, false, false, false, false, false, false, false, false] rfl rfl rfl rfl (two_of HT_.out (by kernel_rfl)) (by decide) (by decide) (fun K hK => ?_) (fun K hK => ?_)
                            ·skip
                             have hcv62 := Spot.str_V (P := Tryz.prog) Tryz.underlying22 Tryz.underlying5 Tryz.underlying9 HO197.out
                             refine value_ (w1 := ?_) (v := ?_) (by rfl) rfl ?_ ?_
                             rotate_left 2
                             ·go_simp
                              constructor
                              ·rfl
                              ·rfl
                             clear hcv62
                             refine hK.out _ _ trivial (fun hHeld => ?_)
                             clear hK K
                             refine norm_ (a' := ?_) ?_ ?_
                             rotate_left
                             ·show Act.put _ (some 64) _ = _
                              simp only [Act.put, List.setIfInBounds_toArray, List.set_cons_zero, List.set_cons_succ, i64_w, i32_w]
                              rfl
                             exact norm_ (by simp only [putAll, Act.put, List.setIfInBounds_toArray, List.set_cons_zero, List.set_cons_succ, c43b0]; try rfl) (hJ3_4_7 (v196) _ ⟨HO174.out, HO187.out, HO192.out, HO194.out, HO197.out, HO202.out, HO_10.out, HO_6.out, HO_7.out, HO_9.out, HB.out⟩)
                            ·skip
                             have hcv62 := Spot.str_R (P := Tryz.prog) Tryz.underlying22 Tryz.underlying5 Tryz.underlying9 HO_7.out
                             refine value_ (w1 := ?_) (v := ?_) (by rfl) rfl ?_ ?_
                             rotate_left 2
                             ·go_simp
                              constructor
                              ·rfl
                              ·rfl
                             clear hcv62
                             refine hK.out _ _ trivial (fun hHeld => ?_)
                             clear hK K
                             refine norm_ (a' := ?_) ?_ ?_
                             rotate_left
                             ·show Act.put _ (some 70) _ = _
                              simp only [Act.put, List.setIfInBounds_toArray, List.set_cons_zero, List.set_cons_succ, i64_w, i32_w]
                              rfl
                             refine pure_ (i := 11) (N := some 71) (v := ?_) (a' := ?_) #[true, true, true, true, false, true, true, true, true, true, true, true, false, false, false, false, false, false, false, false, false, false, false, false, false, false, false, false, false, false, false, false, false, false, false, false, false, false] rfl rfl (any_of HT_.out (by kernel_rfl)) (fun _ _ _ h => h) (Or.inl ⟨by rfl, ?_⟩) ?_ ?_
                             rotate_left
                             ·intro w'
                              go_simp
                              with_reducible rfl
                             rotate_left
                             ·simp only [Act.put, List.setIfInBounds_toArray, List.set_cons_zero, List.set_cons_succ, i64_w, i32_w]
                              rfl
                             exact norm_ (by simp only [putAll, Act.put, List.setIfInBounds_toArray, List.set_cons_zero, List.set_cons_succ, c43b0]; try rfl) (hJ3_7_10 (v196) _ ⟨HO174.out, HO187.out, HO192.out, HO194.out, HO197.out, HO202.out, HO_10.out, HO_6.out, HO_7.out, HO_9.out, HB.out⟩)
                          ·skip
                           rintro v196 w61 ⟨h0_, h1_, h2_, h3_, h4_, h5_, h6_, h7_, h8_, h9_, h10_⟩
                           have n0_ : Aside0 (Kd.R Kd.string 9 w61 w.heap.size (fun _ => True) (.slice Ao51 t172.length co51) t172) := ⟨h0_⟩
                           have n1_ : Aside0 (Kd.V (Kd.int .u8) 5 w61 w.heap.size (fun k_ => nb k_ (.slice Ao51 t172.length co51) ∧ nb k_ v191 ∧ nb k_ v193 ∧ nb k_ (.slice Ao55 x10_2.length co55) ∧ nb k_ (.slice Ao18 t156.length co18) ∧ nb k_ u7) (.slice Ao53 t185.length co53) t185) := ⟨h1_⟩
                           have n2_ : Aside0 (Kd.R (Kd.int .u8) 5 w61 w.heap.size (fun k_ => nb k_ v193 ∧ nb k_ u7) v191 t188) := ⟨h2_⟩
                           have n3_ : Aside0 (Kd.R (Kd.int .u8) 5 w61 w.heap.size (fun k_ => nb k_ v191 ∧ nb k_ u7) v193 t189) := ⟨h3_⟩
                           have n4_ : Aside0 (Kd.V (Kd.int .u8) 5 w61 w.heap.size (fun k_ => nb k_ (.slice Ao51 t172.length co51) ∧ nb k_ v191 ∧ nb k_ v193 ∧ nb k_ (.slice Ao55 x10_2.length co55) ∧ nb k_ (.slice Ao18 t156.length co18) ∧ nb k_ u7) v196 t195) := ⟨h4_⟩
                           have n5_ : Aside0 (Kd.V (Kd.int .u8) 5 w61 w.heap.size (fun k_ => nb k_ (.slice Ao51 t172.length co51) ∧ nb k_ v191 ∧ nb k_ v193 ∧ nb k_ (.slice Ao55 x10_2.length co55) ∧ nb k_ (.slice Ao18 t156.length co18) ∧ nb k_ u7) (.slice A57 y198.length c57) y198) := ⟨h5_⟩
                           have n6_ : Aside0 (Kd.N (Kd.slice 5 (Kd.int .u8)) 22 w61 w.heap.size (fun k_ => nb k_ (.slice Ao51 t172.length co51) ∧ nb k_ v191 ∧ nb k_ v193 ∧ nb k_ (.slice Ao18 t156.length co18) ∧ nb k_ u7) (.slice Ao55 x10_2.length co55) x10_2) := ⟨h6_⟩
                           have n7_ : Aside0 (Kd.N (Kd.slice 5 (Kd.int .u8)) 22 w61 w.heap.size (fun k_ => nb k_ (.slice Ao51 t172.length co51) ∧ nb k_ v191 ∧ nb k_ v193 ∧ nb k_ (.slice Ao55 x10_2.length co55) ∧ nb k_ u7) (.slice Ao18 t156.length co18) t156) := ⟨h7_⟩
                           have n8_ : Aside0 (Kd.R (Kd.int .u8) 5 w61 w.heap.size (fun k_ => nb k_ v191 ∧ nb k_ v193) u7 x7_1) := ⟨h8_⟩
                           have n9_ : Aside0 (Kd.V (Kd.int .u8) 5 w61 w.heap.size (fun k_ => nb k_ (.slice Ao51 t172.length co51) ∧ nb k_ v191 ∧ nb k_ v193 ∧ nb k_ (.slice Ao55 x10_2.length co55) ∧ nb k_ (.slice Ao18 t156.length co18) ∧ nb k_ u7) (.slice Ao58 t166.length co58) t166) := ⟨h9_⟩
                           have n10_ : Aside0 (Below w.heap.size w w61) := ⟨h10_⟩
                           clear HO_6
                           clear HO_7
                           clear HO_9
                           clear HO_10
                           clear HO174
                           clear HO187
                           clear HO192
                           clear HO194
                           clear HB
                           clear h0_ h1_ h2_ h3_ h4_ h5_ h6_ h7_ h8_ h9_ h10_
                           have HO174 := n0_
                           have HO187 := n1_
                           have HO192 := n2_
                           have HO194 := n3_
                           have HO197 := n4_
                           have HO202 := n5_
                           have HO_10 := n6_
                           have HO_6 := n7_
                           have HO_7 := n8_
                           have HO_9 := n9_
                           have HB := n10_
                           clear n0_ n1_ n2_ n3_ n4_ n5_ n6_ n7_ n8_ n9_ n10_
                           have hHeld := trivial
                           refine norm_ (a' := ?_) ?_ ?_
                           rotate_left
                           ·simp only [putAll, Act.put, List.setIfInBounds_toArray, List.set_cons_zero, List.set_cons_succ]
                            rfl
                           refine two_ (i := 7) (j := 10) (Ni := some 67) (Nj := some 70) #[true, true, true, true, true, true, true, true, false, true, false, false, false, false, false, false, false, false, false, false, false, false, false, false, false, false, false, false, false, false, false, false, false, false, false, false, false, false] #[true, true, true, true, true, true, true, false, false, true, true, false, false, false, false, false, false, false, false, false, false, false, false, false, false, false, false, false, false, false, false, false, false, false, false, false, false, false] rfl rfl rfl rfl (two_of HT_.out (by kernel_rfl)) (by decide) (by decide) (fun K hK => ?_) (fun K hK => ?_)
                           ·skip
                            have hcv62 := Spot.str_V (P := Tryz.prog) Tryz.underlying22 Tryz.underlying5 Tryz.underlying9 HO202.out
                            refine value_ (w1 := ?_) (v := ?_) (by rfl) rfl ?_ ?_
                            rotate_left 2
                            ·go_simp
                             constructor
                             ·rfl
                             ·rfl
                            clear hcv62
                            refine hK.out _ _ trivial (fun hHeld => ?_)
                            clear hK K
                            refine norm_ (a' := ?_) ?_ ?_
                            rotate_left
                            ·show Act.put _ (some 67) _ = _
                             simp only [Act.put, List.setIfInBounds_toArray, List.set_cons_zero, List.set_cons_succ, i64_w, i32_w]
                             rfl
                            refine pure_ (i := 8) (N := some 68) (v := ?_) (a' := ?_) #[true, true, true, true, true, true, true, true, true, true, false, false, false, false, false, false, false, false, false, false, false, false, false, false, false, false, false, false, false, false, false, false, false, false, false, false, false, false] rfl rfl (any_of HT_.out (by kernel_rfl)) (fun _ _ _ h => h) (Or.inl ⟨by rfl, ?_⟩) ?_ ?_
                            rotate_left
                            ·intro w'
                             go_simp
                             with_reducible rfl
                            rotate_left
                            ·simp only [Act.put, List.setIfInBounds_toArray, List.set_cons_zero, List.set_cons_succ, i64_w, i32_w]
                             rfl
                            exact norm_ (by simp only [putAll, Act.put, List.setIfInBounds_toArray, List.set_cons_zero, List.set_cons_succ, c43b0]; try rfl) (hJ3_4_7 (v196) _ ⟨HO174.out, HO187.out, HO192.out, HO194.out, HO197.out, HO202.out, HO_10.out, HO_6.out, HO_7.out, HO_9.out, HB.out⟩)
                           ·skip
                            have hcv62 := Spot.str_R (P := Tryz.prog) Tryz.underlying22 Tryz.underlying5 Tryz.underlying9 HO_7.out
                            refine value_ (w1 := ?_) (v := ?_) (by rfl) rfl ?_ ?_
                            rotate_left 2
                            ·go_simp
                             constructor
                             ·rfl
                             ·rfl
                            clear hcv62
                            refine hK.out _ _ trivial (fun hHeld => ?_)
                            clear hK K
                            refine norm_ (a' := ?_) ?_ ?_
                            rotate_left
                            ·show Act.put _ (some 70) _ = _
                             simp only [Act.put, List.setIfInBounds_toArray, List.set_cons_zero, List.set_cons_succ, i64_w, i32_w]
                             rfl
                            exact norm_ (by simp only [putAll, Act.put, List.setIfInBounds_toArray, List.set_cons_zero, List.set_cons_succ, c43b0]; try rfl) (hJ3_4_10 (v196) _ ⟨HO174.out, HO187.out, HO192.out, HO194.out, HO197.out, HO202.out, HO_10.out, HO_6.out, HO_7.out, HO_9.out, HB.out⟩)
                         ·skip
                          rintro v196 w62 ⟨h0_, h1_, h2_, h3_, h4_, h5_, h6_, h7_, h8_, h9_, h10_⟩
                          have n0_ : Aside0 (Kd.R Kd.string 9 w62 w.heap.size (fun _ => True) (.slice Ao51 t172.length co51) t172) := ⟨h0_⟩
                          have n1_ : Aside0 (Kd.V (Kd.int .u8) 5 w62 w.heap.size (fun k_ => nb k_ (.slice Ao51 t172.length co51) ∧ nb k_ v191 ∧ nb k_ v193 ∧ nb k_ (.slice Ao55 x10_2.length co55) ∧ nb k_ (.slice Ao18 t156.length co18) ∧ nb k_ u7) (.slice Ao53 t185.length co53) t185) := ⟨h1_⟩
                          have n2_ : Aside0 (Kd.R (Kd.int .u8) 5 w62 w.heap.size (fun k_ => nb k_ v193 ∧ nb k_ u7) v191 t188) := ⟨h2_⟩
                          have n3_ : Aside0 (Kd.R (Kd.int .u8) 5 w62 w.heap.size (fun k_ => nb k_ v191 ∧ nb k_ u7) v193 t189) := ⟨h3_⟩
                          have n4_ : Aside0 (Kd.V (Kd.int .u8) 5 w62 w.heap.size (fun k_ => nb k_ (.slice Ao51 t172.length co51) ∧ nb k_ v191 ∧ nb k_ v193 ∧ nb k_ (.slice Ao55 x10_2.length co55) ∧ nb k_ (.slice Ao18 t156.length co18) ∧ nb k_ u7) v196 t195) := ⟨h4_⟩
                          have n5_ : Aside0 (Kd.V (Kd.int .u8) 5 w62 w.heap.size (fun k_ => nb k_ (.slice Ao51 t172.length co51) ∧ nb k_ v191 ∧ nb k_ v193 ∧ nb k_ (.slice Ao55 x10_2.length co55) ∧ nb k_ (.slice Ao18 t156.length co18) ∧ nb k_ u7) (.slice A57 y198.length c57) y198) := ⟨h5_⟩
                          have n6_ : Aside0 (Kd.N (Kd.slice 5 (Kd.int .u8)) 22 w62 w.heap.size (fun k_ => nb k_ (.slice Ao51 t172.length co51) ∧ nb k_ v191 ∧ nb k_ v193 ∧ nb k_ (.slice Ao18 t156.length co18) ∧ nb k_ u7) (.slice Ao55 x10_2.length co55) x10_2) := ⟨h6_⟩
                          have n7_ : Aside0 (Kd.N (Kd.slice 5 (Kd.int .u8)) 22 w62 w.heap.size (fun k_ => nb k_ (.slice Ao51 t172.length co51) ∧ nb k_ v191 ∧ nb k_ v193 ∧ nb k_ (.slice Ao55 x10_2.length co55) ∧ nb k_ u7) (.slice Ao18 t156.length co18) t156) := ⟨h7_⟩
                          have n8_ : Aside0 (Kd.R (Kd.int .u8) 5 w62 w.heap.size (fun k_ => nb k_ v191 ∧ nb k_ v193) u7 x7_1) := ⟨h8_⟩
                          have n9_ : Aside0 (Kd.V (Kd.int .u8) 5 w62 w.heap.size (fun k_ => nb k_ (.slice Ao51 t172.length co51) ∧ nb k_ v191 ∧ nb k_ v193 ∧ nb k_ (.slice Ao55 x10_2.length co55) ∧ nb k_ (.slice Ao18 t156.length co18) ∧ nb k_ u7) (.slice Ao58 t166.length co58) t166) := ⟨h9_⟩
                          have n10_ : Aside0 (Below w.heap.size w w62) := ⟨h10_⟩
                          clear HO_6
                          clear HO_7
                          clear HO_9
                          clear HO_10
                          clear HO174
                          clear HO187
                          clear HO192
                          clear HO194
                          clear HB
                          clear h0_ h1_ h2_ h3_ h4_ h5_ h6_ h7_ h8_ h9_ h10_
                          have HO174 := n0_
                          have HO187 := n1_
                          have HO192 := n2_
                          have HO194 := n3_
                          have HO197 := n4_
                          have HO202 := n5_
                          have HO_10 := n6_
                          have HO_6 := n7_
                          have HO_7 := n8_
                          have HO_9 := n9_
                          have HB := n10_
                          clear n0_ n1_ n2_ n3_ n4_ n5_ n6_ n7_ n8_ n9_ n10_
                          have hHeld := trivial
                          refine norm_ (a' := ?_) ?_ ?_
                          rotate_left
                          ·simp only [putAll, Act.put, List.setIfInBounds_toArray, List.set_cons_zero, List.set_cons_succ]
                           rfl
                          refine one_ (i := 4) (N := some 64) #[true, true, true, true, true, true, true, true, true, true, true, true, false, false, false, false, false, false, false, false, false, false, false, false, false, false, false, false, false, false, false, false, false, false, false, false, false, false] rfl rfl (one_of HT_.out (by kernel_rfl)) (by decide) (fun K hK => ?_)
                          have hcv63 := Spot.str_V (P := Tryz.prog) Tryz.underlying22 Tryz.underlying5 Tryz.underlying9 HO197.out
                          refine value_ (w1 := ?_) (v := ?_) (by rfl) rfl ?_ ?_
                          rotate_left 2
                          ·go_simp
                           constructor
                           ·rfl
                           ·rfl
                          clear hcv63
                          refine hK.out _ _ trivial (fun hHeld => ?_)
                          clear hK K
                          refine norm_ (a' := ?_) ?_ ?_
                          rotate_left
                          ·show Act.put _ (some 64) _ = _
                           simp only [Act.put, List.setIfInBounds_toArray, List.set_cons_zero, List.set_cons_succ, i64_w, i32_w]
                           rfl
                          refine pure_ (i := 12) (N := some 72) (v := ?_) (a' := ?_) #[true, true, true, true, true, true, true, true, true, true, true, true, true, false, false, false, false, false, false, false, false, false, false, false, false, false, false, false, false, false, false, false, false, false, false, false, false, false] rfl rfl (any_of HT_.out (by kernel_rfl)) (fun _ _ _ h => h) (Or.inl ⟨by rfl, ?_⟩) ?_ ?_
                          rotate_left
                          ·intro w'
                           go_simp
                           with_reducible rfl
                          rotate_left
                          ·simp only [Act.put, List.setIfInBounds_toArray, List.set_cons_zero, List.set_cons_succ, i64_w, i32_w]
                           rfl
                          refine pure_ (i := 13) (N := some 73) (v := ?_) (a' := ?_) #[true, true, true, true, true, true, true, true, true, true, true, true, true, true, false, false, false, false, false, false, false, false, false, false, false, false, false, false, false, false, false, false, false, false, false, false, false, false] rfl rfl (any_of HT_.out (by kernel_rfl)) (fun _ _ _ h => h) (Or.inl ⟨by rfl, ?_⟩) ?_ ?_
                          rotate_left
                          ·intro w'
                           go_simp
                           with_reducible rfl
                          rotate_left
                          ·simp only [Act.put, List.setIfInBounds_toArray, List.set_cons_zero, List.set_cons_succ, i64_w, i32_w]
                           rfl
                          refine pure_ (i := 14) (N := some 74) (v := ?_) (a' := ?_) #[true, true, true, true, true, true, true, true, true, true, true, true, true, true, true, false, false, false, false, false, false, false, false, false, false, false, false, false, false, false, false, false, false, false, false, false, false, false] rfl rfl (any_of HT_.out (by kernel_rfl)) (fun _ _ _ h => h) (Or.inl ⟨by rfl, ?_⟩) ?_ ?_
                          rotate_left
                          ·intro w'
                           go_simp
                           with_reducible rfl
                          rotate_left
                          ·simp only [Act.put, List.setIfInBounds_toArray, List.set_cons_zero, List.set_cons_succ, i64_w, i32_w]
                           rfl
                          refine pure_ (i := 15) (N := some 75) (v := ?_) (a' := ?_) #[true, true, true, true, true, true, true, true, true, true, true, true, true, true, true, true, false, false, false, false, false, false, false, false, false, false, false, false, false, false, false, false, false, false, false, false, false, false] rfl rfl (any_of HT_.out (by kernel_rfl)) (fun _ _ _ h => h) (Or.inl ⟨by rfl, ?_⟩) ?_ ?_
                          rotate_left
                          ·intro w'
                           go_simp
                           with_reducible rfl
                          rotate_left
                          ·simp only [Act.put, List.setIfInBounds_toArray, List.set_cons_zero, List.set_cons_succ, i64_w, i32_w]
                           rfl
                          refine pure_ (i := 19) (N := some 79) (v := ?_) (a' := ?_) #[true, true, true, true, true, true, true, true, true, true, true, true, true, true, true, true, false, false, false, true, false, false, false, false, false, false, false, false, false, false, false, false, false, false, false, false, false, false] rfl rfl (any_of HT_.out (by kernel_rfl)) (fun _ _ _ h => h) (Or.inl ⟨by rfl, ?_⟩) ?_ ?_
                          rotate_left
                          ·intro w'
                           go_simp
                           with_reducible rfl
                          rotate_left
                          ·simp only [Act.put, List.setIfInBounds_toArray, List.set_cons_zero, List.set_cons_succ, i64_w, i32_w]
                           rfl
                          exact norm_ (by simp only [putAll, Act.put, List.setIfInBounds_toArray, List.set_cons_zero, List.set_cons_succ, c43b0]; try rfl) (hJ3_4_7_10 (v196) _ ⟨HO174.out, HO187.out, HO192.out, HO194.out, HO197.out, HO202.out, HO_10.out, HO_6.out, HO_7.out, HO_9.out, HB.out⟩)
                        ·skip
                         rintro v196 w62 ⟨h0_, h1_, h2_, h3_, h4_, h5_, h6_, h7_, h8_, h9_, h10_⟩
                         have n0_ : Aside0 (Kd.R Kd.string 9 w62 w.heap.size (fun _ => True) (.slice Ao51 t172.length co51) t172) := ⟨h0_⟩
                         have n1_ : Aside0 (Kd.V (Kd.int .u8) 5 w62 w.heap.size (fun k_ => nb k_ (.slice Ao51 t172.length co51) ∧ nb k_ v191 ∧ nb k_ v193 ∧ nb k_ (.slice Ao55 x10_2.length co55) ∧ nb k_ (.slice Ao18 t156.length co18) ∧ nb k_ u7) (.slice Ao53 t185.length co53) t185) := ⟨h1_⟩
                         have n2_ : Aside0 (Kd.R (Kd.int .u8) 5 w62 w.heap.size (fun k_ => nb k_ v193 ∧ nb k_ u7) v191 t188) := ⟨h2_⟩
                         have n3_ : Aside0 (Kd.R (Kd.int .u8) 5 w62 w.heap.size (fun k_ => nb k_ v191 ∧ nb k_ u7) v193 t189) := ⟨h3_⟩
                         have n4_ : Aside0 (Kd.V (Kd.int .u8) 5 w62 w.heap.size (fun k_ => nb k_ (.slice Ao51 t172.length co51) ∧ nb k_ v191 ∧ nb k_ v193 ∧ nb k_ (.slice Ao55 x10_2.length co55) ∧ nb k_ (.slice Ao18 t156.length co18) ∧ nb k_ u7) v196 t195) := ⟨h4_⟩
                         have n5_ : Aside0 (Kd.V (Kd.int .u8) 5 w62 w.heap.size (fun k_ => nb k_ (.slice Ao51 t172.length co51) ∧ nb k_ v191 ∧ nb k_ v193 ∧ nb k_ (.slice Ao55 x10_2.length co55) ∧ nb k_ (.slice Ao18 t156.length co18) ∧ nb k_ u7) (.slice A57 y198.length c57) y198) := ⟨h5_⟩
                         have n6_ : Aside0 (Kd.N (Kd.slice 5 (Kd.int .u8)) 22 w62 w.heap.size (fun k_ => nb k_ (.slice Ao51 t172.length co51) ∧ nb k_ v191 ∧ nb k_ v193 ∧ nb k_ (.slice Ao18 t156.length co18) ∧ nb k_ u7) (.slice Ao55 x10_2.length co55) x10_2) := ⟨h6_⟩
                         have n7_ : Aside0 (Kd.N (Kd.slice 5 (Kd.int .u8)) 22 w62 w.heap.size (fun k_ => nb k_ (.slice Ao51 t172.length co51) ∧ nb k_ v191 ∧ nb k_ v193 ∧ nb k_ (.slice Ao55 x10_2.length co55) ∧ nb k_ u7) (.slice Ao18 t156.length co18) t156) := ⟨h7_⟩
                         have n8_ : Aside0 (Kd.R (Kd.int .u8) 5 w62 w.heap.size (fun k_ => nb k_ v191 ∧ nb k_ v193) u7 x7_1) := ⟨h8_⟩
                         have n9_ : Aside0 (Kd.V (Kd.int .u8) 5 w62 w.heap.size (fun k_ => nb k_ (.slice Ao51 t172.length co51) ∧ nb k_ v191 ∧ nb k_ v193 ∧ nb k_ (.slice Ao55 x10_2.length co55) ∧ nb k_ (.slice Ao18 t156.length co18) ∧ nb k_ u7) (.slice Ao58 t166.length co58) t166) := ⟨h9_⟩
                         have n10_ : Aside0 (Below w.heap.size w w62) := ⟨h10_⟩
                         clear HO_6
                         clear HO_7
                         clear HO_9
                         clear HO_10
                         clear HO174
                         clear HO187
                         clear HO192
                         clear HO194
                         clear HB
                         clear h0_ h1_ h2_ h3_ h4_ h5_ h6_ h7_ h8_ h9_ h10_
                         have HO174 := n0_
                         have HO187 := n1_
                         have HO192 := n2_
                         have HO194 := n3_
                         have HO197 := n4_
                         have HO202 := n5_
                         have HO_10 := n6_
                         have HO_6 := n7_
                         have HO_7 := n8_
                         have HO_9 := n9_
                         have HB := n10_
                         clear n0_ n1_ n2_ n3_ n4_ n5_ n6_ n7_ n8_ n9_ n10_
                         have hHeld := trivial
                         refine norm_ (a' := ?_) ?_ ?_
                         rotate_left
                         ·simp only [putAll, Act.put, List.setIfInBounds_toArray, List.set_cons_zero, List.set_cons_succ]
                          rfl
                         refine one_ (i := 7) (N := some 67) #[true, true, true, true, true, true, true, true, false, true, true, false, false, false, false, false, false, false, false, false, false, false, false, false, false, false, false, false, false, false, false, false, false, false, false, false, false, false] rfl rfl (one_of HT_.out (by kernel_rfl)) (by decide) (fun K hK => ?_)
                         have hcv63 := Spot.str_V (P := Tryz.prog) Tryz.underlying22 Tryz.underlying5 Tryz.underlying9 HO202.out
                         refine value_ (w1 := ?_) (v := ?_) (by rfl) rfl ?_ ?_
                         rotate_left 2
                         ·go_simp
                          constructor
                          ·rfl
                          ·rfl
                         clear hcv63
                         refine hK.out _ _ trivial (fun hHeld => ?_)
                         clear hK K
                         refine norm_ (a' := ?_) ?_ ?_
                         rotate_left
                         ·show Act.put _ (some 67) _ = _
                          simp only [Act.put, List.setIfInBounds_toArray, List.set_cons_zero, List.set_cons_succ, i64_w, i32_w]
                          rfl
                         refine pure_ (i := 8) (N := some 68) (v := ?_) (a' := ?_) #[true, true, true, true, true, true, true, true, true, true, true, false, false, false, false, false, false, false, false, false, false, false, false, false, false, false, false, false, false, false, false, false, false, false, false, false, false, false] rfl rfl (any_of HT_.out (by kernel_rfl)) (fun _ _ _ h => h) (Or.inl ⟨by rfl, ?_⟩) ?_ ?_
                         rotate_left
                         ·intro w'
                          go_simp
                          with_reducible rfl
                         rotate_left
                         ·simp only [Act.put, List.setIfInBounds_toArray, List.set_cons_zero, List.set_cons_succ, i64_w, i32_w]
                          rfl
                         refine pure_ (i := 11) (N := some 71) (v := ?_) (a' := ?_) #[true, true, true, true, true, true, true, true, true, true, true, true, false, false, false, false, false, false, false, false, false, false, false, false, false, false, false, false, false, false, false, false, false, false, false, false, false, false] rfl rfl (any_of HT_.out (by kernel_rfl)) (fun _ _ _ h => h) (Or.inl ⟨by rfl, ?_⟩) ?_ ?_
                         rotate_left
                         ·intro w'
                          go_simp
                          with_reducible rfl
                         rotate_left
                         ·simp only [Act.put, List.setIfInBounds_toArray, List.set_cons_zero, List.set_cons_succ, i64_w, i32_w]
                          rfl
                         refine pure_ (i := 12) (N := some 72) (v := ?_) (a' := ?_) #[true, true, true, true, true, true, true, true, true, true, true, true, true, false, false, false, false, false, false, false, false, false, false, false, false, false, false, false, false, false, false, false, false, false, false, false, false, false] rfl rfl (any_of HT_.out (by kernel_rfl)) (fun _ _ _ h => h) (Or.inl ⟨by rfl, ?_⟩) ?_ ?_
                         rotate_left
                         ·intro w'
                          go_simp
                          with_reducible rfl
                         rotate_left
                         ·simp only [Act.put, List.setIfInBounds_toArray, List.set_cons_zero, List.set_cons_succ, i64_w, i32_w]
                          rfl
                         refine pure_ (i := 13) (N := some 73) (v := ?_) (a' := ?_) #[true, true, true, true, true, true, true, true, true, true, true, true, true, true, false, false, false, false, false, false, false, false, false, false, false, false, false, false, false, false, false, false, false, false, false, false, false, false] rfl rfl (any_of HT_.out (by kernel_rfl)) (fun _ _ _ h => h) (Or.inl ⟨by rfl, ?_⟩) ?_ ?_
                         rotate_left
                         ·intro w'
                          go_simp
                          with_reducible rfl
                         rotate_left
                         ·simp only [Act.put, List.setIfInBounds_toArray, List.set_cons_zero, List.set_cons_succ, i64_w, i32_w]
                          rfl
                         refine pure_ (i := 14) (N := some 74) (v := ?_) (a' := ?_) #[true, true, true, true, true, true, true, true, true, true, true, true, true, true, true, false, false, false, false, false, false, false, false, false, false, false, false, false, false, false, false, false, false, false, false, false, false, false] rfl rfl (any_of HT_.out (by kernel_rfl)) (fun _ _ _ h => h) (Or.inl ⟨by rfl, ?_⟩) ?_ ?_
                         rotate_left
                         ·intro w'
                          go_simp
                          with_reducible rfl
                         rotate_left
                         ·simp only [Act.put, List.setIfInBounds_toArray, List.set_cons_zero, List.set_cons_succ, i64_w, i32_w]
                          rfl
                         refine pure_ (i := 15) (N := some 75) (v := ?_) (a' := ?_) #[true, true, true, true, true, true, true, true, true, true, true, true, true, true, true, true, false, false, false, false, false, false, false, false, false, false, false, false, false, false, false, false, false, false, false, false, false, false] rfl rfl (any_of HT_.out (by kernel_rfl)) (fun _ _ _ h => h) (Or.inl ⟨by rfl, ?_⟩) ?_ ?_
                         rotate_left
                         ·intro w'
                          go_simp
                          with_reducible rfl
                         rotate_left
                         ·simp only [Act.put, List.setIfInBounds_toArray, List.set_cons_zero, List.set_cons_succ, i64_w, i32_w]
                          rfl
                         refine pure_ (i := 19) (N := some 79) (v := ?_) (a' := ?_) #[true, true, true, true, true, true, true, true, true, true, true, true, true, true, true, true, false, false, false, true, false, false, false, false, false, false, false, false, false, false, false, false, false, false, false, false, false, false] rfl rfl (any_of HT_.out (by kernel_rfl)) (fun _ _ _ h => h) (Or.inl ⟨by rfl, ?_⟩) ?_ ?_
                         rotate_left
                         ·intro w'
                          go_simp
                          with_reducible rfl
                         rotate_left
                         ·simp only [Act.put, List.setIfInBounds_toArray, List.set_cons_zero, List.set_cons_succ, i64_w, i32_w]
                          rfl
                         exact norm_ (by simp only [putAll, Act.put, List.setIfInBounds_toArray, List.set_cons_zero, List.set_cons_succ, c43b0]; try rfl) (hJ3_4_7_10 (v196) _ ⟨HO174.out, HO187.out, HO192.out, HO194.out, HO197.out, HO202.out, HO_10.out, HO_6.out, HO_7.out, HO_9.out, HB.out⟩)
                       ·skip
                        rintro v196 w62 ⟨h0_, h1_, h2_, h3_, h4_, h5_, h6_, h7_, h8_, h9_, h10_⟩
                        have n0_ : Aside0 (Kd.R Kd.string 9 w62 w.heap.size (fun _ => True) (.slice Ao51 t172.length co51) t172) := ⟨h0_⟩
                        have n1_ : Aside0 (Kd.V (Kd.int .u8) 5 w62 w.heap.size (fun k_ => nb k_ (.slice Ao51 t172.length co51) ∧ nb k_ v191 ∧ nb k_ v193 ∧ nb k_ (.slice Ao55 x10_2.length co55) ∧ nb k_ (.slice Ao18 t156.length co18) ∧ nb k_ u7) (.slice Ao53 t185.length co53) t185) := ⟨h1_⟩
                        have n2_ : Aside0 (Kd.R (Kd.int .u8) 5 w62 w.heap.size (fun k_ => nb k_ v193 ∧ nb k_ u7) v191 t188) := ⟨h2_⟩
                        have n3_ : Aside0 (Kd.R (Kd.int .u8) 5 w62 w.heap.size (fun k_ => nb k_ v191 ∧ nb k_ u7) v193 t189) := ⟨h3_⟩
                        have n4_ : Aside0 (Kd.V (Kd.int .u8) 5 w62 w.heap.size (fun k_ => nb k_ (.slice Ao51 t172.length co51) ∧ nb k_ v191 ∧ nb k_ v193 ∧ nb k_ (.slice Ao55 x10_2.length co55) ∧ nb k_ (.slice Ao18 t156.length co18) ∧ nb k_ u7) v196 t195) := ⟨h4_⟩
                        have n5_ : Aside0 (Kd.V (Kd.int .u8) 5 w62 w.heap.size (fun k_ => nb k_ (.slice Ao51 t172.length co51) ∧ nb k_ v191 ∧ nb k_ v193 ∧ nb k_ (.slice Ao55 x10_2.length co55) ∧ nb k_ (.slice Ao18 t156.length co18) ∧ nb k_ u7) (.slice A57 y198.length c57) y198) := ⟨h5_⟩
                        have n6_ : Aside0 (Kd.N (Kd.slice 5 (Kd.int .u8)) 22 w62 w.heap.size (fun k_ => nb k_ (.slice Ao51 t172.length co51) ∧ nb k_ v191 ∧ nb k_ v193 ∧ nb k_ (.slice Ao18 t156.length co18) ∧ nb k_ u7) (.slice Ao55 x10_2.length co55) x10_2) := ⟨h6_⟩
                        have n7_ : Aside0 (Kd.N (Kd.slice 5 (Kd.int .u8)) 22 w62 w.heap.size (fun k_ => nb k_ (.slice Ao51 t172.length co51) ∧ nb k_ v191 ∧ nb k_ v193 ∧ nb k_ (.slice Ao55 x10_2.length co55) ∧ nb k_ u7) (.slice Ao18 t156.length co18) t156) := ⟨h7_⟩
                        have n8_ : Aside0 (Kd.R (Kd.int .u8) 5 w62 w.heap.size (fun k_ => nb k_ v191 ∧ nb k_ v193) u7 x7_1) := ⟨h8_⟩
                        have n9_ : Aside0 (Kd.V (Kd.int .u8) 5 w62 w.heap.size (fun k_ => nb k_ (.slice Ao51 t172.length co51) ∧ nb k_ v191 ∧ nb k_ v193 ∧ nb k_ (.slice Ao55 x10_2.length co55) ∧ nb k_ (.slice Ao18 t156.length co18) ∧ nb k_ u7) (.slice Ao58 t166.length co58) t166) := ⟨h9_⟩
                        have n10_ : Aside0 (Below w.heap.size w w62) := ⟨h10_⟩
                        clear HO_6
                        clear HO_7
                        clear HO_9
                        clear HO_10
                        clear HO174
                        clear HO187
                        clear HO192
                        clear HO194
                        clear HB
                        clear h0_ h1_ h2_ h3_ h4_ h5_ h6_ h7_ h8_ h9_ h10_
                        have HO174 := n0_
                        have HO187 := n1_
                        have HO192 := n2_
                        have HO194 := n3_
                        have HO197 := n4_
                        have HO202 := n5_
                        have HO_10 := n6_
                        have HO_6 := n7_
                        have HO_7 := n8_
                        have HO_9 := n9_
                        have HB := n10_
                        clear n0_ n1_ n2_ n3_ n4_ n5_ n6_ n7_ n8_ n9_ n10_
                        have hHeld := trivial
                        refine norm_ (a' := ?_) ?_ ?_
                        rotate_left
                        ·simp only [putAll, Act.put, List.setIfInBounds_toArray, List.set_cons_zero, List.set_cons_succ]
                         rfl
                        refine one_ (i := 10) (N := some 70) #[true, true, true, true, true, true, true, true, true, true, true, false, false, false, false, false, false, false, false, false, false, false, false, false, false, false, false, false, false, false, false, false, false, false, false, false, false, false] rfl rfl (one_of HT_.out (by kernel_rfl)) (by decide) (fun K hK => ?_)
                        have hcv63 := Spot.str_R (P := Tryz.prog) Tryz.underlying22 Tryz.underlying5 Tryz.underlying9 HO_7.out
                        refine value_ (w1 := ?_) (v := ?_) (by rfl) rfl ?_ ?_
                        rotate_left 2
                        ·go_simp
                         constructor
                         ·rfl
                         ·rfl
                        clear hcv63
                        refine hK.out _ _ trivial (fun hHeld => ?_)
                        clear hK K
                        refine norm_ (a' := ?_) ?_ ?_
                        rotate_left
                        ·show Act.put _ (some 70) _ = _
                         simp only [Act.put, List.setIfInBounds_toArray, List.set_cons_zero, List.set_cons_succ, i64_w, i32_w]
                         rfl
                        refine pure_ (i := 11) (N := some 71) (v := ?_) (a' := ?_) #[true, true, true, true, true, true, true, true, true, true, true, true, false, false, false, false, false, false, false, false, false, false, false, false, false, false, false, false, false, false, false, false, false, false, false, false, false, false] rfl rfl (any_of HT_.out (by kernel_rfl)) (fun _ _ _ h => h) (Or.inl ⟨by rfl, ?_⟩) ?_ ?_
                        rotate_left
                        ·intro w'
                         go_simp
                         with_reducible rfl
                        rotate_left
                        ·simp only [Act.put, List.setIfInBounds_toArray, List.set_cons_zero, List.set_cons_succ, i64_w, i32_w]
                         rfl
                        refine pure_ (i := 12) (N := some 72) (v := ?_) (a' := ?_) #[true, true, true, true, true, true, true, true, true, true, true, true, true, false, false, false, false, false, false, false, false, false, false, false, false, false, false, false, false, false, false, false, false, false, false, false, false, false] rfl rfl (any_of HT_.out (by kernel_rfl)) (fun _ _ _ h => h) (Or.inl ⟨by rfl, ?_⟩) ?_ ?_
                        rotate_left
                        ·intro w'
                         go_simp
                         with_reducible rfl
                        rotate_left
                        ·simp only [Act.put, List.setIfInBounds_toArray, List.set_cons_zero, List.set_cons_succ, i64_w, i32_w]
                         rfl
                        refine pure_ (i := 13) (N := some 73) (v := ?_) (a' := ?_) #[true, true, true, true, true, true, true, true, true, true, true, true, true, true, false, false, false, false, false, false, false, false, false, false, false, false, false, false, false, false, false, false, false, false, false, false, false, false] rfl rfl (any_of HT_.out (by kernel_rfl)) (fun _ _ _ h => h) (Or.inl ⟨by rfl, ?_⟩) ?_ ?_
                        rotate_left
                        ·intro w'
                         go_simp
                         with_reducible rfl
                        rotate_left
                        ·simp only [Act.put, List.setIfInBounds_toArray, List.set_cons_zero, List.set_cons_succ, i64_w, i32_w]
                         rfl
                        refine pure_ (i := 14) (N := some 74) (v := ?_) (a' := ?_) #[true, true, true, true, true, true, true, true, true, true, true, true, true, true, true, false, false, false, false, false, false, false, false, false, false, false, false, false, false, false, false, false, false, false, false, false, false, false] rfl rfl (any_of HT_.out (by kernel_rfl)) (fun _ _ _ h => h) (Or.inl ⟨by rfl, ?_⟩) ?_ ?_
                        rotate_left
                        ·intro w'
                         go_simp
                         with_reducible rfl
                        rotate_left
                        ·simp only [Act.put, List.setIfInBounds_toArray, List.set_cons_zero, List.set_cons_succ, i64_w, i32_w]
                         rfl
                        refine pure_ (i := 15) (N := some 75) (v := ?_) (a' := ?_) #[true, true, true, true, true, true, true, true, true, true, true, true, true, true, true, true, false, false, false, false, false, false, false, false, false, false, false, false, false, false, false, false, false, false, false, false, false, false] rfl rfl (any_of HT_.out (by kernel_rfl)) (fun _ _ _ h => h) (Or.inl ⟨by rfl, ?_⟩) ?_ ?_
                        rotate_left
                        ·intro w'
                         go_simp
                         with_reducible rfl
                        rotate_left
                        ·simp only [Act.put, List.setIfInBounds_toArray, List.set_cons_zero, List.set_cons_succ, i64_w, i32_w]
                         rfl
                        refine pure_ (i := 19) (N := some 79) (v := ?_) (a' := ?_) #[true, true, true, true, true, true, true, true, true, true, true, true, true, true, true, true, false, false, false, true, false, false, false, false, false, false, false, false, false, false, false, false, false, false, false, false, false, false] rfl rfl (any_of HT_.out (by kernel_rfl)) (fun _ _ _ h => h) (Or.inl ⟨by rfl, ?_⟩) ?_ ?_
                        rotate_left
                        ·intro w'
                         go_simp
                         with_reducible rfl
                        rotate_left
                        ·simp only [Act.put, List.setIfInBounds_toArray, List.set_cons_zero, List.set_cons_succ, i64_w, i32_w]
                         rfl
                        exact norm_ (by simp only [putAll, Act.put, List.setIfInBounds_toArray, List.set_cons_zero, List.set_cons_succ, c43b0]; try rfl) (hJ3_4_7_10 (v196) _ ⟨HO174.out, HO187.out, HO192.out, HO194.out, HO197.out, HO202.out, HO_10.out, HO_6.out, HO_7.out, HO_9.out, HB.out⟩)
                      ·skip
                       rintro v196 w63 ⟨h0_, h1_, h2_, h3_, h4_, h5_, h6_, h7_, h8_, h9_, h10_⟩
                       have n0_ : Aside0 (Kd.R Kd.string 9 w63 w.heap.size (fun _ => True) (.slice Ao51 t172.length co51) t172) := ⟨h0_⟩
                       have n1_ : Aside0 (Kd.V (Kd.int .u8) 5 w63 w.heap.size (fun k_ => nb k_ (.slice Ao51 t172.length co51) ∧ nb k_ v191 ∧ nb k_ v193 ∧ nb k_ (.slice Ao55 x10_2.length co55) ∧ nb k_ (.slice Ao18 t156.length co18) ∧ nb k_ u7) (.slice Ao53 t185.length co53) t185) := ⟨h1_⟩
                       have n2_ : Aside0 (Kd.R (Kd.int .u8) 5 w63 w.heap.size (fun k_ => nb k_ v193 ∧ nb k_ u7) v191 t188) := ⟨h2_⟩
                       have n3_ : Aside0 (Kd.R (Kd.int .u8) 5 w63 w.heap.size (fun k_ => nb k_ v191 ∧ nb k_ u7) v193 t189) := ⟨h3_⟩
                       have n4_ : Aside0 (Kd.V (Kd.int .u8) 5 w63 w.heap.size (fun k_ => nb k_ (.slice Ao51 t172.length co51) ∧ nb k_ v191 ∧ nb k_ v193 ∧ nb k_ (.slice Ao55 x10_2.length co55) ∧ nb k_ (.slice Ao18 t156.length co18) ∧ nb k_ u7) v196 t195) := ⟨h4_⟩
                       have n5_ : Aside0 (Kd.V (Kd.int .u8) 5 w63 w.heap.size (fun k_ => nb k_ (.slice Ao51 t172.length co51) ∧ nb k_ v191 ∧ nb k_ v193 ∧ nb k_ (.slice Ao55 x10_2.length co55) ∧ nb k_ (.slice Ao18 t156.length co18) ∧ nb k_ u7) (.slice A57 y198.length c57) y198) := ⟨h5_⟩
                       have n6_ : Aside0 (Kd.N (Kd.slice 5 (Kd.int .u8)) 22 w63 w.heap.size (fun k_ => nb k_ (.slice Ao51 t172.length co51) ∧ nb k_ v191 ∧ nb k_ v193 ∧ nb k_ (.slice Ao18 t156.length co18) ∧ nb k_ u7) (.slice Ao55 x10_2.length co55) x10_2) := ⟨h6_⟩
                       have n7_ : Aside0 (Kd.N (Kd.slice 5 (Kd.int .u8)) 22 w63 w.heap.size (fun k_ => nb k_ (.slice Ao51 t172.length co51) ∧ nb k_ v191 ∧ nb k_ v193 ∧ nb k_ (.slice Ao55 x10_2.length co55) ∧ nb k_ u7) (.slice Ao18 t156.length co18) t156) := ⟨h7_⟩
                       have n8_ : Aside0 (Kd.R (Kd.int .u8) 5 w63 w.heap.size (fun k_ => nb k_ v191 ∧ nb k_ v193) u7 x7_1) := ⟨h8_⟩
                       have n9_ : Aside0 (Kd.V (Kd.int .u8) 5 w63 w.heap.size (fun k_ => nb k_ (.slice Ao51 t172.length co51) ∧ nb k_ v191 ∧ nb k_ v193 ∧ nb k_ (.slice Ao55 x10_2.length co55) ∧ nb k_ (.slice Ao18 t156.length co18) ∧ nb k_ u7) (.slice Ao58 t166.length co58) t166) := ⟨h9_⟩
                       have n10_ : Aside0 (Below w.heap.size w w63) := ⟨h10_⟩
                       clear HO_6
                       clear HO_7
                       clear HO_9
                       clear HO_10
                       clear HO174
                       clear HO187
                       clear HO192
                       clear HO194
                       clear HB
                       clear h0_ h1_ h2_ h3_ h4_ h5_ h6_ h7_ h8_ h9_ h10_
                       have HO174 := n0_
                       have HO187 := n1_
                       have HO192 := n2_
                       have HO194 := n3_
                       have HO197 := n4_
                       have HO202 := n5_
                       have HO_10 := n6_
                       have HO_6 := n7_
                       have HO_7 := n8_
                       have HO_9 := n9_
                       have HB := n10_
                       clear n0_ n1_ n2_ n3_ n4_ n5_ n6_ n7_ n8_ n9_ n10_
                       have hHeld := trivial
                       refine norm_ (a' := ?_) ?_ ?_
                       rotate_left
                       ·simp only [putAll, Act.put, List.setIfInBounds_toArray, List.set_cons_zero, List.set_cons_succ]
                        rfl
                       refine one_ (i := 16) (N := some 76) #[true, true, true, true, true, true, true, true, true, true, true, true, true, true, true, true, true, false, false, true, false, false, false, false, false, false, false, false, false, false, false, false, false, false, false, false, false, false] rfl rfl (one_of HT_.out (by kernel_rfl)) (by decide) (fun K hK => ?_)
                       refine goes_ Tryz.func10 (by kernel_rfl) rfl #[.slice A0 l0.length c0] (by rfl) rfl rfl (by (try simp only [List.map_toArray, List.map_cons, List.map_nil]); first | done | rfl | (simp only [List.length_drop, List.length_take]; rfl)) ?_
                       with_reducible refine (tipstafflaw05_few.calls k2 _ _ l0 t203 _ ?side1 ?side2 A44.out).mono ?_
                       (case side1 => repeat (first | exact (Kd.C_below HR0.out HB.out) | (with_reducible refine Kd.C_alloc ?_ _) | (with_reducible refine Kd.C_drewN ?_ _) | (with_reducible refine Kd.C_drew ?_)))
                       (case side2 => exact HC0.out)
                       rintro e w64 ⟨v204, rfl, ho0, hb⟩
                       refine ⟨_, rfl, ?_⟩
                       have n0_ := Aside0.mk (Kd.N_elder' HO_6.out (Kd.R_base ho0) hb)
                       have n1_ := Aside0.mk (Kd.R_below HO_7.out hb)
                       have n2_ := Aside0.mk (Kd.V_elder' HO_9.out (Kd.R_base ho0) hb)
                       have n3_ := Aside0.mk (Kd.N_elder' HO_10.out (Kd.R_base ho0) hb)
                       have n4_ := Aside0.mk (Kd.R_elder' HO174.out (Kd.R_base ho0) hb)
                       have n5_ := Aside0.mk (Kd.V_elder' HO187.out (Kd.R_base ho0) hb)
                       have n6_ := Aside0.mk (Kd.R_below HO192.out hb)
                       have n7_ := Aside0.mk (Kd.R_below HO194.out hb)
                       have n8_ := Aside0.mk (Kd.V_elder' HO202.out (Kd.R_base ho0) hb)
                       have n9_ := Aside0.mk (Kd.V_elder' HO197.out (Kd.R_base ho0) hb)
                       have n10_ := Aside0.mk (Kd.R_lower (Kd.R_new' ho0 (Kd.R_lt HO174.out)) (below_size HB.out))
                       have n11_ := Aside0.mk (below_step HB.out hb)
                       clear HO_6
                       clear HO_7
                       clear HO_9
                       clear HO_10
                       clear HO174
                       clear HO187
                       clear HO192
                       clear HO194
                       clear HO202
                       clear HO197
                       clear HB
                       have HO_6 := n0_
                       have HO_7 := n1_
                       have HO_9 := n2_
                       have HO_10 := n3_
                       have HO174 := n4_
                       have HO187 := n5_
                       have HO192 := n6_
                       have HO194 := n7_
                       have HO202 := n8_
                       have HO197 := n9_
                       have HO205 := n10_
                       have HB := n11_
                       clear n0_ n1_ n2_ n3_ n4_ n5_ n6_ n7_ n8_ n9_ n10_ n11_
                       (try clear hb)
                       (try clear hb2)
                       (try clear hk)
                       (try clear hi)
                       (try clear ho0)
                       refine hK.out _ _ trivial (fun hHeld => ?_)
                       clear hK K
                       refine norm_ (a' := ?_) ?_ ?_
                       rotate_left
                       ·show Act.put _ (some 76) _ = _
                        simp only [Act.put, List.setIfInBounds_toArray, List.set_cons_zero, List.set_cons_succ, i64_w, i32_w]
                        rfl
                       exact norm_ (by simp only [putAll, Act.put, List.setIfInBounds_toArray, List.set_cons_zero, List.set_cons_succ, c43b0]; try rfl) (hJ3_4_7_10_16 (v196, v204) _ ⟨(by (with_reducible repeat (first | apply Kd.R_alloc | apply Kd.R_drewN | apply Kd.R_drew)); exact Kd.R_mono HO174.out (fun _ hk => hk.2)), (by (with_reducible repeat (first | apply Kd.V_alloc | apply Kd.V_drewN | apply Kd.V_drew)); exact Kd.V_mono HO187.out (fun _ hk => ⟨hk.1.1, ⟨hk.1.2.1, ⟨hk.1.2.2.1, ⟨hk.2, ⟨hk.1.2.2.2.1, ⟨hk.1.2.2.2.2.1, hk.1.2.2.2.2.2⟩⟩⟩⟩⟩⟩)), HO192.out, HO194.out, (by (with_reducible repeat (first | apply Kd.V_alloc | apply Kd.V_drewN | apply Kd.V_drew)); exact Kd.V_mono HO197.out (fun _ hk => ⟨hk.1.1, ⟨hk.1.2.1, ⟨hk.1.2.2.1, ⟨hk.2, ⟨hk.1.2.2.2.1, ⟨hk.1.2.2.2.2.1, hk.1.2.2.2.2.2⟩⟩⟩⟩⟩⟩)), (by (with_reducible repeat (first | apply Kd.V_alloc | apply Kd.V_drewN | apply Kd.V_drew)); exact Kd.V_mono HO202.out (fun _ hk => ⟨hk.1.1, ⟨hk.1.2.1, ⟨hk.1.2.2.1, ⟨hk.2, ⟨hk.1.2.2.2.1, ⟨hk.1.2.2.2.2.1, hk.1.2.2.2.2.2⟩⟩⟩⟩⟩⟩)), (by (with_reducible repeat (first | apply Kd.R_alloc | apply Kd.R_drewN | apply Kd.R_drew)); exact Kd.R_mono HO205.out (fun _ hk => hk.2)), (by (with_reducible repeat (first | apply Kd.N_alloc | apply Kd.N_drewN | apply Kd.N_drew)); exact Kd.N_mono HO_10.out (fun _ hk => ⟨hk.1.1, ⟨hk.1.2.1, ⟨hk.1.2.2.1, ⟨hk.2, ⟨hk.1.2.2.2.1, hk.1.2.2.2.2⟩⟩⟩⟩⟩)), (by (with_reducible repeat (first | apply Kd.N_alloc | apply Kd.N_drewN | apply Kd.N_drew)); exact Kd.N_mono HO_6.out (fun _ hk => ⟨hk.1.1, ⟨hk.1.2.1, ⟨hk.1.2.2.1, ⟨hk.2, ⟨hk.1.2.2.2.1, hk.1.2.2.2.2⟩⟩⟩⟩⟩)), HO_7.out, (by (with_reducible repeat (first | apply Kd.V_alloc | apply Kd.V_drewN | apply Kd.V_drew)); exact Kd.V_mono HO_9.out (fun _ hk => ⟨hk.1.1, ⟨hk.1.2.1, ⟨hk.1.2.2.1, ⟨hk.2, ⟨hk.1.2.2.2.1, ⟨hk.1.2.2.2.2.1, hk.1.2.2.2.2.2⟩⟩⟩⟩⟩⟩)), HB.out⟩)
                     ·skip
                      rintro ⟨v196, v204⟩ w64 ⟨h0_, h1_, h2_, h3_, h4_, h5_, h6_, h7_, h8_, h9_, h10_, h11_⟩
                      have n0_ : Aside0 (Kd.R Kd.string 9 w64 w.heap.size (fun k_ => nb k_ v204) (.slice Ao51 t172.length co51) t172) := ⟨h0_⟩
                      have n1_ : Aside0 (Kd.V (Kd.int .u8) 5 w64 w.heap.size (fun k_ => nb k_ (.slice Ao51 t172.length co51) ∧ nb k_ v191 ∧ nb k_ v193 ∧ nb k_ v204 ∧ nb k_ (.slice Ao55 x10_2.length co55) ∧ nb k_ (.slice Ao18 t156.length co18) ∧ nb k_ u7) (.slice Ao53 t185.length co53) t185) := ⟨h1_⟩
                      have n2_ : Aside0 (Kd.R (Kd.int .u8) 5 w64 w.heap.size (fun k_ => nb k_ v193 ∧ nb k_ u7) v191 t188) := ⟨h2_⟩
                      have n3_ : Aside0 (Kd.R (Kd.int .u8) 5 w64 w.heap.size (fun k_ => nb k_ v191 ∧ nb k_ u7) v193 t189) := ⟨h3_⟩
                      have n4_ : Aside0 (Kd.V (Kd.int .u8) 5 w64 w.heap.size (fun k_ => nb k_ (.slice Ao51 t172.length co51) ∧ nb k_ v191 ∧ nb k_ v193 ∧ nb k_ v204 ∧ nb k_ (.slice Ao55 x10_2.length co55) ∧ nb k_ (.slice Ao18 t156.length co18) ∧ nb k_ u7) v196 t195) := ⟨h4_⟩
                      have n5_ : Aside0 (Kd.V (Kd.int .u8) 5 w64 w.heap.size (fun k_ => nb k_ (.slice Ao51 t172.length co51) ∧ nb k_ v191 ∧ nb k_ v193 ∧ nb k_ v204 ∧ nb k_ (.slice Ao55 x10_2.length co55) ∧ nb k_ (.slice Ao18 t156.length co18) ∧ nb k_ u7) (.slice A57 y198.length c57) y198) := ⟨h5_⟩
                      have n6_ : Aside0 (Kd.R Kd.string 9 w64 w.heap.size (fun k_ => nb k_ (.slice Ao51 t172.length co51)) v204 t203) := ⟨h6_⟩
                      have n7_ : Aside0 (Kd.N (Kd.slice 5 (Kd.int .u8)) 22 w64 w.heap.size (fun k_ => nb k_ (.slice Ao51 t172.length co51) ∧ nb k_ v191 ∧ nb k_ v193 ∧ nb k_ v204 ∧ nb k_ (.slice Ao18 t156.length co18) ∧ nb k_ u7) (.slice Ao55 x10_2.length co55) x10_2) := ⟨h7_⟩
                      have n8_ : Aside0 (Kd.N (Kd.slice 5 (Kd.int .u8)) 22 w64 w.heap.size (fun k_ => nb k_ (.slice Ao51 t172.length co51) ∧ nb k_ v191 ∧ nb k_ v193 ∧ nb k_ v204 ∧ nb k_ (.slice Ao55 x10_2.length co55) ∧ nb k_ u7) (.slice Ao18 t156.length co18) t156) := ⟨h8_⟩
                      have n9_ : Aside0 (Kd.R (Kd.int .u8) 5 w64 w.heap.size (fun k_ => nb k_ v191 ∧ nb k_ v193) u7 x7_1) := ⟨h9_⟩
                      have n10_ : Aside0 (Kd.V (Kd.int .u8) 5 w64 w.heap.size (fun k_ => nb k_ (.slice Ao51 t172.length co51) ∧ nb k_ v191 ∧ nb k_ v193 ∧ nb k_ v204 ∧ nb k_ (.slice Ao55 x10_2.length co55) ∧ nb k_ (.slice Ao18 t156.length co18) ∧ nb k_ u7) (.slice Ao58 t166.length co58) t166) := ⟨h10_⟩
                      have n11_ : Aside0 (Below w.heap.size w w64) := ⟨h11_⟩
                      clear HO_6
                      clear HO_7
                      clear HO_9
                      clear HO_10
                      clear HO174
                      clear HO187
                      clear HO192
                      clear HO194
                      clear HB
                      clear h0_ h1_ h2_ h3_ h4_ h5_ h6_ h7_ h8_ h9_ h10_ h11_
                      have HO174 := n0_
                      have HO187 := n1_
                      have HO192 := n2_
                      have HO194 := n3_
                      have HO197 := n4_
                      have HO202 := n5_
                      have HO205 := n6_
                      have HO_10 := n7_
                      have HO_6 := n8_
                      have HO_7 := n9_
                      have HO_9 := n10_
                      have HB := n11_
                      clear n0_ n1_ n2_ n3_ n4_ n5_ n6_ n7_ n8_ n9_ n10_ n11_
                      have hHeld := trivial
                      obtain ⟨Ao65, co65, eo65⟩ := Kd.R_slice HO205.out
                      (first | subst eo65 | (injection eo65 with f1_ f2_ f3_; have f4_ := f1_.symm; have f5_ := f3_.symm; clear f1_ f2_ f3_; subst f4_; subst f5_))
                      refine norm_ (a' := ?_) ?_ ?_
                      rotate_left
                      ·simp only [putAll, Act.put, List.setIfInBounds_toArray, List.set_cons_zero, List.set_cons_succ]
                       rfl
                      refine one_ (i := 17) (N := some 77) #[true, true, true, true, true, true, true, true, true, true, true, true, true, true, true, true, true, true, false, true, false, false, false, false, false, false, false, false, false, false, false, false, false, false, false, false, false, false] rfl rfl (one_of HT_.out (by kernel_rfl)) (by decide) (fun K hK => ?_)
                      refine goes_ Tryz.func24 (by kernel_rfl) rfl #[.slice Ao65 t203.length co65] (by rfl) rfl rfl (by (try simp only [List.map_toArray, List.map_cons, List.map_nil]); first | done | rfl | (simp only [List.length_drop, List.length_take]; rfl)) ?_
                      with_reducible refine (reply_Texts.calls _ _ t203 t206 _ ?side1 ?side2 ?side3 A45.out).mono ?_
                      (case side1 => repeat (first | exact (Kd.R_reads' HO205.out).2.2 | (with_reducible refine Kd.C_alloc ?_ _) | (with_reducible refine Kd.C_drewN ?_ _) | (with_reducible refine Kd.C_drew ?_)))
                      (case side2 => exact (Kd.R_reads' HO205.out).2.1)
                      (case side3 => exact Tryz.Ln.tabs_below HT0.out HB.out)
                      rintro e w66 ⟨v207, rfl, ho0, hb⟩
                      refine ⟨_, rfl, ?_⟩
                      have n0_ := Aside0.mk (Kd.N_below HO_6.out hb)
                      have n1_ := Aside0.mk (Kd.R_below HO_7.out hb)
                      have n2_ := Aside0.mk (Kd.V_below HO_9.out hb)
                      have n3_ := Aside0.mk (Kd.N_below HO_10.out hb)
                      have n4_ := Aside0.mk (Kd.R_below HO174.out hb)
                      have n5_ := Aside0.mk (Kd.V_below HO187.out hb)
                      have n6_ := Aside0.mk (Kd.R_below HO192.out hb)
                      have n7_ := Aside0.mk (Kd.R_below HO194.out hb)
                      have n8_ := Aside0.mk (Kd.V_below HO202.out hb)
                      have n9_ := Aside0.mk (Kd.V_below HO197.out hb)
                      have n10_ := Aside0.mk (Kd.R_below HO205.out hb)
                      have n11_ := Aside0.mk (Kd.V_lower (Kd.V_mono (ok' := fun k_ => nb k_ (.slice Ao18 t156.length co18) ∧ nb k_ u7 ∧ nb k_ (.slice Ao55 x10_2.length co55) ∧ nb k_ (.slice Ao51 t172.length co51) ∧ nb k_ v191 ∧ nb k_ v193 ∧ nb k_ (.slice Ao65 t203.length co65)) ho0 (fun k_ hk_ => ⟨(Kd.fresh' (Kd.N_lt HO_6.out) k_ hk_), (Kd.fresh' (Kd.R_lt HO_7.out) k_ hk_), (Kd.fresh' (Kd.N_lt HO_10.out) k_ hk_), (Kd.fresh' (Kd.R_lt HO174.out) k_ hk_), (Kd.fresh' (Kd.R_lt HO192.out) k_ hk_), (Kd.fresh' (Kd.R_lt HO194.out) k_ hk_), (Kd.fresh' (Kd.R_lt HO205.out) k_ hk_)⟩)) (below_size HB.out))
                      have n12_ := Aside0.mk (below_step HB.out hb)
                      clear HO_6
                      clear HO_7
                      clear HO_9
                      clear HO_10
                      clear HO174
                      clear HO187
                      clear HO192
                      clear HO194
                      clear HO202
                      clear HO197
                      clear HO205
                      clear HB
                      have HO_6 := n0_
                      have HO_7 := n1_
                      have HO_9 := n2_
                      have HO_10 := n3_
                      have HO174 := n4_
                      have HO187 := n5_
                      have HO192 := n6_
                      have HO194 := n7_
                      have HO202 := n8_
                      have HO197 := n9_
                      have HO205 := n10_
                      have HO208 := n11_
                      have HB := n12_
                      clear n0_ n1_ n2_ n3_ n4_ n5_ n6_ n7_ n8_ n9_ n10_ n11_ n12_
                      (try clear hb)
                      (try clear hb2)
                      (try clear hk)
                      (try clear hi)
                      (try clear ho0)
                      refine hK.out _ _ trivial (fun hHeld => ?_)
                      clear hK K
                      refine norm_ (a' := ?_) ?_ ?_
                      rotate_left
                      ·show Act.put _ (some 77) _ = _
                       simp only [Act.put, List.setIfInBounds_toArray, List.set_cons_zero, List.set_cons_succ, i64_w, i32_w]
                       rfl
                      exact norm_ (by simp only [putAll, Act.put, List.setIfInBounds_toArray, List.set_cons_zero, List.set_cons_succ, c43b0]; try rfl) (hJ3_4_7_10_16_17 (v196, .slice Ao65 t203.length co65, v207) _ ⟨HO174.out, HO187.out, HO192.out, HO194.out, HO197.out, HO202.out, HO205.out, (by (with_reducible repeat (first | apply Kd.V_alloc | apply Kd.V_drewN | apply Kd.V_drew)); exact Kd.V_mono HO208.out (fun _ hk => ⟨hk.2.2.2.1, ⟨hk.2.2.2.2.1, ⟨hk.2.2.2.2.2.1, ⟨hk.2.2.2.2.2.2, ⟨hk.2.2.1, ⟨hk.1, hk.2.1⟩⟩⟩⟩⟩⟩)), HO_10.out, HO_6.out, HO_7.out, HO_9.out, HB.out⟩)
                    ·skip
                     rintro ⟨v196, v204, v207⟩ w66 ⟨h0_, h1_, h2_, h3_, h4_, h5_, h6_, h7_, h8_, h9_, h10_, h11_, h12_⟩
                     have n0_ : Aside0 (Kd.R Kd.string 9 w66 w.heap.size (fun k_ => nb k_ v204) (.slice Ao51 t172.length co51) t172) := ⟨h0_⟩
                     have n1_ : Aside0 (Kd.V (Kd.int .u8) 5 w66 w.heap.size (fun k_ => nb k_ (.slice Ao51 t172.length co51) ∧ nb k_ v191 ∧ nb k_ v193 ∧ nb k_ v204 ∧ nb k_ (.slice Ao55 x10_2.length co55) ∧ nb k_ (.slice Ao18 t156.length co18) ∧ nb k_ u7) (.slice Ao53 t185.length co53) t185) := ⟨h1_⟩
                     have n2_ : Aside0 (Kd.R (Kd.int .u8) 5 w66 w.heap.size (fun k_ => nb k_ v193 ∧ nb k_ u7) v191 t188) := ⟨h2_⟩
                     have n3_ : Aside0 (Kd.R (Kd.int .u8) 5 w66 w.heap.size (fun k_ => nb k_ v191 ∧ nb k_ u7) v193 t189) := ⟨h3_⟩
                     have n4_ : Aside0 (Kd.V (Kd.int .u8) 5 w66 w.heap.size (fun k_ => nb k_ (.slice Ao51 t172.length co51) ∧ nb k_ v191 ∧ nb k_ v193 ∧ nb k_ v204 ∧ nb k_ (.slice Ao55 x10_2.length co55) ∧ nb k_ (.slice Ao18 t156.length co18) ∧ nb k_ u7) v196 t195) := ⟨h4_⟩
                     have n5_ : Aside0 (Kd.V (Kd.int .u8) 5 w66 w.heap.size (fun k_ => nb k_ (.slice Ao51 t172.length co51) ∧ nb k_ v191 ∧ nb k_ v193 ∧ nb k_ v204 ∧ nb k_ (.slice Ao55 x10_2.length co55) ∧ nb k_ (.slice Ao18 t156.length co18) ∧ nb k_ u7) (.slice A57 y198.length c57) y198) := ⟨h5_⟩
                     have n6_ : Aside0 (Kd.R Kd.string 9 w66 w.heap.size (fun k_ => nb k_ (.slice Ao51 t172.length co51)) v204 t203) := ⟨h6_⟩
                     have n7_ : Aside0 (Kd.V (Kd.int .u8) 5 w66 w.heap.size (fun k_ => nb k_ (.slice Ao51 t172.length co51) ∧ nb k_ v191 ∧ nb k_ v193 ∧ nb k_ v204 ∧ nb k_ (.slice Ao55 x10_2.length co55) ∧ nb k_ (.slice Ao18 t156.length co18) ∧ nb k_ u7) v207 t206) := ⟨h7_⟩
                     have n8_ : Aside0 (Kd.N (Kd.slice 5 (Kd.int .u8)) 22 w66 w.heap.size (fun k_ => nb k_ (.slice Ao51 t172.length co51) ∧ nb k_ v191 ∧ nb k_ v193 ∧ nb k_ v204 ∧ nb k_ (.slice Ao18 t156.length co18) ∧ nb k_ u7) (.slice Ao55 x10_2.length co55) x10_2) := ⟨h8_⟩
                     have n9_ : Aside0 (Kd.N (Kd.slice 5 (Kd.int .u8)) 22 w66 w.heap.size (fun k_ => nb k_ (.slice Ao51 t172.length co51) ∧ nb k_ v191 ∧ nb k_ v193 ∧ nb k_ v204 ∧ nb k_ (.slice Ao55 x10_2.length co55) ∧ nb k_ u7) (.slice Ao18 t156.length co18) t156) := ⟨h9_⟩
                     have n10_ : Aside0 (Kd.R (Kd.int .u8) 5 w66 w.heap.size (fun k_ => nb k_ v191 ∧ nb k_ v193) u7 x7_1) := ⟨h10_⟩
                     have n11_ : Aside0 (Kd.V (Kd.int .u8) 5 w66 w.heap.size (fun k_ => nb k_ (.slice Ao51 t172.length co51) ∧ nb k_ v191 ∧ nb k_ v193 ∧ nb k_ v204 ∧ nb k_ (.slice Ao55 x10_2.length co55) ∧ nb k_ (.slice Ao18 t156.length co18) ∧ nb k_ u7) (.slice Ao58 t166.length co58) t166) := ⟨h11_⟩
                     have n12_ : Aside0 (Below w.heap.size w w66) := ⟨h12_⟩
                     clear HO_6
                     clear HO_7
                     clear HO_9
                     clear HO_10
                     clear HO174
                     clear HO187
                     clear HO192
                     clear HO194
                     clear HB
                     clear h0_ h1_ h2_ h3_ h4_ h5_ h6_ h7_ h8_ h9_ h10_ h11_ h12_
                     have HO174 := n0_
                     have HO187 := n1_
                     have HO192 := n2_
                     have HO194 := n3_
                     have HO197 := n4_
                     have HO202 := n5_
                     have HO205 := n6_
                     have HO208 := n7_
                     have HO_10 := n8_
                     have HO_6 := n9_
                     have HO_7 := n10_
                     have HO_9 := n11_
                     have HB := n12_
                     clear n0_ n1_ n2_ n3_ n4_ n5_ n6_ n7_ n8_ n9_ n10_ n11_ n12_
                     have hHeld := trivial
                     refine norm_ (a' := ?_) ?_ ?_
                     rotate_left
                     ·simp only [putAll, Act.put, List.setIfInBounds_toArray, List.set_cons_zero, List.set_cons_succ]
                      rfl
                     refine two_ (i := 18) (j := 20) (Ni := some 78) (Nj := some 80) #[true, true, true, true, true, true, true, true, true, true, true, true, true, true, true, true, true, true, true, true, false, false, false, false, false, false, false, false, false, false, false, false, false, false, false, false, false, false] #[true, true, true, true, true, true, true, true, true, true, true, true, true, true, true, true, true, true, false, true, true, false, false, false, false, false, false, false, false, false, false, false, false, false, false, false, false, false] rfl rfl rfl rfl (two_of HT_.out (by kernel_rfl)) (by decide) (by decide) (fun K hK => ?_) (fun K hK => ?_)
                     ·skip
                      have hcv67 := Spot.str_V (P := Tryz.prog) Tryz.underlying22 Tryz.underlying5 Tryz.underlying9 HO208.out
                      refine value_ (w1 := ?_) (v := ?_) (by rfl) rfl ?_ ?_
                      rotate_left 2
                      ·go_simp
                       constructor
                       ·rfl
                       ·rfl
                      clear hcv67
                      refine hK.out _ _ trivial (fun hHeld => ?_)
                      clear hK K
                      refine norm_ (a' := ?_) ?_ ?_
                      rotate_left
                      ·show Act.put _ (some 78) _ = _
                       simp only [Act.put, List.setIfInBounds_toArray, List.set_cons_zero, List.set_cons_succ, i64_w, i32_w]
                       rfl
                      exact norm_ (by simp only [putAll, Act.put, List.setIfInBounds_toArray, List.set_cons_zero, List.set_cons_succ, c43b0]; try rfl) (hJ3_4_7_10_16_17_18 (v196, v204, v207) _ ⟨HO174.out, HO187.out, HO192.out, HO194.out, HO197.out, HO202.out, HO205.out, HO208.out, HO_10.out, HO_6.out, HO_7.out, HO_9.out, HB.out⟩)
                     ·skip
                      refine goes_ Tryz.func27 (by kernel_rfl) rfl #[.slice Ao55 x10_2.length co55] (by rfl) rfl rfl (by (try simp only [List.map_toArray, List.map_cons, List.map_nil]); first | done | rfl | (simp only [List.length_drop, List.length_take]; rfl)) ?_
                      with_reducible refine (reply_Array.calls _ _ x10_2 t209 _ ?side1 ?side2 ?side3 ?side4 A46.out).mono ?_
                      (case side1 => repeat (first | exact (Kd.N_reads' HO_10.out).2.2 | (with_reducible refine Kd.C_alloc ?_ _) | (with_reducible refine Kd.C_drewN ?_ _) | (with_reducible refine Kd.C_drew ?_)))
                      (case side2 => exact (Kd.N_reads' HO_10.out).2.1)
                      (case side3 => exact Spot.spot_N HO_10.out)
                      (case side4 => exact Tryz.Ln.tabs_below HT0.out HB.out)
                      rintro e w67 ⟨v210, rfl, ho0, hb⟩
                      refine ⟨_, rfl, ?_⟩
                      have n0_ := Aside0.mk (Kd.N_below HO_6.out hb)
                      have n1_ := Aside0.mk (Kd.R_below HO_7.out hb)
                      have n2_ := Aside0.mk (Kd.V_below HO_9.out hb)
                      have n3_ := Aside0.mk (Kd.N_below HO_10.out hb)
                      have n4_ := Aside0.mk (Kd.R_below HO174.out hb)
                      have n5_ := Aside0.mk (Kd.V_below HO187.out hb)
                      have n6_ := Aside0.mk (Kd.R_below HO192.out hb)
                      have n7_ := Aside0.mk (Kd.R_below HO194.out hb)
                      have n8_ := Aside0.mk (Kd.V_below HO202.out hb)
                      have n9_ := Aside0.mk (Kd.V_below HO197.out hb)
                      have n10_ := Aside0.mk (Kd.R_below HO205.out hb)
                      have n11_ := Aside0.mk (Kd.V_below HO208.out hb)
                      have n12_ := Aside0.mk (Kd.V_lower (Kd.V_mono (ok' := fun k_ => nb k_ (.slice Ao18 t156.length co18) ∧ nb k_ u7 ∧ nb k_ (.slice Ao55 x10_2.length co55) ∧ nb k_ (.slice Ao51 t172.length co51) ∧ nb k_ v191 ∧ nb k_ v193 ∧ nb k_ v204) ho0 (fun k_ hk_ => ⟨(Kd.fresh' (Kd.N_lt HO_6.out) k_ hk_), (Kd.fresh' (Kd.R_lt HO_7.out) k_ hk_), (Kd.fresh' (Kd.N_lt HO_10.out) k_ hk_), (Kd.fresh' (Kd.R_lt HO174.out) k_ hk_), (Kd.fresh' (Kd.R_lt HO192.out) k_ hk_), (Kd.fresh' (Kd.R_lt HO194.out) k_ hk_), (Kd.fresh' (Kd.R_lt HO205.out) k_ hk_)⟩)) (below_size HB.out))
                      have n13_ := Aside0.mk (below_step HB.out hb)
                      clear HO_6
                      clear HO_7
                      clear HO_9
                      clear HO_10
                      clear HO174
                      clear HO187
                      clear HO192
                      clear HO194
                      clear HO202
                      clear HO197
                      clear HO205
                      clear HO208
                      clear HB
                      have HO_6 := n0_
                      have HO_7 := n1_
                      have HO_9 := n2_
                      have HO_10 := n3_
                      have HO174 := n4_
                      have HO187 := n5_
                      have HO192 := n6_
                      have HO194 := n7_
                      have HO202 := n8_
                      have HO197 := n9_
                      have HO205 := n10_
                      have HO208 := n11_
                      have HO211 := n12_
                      have HB := n13_
                      clear n0_ n1_ n2_ n3_ n4_ n5_ n6_ n7_ n8_ n9_ n10_ n11_ n12_ n13_
                      (try clear hb)
                      (try clear hb2)
                      (try clear hk)
                      (try clear hi)
                      (try clear ho0)
                      refine hK.out _ _ trivial (fun hHeld => ?_)
                      clear hK K
                      refine norm_ (a' := ?_) ?_ ?_
                      rotate_left
                      ·show Act.put _ (some 80) _ = _
                       simp only [Act.put, List.setIfInBounds_toArray, List.set_cons_zero, List.set_cons_succ, i64_w, i32_w]
                       rfl
                      exact norm_ (by simp only [putAll, Act.put, List.setIfInBounds_toArray, List.set_cons_zero, List.set_cons_succ, c43b0]; try rfl) (hJ3_4_7_10_16_17_20 (v196, v204, v207, v210) _ ⟨HO174.out, HO187.out, HO192.out, HO194.out, HO197.out, HO202.out, HO205.out, HO208.out, (by (with_reducible repeat (first | apply Kd.V_alloc | apply Kd.V_drewN | apply Kd.V_drew)); exact Kd.V_mono HO211.out (fun _ hk => ⟨hk.2.2.2.1, ⟨hk.2.2.2.2.1, ⟨hk.2.2.2.2.2.1, ⟨hk.2.2.2.2.2.2, ⟨hk.2.2.1, ⟨hk.1, hk.2.1⟩⟩⟩⟩⟩⟩)), HO_10.out, HO_6.out, HO_7.out, HO_9.out, HB.out⟩)
                   ·skip
                    rintro ⟨v196, v204, v207, v210⟩ w67 ⟨h0_, h1_, h2_, h3_, h4_, h5_, h6_, h7_, h8_, h9_, h10_, h11_, h12_, h13_⟩
                    have n0_ : Aside0 (Kd.R Kd.string 9 w67 w.heap.size (fun k_ => nb k_ v204) (.slice Ao51 t172.length co51) t172) := ⟨h0_⟩
                    have n1_ : Aside0 (Kd.V (Kd.int .u8) 5 w67 w.heap.size (fun k_ => nb k_ (.slice Ao51 t172.length co51) ∧ nb k_ v191 ∧ nb k_ v193 ∧ nb k_ v204 ∧ nb k_ (.slice Ao55 x10_2.length co55) ∧ nb k_ (.slice Ao18 t156.length co18) ∧ nb k_ u7) (.slice Ao53 t185.length co53) t185) := ⟨h1_⟩
                    have n2_ : Aside0 (Kd.R (Kd.int .u8) 5 w67 w.heap.size (fun k_ => nb k_ v193 ∧ nb k_ u7) v191 t188) := ⟨h2_⟩
                    have n3_ : Aside0 (Kd.R (Kd.int .u8) 5 w67 w.heap.size (fun k_ => nb k_ v191 ∧ nb k_ u7) v193 t189) := ⟨h3_⟩
                    have n4_ : Aside0 (Kd.V (Kd.int .u8) 5 w67 w.heap.size (fun k_ => nb k_ (.slice Ao51 t172.length co51) ∧ nb k_ v191 ∧ nb k_ v193 ∧ nb k_ v204 ∧ nb k_ (.slice Ao55 x10_2.length co55) ∧ nb k_ (.slice Ao18 t156.length co18) ∧ nb k_ u7) v196 t195) := ⟨h4_⟩
                    have n5_ : Aside0 (Kd.V (Kd.int .u8) 5 w67 w.heap.size (fun k_ => nb k_ (.slice Ao51 t172.length co51) ∧ nb k_ v191 ∧ nb k_ v193 ∧ nb k_ v204 ∧ nb k_ (.slice Ao55 x10_2.length co55) ∧ nb k_ (.slice Ao18 t156.length co18) ∧ nb k_ u7) (.slice A57 y198.length c57) y198) := ⟨h5_⟩
                    have n6_ : Aside0 (Kd.R Kd.string 9 w67 w.heap.size (fun k_ => nb k_ (.slice Ao51 t172.length co51)) v204 t203) := ⟨h6_⟩
                    have n7_ : Aside0 (Kd.V (Kd.int .u8) 5 w67 w.heap.size (fun k_ => nb k_ (.slice Ao51 t172.length co51) ∧ nb k_ v191 ∧ nb k_ v193 ∧ nb k_ v204 ∧ nb k_ (.slice Ao55 x10_2.length co55) ∧ nb k_ (.slice Ao18 t156.length co18) ∧ nb k_ u7) v207 t206) := ⟨h7_⟩
                    have n8_ : Aside0 (Kd.V (Kd.int .u8) 5 w67 w.heap.size (fun k_ => nb k_ (.slice Ao51 t172.length co51) ∧ nb k_ v191 ∧ nb k_ v193 ∧ nb k_ v204 ∧ nb k_ (.slice Ao55 x10_2.length co55) ∧ nb k_ (.slice Ao18 t156.length co18) ∧ nb k_ u7) v210 t209) := ⟨h8_⟩
                    have n9_ : Aside0 (Kd.N (Kd.slice 5 (Kd.int .u8)) 22 w67 w.heap.size (fun k_ => nb k_ (.slice Ao51 t172.length co51) ∧ nb k_ v191 ∧ nb k_ v193 ∧ nb k_ v204 ∧ nb k_ (.slice Ao18 t156.length co18) ∧ nb k_ u7) (.slice Ao55 x10_2.length co55) x10_2) := ⟨h9_⟩
                    have n10_ : Aside0 (Kd.N (Kd.slice 5 (Kd.int .u8)) 22 w67 w.heap.size (fun k_ => nb k_ (.slice Ao51 t172.length co51) ∧ nb k_ v191 ∧ nb k_ v193 ∧ nb k_ v204 ∧ nb k_ (.slice Ao55 x10_2.length co55) ∧ nb k_ u7) (.slice Ao18 t156.length co18) t156) := ⟨h10_⟩
                    have n11_ : Aside0 (Kd.R (Kd.int .u8) 5 w67 w.heap.size (fun k_ => nb k_ v191 ∧ nb k_ v193) u7 x7_1) := ⟨h11_⟩
                    have n12_ : Aside0 (Kd.V (Kd.int .u8) 5 w67 w.heap.size (fun k_ => nb k_ (.slice Ao51 t172.length co51) ∧ nb k_ v191 ∧ nb k_ v193 ∧ nb k_ v204 ∧ nb k_ (.slice Ao55 x10_2.length co55) ∧ nb k_ (.slice Ao18 t156.length co18) ∧ nb k_ u7) (.slice Ao58 t166.length co58) t166) := ⟨h12_⟩
                    have n13_ : Aside0 (Below w.heap.size w w67) := ⟨h13_⟩
                    clear HO_6
                    clear HO_7
                    clear HO_9
                    clear HO_10
                    clear HO174
                    clear HO187
                    clear HO192
                    clear HO194
                    clear HB
                    clear h0_ h1_ h2_ h3_ h4_ h5_ h6_ h7_ h8_ h9_ h10_ h11_ h12_ h13_
                    have HO174 := n0_
                    have HO187 := n1_
                    have HO192 := n2_
                    have HO194 := n3_
                    have HO197 := n4_
                    have HO202 := n5_
                    have HO205 := n6_
                    have HO208 := n7_
                    have HO211 := n8_
                    have HO_10 := n9_
                    have HO_6 := n10_
                    have HO_7 := n11_
                    have HO_9 := n12_
                    have HB := n13_
                    clear n0_ n1_ n2_ n3_ n4_ n5_ n6_ n7_ n8_ n9_ n10_ n11_ n12_ n13_
                    have hHeld := trivial
                    refine norm_ (a' := ?_) ?_ ?_
                    rotate_left
                    ·simp only [putAll, Act.put, List.setIfInBounds_toArray, List.set_cons_zero, List.set_cons_succ]
                     rfl
                    refine two_ (i := 18) (j := 21) (Ni := some 78) (Nj := some 81) #[true, true, true, true, true, true, true, true, true, true, true, true, true, true, true, true, true, true, true, true, true, false, false, false, false, false, false, false, false, false, false, false, false, false, false, false, false, false] #[true, true, true, true, true, true, true, true, true, true, true, true, true, true, true, true, true, true, false, true, true, true, false, false, false, false, false, false, false, false, false, false, false, false, false, false, false, false] rfl rfl rfl rfl (two_of HT_.out (by kernel_rfl)) (by decide) (by decide) (fun K hK => ?_) (fun K hK => ?_)
                    ·skip
                     have hcv68 := Spot.str_V (P := Tryz.prog) Tryz.underlying22 Tryz.underlying5 Tryz.underlying9 HO208.out
                     refine value_ (w1 := ?_) (v := ?_) (by rfl) rfl ?_ ?_
                     rotate_left 2
                     ·go_simp
                      constructor
                      ·rfl
                      ·rfl
                     clear hcv68
                     refine hK.out _ _ trivial (fun hHeld => ?_)
                     clear hK K
                     refine norm_ (a' := ?_) ?_ ?_
                     rotate_left
                     ·show Act.put _ (some 78) _ = _
                      simp only [Act.put, List.setIfInBounds_toArray, List.set_cons_zero, List.set_cons_succ, i64_w, i32_w]
                      rfl
                     exact norm_ (by simp only [putAll, Act.put, List.setIfInBounds_toArray, List.set_cons_zero, List.set_cons_succ, c43b0]; try rfl) (hJ3_4_7_10_16_17_18_20 (v196, v204, v207, v210) _ ⟨HO174.out, HO187.out, HO192.out, HO194.out, HO197.out, HO202.out, HO205.out, HO208.out, HO211.out, HO_10.out, HO_6.out, HO_7.out, HO_9.out, HB.out⟩)
                    ·skip
                     have hcv68 := Spot.str_V (P := Tryz.prog) Tryz.underlying22 Tryz.underlying5 Tryz.underlying9 HO211.out
                     refine value_ (w1 := ?_) (v := ?_) (by rfl) rfl ?_ ?_
                     rotate_left 2
                     ·go_simp
                      constructor
                      ·rfl
                      ·rfl
                     clear hcv68
                     refine hK.out _ _ trivial (fun hHeld => ?_)
                     clear hK K
                     refine norm_ (a' := ?_) ?_ ?_
                     rotate_left
                     ·show Act.put _ (some 81) _ = _
                      simp only [Act.put, List.setIfInBounds_toArray, List.set_cons_zero, List.set_cons_succ, i64_w, i32_w]
                      rfl
                     exact norm_ (by simp only [putAll, Act.put, List.setIfInBounds_toArray, List.set_cons_zero, List.set_cons_succ, c43b0]; try rfl) (hJ3_4_7_10_16_17_20_21 (v196, v204, v207, v210) _ ⟨HO174.out, HO187.out, HO192.out, HO194.out, HO197.out, HO202.out, HO205.out, HO208.out, HO211.out, HO_10.out, HO_6.out, HO_7.out, HO_9.out, HB.out⟩)
                  ·skip
                   rintro ⟨v196, v204, v207⟩ w67 ⟨h0_, h1_, h2_, h3_, h4_, h5_, h6_, h7_, h8_, h9_, h10_, h11_, h12_⟩
                   have n0_ : Aside0 (Kd.R Kd.string 9 w67 w.heap.size (fun k_ => nb k_ v204) (.slice Ao51 t172.length co51) t172) := ⟨h0_⟩
                   have n1_ : Aside0 (Kd.V (Kd.int .u8) 5 w67 w.heap.size (fun k_ => nb k_ (.slice Ao51 t172.length co51) ∧ nb k_ v191 ∧ nb k_ v193 ∧ nb k_ v204 ∧ nb k_ (.slice Ao55 x10_2.length co55) ∧ nb k_ (.slice Ao18 t156.length co18) ∧ nb k_ u7) (.slice Ao53 t185.length co53) t185) := ⟨h1_⟩
                   have n2_ : Aside0 (Kd.R (Kd.int .u8) 5 w67 w.heap.size (fun k_ => nb k_ v193 ∧ nb k_ u7) v191 t188) := ⟨h2_⟩
                   have n3_ : Aside0 (Kd.R (Kd.int .u8) 5 w67 w.heap.size (fun k_ => nb k_ v191 ∧ nb k_ u7) v193 t189) := ⟨h3_⟩
                   have n4_ : Aside0 (Kd.V (Kd.int .u8) 5 w67 w.heap.size (fun k_ => nb k_ (.slice Ao51 t172.length co51) ∧ nb k_ v191 ∧ nb k_ v193 ∧ nb k_ v204 ∧ nb k_ (.slice Ao55 x10_2.length co55) ∧ nb k_ (.slice Ao18 t156.length co18) ∧ nb k_ u7) v196 t195) := ⟨h4_⟩
                   have n5_ : Aside0 (Kd.V (Kd.int .u8) 5 w67 w.heap.size (fun k_ => nb k_ (.slice Ao51 t172.length co51) ∧ nb k_ v191 ∧ nb k_ v193 ∧ nb k_ v204 ∧ nb k_ (.slice Ao55 x10_2.length co55) ∧ nb k_ (.slice Ao18 t156.length co18) ∧ nb k_ u7) (.slice A57 y198.length c57) y198) := ⟨h5_⟩
                   have n6_ : Aside0 (Kd.R Kd.string 9 w67 w.heap.size (fun k_ => nb k_ (.slice Ao51 t172.length co51)) v204 t203) := ⟨h6_⟩
                   have n7_ : Aside0 (Kd.V (Kd.int .u8) 5 w67 w.heap.size (fun k_ => nb k_ (.slice Ao51 t172.length co51) ∧ nb k_ v191 ∧ nb k_ v193 ∧ nb k_ v204 ∧ nb k_ (.slice Ao55 x10_2.length co55) ∧ nb k_ (.slice Ao18 t156.length co18) ∧ nb k_ u7) v207 t206) := ⟨h7_⟩
                   have n8_ : Aside0 (Kd.N (Kd.slice 5 (Kd.int .u8)) 22 w67 w.heap.size (fun k_ => nb k_ (.slice Ao51 t172.length co51) ∧ nb k_ v191 ∧ nb k_ v193 ∧ nb k_ v204 ∧ nb k_ (.slice Ao18 t156.length co18) ∧ nb k_ u7) (.slice Ao55 x10_2.length co55) x10_2) := ⟨h8_⟩
                   have n9_ : Aside0 (Kd.N (Kd.slice 5 (Kd.int .u8)) 22 w67 w.heap.size (fun k_ => nb k_ (.slice Ao51 t172.length co51) ∧ nb k_ v191 ∧ nb k_ v193 ∧ nb k_ v204 ∧ nb k_ (.slice Ao55 x10_2.length co55) ∧ nb k_ u7) (.slice Ao18 t156.length co18) t156) := ⟨h9_⟩
                   have n10_ : Aside0 (Kd.R (Kd.int .u8) 5 w67 w.heap.size (fun k_ => nb k_ v191 ∧ nb k_ v193) u7 x7_1) := ⟨h10_⟩
                   have n11_ : Aside0 (Kd.V (Kd.int .u8) 5 w67 w.heap.size (fun k_ => nb k_ (.slice Ao51 t172.length co51) ∧ nb k_ v191 ∧ nb k_ v193 ∧ nb k_ v204 ∧ nb k_ (.slice Ao55 x10_2.length co55) ∧ nb k_ (.slice Ao18 t156.length co18) ∧ nb k_ u7) (.slice Ao58 t166.length co58) t166) := ⟨h11_⟩
                   have n12_ : Aside0 (Below w.heap.size w w67) := ⟨h12_⟩
                   clear HO_6
                   clear HO_7
                   clear HO_9
                   clear HO_10
                   clear HO174
                   clear HO187
                   clear HO192
                   clear HO194
                   clear HB
                   clear h0_ h1_ h2_ h3_ h4_ h5_ h6_ h7_ h8_ h9_ h10_ h11_ h12_
                   have HO174 := n0_
                   have HO187 := n1_
                   have HO192 := n2_
                   have HO194 := n3_
                   have HO197 := n4_
                   have HO202 := n5_
                   have HO205 := n6_
                   have HO208 := n7_
                   have HO_10 := n8_
                   have HO_6 := n9_
                   have HO_7 := n10_
                   have HO_9 := n11_
                   have HB := n12_
                   clear n0_ n1_ n2_ n3_ n4_ n5_ n6_ n7_ n8_ n9_ n10_ n11_ n12_
                   have hHeld := trivial
                   refine norm_ (a' := ?_) ?_ ?_
                   rotate_left
                   ·simp only [putAll, Act.put, List.setIfInBounds_toArray, List.set_cons_zero, List.set_cons_succ]
                    rfl
                   refine one_ (i := 20) (N := some 80) #[true, true, true, true, true, true, true, true, true, true, true, true, true, true, true, true, true, true, true, true, true, false, false, false, false, false, false, false, false, false, false, false, false, false, false, false, false, false] rfl rfl (one_of HT_.out (by kernel_rfl)) (by decide) (fun K hK => ?_)
                   refine goes_ Tryz.func27 (by kernel_rfl) rfl #[.slice Ao55 x10_2.length co55] (by rfl) rfl rfl (by (try simp only [List.map_toArray, List.map_cons, List.map_nil]); first | done | rfl | (simp only [List.length_drop, List.length_take]; rfl)) ?_
                   with_reducible refine (reply_Array.calls _ _ x10_2 t209 _ ?side1 ?side2 ?side3 ?side4 A46.out).mono ?_
                   (case side1 => repeat (first | exact (Kd.N_reads' HO_10.out).2.2 | (with_reducible refine Kd.C_alloc ?_ _) | (with_reducible refine Kd.C_drewN ?_ _) | (with_reducible refine Kd.C_drew ?_)))
                   (case side2 => exact (Kd.N_reads' HO_10.out).2.1)
                   (case side3 => exact Spot.spot_N HO_10.out)
                   (case side4 => exact Tryz.Ln.tabs_below HT0.out HB.out)
                   rintro e w68 ⟨v210, rfl, ho0, hb⟩
                   refine ⟨_, rfl, ?_⟩
                   have n0_ := Aside0.mk (Kd.N_below HO_6.out hb)
                   have n1_ := Aside0.mk (Kd.R_below HO_7.out hb)
                   have n2_ := Aside0.mk (Kd.V_below HO_9.out hb)
                   have n3_ := Aside0.mk (Kd.N_below HO_10.out hb)
                   have n4_ := Aside0.mk (Kd.R_below HO174.out hb)
                   have n5_ := Aside0.mk (Kd.V_below HO187.out hb)
                   have n6_ := Aside0.mk (Kd.R_below HO192.out hb)
                   have n7_ := Aside0.mk (Kd.R_below HO194.out hb)
                   have n8_ := Aside0.mk (Kd.V_below HO202.out hb)
                   have n9_ := Aside0.mk (Kd.V_below HO197.out hb)
                   have n10_ := Aside0.mk (Kd.R_below HO205.out hb)
                   have n11_ := Aside0.mk (Kd.V_below HO208.out hb)
                   have n12_ := Aside0.mk (Kd.V_lower (Kd.V_mono (ok' := fun k_ => nb k_ (.slice Ao18 t156.length co18) ∧ nb k_ u7 ∧ nb k_ (.slice Ao55 x10_2.length co55) ∧ nb k_ (.slice Ao51 t172.length co51) ∧ nb k_ v191 ∧ nb k_ v193 ∧ nb k_ v204) ho0 (fun k_ hk_ => ⟨(Kd.fresh' (Kd.N_lt HO_6.out) k_ hk_), (Kd.fresh' (Kd.R_lt HO_7.out) k_ hk_), (Kd.fresh' (Kd.N_lt HO_10.out) k_ hk_), (Kd.fresh' (Kd.R_lt HO174.out) k_ hk_), (Kd.fresh' (Kd.R_lt HO192.out) k_ hk_), (Kd.fresh' (Kd.R_lt HO194.out) k_ hk_), (Kd.fresh' (Kd.R_lt HO205.out) k_ hk_)⟩)) (below_size HB.out))
                   have n13_ := Aside0.mk (below_step HB.out hb)
                   clear HO_6
                   clear HO_7
                   clear HO_9
                   clear HO_10
                   clear HO174
                   clear HO187
                   clear HO192
                   clear HO194
                   clear HO202
                   clear HO197
                   clear HO205
                   clear HO208
                   clear HB
                   have HO_6 := n0_
                   have HO_7 := n1_
                   have HO_9 := n2_
                   have HO_10 := n3_
                   have HO174 := n4_
                   have HO187 := n5_
                   have HO192 := n6_
                   have HO194 := n7_
                   have HO202 := n8_
                   have HO197 := n9_
                   have HO205 := n10_
                   have HO208 := n11_
                   have HO211 := n12_
                   have HB := n13_
                   clear n0_ n1_ n2_ n3_ n4_ n5_ n6_ n7_ n8_ n9_ n10_ n11_ n12_ n13_
                   (try clear hb)
                   (try clear hb2)
                   (try clear hk)
                   (try clear hi)
                   (try clear ho0)
                   refine hK.out _ _ trivial (fun hHeld => ?_)
                   clear hK K
                   refine norm_ (a' := ?_) ?_ ?_
                   rotate_left
                   ·show Act.put _ (some 80) _ = _
                    simp only [Act.put, List.setIfInBounds_toArray, List.set_cons_zero, List.set_cons_succ, i64_w, i32_w]
                    rfl
                   exact norm_ (by simp only [putAll, Act.put, List.setIfInBounds_toArray, List.set_cons_zero, List.set_cons_succ, c43b0]; try rfl) (hJ3_4_7_10_16_17_18_20 (v196, v204, v207, v210) _ ⟨HO174.out, HO187.out, HO192.out, HO194.out, HO197.out, HO202.out, HO205.out, HO208.out, (by (with_reducible repeat (first | apply Kd.V_alloc | apply Kd.V_drewN | apply Kd.V_drew)); exact Kd.V_mono HO211.out (fun _ hk => ⟨hk.2.2.2.1, ⟨hk.2.2.2.2.1, ⟨hk.2.2.2.2.2.1, ⟨hk.2.2.2.2.2.2, ⟨hk.2.2.1, ⟨hk.1, hk.2.1⟩⟩⟩⟩⟩⟩)), HO_10.out, HO_6.out, HO_7.out, HO_9.out, HB.out⟩)
                 ·skip
                  rintro ⟨v196, v204, v207, v210⟩ w68 ⟨h0_, h1_, h2_, h3_, h4_, h5_, h6_, h7_, h8_, h9_, h10_, h11_, h12_, h13_⟩
                  have n0_ : Aside0 (Kd.R Kd.string 9 w68 w.heap.size (fun k_ => nb k_ v204) (.slice Ao51 t172.length co51) t172) := ⟨h0_⟩
                  have n1_ : Aside0 (Kd.V (Kd.int .u8) 5 w68 w.heap.size (fun k_ => nb k_ (.slice Ao51 t172.length co51) ∧ nb k_ v191 ∧ nb k_ v193 ∧ nb k_ v204 ∧ nb k_ (.slice Ao55 x10_2.length co55) ∧ nb k_ (.slice Ao18 t156.length co18) ∧ nb k_ u7) (.slice Ao53 t185.length co53) t185) := ⟨h1_⟩
                  have n2_ : Aside0 (Kd.R (Kd.int .u8) 5 w68 w.heap.size (fun k_ => nb k_ v193 ∧ nb k_ u7) v191 t188) := ⟨h2_⟩
                  have n3_ : Aside0 (Kd.R (Kd.int .u8) 5 w68 w.heap.size (fun k_ => nb k_ v191 ∧ nb k_ u7) v193 t189) := ⟨h3_⟩
                  have n4_ : Aside0 (Kd.V (Kd.int .u8) 5 w68 w.heap.size (fun k_ => nb k_ (.slice Ao51 t172.length co51) ∧ nb k_ v191 ∧ nb k_ v193 ∧ nb k_ v204 ∧ nb k_ (.slice Ao55 x10_2.length co55) ∧ nb k_ (.slice Ao18 t156.length co18) ∧ nb k_ u7) v196 t195) := ⟨h4_⟩
                  have n5_ : Aside0 (Kd.V (Kd.int .u8) 5 w68 w.heap.size (fun k_ => nb k_ (.slice Ao51 t172.length co51) ∧ nb k_ v191 ∧ nb k_ v193 ∧ nb k_ v204 ∧ nb k_ (.slice Ao55 x10_2.length co55) ∧ nb k_ (.slice Ao18 t156.length co18) ∧ nb k_ u7) (.slice A57 y198.length c57) y198) := ⟨h5_⟩
                  have n6_ : Aside0 (Kd.R Kd.string 9 w68 w.heap.size (fun k_ => nb k_ (.slice Ao51 t172.length co51)) v204 t203) := ⟨h6_⟩
                  have n7_ : Aside0 (Kd.V (Kd.int .u8) 5 w68 w.heap.size (fun k_ => nb k_ (.slice Ao51 t172.length co51) ∧ nb k_ v191 ∧ nb k_ v193 ∧ nb k_ v204 ∧ nb k_ (.slice Ao55 x10_2.length co55) ∧ nb k_ (.slice Ao18 t156.length co18) ∧ nb k_ u7) v207 t206) := ⟨h7_⟩
                  have n8_ : Aside0 (Kd.V (Kd.int .u8) 5 w68 w.heap.size (fun k_ => nb k_ (.slice Ao51 t172.length co51) ∧ nb k_ v191 ∧ nb k_ v193 ∧ nb k_ v204 ∧ nb k_ (.slice Ao55 x10_2.length co55) ∧ nb k_ (.slice Ao18 t156.length co18) ∧ nb k_ u7) v210 t209) := ⟨h8_⟩
                  have n9_ : Aside0 (Kd.N (Kd.slice 5 (Kd.int .u8)) 22 w68 w.heap.size (fun k_ => nb k_ (.slice Ao51 t172.length co51) ∧ nb k_ v191 ∧ nb k_ v193 ∧ nb k_ v204 ∧ nb k_ (.slice Ao18 t156.length co18) ∧ nb k_ u7) (.slice Ao55 x10_2.length co55) x10_2) := ⟨h9_⟩
                  have n10_ : Aside0 (Kd.N (Kd.slice 5 (Kd.int .u8)) 22 w68 w.heap.size (fun k_ => nb k_ (.slice Ao51 t172.length co51) ∧ nb k_ v191 ∧ nb k_ v193 ∧ nb k_ v204 ∧ nb k_ (.slice Ao55 x10_2.length co55) ∧ nb k_ u7) (.slice Ao18 t156.length co18) t156) := ⟨h10_⟩
                  have n11_ : Aside0 (Kd.R (Kd.int .u8) 5 w68 w.heap.size (fun k_ => nb k_ v191 ∧ nb k_ v193) u7 x7_1) := ⟨h11_⟩
                  have n12_ : Aside0 (Kd.V (Kd.int .u8) 5 w68 w.heap.size (fun k_ => nb k_ (.slice Ao51 t172.length co51) ∧ nb k_ v191 ∧ nb k_ v193 ∧ nb k_ v204 ∧ nb k_ (.slice Ao55 x10_2.length co55) ∧ nb k_ (.slice Ao18 t156.length co18) ∧ nb k_ u7) (.slice Ao58 t166.length co58) t166) := ⟨h12_⟩
                  have n13_ : Aside0 (Below w.heap.size w w68) := ⟨h13_⟩
                  clear HO_6
                  clear HO_7
                  clear HO_9
                  clear HO_10
                  clear HO174
                  clear HO187
                  clear HO192
                  clear HO194
                  clear HB
                  clear h0_ h1_ h2_ h3_ h4_ h5_ h6_ h7_ h8_ h9_ h10_ h11_ h12_ h13_
                  have HO174 := n0_
                  have HO187 := n1_
                  have HO192 := n2_
                  have HO194 := n3_
                  have HO197 := n4_
                  have HO202 := n5_
                  have HO205 := n6_
                  have HO208 := n7_
                  have HO211 := n8_
                  have HO_10 := n9_
                  have HO_6 := n10_
                  have HO_7 := n11_
                  have HO_9 := n12_
                  have HB := n13_
                  clear n0_ n1_ n2_ n3_ n4_ n5_ n6_ n7_ n8_ n9_ n10_ n11_ n12_ n13_
                  have hHeld := trivial
                  refine norm_ (a' := ?_) ?_ ?_
                  rotate_left
                  ·simp only [putAll, Act.put, List.setIfInBounds_toArray, List.set_cons_zero, List.set_cons_succ]
                   rfl
                  refine one_ (i := 18) (N := some 78) #[true, true, true, true, true, true, true, true, true, true, true, true, true, true, true, true, true, true, true, true, true, true, false, false, false, false, false, false, false, false, false, false, false, false, false, false, false, false] rfl rfl (one_of HT_.out (by kernel_rfl)) (by decide) (fun K hK => ?_)
                  have hcv69 := Spot.str_V (P := Tryz.prog) Tryz.underlying22 Tryz.underlying5 Tryz.underlying9 HO208.out
                  refine value_ (w1 := ?_) (v := ?_) (by rfl) rfl ?_ ?_
                  rotate_left 2
                  ·go_simp
                   constructor
                   ·rfl
                   ·rfl
                  clear hcv69
                  refine hK.out _ _ trivial (fun hHeld => ?_)
                  clear hK K
                  refine norm_ (a' := ?_) ?_ ?_
                  rotate_left
                  ·show Act.put _ (some 78) _ = _
                   simp only [Act.put, List.setIfInBounds_toArray, List.set_cons_zero, List.set_cons_succ, i64_w, i32_w]
                   rfl
                  exact norm_ (by simp only [putAll, Act.put, List.setIfInBounds_toArray, List.set_cons_zero, List.set_cons_succ, c43b0]; try rfl) (hJ3_4_7_10_16_17_18_20_21 (v196, v204, v207, v210) _ ⟨HO174.out, HO187.out, HO192.out, HO194.out, HO197.out, HO202.out, HO205.out, HO208.out, HO211.out, HO_10.out, HO_6.out, HO_7.out, HO_9.out, HB.out⟩)
                ·skip
                 rintro ⟨v196, v204, v207, v210⟩ w68 ⟨h0_, h1_, h2_, h3_, h4_, h5_, h6_, h7_, h8_, h9_, h10_, h11_, h12_, h13_⟩
                 have n0_ : Aside0 (Kd.R Kd.string 9 w68 w.heap.size (fun k_ => nb k_ v204) (.slice Ao51 t172.length co51) t172) := ⟨h0_⟩
                 have n1_ : Aside0 (Kd.V (Kd.int .u8) 5 w68 w.heap.size (fun k_ => nb k_ (.slice Ao51 t172.length co51) ∧ nb k_ v191 ∧ nb k_ v193 ∧ nb k_ v204 ∧ nb k_ (.slice Ao55 x10_2.length co55) ∧ nb k_ (.slice Ao18 t156.length co18) ∧ nb k_ u7) (.slice Ao53 t185.length co53) t185) := ⟨h1_⟩
                 have n2_ : Aside0 (Kd.R (Kd.int .u8) 5 w68 w.heap.size (fun k_ => nb k_ v193 ∧ nb k_ u7) v191 t188) := ⟨h2_⟩
                 have n3_ : Aside0 (Kd.R (Kd.int .u8) 5 w68 w.heap.size (fun k_ => nb k_ v191 ∧ nb k_ u7) v193 t189) := ⟨h3_⟩
                 have n4_ : Aside0 (Kd.V (Kd.int .u8) 5 w68 w.heap.size (fun k_ => nb k_ (.slice Ao51 t172.length co51) ∧ nb k_ v191 ∧ nb k_ v193 ∧ nb k_ v204 ∧ nb k_ (.slice Ao55 x10_2.length co55) ∧ nb k_ (.slice Ao18 t156.length co18) ∧ nb k_ u7) v196 t195) := ⟨h4_⟩
                 have n5_ : Aside0 (Kd.V (Kd.int .u8) 5 w68 w.heap.size (fun k_ => nb k_ (.slice Ao51 t172.length co51) ∧ nb k_ v191 ∧ nb k_ v193 ∧ nb k_ v204 ∧ nb k_ (.slice Ao55 x10_2.length co55) ∧ nb k_ (.slice Ao18 t156.length co18) ∧ nb k_ u7) (.slice A57 y198.length c57) y198) := ⟨h5_⟩
                 have n6_ : Aside0 (Kd.R Kd.string 9 w68 w.heap.size (fun k_ => nb k_ (.slice Ao51 t172.length co51)) v204 t203) := ⟨h6_⟩
                 have n7_ : Aside0 (Kd.V (Kd.int .u8) 5 w68 w.heap.size (fun k_ => nb k_ (.slice Ao51 t172.length co51) ∧ nb k_ v191 ∧ nb k_ v193 ∧ nb k_ v204 ∧ nb k_ (.slice Ao55 x10_2.length co55) ∧ nb k_ (.slice Ao18 t156.length co18) ∧ nb k_ u7) v207 t206) := ⟨h7_⟩
                 have n8_ : Aside0 (Kd.V (Kd.int .u8) 5 w68 w.heap.size (fun k_ => nb k_ (.slice Ao51 t172.length co51) ∧ nb k_ v191 ∧ nb k_ v193 ∧ nb k_ v204 ∧ nb k_ (.slice Ao55 x10_2.length co55) ∧ nb k_ (.slice Ao18 t156.length co18) ∧ nb k_ u7) v210 t209) := ⟨h8_⟩
                 have n9_ : Aside0 (Kd.N (Kd.slice 5 (Kd.int .u8)) 22 w68 w.heap.size (fun k_ => nb k_ (.slice Ao51 t172.length co51) ∧ nb k_ v191 ∧ nb k_ v193 ∧ nb k_ v204 ∧ nb k_ (.slice Ao18 t156.length co18) ∧ nb k_ u7) (.slice Ao55 x10_2.length co55) x10_2) := ⟨h9_⟩
                 have n10_ : Aside0 (Kd.N (Kd.slice 5 (Kd.int .u8)) 22 w68 w.heap.size (fun k_ => nb k_ (.slice Ao51 t172.length co51) ∧ nb k_ v191 ∧ nb k_ v193 ∧ nb k_ v204 ∧ nb k_ (.slice Ao55 x10_2.length co55) ∧ nb k_ u7) (.slice Ao18 t156.length co18) t156) := ⟨h10_⟩
                 have n11_ : Aside0 (Kd.R (Kd.int .u8) 5 w68 w.heap.size (fun k_ => nb k_ v191 ∧ nb k_ v193) u7 x7_1) := ⟨h11_⟩
                 have n12_ : Aside0 (Kd.V (Kd.int .u8) 5 w68 w.heap.size (fun k_ => nb k_ (.slice Ao51 t172.length co51) ∧ nb k_ v191 ∧ nb k_ v193 ∧ nb k_ v204 ∧ nb k_ (.slice Ao55 x10_2.length co55) ∧ nb k_ (.slice Ao18 t156.length co18) ∧ nb k_ u7) (.slice Ao58 t166.length co58) t166) := ⟨h12_⟩
                 have n13_ : Aside0 (Below w.heap.size w w68) := ⟨h13_⟩
                 clear HO_6
                 clear HO_7
                 clear HO_9
                 clear HO_10
                 clear HO174
                 clear HO187
                 clear HO192
                 clear HO194
                 clear HB
                 clear h0_ h1_ h2_ h3_ h4_ h5_ h6_ h7_ h8_ h9_ h10_ h11_ h12_ h13_
                 have HO174 := n0_
                 have HO187 := n1_
                 have HO192 := n2_
                 have HO194 := n3_
                 have HO197 := n4_
                 have HO202 := n5_
                 have HO205 := n6_
                 have HO208 := n7_
                 have HO211 := n8_
                 have HO_10 := n9_
                 have HO_6 := n10_
                 have HO_7 := n11_
                 have HO_9 := n12_
                 have HB := n13_
                 clear n0_ n1_ n2_ n3_ n4_ n5_ n6_ n7_ n8_ n9_ n10_ n11_ n12_ n13_
                 have hHeld := trivial
                 refine norm_ (a' := ?_) ?_ ?_
                 rotate_left
                 ·simp only [putAll, Act.put, List.setIfInBounds_toArray, List.set_cons_zero, List.set_cons_succ]
                  rfl
                 refine one_ (i := 21) (N := some 81) #[true, true, true, true, true, true, true, true, true, true, true, true, true, true, true, true, true, true, true, true, true, true, false, false, false, false, false, false, false, false, false, false, false, false, false, false, false, false] rfl rfl (one_of HT_.out (by kernel_rfl)) (by decide) (fun K hK => ?_)
                 have hcv69 := Spot.str_V (P := Tryz.prog) Tryz.underlying22 Tryz.underlying5 Tryz.underlying9 HO211.out
                 refine value_ (w1 := ?_) (v := ?_) (by rfl) rfl ?_ ?_
                 rotate_left 2
                 ·go_simp
                  constructor
                  ·rfl
                  ·rfl
                 clear hcv69
                 refine hK.out _ _ trivial (fun hHeld => ?_)
                 clear hK K
                 refine norm_ (a' := ?_) ?_ ?_
                 rotate_left
                 ·show Act.put _ (some 81) _ = _
                  simp only [Act.put, List.setIfInBounds_toArray, List.set_cons_zero, List.set_cons_succ, i64_w, i32_w]
                  rfl
                 exact norm_ (by simp only [putAll, Act.put, List.setIfInBounds_toArray, List.set_cons_zero, List.set_cons_succ, c43b0]; try rfl) (hJ3_4_7_10_16_17_18_20_21 (v196, v204, v207, v210) _ ⟨HO174.out, HO187.out, HO192.out, HO194.out, HO197.out, HO202.out, HO205.out, HO208.out, HO211.out, HO_10.out, HO_6.out, HO_7.out, HO_9.out, HB.out⟩)
               rintro ⟨v196, v204, v207, v210⟩ w69 ⟨h0_, h1_, h2_, h3_, h4_, h5_, h6_, h7_, h8_, h9_, h10_, h11_, h12_, h13_⟩
               have n0_ : Aside0 (Kd.R Kd.string 9 w69 w.heap.size (fun k_ => nb k_ v204) (.slice Ao51 t172.length co51) t172) := ⟨h0_⟩
               have n1_ : Aside0 (Kd.V (Kd.int .u8) 5 w69 w.heap.size (fun k_ => nb k_ (.slice Ao51 t172.length co51) ∧ nb k_ v191 ∧ nb k_ v193 ∧ nb k_ v204 ∧ nb k_ (.slice Ao55 x10_2.length co55) ∧ nb k_ (.slice Ao18 t156.length co18) ∧ nb k_ u7) (.slice Ao53 t185.length co53) t185) := ⟨h1_⟩
               have n2_ : Aside0 (Kd.R (Kd.int .u8) 5 w69 w.heap.size (fun k_ => nb k_ v193 ∧ nb k_ u7) v191 t188) := ⟨h2_⟩
               have n3_ : Aside0 (Kd.R (Kd.int .u8) 5 w69 w.heap.size (fun k_ => nb k_ v191 ∧ nb k_ u7) v193 t189) := ⟨h3_⟩
               have n4_ : Aside0 (Kd.V (Kd.int .u8) 5 w69 w.heap.size (fun k_ => nb k_ (.slice Ao51 t172.length co51) ∧ nb k_ v191 ∧ nb k_ v193 ∧ nb k_ v204 ∧ nb k_ (.slice Ao55 x10_2.length co55) ∧ nb k_ (.slice Ao18 t156.length co18) ∧ nb k_ u7) v196 t195) := ⟨h4_⟩
               have n5_ : Aside0 (Kd.V (Kd.int .u8) 5 w69 w.heap.size (fun k_ => nb k_ (.slice Ao51 t172.length co51) ∧ nb k_ v191 ∧ nb k_ v193 ∧ nb k_ v204 ∧ nb k_ (.slice Ao55 x10_2.length co55) ∧ nb k_ (.slice Ao18 t156.length co18) ∧ nb k_ u7) (.slice A57 y198.length c57) y198) := ⟨h5_⟩
               have n6_ : Aside0 (Kd.R Kd.string 9 w69 w.heap.size (fun k_ => nb k_ (.slice Ao51 t172.length co51)) v204 t203) := ⟨h6_⟩
               have n7_ : Aside0 (Kd.V (Kd.int .u8) 5 w69 w.heap.size (fun k_ => nb k_ (.slice Ao51 t172.length co51) ∧ nb k_ v191 ∧ nb k_ v193 ∧ nb k_ v204 ∧ nb k_ (.slice Ao55 x10_2.length co55) ∧ nb k_ (.slice Ao18 t156.length co18) ∧ nb k_ u7) v207 t206) := ⟨h7_⟩
               have n8_ : Aside0 (Kd.V (Kd.int .u8) 5 w69 w.heap.size (fun k_ => nb k_ (.slice Ao51 t172.length co51) ∧ nb k_ v191 ∧ nb k_ v193 ∧ nb k_ v204 ∧ nb k_ (.slice Ao55 x10_2.length co55) ∧ nb k_ (.slice Ao18 t156.length co18) ∧ nb k_ u7) v210 t209) := ⟨h8_⟩
               have n9_ : Aside0 (Kd.N (Kd.slice 5 (Kd.int .u8)) 22 w69 w.heap.size (fun k_ => nb k_ (.slice Ao51 t172.length co51) ∧ nb k_ v191 ∧ nb k_ v193 ∧ nb k_ v204 ∧ nb k_ (.slice Ao18 t156.length co18) ∧ nb k_ u7) (.slice Ao55 x10_2.length co55) x10_2) := ⟨h9_⟩
               have n10_ : Aside0 (Kd.N (Kd.slice 5 (Kd.int .u8)) 22 w69 w.heap.size (fun k_ => nb k_ (.slice Ao51 t172.length co51) ∧ nb k_ v191 ∧ nb k_ v193 ∧ nb k_ v204 ∧ nb k_ (.slice Ao55 x10_2.length co55) ∧ nb k_ u7) (.slice Ao18 t156.length co18) t156) := ⟨h10_⟩
               have n11_ : Aside0 (Kd.R (Kd.int .u8) 5 w69 w.heap.size (fun k_ => nb k_ v191 ∧ nb k_ v193) u7 x7_1) := ⟨h11_⟩
               have n12_ : Aside0 (Kd.V (Kd.int .u8) 5 w69 w.heap.size (fun k_ => nb k_ (.slice Ao51 t172.length co51) ∧ nb k_ v191 ∧ nb k_ v193 ∧ nb k_ v204 ∧ nb k_ (.slice Ao55 x10_2.length co55) ∧ nb k_ (.slice Ao18 t156.length co18) ∧ nb k_ u7) (.slice Ao58 t166.length co58) t166) := ⟨h12_⟩
               have n13_ : Aside0 (Below w.heap.size w w69) := ⟨h13_⟩
               clear HO_6
               clear HO_7
               clear HO_9
               clear HO_10
               clear HO174
               clear HO187
               clear HO192
               clear HO194
               clear HB
               clear h0_ h1_ h2_ h3_ h4_ h5_ h6_ h7_ h8_ h9_ h10_ h11_ h12_ h13_
               have HO174 := n0_
               have HO187 := n1_
               have HO192 := n2_
               have HO194 := n3_
               have HO197 := n4_
               have HO202 := n5_
               have HO205 := n6_
               have HO208 := n7_
               have HO211 := n8_
               have HO_10 := n9_
               have HO_6 := n10_
               have HO_7 := n11_
               have HO_9 := n12_
               have HB := n13_
               clear n0_ n1_ n2_ n3_ n4_ n5_ n6_ n7_ n8_ n9_ n10_ n11_ n12_ n13_
               have hHeld := trivial
               refine norm_ (a' := ?_) ?_ ?_
               rotate_left
               ·simp only [putAll, Act.put, List.setIfInBounds_toArray, List.set_cons_zero, List.set_cons_succ]
                rfl
               refine pure_ (i := 22) (N := some 82) (v := ?_) (a' := ?_) #[true, true, true, true, true, true, true, true, true, true, true, true, true, true, true, true, true, true, true, true, true, true, true, false, false, false, false, false, false, false, false, false, false, false, false, false, false, false] rfl rfl (any_of HT_.out (by kernel_rfl)) (fun _ _ _ h => h) (Or.inl ⟨by rfl, ?_⟩) ?_ ?_
               rotate_left
               ·intro w'
                go_simp
                with_reducible rfl
               rotate_left
               ·simp only [Act.put, List.setIfInBounds_toArray, List.set_cons_zero, List.set_cons_succ, i64_w, i32_w]
                rfl
               refine pure_ (i := 23) (N := some 83) (v := ?_) (a' := ?_) #[true, true, true, true, true, true, true, true, true, true, true, true, true, true, true, true, true, true, true, true, true, true, true, true, false, false, false, false, false, false, false, false, false, false, false, false, false, false] rfl rfl (any_of HT_.out (by kernel_rfl)) (fun _ _ _ h => h) (Or.inl ⟨by rfl, ?_⟩) ?_ ?_
               rotate_left
               ·intro w'
                go_simp
                with_reducible rfl
               rotate_left
               ·simp only [Act.put, List.setIfInBounds_toArray, List.set_cons_zero, List.set_cons_succ, i64_w, i32_w]
                rfl
               refine pure_ (i := 24) (N := some 84) (v := ?_) (a' := ?_) #[true, true, true, true, true, true, true, true, true, true, true, true, true, true, true, true, true, true, true, true, true, true, true, true, true, false, false, false, false, false, false, false, false, false, false, false, false, false] rfl rfl (any_of HT_.out (by kernel_rfl)) (fun _ _ _ h => h) (Or.inl ⟨by rfl, ?_⟩) ?_ ?_
               rotate_left
               ·intro w'
                go_simp
                with_reducible rfl
               rotate_left
               ·simp only [Act.put, List.setIfInBounds_toArray, List.set_cons_zero, List.set_cons_succ, i64_w, i32_w]
                rfl
               refine pure_ (i := 25) (N := some 85) (v := ?_) (a' := ?_) #[true, true, true, true, true, true, true, true, true, true, true, true, true, true, true, true, true, true, true, true, true, true, true, true, true, true, false, false, false, false, false, false, false, false, false, false, false, false] rfl rfl (any_of HT_.out (by kernel_rfl)) (fun _ _ _ h => h) (Or.inl ⟨by rfl, ?_⟩) ?_ ?_
               rotate_left
               ·intro w'
                go_simp
                with_reducible rfl
               rotate_left
               ·simp only [Act.put, List.setIfInBounds_toArray, List.set_cons_zero, List.set_cons_succ, i64_w, i32_w]
                rfl
               refine pure_ (i := 26) (N := some 86) (v := ?_) (a' := ?_) #[true, true, true, true, true, true, true, true, true, true, true, true, true, true, true, true, true, true, true, true, true, true, true, true, true, true, true, false, false, false, false, false, false, false, false, false, false, false] rfl rfl (any_of HT_.out (by kernel_rfl)) (fun _ _ _ h => h) (Or.inl ⟨by rfl, ?_⟩) ?_ ?_
               rotate_left
               ·intro w'
                go_simp
                with_reducible rfl
               rotate_left
               ·simp only [Act.put, List.setIfInBounds_toArray, List.set_cons_zero, List.set_cons_succ, i64_w, i32_w]
                rfl
               refine pure_ (i := 27) (N := some 87) (v := ?_) (a' := ?_) #[true, true, true, true, true, true, true, true, true, true, true, true, true, true, true, true, true, true, true, true, true, true, true, true, true, true, true, true, false, false, false, false, false, false, false, false, false, false] rfl rfl (any_of HT_.out (by kernel_rfl)) (fun _ _ _ h => h) (Or.inl ⟨by rfl, ?_⟩) ?_ ?_
               rotate_left
               ·intro w'
                go_simp
                with_reducible rfl
               rotate_left
               ·simp only [Act.put, List.setIfInBounds_toArray, List.set_cons_zero, List.set_cons_succ, i64_w, i32_w]
                rfl
               refine pure_ (i := 28) (N := some 88) (v := ?_) (a' := ?_) #[true, true, true, true, true, true, true, true, true, true, true, true, true, true, true, true, true, true, true, true, true, true, true, true, true, true, true, true, true, false, false, false, false, false, false, false, false, false] rfl rfl (any_of HT_.out (by kernel_rfl)) (fun _ _ _ h => h) (Or.inl ⟨by rfl, ?_⟩) ?_ ?_
               rotate_left
               ·intro w'
                go_simp
                with_reducible rfl
               rotate_left
               ·simp only [Act.put, List.setIfInBounds_toArray, List.set_cons_zero, List.set_cons_succ, i64_w, i32_w]
                rfl
               refine one_ (i := 29) (N := some 89) #[true, true, true, true, true, true, true, true, true, true, true, true, true, true, true, true, true, true, true, true, true, true, true, true, true, true, true, true, true, true, false, false, false, false, false, false, false, false] rfl rfl (one_of HT_.out (by kernel_rfl)) (by decide) (fun K hK => ?_)
               have hcv70 := Spot.str_R (P := Tryz.prog) Tryz.underlying22 Tryz.underlying5 Tryz.underlying9 HO192.out
               refine value_ (w1 := ?_) (v := ?_) (by rfl) rfl ?_ ?_
               rotate_left 2
               ·go_simp
                constructor
                ·rfl
                ·rfl
               clear hcv70
               refine hK.out _ _ trivial (fun hHeld => ?_)
               clear hK K
               refine norm_ (a' := ?_) ?_ ?_
               rotate_left
               ·show Act.put _ (some 89) _ = _
                simp only [Act.put, List.setIfInBounds_toArray, List.set_cons_zero, List.set_cons_succ, i64_w, i32_w]
                rfl
               refine pure_ (i := 30) (N := some 90) (v := ?_) (a' := ?_) #[true, true, true, true, true, true, true, true, true, true, true, true, true, true, true, true, true, true, true, true, true, true, true, true, true, true, true, true, true, true, true, false, false, false, false, false, false, false] rfl rfl (any_of HT_.out (by kernel_rfl)) (fun _ _ _ h => h) (Or.inl ⟨by rfl, ?_⟩) ?_ ?_
               rotate_left
               ·intro w'
                go_simp
                with_reducible rfl
               rotate_left
               ·simp only [Act.put, List.setIfInBounds_toArray, List.set_cons_zero, List.set_cons_succ, i64_w, i32_w]
                rfl
               refine pure_ (i := 31) (N := some 91) (v := ?_) (a' := ?_) #[true, true, true, true, true, true, true, true, true, true, true, true, true, true, true, true, true, true, true, true, true, true, true, true, true, true, true, true, true, true, true, true, false, false, false, false, false, false] rfl rfl (any_of HT_.out (by kernel_rfl)) (fun _ _ _ h => h) (Or.inl ⟨by rfl, ?_⟩) ?_ ?_
               rotate_left
               ·intro w'
                go_simp
                with_reducible rfl
               rotate_left
               ·simp only [Act.put, List.setIfInBounds_toArray, List.set_cons_zero, List.set_cons_succ, i64_w, i32_w]
                rfl
               refine pure_ (i := 32) (N := some 92) (v := ?_) (a' := ?_) #[true, true, true, true, true, true, true, true, true, true, true, true, true, true, true, true, true, true, true, true, true, true, true, true, true, true, true, true, true, true, true, true, true, false, false, false, false, false] rfl rfl (any_of HT_.out (by kernel_rfl)) (fun _ _ _ h => h) (Or.inl ⟨by rfl, ?_⟩) ?_ ?_
               rotate_left
               ·intro w'
                go_simp
                with_reducible rfl
               rotate_left
               ·simp only [Act.put, List.setIfInBounds_toArray, List.set_cons_zero, List.set_cons_succ, i64_w, i32_w]
                rfl
               refine pure_ (i := 33) (N := some 93) (v := ?_) (a' := ?_) #[true, true, true, true, true, true, true, true, true, true, true, true, true, true, true, true, true, true, true, true, true, true, true, true, true, true, true, true, true, true, true, true, true, true, false, false, false, false] rfl rfl (any_of HT_.out (by kernel_rfl)) (fun _ _ _ h => h) (Or.inl ⟨by rfl, ?_⟩) ?_ ?_
               rotate_left
               ·intro w'
                go_simp
                with_reducible rfl
               rotate_left
               ·simp only [Act.put, List.setIfInBounds_toArray, List.set_cons_zero, List.set_cons_succ, i64_w, i32_w]
                rfl
               refine one_ (i := 34) (N := some 94) #[true, true, true, true, true, true, true, true, true, true, true, true, true, true, true, true, true, true, true, true, true, true, true, true, true, true, true, true, true, true, true, true, true, true, true, false, false, false] rfl rfl (one_of HT_.out (by kernel_rfl)) (by decide) (fun K hK => ?_)
               have hcv71 := Spot.str_R (P := Tryz.prog) Tryz.underlying22 Tryz.underlying5 Tryz.underlying9 HO194.out
               refine value_ (w1 := ?_) (v := ?_) (by rfl) rfl ?_ ?_
               rotate_left 2
               ·go_simp
                constructor
                ·rfl
                ·rfl
               clear hcv71
               refine hK.out _ _ trivial (fun hHeld => ?_)
               clear hK K
               refine norm_ (a' := ?_) ?_ ?_
               rotate_left
               ·show Act.put _ (some 94) _ = _
                simp only [Act.put, List.setIfInBounds_toArray, List.set_cons_zero, List.set_cons_succ, i64_w, i32_w]
                rfl
               refine pure_ (i := 35) (N := some 95) (v := ?_) (a' := ?_) #[true, true, true, true, true, true, true, true, true, true, true, true, true, true, true, true, true, true, true, true, true, true, true, true, true, true, true, true, true, true, true, true, true, true, true, true, false, false] rfl rfl (any_of HT_.out (by kernel_rfl)) (fun _ _ _ h => h) (Or.inl ⟨by rfl, ?_⟩) ?_ ?_
               rotate_left
               ·intro w'
                go_simp
                with_reducible rfl
               rotate_left
               ·simp only [Act.put, List.setIfInBounds_toArray, List.set_cons_zero, List.set_cons_succ, i64_w, i32_w]
                rfl
               refine pure_ (i := 36) (N := some 96) (v := ?_) (a' := ?_) #[true, true, true, true, true, true, true, true, true, true, true, true, true, true, true, true, true, true, true, true, true, true, true, true, true, true, true, true, true, true, true, true, true, true, true, true, true, false] rfl rfl (any_of HT_.out (by kernel_rfl)) (fun _ _ _ h => h) (Or.inl ⟨by rfl, ?_⟩) ?_ ?_
               rotate_left
               ·intro w'
                go_simp
                with_reducible rfl
               rotate_left
               ·simp only [Act.put, List.setIfInBounds_toArray, List.set_cons_zero, List.set_cons_succ, i64_w, i32_w]
                rfl
               refine pure_ (i := 37) (N := some 4) (v := ?_) (a' := ?_) #[true, true, true, true, true, true, true, true, true, true, true, true, true, true, true, true, true, true, true, true, true, true, true, true, true, true, true, true, true, true, true, true, true, true, true, true, true, true] rfl rfl (any_of HT_.out (by kernel_rfl)) (fun _ _ _ h => h) (Or.inl ⟨by rfl, ?_⟩) ?_ ?_
               rotate_left
               ·intro w'
                go_simp
                with_reducible rfl
               rotate_left
               ·simp only [Act.put, List.setIfInBounds_toArray, List.set_cons_zero, List.set_cons_succ, i64_w, i32_w]
                rfl
               refine done_ (done_of HT_.out (by kernel_rfl)) ?_
               try go_wp2
               go_ret
               exact ⟨by first | rfl | (simp [errW_none, errW_some] <;> rfl) | (simp [*, errW_none, errW_some] <;> rfl), by repeat (first | (with_reducible first | exact HB.out | apply below_alloc | apply pw_below_drewN | apply below_drew1) | exact HB.out)⟩
              ·rw [if_neg c49] at H
               exact absurd H (by simp)
             ·replace c48 := Bool.eq_false_iff.mpr c48
              subst c48
              have H1 : (none) = some r := by rw [if_neg (show ¬ (false = true) by decide)] at H; exact H
              clear H
              have H := H1
              clear H1
              exact absurd H (by simp)
            ·rw [if_neg c47] at H
             exact absurd H (by simp)
           ·rw [if_neg c43] at H
            exact absurd H (by simp)
          ·rw [if_neg c42] at H
           exact absurd H (by simp)
         ·rw [if_neg c41] at H
          exact absurd H (by simp)
        ·rw [if_neg c40] at H
         exact absurd H (by simp)
       ·replace c38 := Bool.eq_false_iff.mpr c38
        subst c38
        have H1 : (none) = some r := by rw [if_neg (show ¬ (false = true) by decide)] at H; exact H
        clear H
        have H := H1
        clear H1
        exact absurd H (by simp)

end Go.Proofs.YtefpcffompgceaaGreatDoor.Zc
