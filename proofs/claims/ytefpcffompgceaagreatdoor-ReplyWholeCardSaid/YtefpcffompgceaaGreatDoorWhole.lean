import Derived.Test.YtefpcffompgceaaGreatDoorRds
import Derived.Test.YtefpcffompgceaaGreatDoorLaw5
import Derived.Test.YtefpcffompgceaaGreatDoorStr
/- The law of a reply that is taken whole. -/
namespace Go.Proofs.YtefpcffompgceaaGreatDoor.Whole
open Go Go.RowKit Go.Proofs.Mem Go.Proofs.App Go.Proofs.Tk Go.Proofs.Tryz.Ln
open Go.Proofs.YtefpcffompgceaaGreatDoorW.PrintWords Go.Proofs.YtefpcffompgceaaGreatDoorW.PrintMore
attribute [local go_sem] max2_int min2_int max_two min_two max_three min_three max_four min_four   -- for this text's walks alone
set_option linter.unusedVariables false
theorem bytB_app {a b : List Int} (ha : BytB a = true) (hb : BytB b = true) : BytB (a ++ b) = true := by
  unfold BytB at *
  rw [List.all_append, ha, hb]; rfl
theorem bytB_take {a : List Int} (ha : BytB a = true) (q : Nat) : BytB (a.take q) = true := bytB_of fun x hx => byt_of ha x (List.mem_of_mem_take hx)
theorem str_app (a b : List Int) : strOfNums (a ++ b) = strOfNums a ++ strOfNums b := by
  apply ByteArray.ext
  rw [ByteArray.data_append]
  apply Array.ext'
  simp [strOfNums]
theorem str_len (l : List Int) : (strOfNums l).size = l.length := by simp [strOfNums, ByteArray.size]
/-- a text that begins with 'x' begins with no reply -/
theorem one_x (b : List Int) : oneS (120 :: b) = none := by
  unfold oneS
  cases eol (120 :: b) with
  | none => rfl
  | some n =>
    dsimp only
    by_cases h : n = 0
    · rw [if_pos h]
    · rw [if_neg h, if_neg (show ¬ ((120 :: b).headD 0 = 43 ∨ (120 :: b).headD 0 = 45) from by simp), if_neg (show ¬ (120 :: b).headD 0 = 58 from by simp), if_neg (show ¬ (120 :: b).headD 0 = 36 from by simp), if_neg (show ¬ (120 :: b).headD 0 = 42 from by simp)]
theorem take_x (b : List Int) : takeS ([120] ++ b) = ([], [], false) := by
  have h : takeE ([120] ++ b) = none := by
    unfold takeE
    rw [takeGo, if_neg (by omega), List.drop_zero, List.singleton_append, one_x]
  unfold takeS
  rw [h]
theorem cases_take (x : List Int) : (takeS x = ([], [], false)) ∨ ∃ r1 r2, takeS x = (r1, r2, true) ∧ Rep r1 ∧ x = r1 ++ r2 := by
  cases hE : takeE x with
  | none => exact .inl (by unfold takeS; rw [hE])
  | some n =>
    have hn := takeE_le hE
    refine .inr ⟨x.take n, x.drop n, by unfold takeS; rw [hE], ?_, (List.take_append_drop n x).symm⟩
    unfold Rep
    rw [List.length_take, Nat.min_eq_left hn]
    exact takeE_cut hE
theorem fresh_none (w : World) (base : Nat) (A : Option Addr) : Fresh .u8 base w A 0 0 [] := ⟨rfl, Nat.le_refl _, fun h => absurd h (by decide)⟩
set_option maxRecDepth 100000 in
set_option maxHeartbeats 8000000 in
theorem whole_any (A : Option Addr) (c : Nat) (l : List Int) (s : ByteArray) (w : World) (hB : (Kd.int .u8).C w A l.length l) (hc : l.length ≤ c) (hbb : BytB l = true) (hT : Tabs w) :
    Calls Tryz.prog 3 #[.slice A l.length c, .string s] w fun e w' => e = .returned (.bool true) ∧ Below w.heap.size w w' := by
  have kc := fun (w : World) (C : Array Value) (n c : Nat) => Lib.run_convert_bytes_const (P := Tryz.prog) w 22 5 C n c Tryz.underlying22 Tryz.underlying5
  have hts := shortS_size s
  obtain ⟨t, ht⟩ : ∃ t, shortS s = t := ⟨_, rfl⟩
  rw [ht] at hts
  have ht' := veil ht
  have hT' := veil hT
  have hxb := veil (bytB_take hbb 400)
  have hxl : (l.take 400).length = min 400 l.length := List.length_take
  have hxC : Veil (∀ m, (l.take 400).length = m → (Kd.int .u8).C w A m (l.take 400)) := veil fun m hm => by
    rw [List.length_take] at hm
    refine C_reads ⟨by rw [List.length_take]; exact hm, by have := hB.2.1; omega, fun h0 => ?_⟩
    obtain ⟨ad, he, hc⟩ := (reads_C hB).2.2 (by omega)
    refine ⟨ad, he, fun j hj => ?_⟩
    rw [hc j (by omega), List.getD_eq_getElem?_getD, List.getD_eq_getElem?_getD, List.getElem?_take, if_pos (by omega)]
  obtain ⟨x, hx⟩ : ∃ x, l.take 400 = x := ⟨_, rfl⟩
  rw [hx] at hxb hxl hxC
  have hct := cases_take x
  have hxr : Veil (∀ m, x.length = m → ∀ w', Below w.heap.size w w' → ReadsInt w' .u8 A m x) := veil fun m hm w' hb => (reads_C (hxC.out m hm)).below hb
  have htk : Veil (∀ m, x.length = m → ∀ w', Below w.heap.size w w' → Calls Tryz.prog 8 #[.slice A m c] w' (TkR x w')) := veil fun m hm w' hb => take_n A m c x w' hm (hxr.out m hm w' hb) (by omega) (tabs_below hT'.out hb) hxb.out (by omega)
  clear ht hT hbb hx hB
  by_cases h4 : 400 < (l.length : Int)
  all_goals
    go_enter Tryz.func3, Tryz.ntmps3
    go_wp2_with fail
    refine (shown_any _ hT'.out.tab).mono ?_
    rintro e w1 ⟨rfl, hb1⟩
    have hB1 := veil hb1
    clear hb1
    go_wp2_with fail
    rcases hct with ht0 | ⟨r1, r2, ht1, hrep, hxe⟩
    · refine (tk3 ht0 (htk.out _ (by omega) _ hB1.out)).mono ?_
      rintro e w2 ⟨A1, c1, B1, d1, rfl, _, _, _, hb2⟩
      have hB2 := veil (two_below hB1.out hb2)
      rw [List.length_nil]
      clear hb2
      go_wp2_with fail
      go_ret
      exact ⟨rfl, hB2.out⟩
    · have hr3 := rep_len hrep
      have hle : r1.length + r2.length = x.length := by rw [hxe, List.length_append]
      have hr1b : BytB r1 = true := by
        have h := hxb.out
        rw [hxe] at h
        unfold BytB at *
        rw [List.all_append, Bool.and_eq_true] at h
        exact h.1
      have ty : takeS r1 = (r1, [], true) := by
        have h := rep_take hrep []
        rwa [List.append_nil] at h
      have tz : takeS (r1 ++ bytesOf t) = (r1, bytesOf t, true) := rep_take hrep _
      have hbl : (bytesOf t).length = t.size := bytesOf_length _
      have hbx : Veil (BytB ([120] ++ x) = true) := veil (bytB_app (by decide) hxb.out)
      have hby : Veil (BytB (r1 ++ bytesOf t) = true) := veil (bytB_app hr1b (bytB_of (byt_bytes _)))
      have ty' := veil ty
      have tz' := veil tz
      have hr1b' := veil hr1b
      have z1 : Veil (∀ w, (do eqGuard .gtr 3 (.tmp 72) (.const (.int .i64 2)) (.int .i64 r1.length) (.int .i64 2); binOp .gtr 3 (.int .i64 r1.length) (.int .i64 2) : Sem Value).run Tryz.prog w = .ok (.bool true) w) := veil fun w => by
        have h : (2 : Int) < (r1.length : Int) := by omega
        simp [go_sem, h]
      have z2 : Veil (∀ w, (do eqGuard .add 9 (.tmp 77) (.tmp 79) (.string (strOfNums r1)) (.string (strOfNums r2)); binOp .add 9 (.string (strOfNums r1)) (.string (strOfNums r2)) : Sem Value).run Tryz.prog w = .ok (.string (strOfNums x)) w) := veil fun w => by
        have h : ¬ 9223372036854775807 < (strOfNums r1).size + (strOfNums r2).size := by rw [str_len, str_len]; omega
        rw [hxe, str_app]
        simp [go_sem, h]
      have z3 : Veil (∀ w, (do eqGuard .eql 3 (.tmp 97) (.const (.int .i64 0)) (.int .i64 (([] : List Int).length : Nat)) (.int .i64 0); binOp .eql 3 (.int .i64 (([] : List Int).length : Nat)) (.int .i64 0) : Sem Value).run Tryz.prog w = .ok (.bool true) w) := veil fun w => by
        simp [go_sem]
      refine (tk3 ht1 (htk.out _ (by omega) _ hB1.out)).mono ?_
      rintro e w2 ⟨A1, c1, B1, d1, rfl, q1, l1, q2, hb2⟩
      have hB2 := veil (two_below hB1.out hb2)
      have q1' := veil q1
      have q2' := veil q2
      clear hb2 q1 q2 ty tz hr1b
      go_wp2_with fail
      refine (tk3 ty'.out (take_n A1 _ c1 r1 _ rfl q1'.out l1 (tabs_below hT'.out hB2.out) hr1b'.out (by omega))).mono ?_
      rintro e w3 ⟨A2, c2, B2, d2, rfl, q3, _, q4, hb3⟩
      have hB3 := veil (two_below hB2.out hb3)
      have q1 := veil (q1'.out.below hb3)
      have q2 := veil (q2'.out.below hb3)
      have q3' := veil q3
      have q4' := veil q4
      have hb3' := veil (show Below w3.heap.size w3 (w3.alloc (.cells #[.int .u8 120] 5 (1, 2))) from below_alloc (Below.refl _ _) _)
      have hx3 : Veil (∀ m, x.length = m → ReadsInt (w3.alloc (.cells #[.int .u8 120] 5 (1, 2))) .u8 A m x) := veil fun m hm => (hxr.out m hm _ hB3.out).below hb3'.out
      rw [List.length_nil]
      clear hb3 q3 q4 q1' q2'
      go_wp2_with (refine wpList_app (w0 := w3) w3.heap.size rfl _ _ 22 22 5 .u8 1 rfl Tryz.underlying22 info5 (by omega) (some ⟨w3.heap.size, 0, none⟩) 1 1 _ [120] x _ rfl rfl (fresh_marked w3 5 [120]) (src_reads Tryz.underlying22 A _ c x (hx3.out _ (by omega))) hb3'.out hb3'.out.size (by omega) ?_; intro A3 c3 w4 hf4 hb4)
      have hs3 : w3.heap.size ≤ w4.heap.size := hb4.size
      have hB4 := veil (two_below hB3.out hb4)
      have hl4 := hf4.len
      have hr4 := veil (hf4.reads (by omega))
      have hc4 := hf4.le
      have q5 := veil (q1.out.below hb4)
      have q6 := veil (q2.out.below hb4)
      have q7 := veil (q3'.out.below hb4)
      have q8 := veil (q4'.out.below hb4)
      clear hf4 hb4 q1 q2 q3' q4' hx3 hb3'
      refine (tk3 (take_x x) (take_n A3 _ c3 ([120] ++ x) _ hl4 hr4.out hc4 (tabs_below hT'.out hB4.out) hbx.out (by omega))).mono ?_
      rintro e w5 ⟨A4, c4, B4, d4, rfl, _, _, _, hb5⟩
      have hB5 := veil (two_below hB4.out hb5)
      have q1 := veil (q5.out.below hb5)
      have q2 := veil (q6.out.below hb5)
      have q3 := veil (q7.out.below hb5)
      have q4 := veil (q8.out.below hb5)
      have hb5' := veil (show Below w5.heap.size w5 (w5.alloc (.cells #[] 5)) from below_alloc (Below.refl _ _) _)
      have q9 := veil (q1.out.below hb5'.out)
      rw [List.length_nil]
      clear hb5 hl4 hr4 hc4 q5 q6 q7 q8
      go_wp2_with (refine wpList_app (w0 := w5) w5.heap.size rfl _ _ 22 22 5 .u8 1 rfl Tryz.underlying22 info5 (by omega) (some ⟨w5.heap.size, 0, none⟩) 0 0 r1.length [] r1 _ rfl rfl (fresh_none _ _ _) (src_reads Tryz.underlying22 A1 r1.length c1 r1 q9.out) hb5'.out hb5'.out.size (by omega) ?_; intro A5 c5 w6 hf6 hb6; rw [Nat.zero_add, List.nil_append] at hf6; rw [Nat.zero_add])
      have hf6' := veil hf6
      have hb6' := veil hb6
      have hs6 : w5.heap.size ≤ w6.heap.size := hb6.size
      clear hf6 hb6 q9 hb5'
      refine (short_any s _).mono ?_
      rintro e w7 ⟨rfl, rfl⟩
      rw [ht'.out]
      go_wp2_with (refine wpList_app (w0 := w5) w5.heap.size rfl _ _ 22 9 5 .u8 1 rfl Tryz.underlying22 info5 (by omega) A5 r1.length c5 t.size r1 (bytesOf t) _ rfl rfl hf6'.out (src_string Tryz.underlying9 t) hb6'.out hs6 (by omega) ?_; intro A6 c6 w8 hf8 hb8)
      have hB8 := veil (two_below hB5.out hb8)
      have hl8 := hf8.len
      have hr8 := veil (hf8.reads (by omega))
      have hc8 := hf8.le
      have q5 := veil (q1.out.below hb8)
      have q6 := veil (q2.out.below hb8)
      have q7 := veil (q3.out.below hb8)
      have q8 := veil (q4.out.below hb8)
      clear hf8 hb8 q1 q2 q3 q4 hf6' hb6'
      refine (tk3 tz'.out (take_n A6 _ c6 (r1 ++ bytesOf t) _ hl8 hr8.out hc8 (tabs_below hT'.out hB8.out) hby.out (by omega))).mono ?_
      rintro e w9 ⟨A7, c7, B7, d7, rfl, p5, _, p6, hb9⟩
      have hB9 := veil (two_below hB8.out hb9)
      have q1 := veil (q5.out.below hb9)
      have q2 := veil (q6.out.below hb9)
      have q3 := veil (q7.out.below hb9)
      have q4 := veil (q8.out.below hb9)
      have q5' := veil p5
      rw [bytesOf_length] at p6
      have q6' := veil p6
      clear hb9 hl8 hr8 hc8 q5 q6 q7 q8 p5 p6
      go_wp2_with fail
      refine Rel.wp_region_rel (n := 121) [Rel.is (.bool true), Rel.is (.bool true), Rel.rd r1, Rel.is (.int .i64 (r1).length), Rel.is (.bool true), Rel.is (.bool true), Rel.is (.bool true), Rel.rd r1, Rel.is (.string (strOfNums r1)), Rel.rd r2, Rel.is (.string (strOfNums r2)), Rel.is (.string (strOfNums x)), Rel.rd x, Rel.is (.string (strOfNums x)), Rel.is (.bool true), Rel.is (.bool true), Rel.is (.bool true), Rel.is (.bool true), Rel.is (.bool true), Rel.is (.bool true), Rel.rd r1, Rel.is (.string (strOfNums r1)), Rel.rd r1, Rel.is (.string (strOfNums r1)), Rel.is (.bool true), Rel.is (.bool true), Rel.is (.bool true), Rel.rd ([] : List Int), Rel.is (.int .i64 (([] : List Int)).length), Rel.is (.bool true), Rel.is (.bool true), Rel.is (.bool true), Rel.is (.bool false), Rel.is (.bool true), Rel.is (.bool true), Rel.is (.bool true), Rel.is (.bool true), Rel.is (.bool true), Rel.is (.bool true), Rel.rd r1, Rel.is (.string (strOfNums r1)), Rel.rd r1, Rel.is (.string (strOfNums r1)), Rel.is (.bool true), Rel.is (.bool true), Rel.is (.bool true), Rel.rd (bytesOf t), Rel.is (.string (strOfNums (bytesOf t))), Rel.is (.string s), Rel.is (.string (strOfNums (bytesOf t))), Rel.is (.bool true), Rel.is (.bool true), Rel.is (.bool true)] (by kernel_rfl) (by rfl) (by kernel_rfl) ?_ ?_
      · refine Rel.steps_cons (Rel.step_was (n := 121) (t := 5) rfl (.inl rfl) rfl (by kernel_rfl) rfl rfl) ?_
        refine Rel.steps_cons (Rel.step_pass (n := 121) (j := 0) (t := 69) rfl (.inl rfl) rfl rfl rfl rfl rfl) ?_
        refine Rel.steps_cons (Rel.step_rd (n := 121) (t := 6) rfl (.inr ⟨1, 70, rfl, rfl, rfl, by decide, rfl⟩) rfl (by kernel_rfl) rfl q1.out rfl) ?_
        refine Rel.steps_cons (Rel.step_len (n := 121) (j := 2) (t := 71) rfl (.inr ⟨1, 70, rfl, rfl, rfl, by decide, rfl⟩) rfl Tryz.underlying22 rfl rfl rfl rfl) ?_
        refine Rel.steps_cons (Rel.step_cst (n := 121) (j := 3) (t := 72) rfl (.inr ⟨1, 70, rfl, rfl, rfl, by decide, rfl⟩) rfl rfl rfl rfl (fun w => z1.out w) rfl) ?_
        refine Rel.steps_cons (Rel.step_pick (n := 121) (j := 1) (t := 70) (j2 := 4) (t2 := 73) rfl (.inl rfl) rfl rfl rfl rfl rfl rfl rfl rfl) ?_
        refine Rel.steps_cons (Rel.step_pass (n := 121) (j := 5) (t := 74) rfl (.inl rfl) rfl rfl rfl rfl rfl) ?_
        refine Rel.steps_cons (Rel.step_rd (n := 121) (t := 6) rfl (.inr ⟨6, 75, rfl, rfl, rfl, by decide, rfl⟩) rfl (by kernel_rfl) rfl q1.out rfl) ?_
        refine Rel.steps_cons (Rel.step_str (n := 121) (j := 7) (t := 76) rfl (.inr ⟨6, 75, rfl, rfl, rfl, by decide, rfl⟩) rfl Tryz.underlying22 Tryz.underlying5 Tryz.underlying9 rfl rfl rfl rfl) ?_
        refine Rel.steps_cons (Rel.step_rd (n := 121) (t := 7) rfl (.inr ⟨6, 75, rfl, rfl, rfl, by decide, rfl⟩) rfl (by kernel_rfl) rfl q2.out rfl) ?_
        refine Rel.steps_cons (Rel.step_str (n := 121) (j := 9) (t := 78) rfl (.inr ⟨6, 75, rfl, rfl, rfl, by decide, rfl⟩) rfl Tryz.underlying22 Tryz.underlying5 Tryz.underlying9 rfl rfl rfl rfl) ?_
        refine Rel.steps_cons (Rel.step_two (n := 121) (j := 8) (t := 77) (j2 := 10) (t2 := 79) rfl (.inr ⟨6, 75, rfl, rfl, rfl, by decide, rfl⟩) rfl rfl rfl rfl rfl rfl rfl (fun w => z2.out w) rfl) ?_
        refine Rel.steps_cons (Rel.step_rd (n := 121) (t := 0) rfl (.inr ⟨6, 75, rfl, rfl, rfl, by decide, rfl⟩) rfl (by kernel_rfl) rfl (hxr.out _ (by omega) _ hB9.out) rfl) ?_
        refine Rel.steps_cons (Rel.step_str (n := 121) (j := 12) (t := 81) rfl (.inr ⟨6, 75, rfl, rfl, rfl, by decide, rfl⟩) rfl Tryz.underlying22 Tryz.underlying5 Tryz.underlying9 rfl rfl rfl rfl) ?_
        refine Rel.steps_cons (Rel.step_eq (n := 121) (j := 11) (t := 80) (j2 := 13) (t2 := 82) rfl (.inr ⟨6, 75, rfl, rfl, rfl, by decide, rfl⟩) rfl Tryz.underlying9 rfl rfl rfl rfl rfl rfl rfl) ?_
        refine Rel.steps_cons (Rel.step_pick (n := 121) (j := 6) (t := 75) (j2 := 14) (t2 := 83) rfl (.inl rfl) rfl rfl rfl rfl rfl rfl rfl rfl) ?_
        refine Rel.steps_cons (Rel.step_pass (n := 121) (j := 15) (t := 84) rfl (.inl rfl) rfl rfl rfl rfl rfl) ?_
        refine Rel.steps_cons (Rel.step_was (n := 121) (t := 11) rfl (.inr ⟨16, 85, rfl, rfl, rfl, by decide, rfl⟩) rfl (by kernel_rfl) rfl rfl) ?_
        refine Rel.steps_cons (Rel.step_pick (n := 121) (j := 16) (t := 85) (j2 := 17) (t2 := 86) rfl (.inl rfl) rfl rfl rfl rfl rfl rfl rfl rfl) ?_
        refine Rel.steps_cons (Rel.step_pass (n := 121) (j := 18) (t := 87) rfl (.inl rfl) rfl rfl rfl rfl rfl) ?_
        refine Rel.steps_cons (Rel.step_rd (n := 121) (t := 9) rfl (.inr ⟨19, 88, rfl, rfl, rfl, by decide, rfl⟩) rfl (by kernel_rfl) rfl q3.out rfl) ?_
        refine Rel.steps_cons (Rel.step_str (n := 121) (j := 20) (t := 89) rfl (.inr ⟨19, 88, rfl, rfl, rfl, by decide, rfl⟩) rfl Tryz.underlying22 Tryz.underlying5 Tryz.underlying9 rfl rfl rfl rfl) ?_
        refine Rel.steps_cons (Rel.step_rd (n := 121) (t := 6) rfl (.inr ⟨19, 88, rfl, rfl, rfl, by decide, rfl⟩) rfl (by kernel_rfl) rfl q1.out rfl) ?_
        refine Rel.steps_cons (Rel.step_str (n := 121) (j := 22) (t := 91) rfl (.inr ⟨19, 88, rfl, rfl, rfl, by decide, rfl⟩) rfl Tryz.underlying22 Tryz.underlying5 Tryz.underlying9 rfl rfl rfl rfl) ?_
        refine Rel.steps_cons (Rel.step_eq (n := 121) (j := 21) (t := 90) (j2 := 23) (t2 := 92) rfl (.inr ⟨19, 88, rfl, rfl, rfl, by decide, rfl⟩) rfl Tryz.underlying9 rfl rfl rfl rfl rfl rfl rfl) ?_
        refine Rel.steps_cons (Rel.step_pick (n := 121) (j := 19) (t := 88) (j2 := 24) (t2 := 93) rfl (.inl rfl) rfl rfl rfl rfl rfl rfl rfl rfl) ?_
        refine Rel.steps_cons (Rel.step_pass (n := 121) (j := 25) (t := 94) rfl (.inl rfl) rfl rfl rfl rfl rfl) ?_
        refine Rel.steps_cons (Rel.step_rd (n := 121) (t := 10) rfl (.inr ⟨26, 95, rfl, rfl, rfl, by decide, rfl⟩) rfl (by kernel_rfl) rfl q4.out rfl) ?_
        refine Rel.steps_cons (Rel.step_len (n := 121) (j := 27) (t := 96) rfl (.inr ⟨26, 95, rfl, rfl, rfl, by decide, rfl⟩) rfl Tryz.underlying22 rfl rfl rfl rfl) ?_
        refine Rel.steps_cons (Rel.step_cst (n := 121) (j := 28) (t := 97) rfl (.inr ⟨26, 95, rfl, rfl, rfl, by decide, rfl⟩) rfl rfl rfl rfl (fun w => z3.out w) rfl) ?_
        refine Rel.steps_cons (Rel.step_pick (n := 121) (j := 26) (t := 95) (j2 := 29) (t2 := 98) rfl (.inl rfl) rfl rfl rfl rfl rfl rfl rfl rfl) ?_
        refine Rel.steps_cons (Rel.step_pass (n := 121) (j := 30) (t := 99) rfl (.inl rfl) rfl rfl rfl rfl rfl) ?_
        refine Rel.steps_cons (Rel.step_was (n := 121) (t := 14) rfl (.inr ⟨31, 100, rfl, rfl, rfl, by decide, rfl⟩) rfl (by kernel_rfl) rfl rfl) ?_
        refine Rel.steps_cons (Rel.step_not (n := 121) (j := 32) (t := 101) rfl (.inr ⟨31, 100, rfl, rfl, rfl, by decide, rfl⟩) rfl rfl rfl rfl rfl) ?_
        refine Rel.steps_cons (Rel.step_pick (n := 121) (j := 31) (t := 100) (j2 := 33) (t2 := 102) rfl (.inl rfl) rfl rfl rfl rfl rfl rfl rfl rfl) ?_
        refine Rel.steps_cons (Rel.step_pass (n := 121) (j := 34) (t := 103) rfl (.inl rfl) rfl rfl rfl rfl rfl) ?_
        refine Rel.steps_cons (Rel.step_was (n := 121) (t := 17) rfl (.inr ⟨35, 104, rfl, rfl, rfl, by decide, rfl⟩) rfl (by kernel_rfl) rfl rfl) ?_
        refine Rel.steps_cons (Rel.step_pick (n := 121) (j := 35) (t := 104) (j2 := 36) (t2 := 105) rfl (.inl rfl) rfl rfl rfl rfl rfl rfl rfl rfl) ?_
        refine Rel.steps_cons (Rel.step_pass (n := 121) (j := 37) (t := 106) rfl (.inl rfl) rfl rfl rfl rfl rfl) ?_
        refine Rel.steps_cons (Rel.step_rd (n := 121) (t := 15) rfl (.inr ⟨38, 107, rfl, rfl, rfl, by decide, rfl⟩) rfl (by kernel_rfl) rfl q5'.out rfl) ?_
        refine Rel.steps_cons (Rel.step_str (n := 121) (j := 39) (t := 108) rfl (.inr ⟨38, 107, rfl, rfl, rfl, by decide, rfl⟩) rfl Tryz.underlying22 Tryz.underlying5 Tryz.underlying9 rfl rfl rfl rfl) ?_
        refine Rel.steps_cons (Rel.step_rd (n := 121) (t := 6) rfl (.inr ⟨38, 107, rfl, rfl, rfl, by decide, rfl⟩) rfl (by kernel_rfl) rfl q1.out rfl) ?_
        refine Rel.steps_cons (Rel.step_str (n := 121) (j := 41) (t := 110) rfl (.inr ⟨38, 107, rfl, rfl, rfl, by decide, rfl⟩) rfl Tryz.underlying22 Tryz.underlying5 Tryz.underlying9 rfl rfl rfl rfl) ?_
        refine Rel.steps_cons (Rel.step_eq (n := 121) (j := 40) (t := 109) (j2 := 42) (t2 := 111) rfl (.inr ⟨38, 107, rfl, rfl, rfl, by decide, rfl⟩) rfl Tryz.underlying9 rfl rfl rfl rfl rfl rfl rfl) ?_
        refine Rel.steps_cons (Rel.step_pick (n := 121) (j := 38) (t := 107) (j2 := 43) (t2 := 112) rfl (.inl rfl) rfl rfl rfl rfl rfl rfl rfl rfl) ?_
        refine Rel.steps_cons (Rel.step_pass (n := 121) (j := 44) (t := 113) rfl (.inl rfl) rfl rfl rfl rfl rfl) ?_
        refine Rel.steps_cons (Rel.step_rd (n := 121) (t := 16) rfl (.inr ⟨45, 114, rfl, rfl, rfl, by decide, rfl⟩) rfl (by kernel_rfl) rfl q6'.out rfl) ?_
        refine Rel.steps_cons (Rel.step_str (n := 121) (j := 46) (t := 115) rfl (.inr ⟨45, 114, rfl, rfl, rfl, by decide, rfl⟩) rfl Tryz.underlying22 Tryz.underlying5 Tryz.underlying9 rfl rfl rfl rfl) ?_
        refine Rel.steps_cons (Rel.step_was (n := 121) (t := 1) rfl (.inr ⟨45, 114, rfl, rfl, rfl, by decide, rfl⟩) rfl (by kernel_rfl) rfl rfl) ?_
        refine Rel.steps_cons (Rel.step_call (n := 121) rfl (.inr ⟨45, 114, rfl, rfl, rfl, by decide, rfl⟩) Tryz.func9 (by kernel_rfl) rfl #[.string s] rfl (fun b w D => by simp only [List.map_toArray, List.map_cons, List.map_nil, show b.eval (.tmp 117) = .string s from D.is 48 117 rfl rfl rfl]) (fun w hb => by rw [str_bytes]; exact (short_any s w).mono fun e w' h => ⟨_, h.1, by rw [ht'.out]; rfl, by rw [h.2]; exact Below.refl _ _⟩)) ?_
        refine Rel.steps_cons (Rel.step_eq (n := 121) (j := 47) (t := 116) (j2 := 49) (t2 := 118) rfl (.inr ⟨45, 114, rfl, rfl, rfl, by decide, rfl⟩) rfl Tryz.underlying9 rfl rfl rfl rfl rfl rfl rfl) ?_
        refine Rel.steps_cons (Rel.step_pick (n := 121) (j := 45) (t := 114) (j2 := 50) (t2 := 119) rfl (.inl rfl) rfl rfl rfl rfl rfl rfl rfl rfl) ?_
        refine Rel.steps_cons (Rel.step_take (n := 121) (j := 51) (t := 120) rfl (.inl rfl) rfl rfl rfl rfl rfl) ?_
        exact trivial
      intro v w10 hv hb10
      have e4 : v 52 = .bool true := hv 52 (by decide)
      have hB10 := veil (two_below hB9.out hb10)
      simp only [Rel.fill, Act.put, List.setIfInBounds_toArray, List.set_cons_zero, List.set_cons_succ]
      rw [e4]
      clear hb10 hv e4 hB9 q1 q2 q3 q4 q5' q6'
      go_wp2_with fail
      go_ret
      exact ⟨rfl, hB10.out⟩
theorem walk (A : Option Addr) (len cap : Nat) (zs : List Int) (s : ByteArray) (w : World)
    (hr : (A = none ∧ len = 0 ∧ cap = 0 ∧ zs = []) ∨ ∃ x, A = some x ∧ len ≤ cap ∧ cap ≤ maxLen ∧ zs.length = cap ∧ (∀ i, i < zs.length → w.cell? (x.add i) = some (.int .u8 (zs.getD i 0))) ∧ ∀ n ∈ zs, (Lit.int .u8 n).wf = true)
    (hs : len * 1 ≤ 140737488351232) (hz : s.size ≤ 140737488351232) (hT : Tabs w) :
    Calls Tryz.prog 3 #[.slice A len cap, .string s] w fun e w' => e = .returned (.bool true) ∧ Below w.heap.size w w' := by
  have hC : ∃ l : List Int, l.length = len ∧ len ≤ cap ∧ BytB l = true ∧ (Kd.int .u8).C w A len l := by
    rcases hr with ⟨rfl, rfl, rfl, rfl⟩ | ⟨x, rfl, hlc, hm, hzl, hcell, hwf⟩
    · exact ⟨[], rfl, Nat.le_refl _, rfl, C_reads ⟨rfl, by omega, fun h => absurd h (by omega)⟩⟩
    · have hlt : (zs.take len).length = len := by rw [List.length_take]; omega
      refine ⟨zs.take len, hlt, hlc, bytB_of fun n hn => ?_, C_reads ⟨hlt, by omega, fun _ => ⟨x, rfl, fun j hj => ?_⟩⟩⟩
      · have h1 := hwf n (List.mem_of_mem_take hn)
        simpa [Lit.wf, IntKind.min, IntKind.max, IntKind.signed, IntKind.bits] using h1
      · rw [hcell j (by omega), List.getD_eq_getElem?_getD, List.getD_eq_getElem?_getD, List.getElem?_take, if_pos hj]
  obtain ⟨l, rfl, hlc, hb, hC⟩ := hC
  exact whole_any A cap l s w hC hlc hb hT
end Go.Proofs.YtefpcffompgceaaGreatDoor.Whole
