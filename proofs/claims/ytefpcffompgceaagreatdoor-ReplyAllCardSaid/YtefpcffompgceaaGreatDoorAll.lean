import Derived.Test.YtefpcffompgceaaGreatDoorRds
import Derived.Test.YtefpcffompgceaaGreatDoorLaw5
/- The law of all replies: the program's are the document's. -/
namespace Go.Proofs.YtefpcffompgceaaGreatDoor.All
open Go Go.RowKit Go.Proofs.Mem Go.Proofs.App Go.Proofs.Tk Go.Proofs.Tryz.Ln
open Go.Proofs.YtefpcffompgceaaGreatDoorW.PrintWords
set_option linter.unusedVariables false
theorem fewS_texts (l : List ByteArray) : textsF (fewS l) = some (textsL (fewS l)) := by
  have h1 := fewS_len l
  have h2 := fewS_size l
  have h3 : ∀ (l : List ByteArray), (∀ s ∈ l, s.size ≤ 100) → (bulks l).flatten.length ≤ 130 * l.length := by
    intro l
    induction l with
    | nil => intro _; simp [bulks]
    | cons s l ih =>
      intro h
      have ih := ih (fun x hx => h x (by simp [hx]))
      have hs := h s (by simp)
      have hz := numS_size s.size (by omega) (by omega)
      have : (bulkL s).length ≤ 130 := by
        rw [bulkL, List.length_append, line_len, bytesOf_length, ByteArray.size_append]
        show _ + (s.size + 2) ≤ _
        omega
      unfold bulks at ih ⊢
      rw [List.map_cons, List.flatten_cons, List.length_append, List.length_cons]
      omega
  have h4 := h3 _ h2
  unfold textsF
  rw [if_pos ⟨fun s hs => by have := h2 s hs; omega, by omega, by omega⟩]
theorem bytB_take {a : List Int} (ha : BytB a = true) (q : Nat) : BytB (a.take q) = true := bytB_of fun x hx => byt_of ha x (List.mem_of_mem_take hx)
set_option maxRecDepth 100000 in
set_option maxHeartbeats 8000000 in
theorem all_any (s : ByteArray) (n : Int) (LA : Option Addr) (lc : Nat) (ls : List ByteArray) (BA : Option Addr) (bc : Nat) (bs : List Int) (w : World)
    (hn : Int64 n) (hL : Kd.C Kd.string w LA ls.length ls) (hlc : ls.length ≤ lc) (hB : (Kd.int .u8).C w BA bs.length bs) (hbc : bs.length ≤ bc) (hbb : BytB bs = true) (hT : Tabs w) :
    Calls Tryz.prog 4 #[.string s, .int .i64 n, .agg #[.slice LA ls.length lc, .slice BA bs.length bc]] w fun e w' => e = .returned (.bool true) ∧ Below w.heap.size w w' := by
  have hFt := veil (fewS_texts ls)
  have hfl := fewS_len ls
  have hts := shortS_size s
  have hzn := numS_size n hn.1 hn.2
  obtain ⟨t, ht⟩ : ∃ t, shortS s = t := ⟨_, rfl⟩
  obtain ⟨F, hF⟩ : ∃ F, fewS ls = F := ⟨_, rfl⟩
  have hbx := veil (heap_alloc_last w (.cells #[.slice LA ls.length lc, .slice BA bs.length bc] 30))
  have hb0 := veil (below_alloc (Below.refl w.heap.size w) (.cells #[.slice LA ls.length lc, .slice BA bs.length bc] 30))
  rw [ht] at hts
  rw [hF] at hFt hfl
  have ht' := veil ht
  have hF' := veil hF
  have hT' := veil hT
  have hL' := veil hL
  have hB' := veil hB
  have hbb' := veil hbb
  obtain ⟨r1, r2, r3, hr⟩ : ∃ r1 r2 r3, takeS (bs.take 400) = (r1, r2, r3) := ⟨_, _, _, rfl⟩
  have hxb := bytB_take hbb 400
  have hxC : ∀ m, (bs.take 400).length = m → (Kd.int .u8).C w BA m (bs.take 400) := fun m hm => by
    rw [List.length_take] at hm
    refine C_reads ⟨by rw [List.length_take]; exact hm, by have := hB.2.1; omega, fun h0 => ?_⟩
    obtain ⟨ad, he, hc⟩ := (reads_C hB).2.2 (by omega)
    refine ⟨ad, he, fun j hj => ?_⟩
    rw [hc j (by omega), List.getD_eq_getElem?_getD, List.getD_eq_getElem?_getD, List.getElem?_take, if_pos (by omega)]
  have htk : Veil (∀ m, (bs.take 400).length = m → ∀ w', Below w.heap.size w w' → Calls Tryz.prog 8 #[.slice BA m bc] w' (Tk3 r1 r2 r3 w')) := veil fun m hm w' hb => by
    have hmc : m ≤ bc := by rw [List.length_take] at hm; omega
    subst hm
    exact tk3 hr (take_any BA bc _ w' (Kd.C_below (hxC _ rfl) hb) hmc (tabs_below hT hb) hxb (by rw [List.length_take]; omega))
  have hrt : Veil (∀ m, (bs.take 400).length = m → ∀ w', Below w.heap.size w w' → Calls Tryz.prog 11 #[.slice BA m bc] w' (Tk3 r1 r2 r3 w')) := veil fun m hm w' hb => by
    have hmc : m ≤ bc := by rw [List.length_take] at hm; omega
    subst hm
    exact tk3 hr (rtake_any BA bc _ w' (Kd.C_below (hxC _ rfl) hb) hmc hxb (by rw [List.length_take]; omega))
  have hxl : (bs.take 400).length = min 400 bs.length := List.length_take
  clear hxC hxb hr
  clear ht hF hT hL hB hbb
  go_enter Tryz.func4, Tryz.ntmps4
  go_wp2_with fail
  refine (shown_any _ (tabl_below hT'.out.tab hb0.out)).mono ?_
  rintro e w1 ⟨rfl, hb1⟩
  have hB1 := veil (two_below hb0.out hb1)
  have hx1 := veil (pw_below_heap hb1 hbx.out)
  clear hb1 hb0 hbx
  go_wp2_with fail
  refine (short_any s _).mono ?_
  rintro e w2 ⟨rfl, rfl⟩
  rw [ht'.out]
  have g1 : w2.cell? ⟨w.heap.size, 0, none⟩ = some (.slice LA ls.length lc) := by rw [cell_of_row _ _ _ _ _ _ hx1.out]; rfl
  go_wp2_with fail
  refine (few_any LA lc ls _ (Kd.C_below hL'.out hB1.out) hlc).mono ?_
  rw [hF'.out]
  rintro e w3 ⟨FA, fc, rfl, hCF, hfc, hb3⟩
  have hB3 := veil (two_below hB1.out hb3)
  have hx3 := veil (pw_below_heap hb3 hx1.out)
  have hF3 := veil hCF
  clear hCF hb3 hx1 hB1 g1
  have g2 : w3.cell? ⟨w.heap.size, 1, none⟩ = some (.slice BA bs.length bc) := by rw [cell_of_row _ _ _ _ _ _ hx3.out]; rfl
  go_wp2_with fail
  all_goals
    refine (htk.out _ (by rw [hxl]; omega) _ hB3.out).mono ?_
    rintro e w4 ⟨A1, c1, B1, d1, rfl, q1, _, q2, hb4⟩
    have hB4 := veil (two_below hB3.out hb4)
    have hF4 := veil (Kd.C_below hF3.out hb4)
    have q1' := veil q1
    have q2' := veil q2
    clear hb4 q1 q2
    go_wp2_with fail
    refine (hrt.out _ (by rw [hxl]; omega) _ hB4.out).mono ?_
    rintro e w5 ⟨A2, c2, B2, d2, rfl, q3, _, q4, hb5⟩
    have hB5 := veil (two_below hB4.out hb5)
    have hF5 := veil (Kd.C_below hF4.out hb5)
    have q5 := veil (q1'.out.below hb5)
    have q6 := veil (q2'.out.below hb5)
    have q3' := veil q3
    have q4' := veil q4
    have hT0 := veil (tabs_below hT'.out hB5.out).tab
    clear hb5 q3 q4 q1' q2'
    go_wp2_with fail
    refine Rel.wp_region_rel (n := 124) [Rel.is (.string t), Rel.rd (lineL ⟨#[43]⟩ t), Rel.is (.string (strOfNums (lineL ⟨#[43]⟩ t))), Rel.is (.string t), Rel.rd (lineL ⟨#[43]⟩ t), Rel.is (.string (strOfNums (lineL ⟨#[43]⟩ t))), Rel.is (.bool true), Rel.is (.bool true), Rel.is (.string t), Rel.rd (lineL ⟨#[45]⟩ t), Rel.is (.string (strOfNums (lineL ⟨#[45]⟩ t))), Rel.is (.string t), Rel.rd (lineL ⟨#[45]⟩ t), Rel.is (.string (strOfNums (lineL ⟨#[45]⟩ t))), Rel.is (.bool true), Rel.is (.bool true), Rel.is (.bool true), Rel.is (.int .i64 n), Rel.rd (lineL ⟨#[58]⟩ (numS n)), Rel.is (.string (strOfNums (lineL ⟨#[58]⟩ (numS n)))), Rel.is (.int .i64 n), Rel.rd (lineL ⟨#[58]⟩ (numS n)), Rel.is (.string (strOfNums (lineL ⟨#[58]⟩ (numS n)))), Rel.is (.bool true), Rel.is (.bool true), Rel.is (.bool true), Rel.is (.string t), Rel.rd (bulkL t), Rel.is (.string (strOfNums (bulkL t))), Rel.is (.string t), Rel.rd (bulkL t), Rel.is (.string (strOfNums (bulkL t))), Rel.is (.bool true), Rel.is (.bool true), Rel.is (.bool true)] (by kernel_rfl) (by rfl) (by kernel_rfl) ?_ ?_
    · refine Rel.steps_cons (Rel.step_was (n := 124) (t := 0) rfl (.inl rfl) rfl (by kernel_rfl) rfl rfl) ?_
      refine Rel.steps_cons (Rel.step_call (n := 124) rfl (.inl rfl) Tryz.func12 (by kernel_rfl) rfl #[.string t] rfl (fun b w D => by simp only [List.map_toArray, List.map_cons, List.map_nil, show b.eval (.tmp 43) = .string t from D.is 0 43 rfl rfl rfl]) (fun w hb => rdB (by rw [line_len]; omega) (Simple_any t w (by omega)))) ?_
      refine Rel.steps_cons (Rel.step_str (n := 124) (j := 1) (t := 44) rfl (.inl rfl) rfl Tryz.underlying22 Tryz.underlying5 Tryz.underlying9 rfl rfl rfl rfl) ?_
      refine Rel.steps_cons (Rel.step_was (n := 124) (t := 0) rfl (.inl rfl) rfl (by kernel_rfl) rfl rfl) ?_
      refine Rel.steps_cons (Rel.step_call (n := 124) rfl (.inl rfl) Tryz.func13 (by kernel_rfl) rfl #[.string t] rfl (fun b w D => by simp only [List.map_toArray, List.map_cons, List.map_nil, show b.eval (.tmp 46) = .string t from D.is 3 46 rfl rfl rfl]) (fun w hb => rdB (by rw [line_len]; omega) (YSimple_any t w (by omega)))) ?_
      refine Rel.steps_cons (Rel.step_str (n := 124) (j := 4) (t := 47) rfl (.inl rfl) rfl Tryz.underlying22 Tryz.underlying5 Tryz.underlying9 rfl rfl rfl rfl) ?_
      refine Rel.steps_cons (Rel.step_eq (n := 124) (j := 2) (t := 45) (j2 := 5) (t2 := 48) rfl (.inl rfl) rfl Tryz.underlying9 rfl rfl rfl rfl rfl rfl rfl) ?_
      refine Rel.steps_cons (Rel.step_pass (n := 124) (j := 6) (t := 49) rfl (.inl rfl) rfl rfl rfl rfl rfl) ?_
      refine Rel.steps_cons (Rel.step_was (n := 124) (t := 0) rfl (.inr ⟨7, 50, rfl, rfl, rfl, by decide, rfl⟩) rfl (by kernel_rfl) rfl rfl) ?_
      refine Rel.steps_cons (Rel.step_call (n := 124) rfl (.inr ⟨7, 50, rfl, rfl, rfl, by decide, rfl⟩) Tryz.func14 (by kernel_rfl) rfl #[.string t] rfl (fun b w D => by simp only [List.map_toArray, List.map_cons, List.map_nil, show b.eval (.tmp 51) = .string t from D.is 8 51 rfl rfl rfl]) (fun w hb => rdB (by rw [line_len]; omega) (Err_any t w (by omega)))) ?_
      refine Rel.steps_cons (Rel.step_str (n := 124) (j := 9) (t := 52) rfl (.inr ⟨7, 50, rfl, rfl, rfl, by decide, rfl⟩) rfl Tryz.underlying22 Tryz.underlying5 Tryz.underlying9 rfl rfl rfl rfl) ?_
      refine Rel.steps_cons (Rel.step_was (n := 124) (t := 0) rfl (.inr ⟨7, 50, rfl, rfl, rfl, by decide, rfl⟩) rfl (by kernel_rfl) rfl rfl) ?_
      refine Rel.steps_cons (Rel.step_call (n := 124) rfl (.inr ⟨7, 50, rfl, rfl, rfl, by decide, rfl⟩) Tryz.func15 (by kernel_rfl) rfl #[.string t] rfl (fun b w D => by simp only [List.map_toArray, List.map_cons, List.map_nil, show b.eval (.tmp 54) = .string t from D.is 11 54 rfl rfl rfl]) (fun w hb => rdB (by rw [line_len]; omega) (YErr_any t w (by omega)))) ?_
      refine Rel.steps_cons (Rel.step_str (n := 124) (j := 12) (t := 55) rfl (.inr ⟨7, 50, rfl, rfl, rfl, by decide, rfl⟩) rfl Tryz.underlying22 Tryz.underlying5 Tryz.underlying9 rfl rfl rfl rfl) ?_
      refine Rel.steps_cons (Rel.step_eq (n := 124) (j := 10) (t := 53) (j2 := 13) (t2 := 56) rfl (.inr ⟨7, 50, rfl, rfl, rfl, by decide, rfl⟩) rfl Tryz.underlying9 rfl rfl rfl rfl rfl rfl rfl) ?_
      refine Rel.steps_cons (Rel.step_pick (n := 124) (j := 7) (t := 50) (j2 := 14) (t2 := 57) rfl (.inl rfl) rfl rfl rfl rfl rfl rfl rfl rfl) ?_
      refine Rel.steps_cons (Rel.step_pass (n := 124) (j := 15) (t := 58) rfl (.inl rfl) rfl rfl rfl rfl rfl) ?_
      refine Rel.steps_cons (Rel.step_was (n := 124) (t := 1) rfl (.inr ⟨16, 59, rfl, rfl, rfl, by decide, rfl⟩) rfl (by kernel_rfl) rfl rfl) ?_
      refine Rel.steps_cons (Rel.step_call (n := 124) rfl (.inr ⟨16, 59, rfl, rfl, rfl, by decide, rfl⟩) Tryz.func16 (by kernel_rfl) rfl #[.int .i64 n] rfl (fun b w D => by simp only [List.map_toArray, List.map_cons, List.map_nil, show b.eval (.tmp 60) = .int .i64 n from D.is 17 60 rfl rfl rfl]) (fun w hb => rdB (by rw [line_len]; omega) (Int_any n w hn (tabl_below hT0.out hb)))) ?_
      refine Rel.steps_cons (Rel.step_str (n := 124) (j := 18) (t := 61) rfl (.inr ⟨16, 59, rfl, rfl, rfl, by decide, rfl⟩) rfl Tryz.underlying22 Tryz.underlying5 Tryz.underlying9 rfl rfl rfl rfl) ?_
      refine Rel.steps_cons (Rel.step_was (n := 124) (t := 1) rfl (.inr ⟨16, 59, rfl, rfl, rfl, by decide, rfl⟩) rfl (by kernel_rfl) rfl rfl) ?_
      refine Rel.steps_cons (Rel.step_call (n := 124) rfl (.inr ⟨16, 59, rfl, rfl, rfl, by decide, rfl⟩) Tryz.func17 (by kernel_rfl) rfl #[.int .i64 n] rfl (fun b w D => by simp only [List.map_toArray, List.map_cons, List.map_nil, show b.eval (.tmp 63) = .int .i64 n from D.is 20 63 rfl rfl rfl]) (fun w hb => rdB (by rw [line_len]; omega) (YInt_any n w hn))) ?_
      refine Rel.steps_cons (Rel.step_str (n := 124) (j := 21) (t := 64) rfl (.inr ⟨16, 59, rfl, rfl, rfl, by decide, rfl⟩) rfl Tryz.underlying22 Tryz.underlying5 Tryz.underlying9 rfl rfl rfl rfl) ?_
      refine Rel.steps_cons (Rel.step_eq (n := 124) (j := 19) (t := 62) (j2 := 22) (t2 := 65) rfl (.inr ⟨16, 59, rfl, rfl, rfl, by decide, rfl⟩) rfl Tryz.underlying9 rfl rfl rfl rfl rfl rfl rfl) ?_
      refine Rel.steps_cons (Rel.step_pick (n := 124) (j := 16) (t := 59) (j2 := 23) (t2 := 66) rfl (.inl rfl) rfl rfl rfl rfl rfl rfl rfl rfl) ?_
      refine Rel.steps_cons (Rel.step_pass (n := 124) (j := 24) (t := 67) rfl (.inl rfl) rfl rfl rfl rfl rfl) ?_
      refine Rel.steps_cons (Rel.step_was (n := 124) (t := 0) rfl (.inr ⟨25, 68, rfl, rfl, rfl, by decide, rfl⟩) rfl (by kernel_rfl) rfl rfl) ?_
      refine Rel.steps_cons (Rel.step_call (n := 124) rfl (.inr ⟨25, 68, rfl, rfl, rfl, by decide, rfl⟩) Tryz.func18 (by kernel_rfl) rfl #[.string t] rfl (fun b w D => by simp only [List.map_toArray, List.map_cons, List.map_nil, show b.eval (.tmp 69) = .string t from D.is 26 69 rfl rfl rfl]) (fun w hb => rdB (bulkL_len t (by omega)) (Bulk_any t w (by omega) (tabl_below hT0.out hb)))) ?_
      refine Rel.steps_cons (Rel.step_str (n := 124) (j := 27) (t := 70) rfl (.inr ⟨25, 68, rfl, rfl, rfl, by decide, rfl⟩) rfl Tryz.underlying22 Tryz.underlying5 Tryz.underlying9 rfl rfl rfl rfl) ?_
      refine Rel.steps_cons (Rel.step_was (n := 124) (t := 0) rfl (.inr ⟨25, 68, rfl, rfl, rfl, by decide, rfl⟩) rfl (by kernel_rfl) rfl rfl) ?_
      refine Rel.steps_cons (Rel.step_call (n := 124) rfl (.inr ⟨25, 68, rfl, rfl, rfl, by decide, rfl⟩) Tryz.func19 (by kernel_rfl) rfl #[.string t] rfl (fun b w D => by simp only [List.map_toArray, List.map_cons, List.map_nil, show b.eval (.tmp 72) = .string t from D.is 29 72 rfl rfl rfl]) (fun w hb => rdB (bulkL_len t (by omega)) (YBulk_any t w (by omega)))) ?_
      refine Rel.steps_cons (Rel.step_str (n := 124) (j := 30) (t := 73) rfl (.inr ⟨25, 68, rfl, rfl, rfl, by decide, rfl⟩) rfl Tryz.underlying22 Tryz.underlying5 Tryz.underlying9 rfl rfl rfl rfl) ?_
      refine Rel.steps_cons (Rel.step_eq (n := 124) (j := 28) (t := 71) (j2 := 31) (t2 := 74) rfl (.inr ⟨25, 68, rfl, rfl, rfl, by decide, rfl⟩) rfl Tryz.underlying9 rfl rfl rfl rfl rfl rfl rfl) ?_
      refine Rel.steps_cons (Rel.step_pick (n := 124) (j := 25) (t := 68) (j2 := 32) (t2 := 75) rfl (.inl rfl) rfl rfl rfl rfl rfl rfl rfl rfl) ?_
      refine Rel.steps_cons (Rel.step_take (n := 124) (j := 33) (t := 76) rfl (.inl rfl) rfl rfl rfl rfl rfl) ?_
      exact trivial
    intro v w6 hv hb6
    have e16 : v 34 = .bool true := hv 34 (by decide)
    have hB6 := veil (two_below hB5.out hb6)
    have hF6 := veil (Kd.C_below hF5.out hb6)
    have hT6 := veil (tabl_below hT0.out hb6)
    have q7 := veil (q5.out.below hb6)
    have q8 := veil (q6.out.below hb6)
    have q9 := veil (q3'.out.below hb6)
    have q10 := veil (q4'.out.below hb6)
    simp only [Rel.fill, Act.put, List.setIfInBounds_toArray, List.set_cons_zero, List.set_cons_succ]
    rw [e16]
    clear hb6 hv e16 q5 q6 q3' q4'
    go_wp2_with fail
    refine Rel.wp_region_rel (n := 124) [Rel.rd (lineL ⟨#[36]⟩ ⟨#[45, 49]⟩), Rel.is (.string (strOfNums (lineL ⟨#[36]⟩ ⟨#[45, 49]⟩))), Rel.rd (lineL ⟨#[36]⟩ ⟨#[45, 49]⟩), Rel.is (.string (strOfNums (lineL ⟨#[36]⟩ ⟨#[45, 49]⟩))), Rel.is (.bool true), Rel.is (.bool true), Rel.rd (lineL ⟨#[42]⟩ ⟨#[45, 49]⟩), Rel.is (.string (strOfNums (lineL ⟨#[42]⟩ ⟨#[45, 49]⟩))), Rel.rd (lineL ⟨#[42]⟩ ⟨#[45, 49]⟩), Rel.is (.string (strOfNums (lineL ⟨#[42]⟩ ⟨#[45, 49]⟩))), Rel.is (.bool true), Rel.is (.bool true), Rel.is (.bool true), Rel.is (.slice FA F.length fc), Rel.rd (textsL F), Rel.is (.string (strOfNums (textsL F))), Rel.is (.slice FA F.length fc), Rel.rd (textsL F), Rel.is (.string (strOfNums (textsL F))), Rel.is (.bool true), Rel.is (.bool true), Rel.is (.bool true)] (by kernel_rfl) (by rfl) (by kernel_rfl) ?_ ?_
    · refine Rel.steps_cons (Rel.step_call (n := 124) rfl (.inl rfl) Tryz.func20 (by kernel_rfl) rfl #[] rfl (fun b w D => by simp) (fun w hb => rdB (by decide) (Null_any w))) ?_
      refine Rel.steps_cons (Rel.step_str (n := 124) (j := 0) (t := 77) rfl (.inl rfl) rfl Tryz.underlying22 Tryz.underlying5 Tryz.underlying9 rfl rfl rfl rfl) ?_
      refine Rel.steps_cons (Rel.step_call (n := 124) rfl (.inl rfl) Tryz.func21 (by kernel_rfl) rfl #[] rfl (fun b w D => by simp) (fun w hb => rdB (by decide) (YNull_any w))) ?_
      refine Rel.steps_cons (Rel.step_str (n := 124) (j := 2) (t := 79) rfl (.inl rfl) rfl Tryz.underlying22 Tryz.underlying5 Tryz.underlying9 rfl rfl rfl rfl) ?_
      refine Rel.steps_cons (Rel.step_eq (n := 124) (j := 1) (t := 78) (j2 := 3) (t2 := 80) rfl (.inl rfl) rfl Tryz.underlying9 rfl rfl rfl rfl rfl rfl rfl) ?_
      refine Rel.steps_cons (Rel.step_pass (n := 124) (j := 4) (t := 81) rfl (.inl rfl) rfl rfl rfl rfl rfl) ?_
      refine Rel.steps_cons (Rel.step_call (n := 124) rfl (.inr ⟨5, 82, rfl, rfl, rfl, by decide, rfl⟩) Tryz.func22 (by kernel_rfl) rfl #[] rfl (fun b w D => by simp) (fun w hb => rdV (X_NoArray _ w rfl))) ?_
      refine Rel.steps_cons (Rel.step_str (n := 124) (j := 6) (t := 83) rfl (.inr ⟨5, 82, rfl, rfl, rfl, by decide, rfl⟩) rfl Tryz.underlying22 Tryz.underlying5 Tryz.underlying9 rfl rfl rfl rfl) ?_
      refine Rel.steps_cons (Rel.step_call (n := 124) rfl (.inr ⟨5, 82, rfl, rfl, rfl, by decide, rfl⟩) Tryz.func23 (by kernel_rfl) rfl #[] rfl (fun b w D => by simp) (fun w hb => rdB (by decide) (YNoArray_any w))) ?_
      refine Rel.steps_cons (Rel.step_str (n := 124) (j := 8) (t := 85) rfl (.inr ⟨5, 82, rfl, rfl, rfl, by decide, rfl⟩) rfl Tryz.underlying22 Tryz.underlying5 Tryz.underlying9 rfl rfl rfl rfl) ?_
      refine Rel.steps_cons (Rel.step_eq (n := 124) (j := 7) (t := 84) (j2 := 9) (t2 := 86) rfl (.inr ⟨5, 82, rfl, rfl, rfl, by decide, rfl⟩) rfl Tryz.underlying9 rfl rfl rfl rfl rfl rfl rfl) ?_
      refine Rel.steps_cons (Rel.step_pick (n := 124) (j := 5) (t := 82) (j2 := 10) (t2 := 87) rfl (.inl rfl) rfl rfl rfl rfl rfl rfl rfl rfl) ?_
      refine Rel.steps_cons (Rel.step_pass (n := 124) (j := 11) (t := 88) rfl (.inl rfl) rfl rfl rfl rfl rfl) ?_
      refine Rel.steps_cons (Rel.step_was (n := 124) (t := 8) rfl (.inr ⟨12, 89, rfl, rfl, rfl, by decide, rfl⟩) rfl (by kernel_rfl) rfl rfl) ?_
      refine Rel.steps_cons (Rel.step_call (n := 124) rfl (.inr ⟨12, 89, rfl, rfl, rfl, by decide, rfl⟩) Tryz.func24 (by kernel_rfl) rfl #[.slice FA F.length fc] rfl (fun b w D => by simp only [List.map_toArray, List.map_cons, List.map_nil, show b.eval (.tmp 90) = .slice FA F.length fc from D.is 13 90 rfl rfl rfl]) (fun w hb => rdV (X_Texts FA fc F (textsL F) w (Kd.C_below hF6.out hb) hfc (tabl_below hT6.out hb) hFt.out))) ?_
      refine Rel.steps_cons (Rel.step_str (n := 124) (j := 14) (t := 91) rfl (.inr ⟨12, 89, rfl, rfl, rfl, by decide, rfl⟩) rfl Tryz.underlying22 Tryz.underlying5 Tryz.underlying9 rfl rfl rfl rfl) ?_
      refine Rel.steps_cons (Rel.step_was (n := 124) (t := 8) rfl (.inr ⟨12, 89, rfl, rfl, rfl, by decide, rfl⟩) rfl (by kernel_rfl) rfl rfl) ?_
      refine Rel.steps_cons (Rel.step_call (n := 124) rfl (.inr ⟨12, 89, rfl, rfl, rfl, by decide, rfl⟩) Tryz.func25 (by kernel_rfl) rfl #[.slice FA F.length fc] rfl (fun b w D => by simp only [List.map_toArray, List.map_cons, List.map_nil, show b.eval (.tmp 93) = .slice FA F.length fc from D.is 16 93 rfl rfl rfl]) (fun w hb => rdV (Y_Texts FA fc F (textsL F) w (Kd.C_below hF6.out hb) hfc hFt.out))) ?_
      refine Rel.steps_cons (Rel.step_str (n := 124) (j := 17) (t := 94) rfl (.inr ⟨12, 89, rfl, rfl, rfl, by decide, rfl⟩) rfl Tryz.underlying22 Tryz.underlying5 Tryz.underlying9 rfl rfl rfl rfl) ?_
      refine Rel.steps_cons (Rel.step_eq (n := 124) (j := 15) (t := 92) (j2 := 18) (t2 := 95) rfl (.inr ⟨12, 89, rfl, rfl, rfl, by decide, rfl⟩) rfl Tryz.underlying9 rfl rfl rfl rfl rfl rfl rfl) ?_
      refine Rel.steps_cons (Rel.step_pick (n := 124) (j := 12) (t := 89) (j2 := 19) (t2 := 96) rfl (.inl rfl) rfl rfl rfl rfl rfl rfl rfl rfl) ?_
      refine Rel.steps_cons (Rel.step_take (n := 124) (j := 20) (t := 97) rfl (.inl rfl) rfl rfl rfl rfl rfl) ?_
      exact trivial
    intro v' w7 hv hb7
    have e17 : v' 21 = .bool true := hv 21 (by decide)
    have hB7 := veil (two_below hB6.out hb7)
    have st1 := str_of (c := c1) (q7.out.below hb7)
    have st2 := str_of (c := d1) (q8.out.below hb7)
    have st3 := str_of (c := c2) (q9.out.below hb7)
    have st4 := str_of (c := d2) (q10.out.below hb7)
    simp only [Rel.fill, Act.put, List.setIfInBounds_toArray, List.set_cons_zero, List.set_cons_succ]
    rw [e17]
    clear hb7 hv e17 hB6 q7 q8 q9 q10 hF6
    go_wp2_with fail
    go_ret
    exact ⟨rfl, hB7.out⟩
theorem walk (s : ByteArray) (n : Int) (LA : Option Addr) (lc : Nat) (ls : List ByteArray) (BA : Option Addr) (bc : Nat) (bs : List Int) (w : World) (hs : s.size ≤ 140737488351232) (wn : (Lit.int .i64 n).wf = true)
    (hL : Kd.C Kd.string w LA ls.length ls) (hlc : ls.length ≤ lc) (hB : ReadsInt w .u8 BA bs.length bs) (hbc : bs.length ≤ bc) (hwf : ∀ n ∈ bs, (Lit.int .u8 n).wf = true) (hT : Tabs w) :
    Calls Tryz.prog 4 #[.string s, .int .i64 n, .agg #[.slice LA ls.length lc, .slice BA bs.length bc]] w fun e w' => e = .returned (.bool true) ∧ Below w.heap.size w w' := by
  have h1 : -9223372036854775808 ≤ n ∧ n ≤ 9223372036854775807 := by simpa [Lit.wf, IntKind.min, IntKind.max, IntKind.signed, IntKind.bits] using wn
  refine all_any s n LA lc ls BA bc bs w h1 hL hlc (C_reads hB) hbc (bytB_of fun x hx => ?_) hT
  have h2 := hwf x hx
  simpa [Lit.wf, IntKind.min, IntKind.max, IntKind.signed, IntKind.bits] using h2
end Go.Proofs.YtefpcffompgceaaGreatDoor.All
