import Derived.Test.YtcdcbkopapedhaaGreatDoorActs
/- What the commands of texts tell, two. -/
namespace Go.Proofs.Tryz.Ln
open Go Go.RowKit Go.Proofs.Mem Go.Proofs.App
open Go.Proofs.YtcdcbkopapedhaaGreatDoorW.PrintWords
set_option linter.unusedVariables false
set_option linter.unusedSimpArgs false
set_option maxRecDepth 100000 in
set_option maxHeartbeats 8000000 in
theorem strlen_any (k : Int) (s : ByteArray) (L H Z : Value) (AA : Option Addr) (an ac : Nat) (w : World) (hs : s.size ≤ 70368744177664) (hone : (vS k s L H Z).all (·.oneCell') = true) (hT : Tabs w) : Calls Tryz.prog 26 #[.agg (vS k s L H Z), .slice AA an ac] w (Dres (vS k s L H Z) (lineL ⟨#[58]⟩ (numS (s.size : Int))) w) := by
  have hT' := veil hT
  have h64 : Int64 (s.size : Int) := ⟨by omega, by omega⟩
  have ht := two_of (vS k s L H Z) w
  obtain ⟨w2, hw2⟩ : ∃ w2 : World, w2 = (w.alloc (.cells (vS k s L H Z) 26)).alloc (.cells zS 26) := ⟨_, rfl⟩
  rw [← hw2] at ht
  have hw2' : Veil (w2 = (w.alloc (.cells (vS k s L H Z) 26)).alloc (.cells #[.int .u8 0, .string ⟨#[]⟩, .slice none 0 0, .slice none 0 0, .slice none 0 0] 26)) := veil hw2
  have hsz2 := ht.sz
  have hx2 := veil ht.box
  have hz2 := veil ht.res
  have hb2 := veil ht.bel
  clear hw2 ht
  go_enter Tryz.func26, Tryz.ntmps26
  go_wp2_with fail
  rw [← hw2'.out]
  refine RelG.wp_region_rel (G := RelG.Stor (w.heap.size + 1) (.cells zS 26 (0, 0)) (.cells (vS k s L H Z) 26 (0, 0))) (n := 11) [RelG.is _ 6 (.agg (vS k s L H Z)), RelG.is _ 7 (.pointer (some ⟨w.heap.size, 1, none⟩)), RelG.is _ 8 (.string s), RelG.is _ 9 (.int .i64 s.size), RelG.fr _ _ _ 10 (lineL ⟨#[58]⟩ (numS (s.size : Int))), RelG.put _ _ _, RelG.fr _ _ _ 5 (lineL ⟨#[58]⟩ (numS (s.size : Int)))] [[6], [7], [8], [9], [10], [], [5]] (by kernel_rfl) rfl rfl (by kernel_rfl) ?_ ?_
  · refine RelG.steps_cons (RelG.step_load (n := 11) (t := 2) (u := 6) (b := w.heap.size) (cs := vS k s L H Z) rfl rfl rfl rfl (by decide) (by kernel_rfl) rfl Tryz.underlying26 rfl (info5v k s L H Z) (fun w' hle => RelG.stor_other hle (by omega) hx2.out) rfl) ?_
    refine RelG.steps_cons (RelG.step_run0 (n := 11) (t := 2) (u := 7) (v := .pointer (some ⟨w.heap.size, 0, none⟩)) rfl rfl rfl (by decide) (by kernel_rfl) rfl (fun ρ w' hle h _ => by simp [execOp, h, go_sem]) rfl) ?_
    refine RelG.steps_cons (RelG.step_run (n := 11) (j := 1) (t := 7) (u := 8) (v := .pointer (some ⟨w.heap.size, 1, none⟩)) rfl rfl rfl (by decide) rfl rfl (fun ρ w' hle h _ => by
      have c : w'.cell? ⟨w.heap.size, 1, none⟩ = some (.string s) := by rw [cell_of_row _ _ _ _ _ _ (RelG.stor_other hle (by omega) hx2.out)]; rfl
      simp [execOp, h, go_sem, c]) rfl) ?_
    refine RelG.steps_cons (RelG.step_run (n := 11) (j := 2) (t := 8) (u := 9) (v := .string s) rfl rfl rfl (by decide) rfl rfl (fun ρ w' hle h _ => by simp [execOp, h, go_sem]) rfl) ?_
    refine RelG.steps_cons (RelG.step_call rfl Tryz.func25 (by kernel_rfl) rfl #[.int .i64 s.size] rfl (fun b w' D => by simp only [List.map_toArray, List.map_cons, List.map_nil, D.is 3 rfl rfl]) (fun b w' D => call_fr (Int_any s.size w' h64 (tabs_stor hT'.out hb2.out D.bel (by omega) (by omega)).tab) (by have := stor_size D.bel; omega) (by rw [D.siz]; exact (by decide : 10 < 11)))) ?_
    refine RelG.steps_cons (RelG.step_store (j := 0) (t := 4) (u := 6) rfl rfl rfl (by kernel_rfl) rfl rfl rfl ⟨zS, rfl, rfl⟩ hz2.out (info5v k s L H Z) hone rfl) ?_
    refine RelG.steps_cons (RelG.step_pass_of (n := 11) (j := 4) (t := 10) (u := 5) (p := RelG.frP (w.heap.size + 1) (lineL ⟨#[58]⟩ (numS (s.size : Int)))) (hp := fun x w w' h hle => RelG.frP_sta _ x w w' h hle) rfl rfl (.inr rfl) rfl (by decide) rfl rfl rfl) ?_
    exact trivial
  intro v w9 hv hle
  have h2 : w9.heap[w.heap.size + 1]? = some (.cells (vS k s L H Z) 26 (0, 0)) := hv 5 (by decide)
  have h3 : RelG.frP (w.heap.size + 1) (lineL ⟨#[58]⟩ (numS (s.size : Int))) (v 6) w9 := hv 6 (by decide)
  simp only [Rel.fill, Act.put, List.setIfInBounds_toArray, List.set_cons_zero, List.set_cons_succ]
  have hD := veil (dres_of (v := vS k s L H Z) hb2.out hle (by omega) (by omega) h3)
  have h2' := veil h2
  clear hv hle h3 h2
  go_wp2_with fail
  refine bodyPost_ret (v := .tuple #[.agg (vS k s L H Z), v 6]) ?_ rfl hD.out
  exact RelG.results_cell_tmp (p := 4) (q := 5) (ty := 26) Tryz.results26 _ _ (w.heap.size + 1) 26 (vS k s L H Z) (0, 0) _ _ rfl rfl h2'.out Tryz.underlying26 rfl (by kernel_rfl)
/-- more's answer, met in a region that stores -/
theorem call_tp {P : Program} {f : FuncId} {args : Array Value} {g : Nat} {oz o' : Obj} {t : Tmp} {mv : Array Value} {mr : List Int} {b : Act} {w : World} (h : Calls P f args w (Dres mv mr w)) (hg : g < w.heap.size) (ht : t < b.tmps.size) :
    Calls P f args w fun e w' => ∃ x, e = .returned x ∧ (RelG.tp g oz o' t mv mr).r (RelG.get (b.put (some t) x)) w' ∧ (RelG.Stor g oz o').le w w' :=
  h.mono fun e w' ⟨A, n, c, he, hf, hb⟩ => ⟨_, he, by
    show RelG.tpP g mv mr (RelG.get (b.put (some t) _) t) w'
    rw [RelG.get_put b t _ ht]
    exact ⟨_, rfl, A, n, c, _, rfl, hf, hg⟩, (RelG.Stor g oz o').bel hb⟩
theorem call_is {P : Program} {f : FuncId} {args : Array Value} {g : Nat} {oz o' : Obj} {t : Tmp} {v : Value} {b : Act} {w : World} (h : Calls P f args w fun e w' => e = .returned v ∧ Below w.heap.size w w') (ht : t < b.tmps.size) :
    Calls P f args w fun e w' => ∃ x, e = .returned x ∧ (RelG.is (RelG.Stor g oz o') t v).r (RelG.get (b.put (some t) x)) w' ∧ (RelG.Stor g oz o').le w w' :=
  h.mono fun e w' ⟨he, hb⟩ => ⟨_, he, RelG.get_put b t _ ht, (RelG.Stor g oz o').bel hb⟩
theorem moreF_size (k : Int) (s a : ByteArray) (L H Z : Value) (was : ByteArray) : (Tryz.prog.info? 26).map (·.size) = some (moreF (vS k s L H Z) was a).1.size ∧ zS.size = (moreF (vS k s L H Z) was a).1.size := by
  have h : (moreF (vS k s L H Z) was a).1.size = 5 := by
    unfold moreF
    split
    · split <;> rfl
    · rfl
  rw [h]
  exact ⟨by kernel_rfl, rfl⟩
theorem moreF_one (k : Int) (s a : ByteArray) (L H Z : Value) (was : ByteArray) (hone : (vS k s L H Z).all (·.oneCell') = true) : (moreF (vS k s L H Z) was a).1.all (·.oneCell') = true := by
  unfold moreF
  cases Dig.parseO a with
  | none => exact hone
  | some x =>
    cases Dig.parseO was with
    | none => exact hone
    | some n =>
      simp only
      cases addO n x with
      | none => exact hone
      | some z => exact tS_one _
set_option maxRecDepth 100000 in
set_option maxHeartbeats 8000000 in
theorem incrby_any (k : Int) (s a : ByteArray) (L H Z : Value) (ad : Addr) (an ac : Nat) (w : World) (hs : s.size ≤ 70368744177664) (has : a.size ≤ 70368744177664) (hone : (vS k s L H Z).all (·.oneCell') = true) (h2 : 2 < an) (hac : an ≤ ac) (c2 : w.cell? (ad.add 2) = some (.string a)) (hT : Tabs w) :
    Calls Tryz.prog 27 #[.agg (vS k s L H Z), .slice (some ad) an ac] w (Dres (moreF (vS k s L H Z) (if k = 0 then numS 0 else s) a).1 (moreF (vS k s L H Z) (if k = 0 then numS 0 else s) a).2 w) := by
  have hT' := veil hT
  have hadb : (ad.add 2).block < w.heap.size := World.block_lt_of_cell? w _ c2
  have c2' := veil c2
  obtain ⟨mv, hmv⟩ : ∃ mv, (moreF (vS k s L H Z) (if k = 0 then numS 0 else s) a).1 = mv := ⟨_, rfl⟩
  obtain ⟨mr, hmr⟩ : ∃ mr, (moreF (vS k s L H Z) (if k = 0 then numS 0 else s) a).2 = mr := ⟨_, rfl⟩
  have hms := veil (moreF_size k s a L H Z (if k = 0 then numS 0 else s))
  have hmo := veil (moreF_one k s a L H Z (if k = 0 then numS 0 else s) hone)
  have hM : Veil (∀ w', Tabs w' → Calls Tryz.prog 28 #[.agg (vS k s L H Z), .string a] w' (Dres mv mr w')) := veil fun w' hT => by
    have h := more_any k s L H Z a w' hs has hone hT
    rw [← hmv, ← hmr]
    exact h
  rw [hmv] at hms hmo
  rw [hmv, hmr]
  clear hmv hmr
  clear c2
  have ht := two_of (vS k s L H Z) w
  obtain ⟨w2, hw2⟩ : ∃ w2 : World, w2 = (w.alloc (.cells (vS k s L H Z) 26)).alloc (.cells zS 26) := ⟨_, rfl⟩
  rw [← hw2] at ht
  have hw2' : Veil (w2 = (w.alloc (.cells (vS k s L H Z) 26)).alloc (.cells #[.int .u8 0, .string ⟨#[]⟩, .slice none 0 0, .slice none 0 0, .slice none 0 0] 26)) := veil hw2
  have hsz2 := ht.sz
  have hx2 := veil ht.box
  have hz2 := veil ht.res
  have hb2 := veil ht.bel
  clear hw2 ht
  go_enter Tryz.func27, Tryz.ntmps27
  go_wp2_with fail
  rw [← hw2'.out]
  refine RelG.wp_region_rel (G := RelG.Stor (w.heap.size + 1) (.cells zS 26 (0, 0)) (.cells (mv) 26 (0, 0))) (n := 13) [RelG.is _ 6 (.agg (vS k s L H Z)), RelG.is _ 7 (.slice (some ad) an ac), RelG.is _ 8 (.pointer (some (ad.add 2))), RelG.is _ 9 (.string a), RelG.tp _ _ _ 10 mv mr, RelG.is _ 11 (.agg mv), RelG.fr _ _ _ 12 mr, RelG.put _ _ _, RelG.fr _ _ _ 5 mr] [[6], [7], [8], [9], [10], [11], [12], [], [5]] (by kernel_rfl) rfl rfl (by kernel_rfl) ?_ ?_
  · refine RelG.steps_cons (RelG.step_load (n := 13) (t := 2) (u := 6) (b := w.heap.size) (cs := vS k s L H Z) rfl rfl rfl rfl (by decide) (by kernel_rfl) rfl Tryz.underlying26 rfl (info5v k s L H Z) (fun w' hle => RelG.stor_other hle (by omega) hx2.out) rfl) ?_
    refine RelG.steps_cons (RelG.step_was (n := 13) (t := 1) (u := 7) rfl rfl rfl rfl (by decide) (by kernel_rfl) rfl rfl) ?_
    refine RelG.steps_cons (RelG.step_run (n := 13) (j := 1) (t := 7) (u := 8) (v := .slice (some ad) an ac) rfl rfl rfl (by decide) rfl rfl (fun ρ w' hle h hk => by
      have hlt : (2 : Int) < an := by omega
      simp [execOp, h, hk, go_sem, hlt]) rfl) ?_
    refine RelG.steps_cons (RelG.step_run (n := 13) (j := 2) (t := 8) (u := 9) (v := .pointer (some (ad.add 2))) rfl rfl rfl (by decide) rfl rfl (fun ρ w' hle h _ => by
      have c : w'.cell? (ad.add 2) = some (.string a) := by
        have hb := RelG.stor_below hb2.out hle (by omega) (by omega)
        rw [hb.cell hadb]; exact c2'.out
      have c3 : w'.cell? ⟨ad.block, ad.off + 2, none⟩ = some (.string a) := c
      simp [execOp, h, go_sem, c3]) rfl) ?_
    refine RelG.steps_cons (RelG.step_call rfl Tryz.func28 (by kernel_rfl) rfl #[.agg (vS k s L H Z), .string a] rfl (fun b w' D => by simp only [List.map_toArray, List.map_cons, List.map_nil, D.is 0 rfl rfl, D.is 3 rfl rfl]) (fun b w' D => call_tp (hM.out w' (tabs_stor hT'.out hb2.out D.bel (by omega) (by omega))) (by have := stor_size D.bel; omega) (by rw [D.siz]; exact (by decide : 10 < 13)))) ?_
    refine RelG.steps_cons (RelG.step_tup0 (n := 13) (j := 4) (t := 10) (u := 11) rfl rfl rfl rfl (by decide) rfl rfl rfl) ?_
    refine RelG.steps_cons (RelG.step_tup1 (n := 13) (j := 4) (t := 10) (u := 12) rfl rfl rfl rfl (by decide) rfl rfl rfl) ?_
    refine RelG.steps_cons (RelG.step_store (j := 5) (t := 4) (u := 11) rfl rfl rfl (by kernel_rfl) rfl rfl rfl ⟨zS, rfl, hms.out.2⟩ hz2.out hms.out.1 hmo.out rfl) ?_
    refine RelG.steps_cons (RelG.step_pass_of (n := 13) (j := 6) (t := 12) (u := 5) (p := RelG.frP (w.heap.size + 1) mr) (hp := fun x w w' h hle => RelG.frP_sta _ x w w' h hle) rfl rfl (.inr rfl) rfl (by decide) rfl rfl rfl) ?_
    exact trivial
  intro v w9 hv hle
  have h2 : w9.heap[w.heap.size + 1]? = some (.cells (mv) 26 (0, 0)) := hv 7 (by decide)
  have h3 : RelG.frP (w.heap.size + 1) mr (v 8) w9 := hv 8 (by decide)
  simp only [Rel.fill, Act.put, List.setIfInBounds_toArray, List.set_cons_zero, List.set_cons_succ]
  have hD := veil (dres_of (v := mv) hb2.out hle (by omega) (by omega) h3)
  have h2' := veil h2
  clear hv hle h3 h2
  go_wp2_with fail
  refine bodyPost_ret (v := .tuple #[.agg (mv), v 8]) ?_ rfl hD.out
  exact RelG.results_cell_tmp (p := 4) (q := 5) (ty := 26) Tryz.results27 _ _ (w.heap.size + 1) 26 (mv) (0, 0) _ _ rfl rfl h2'.out Tryz.underlying26 rfl hms.out.1
set_option maxRecDepth 100000 in
set_option maxHeartbeats 8000000 in
theorem incr_any (k : Int) (s : ByteArray) (L H Z : Value) (AA : Option Addr) (an ac : Nat) (w : World) (hs : s.size ≤ 70368744177664) (hone : (vS k s L H Z).all (·.oneCell') = true) (hT : Tabs w) :
    Calls Tryz.prog 29 #[.agg (vS k s L H Z), .slice AA an ac] w (Dres (moreF (vS k s L H Z) (if k = 0 then numS 0 else s) (numS 1)).1 (moreF (vS k s L H Z) (if k = 0 then numS 0 else s) (numS 1)).2 w) := by
  have hT' := veil hT
  have has : (numS 1).size ≤ 70368744177664 := by have := numS_size 1 (by decide) (by decide); omega
  obtain ⟨mv, hmv⟩ : ∃ mv, (moreF (vS k s L H Z) (if k = 0 then numS 0 else s) (numS 1)).1 = mv := ⟨_, rfl⟩
  obtain ⟨mr, hmr⟩ : ∃ mr, (moreF (vS k s L H Z) (if k = 0 then numS 0 else s) (numS 1)).2 = mr := ⟨_, rfl⟩
  have hms := veil (moreF_size k s (numS 1) L H Z (if k = 0 then numS 0 else s))
  have hmo := veil (moreF_one k s (numS 1) L H Z (if k = 0 then numS 0 else s) hone)
  have hM : Veil (∀ w', Tabs w' → Calls Tryz.prog 28 #[.agg (vS k s L H Z), .string (numS 1)] w' (Dres mv mr w')) := veil fun w' hT => by
    have h := more_any k s L H Z (numS 1) w' hs has hone hT
    rw [← hmv, ← hmr]
    exact h
  rw [hmv] at hms hmo
  rw [hmv, hmr]
  clear hmv hmr
  have ht := two_of (vS k s L H Z) w
  obtain ⟨w2, hw2⟩ : ∃ w2 : World, w2 = (w.alloc (.cells (vS k s L H Z) 26)).alloc (.cells zS 26) := ⟨_, rfl⟩
  rw [← hw2] at ht
  have hw2' : Veil (w2 = (w.alloc (.cells (vS k s L H Z) 26)).alloc (.cells #[.int .u8 0, .string ⟨#[]⟩, .slice none 0 0, .slice none 0 0, .slice none 0 0] 26)) := veil hw2
  have hsz2 := ht.sz
  have hx2 := veil ht.box
  have hz2 := veil ht.res
  have hb2 := veil ht.bel
  clear hw2 ht
  go_enter Tryz.func29, Tryz.ntmps29
  go_wp2_with fail
  rw [← hw2'.out]
  refine RelG.wp_region_rel (G := RelG.Stor (w.heap.size + 1) (.cells zS 26 (0, 0)) (.cells (mv) 26 (0, 0))) (n := 11) [RelG.is _ 6 (.agg (vS k s L H Z)), RelG.is _ 7 (.string (numS 1)), RelG.tp _ _ _ 8 mv mr, RelG.is _ 9 (.agg mv), RelG.fr _ _ _ 10 mr, RelG.put _ _ _, RelG.fr _ _ _ 5 mr] [[6], [7], [8], [9], [10], [], [5]] (by kernel_rfl) rfl rfl (by kernel_rfl) ?_ ?_
  · refine RelG.steps_cons (RelG.step_load (n := 11) (t := 2) (u := 6) (b := w.heap.size) (cs := vS k s L H Z) rfl rfl rfl rfl (by decide) (by kernel_rfl) rfl Tryz.underlying26 rfl (info5v k s L H Z) (fun w' hle => RelG.stor_other hle (by omega) hx2.out) rfl) ?_
    refine RelG.steps_cons (RelG.step_call rfl Tryz.func30 (by kernel_rfl) rfl #[.int .i64 1] rfl (fun b w' D => by simp [Act.eval]) (fun b w' D => call_is (text_any 1 w' ⟨by decide, by decide⟩ (tabs_stor hT'.out hb2.out D.bel (by omega) (by omega)).tab) (by rw [D.siz]; exact (by decide : 7 < 11)))) ?_
    refine RelG.steps_cons (RelG.step_call rfl Tryz.func28 (by kernel_rfl) rfl #[.agg (vS k s L H Z), .string (numS 1)] rfl (fun b w' D => by simp only [List.map_toArray, List.map_cons, List.map_nil, D.is 0 rfl rfl, D.is 1 rfl rfl]) (fun b w' D => call_tp (hM.out w' (tabs_stor hT'.out hb2.out D.bel (by omega) (by omega))) (by have := stor_size D.bel; omega) (by rw [D.siz]; exact (by decide : 8 < 11)))) ?_
    refine RelG.steps_cons (RelG.step_tup0 (n := 11) (j := 2) (t := 8) (u := 9) rfl rfl rfl rfl (by decide) rfl rfl rfl) ?_
    refine RelG.steps_cons (RelG.step_tup1 (n := 11) (j := 2) (t := 8) (u := 10) rfl rfl rfl rfl (by decide) rfl rfl rfl) ?_
    refine RelG.steps_cons (RelG.step_store (j := 3) (t := 4) (u := 9) rfl rfl rfl (by kernel_rfl) rfl rfl rfl ⟨zS, rfl, hms.out.2⟩ hz2.out hms.out.1 hmo.out rfl) ?_
    refine RelG.steps_cons (RelG.step_pass_of (n := 11) (j := 4) (t := 10) (u := 5) (p := RelG.frP (w.heap.size + 1) mr) (hp := fun x w w' h hle => RelG.frP_sta _ x w w' h hle) rfl rfl (.inr rfl) rfl (by decide) rfl rfl rfl) ?_
    exact trivial
  intro v w9 hv hle
  have h2 : w9.heap[w.heap.size + 1]? = some (.cells (mv) 26 (0, 0)) := hv 5 (by decide)
  have h3 : RelG.frP (w.heap.size + 1) mr (v 6) w9 := hv 6 (by decide)
  simp only [Rel.fill, Act.put, List.setIfInBounds_toArray, List.set_cons_zero, List.set_cons_succ]
  have hD := veil (dres_of (v := mv) hb2.out hle (by omega) (by omega) h3)
  have h2' := veil h2
  clear hv hle h3 h2
  go_wp2_with fail
  refine bodyPost_ret (v := .tuple #[.agg (mv), v 6]) ?_ rfl hD.out
  exact RelG.results_cell_tmp (p := 4) (q := 5) (ty := 26) Tryz.results29 _ _ (w.heap.size + 1) 26 (mv) (0, 0) _ _ rfl rfl h2'.out Tryz.underlying26 rfl hms.out.1
end Go.Proofs.Tryz.Ln
