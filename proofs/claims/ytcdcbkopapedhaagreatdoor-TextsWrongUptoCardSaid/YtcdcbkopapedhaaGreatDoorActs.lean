import Derived.Test.YtcdcbkopapedhaaGreatDoorMore
/- What the commands of texts tell. -/
namespace Go.Proofs.Tryz.Ln
open Go Go.RowKit Go.Proofs.Mem Go.Proofs.App
open Go.Proofs.YtcdcbkopapedhaaGreatDoorW.PrintWords
set_option linter.unusedVariables false
def vS (k : Int) (s : ByteArray) (L H Z : Value) : Array Value := #[.int .u8 k, .string s, L, H, Z]
/-- the value and the result's cells, laid at the call's beginning -/
structure Two (vs : Array Value) (w w2 : World) : Prop where
  sz : w2.heap.size = w.heap.size + 2
  bel : Below w.heap.size w w2
  box : w2.heap[w.heap.size]? = some (.cells vs 26 (0, 0))
  res : w2.heap[w.heap.size + 1]? = some (.cells zS 26 (0, 0))
theorem two_of (vs : Array Value) (w : World) : Two vs w ((w.alloc (.cells vs 26)).alloc (.cells zS 26)) := by
  refine ⟨by simp, (below_alloc (Below.refl _ _) _).alloc (by simp) _, heap_alloc2_old w _ _, ?_⟩
  have := heap_alloc_last (w.alloc (.cells vs 26)) (.cells zS 26)
  simpa using this
theorem info5v (k : Int) (s : ByteArray) (L H Z : Value) : (Tryz.prog.info? 26).map (·.size) = some (vS k s L H Z).size := by kernel_rfl
theorem zS_info : (Tryz.prog.info? 26).map (·.size) = some zS.size := by kernel_rfl
theorem zS_one : zS.all (·.oneCell') = true := by simp [zS, Value.oneCell']
theorem got_size (k : Int) (s : ByteArray) (hs : s.size ≤ 70368744177664) : (gotL k s).length ≤ 9223372036854775807 := by
  unfold gotL
  split
  · decide
  · exact bulkL_len s hs
/-- the tables stay where a region stores -/
theorem tabs_stor {g : Nat} {oz o' : Obj} {w w0 w' : World} (h : Tabs w) (hb : Below w.heap.size w w0) (hle : (RelG.Stor g oz o').le w0 w') (hg : w.heap.size ≤ g) (hB : w.heap.size ≤ w0.heap.size) : Tabs w' := tabs_below h (RelG.stor_below hb hle hg hB)
set_option maxRecDepth 100000 in
set_option maxHeartbeats 8000000 in
theorem get_any (k : Int) (s : ByteArray) (L H Z : Value) (AA : Option Addr) (an ac : Nat) (w : World) (hs : s.size ≤ 70368744177664) (hone : (vS k s L H Z).all (·.oneCell') = true) (hT : Tabs w) : Calls Tryz.prog 20 #[.agg (vS k s L H Z), .slice AA an ac] w (Dres (vS k s L H Z) (gotL k s) w) := by
  have hT' := veil hT
  have ht := two_of (vS k s L H Z) w
  obtain ⟨w2, hw2⟩ : ∃ w2 : World, w2 = (w.alloc (.cells (vS k s L H Z) 26)).alloc (.cells zS 26) := ⟨_, rfl⟩
  rw [← hw2] at ht
  have hw2' : Veil (w2 = (w.alloc (.cells (vS k s L H Z) 26)).alloc (.cells #[.int .u8 0, .string ⟨#[]⟩, .slice none 0 0, .slice none 0 0, .slice none 0 0] 26)) := veil hw2
  have hsz2 := ht.sz
  have hx2 := veil ht.box
  have hz2 := veil ht.res
  have hb2 := veil ht.bel
  clear hw2 ht
  go_enter Tryz.func20, Tryz.ntmps20
  go_wp2_with fail
  rw [← hw2'.out]
  refine RelG.wp_region_rel (G := RelG.Stor (w.heap.size + 1) (.cells zS 26 (0, 0)) (.cells (vS k s L H Z) 26 (0, 0))) (n := 9) [RelG.is _ 6 (.agg (vS k s L H Z)), RelG.is _ 7 (.agg (vS k s L H Z)), RelG.fr _ _ _ 8 (gotL k s), RelG.put _ _ _, RelG.fr _ _ _ 5 (gotL k s)] [[6], [7], [8], [], [5]] (by kernel_rfl) rfl rfl (by kernel_rfl) ?_ ?_
  · refine RelG.steps_cons (RelG.step_load (n := 9) (t := 2) (u := 6) (b := w.heap.size) (cs := vS k s L H Z) rfl rfl rfl rfl (by decide) (by kernel_rfl) rfl Tryz.underlying26 rfl (info5v k s L H Z) (fun w' hle => RelG.stor_other hle (by omega) hx2.out) rfl) ?_
    refine RelG.steps_cons (RelG.step_load (n := 9) (t := 2) (u := 7) (b := w.heap.size) (cs := vS k s L H Z) rfl rfl rfl rfl (by decide) (by kernel_rfl) rfl Tryz.underlying26 rfl (info5v k s L H Z) (fun w' hle => RelG.stor_other hle (by omega) hx2.out) rfl) ?_
    refine RelG.steps_cons (RelG.step_call rfl Tryz.func21 (by kernel_rfl) rfl #[.agg (vS k s L H Z)] rfl (fun b w' D => by simp only [List.map_toArray, List.map_cons, List.map_nil, D.is 1 rfl rfl]) (fun b w' D => call_fr (got_any k s L H Z w' hs (tabs_stor hT'.out hb2.out D.bel (by omega) (by omega))) (by have := stor_size D.bel; omega) (by rw [D.siz]; exact (by decide : 8 < 9)))) ?_
    refine RelG.steps_cons (RelG.step_store (j := 0) (t := 4) (u := 6) rfl rfl rfl (by kernel_rfl) rfl rfl rfl ⟨zS, rfl, rfl⟩ hz2.out (info5v k s L H Z) hone rfl) ?_
    refine RelG.steps_cons (RelG.step_pass_of (n := 9) (j := 2) (t := 8) (u := 5) (p := RelG.frP (w.heap.size + 1) (gotL k s)) (hp := fun x w w' h hle => RelG.frP_sta _ x w w' h hle) rfl rfl (.inr rfl) rfl (by decide) rfl rfl rfl) ?_
    exact trivial
  intro v w9 hv hle
  have h2 : w9.heap[w.heap.size + 1]? = some (.cells (vS k s L H Z) 26 (0, 0)) := hv 3 (by decide)
  have h3 : RelG.frP (w.heap.size + 1) (gotL k s) (v 4) w9 := hv 4 (by decide)
  simp only [Rel.fill, Act.put, List.setIfInBounds_toArray, List.set_cons_zero, List.set_cons_succ]
  have hD := veil (dres_of (v := vS k s L H Z) hb2.out hle (by omega) (by omega) h3)
  have h2' := veil h2
  clear hv hle h3 h2
  go_wp2_with fail
  refine bodyPost_ret (v := .tuple #[.agg (vS k s L H Z), v 4]) ?_ rfl hD.out
  exact RelG.results_cell_tmp (p := 4) (q := 5) (ty := 26) Tryz.results20 _ _ (w.heap.size + 1) 26 (vS k s L H Z) (0, 0) _ _ rfl rfl h2'.out Tryz.underlying26 rfl (by kernel_rfl)
set_option maxRecDepth 100000 in
set_option maxHeartbeats 8000000 in
theorem getdel_any (k : Int) (s : ByteArray) (L H Z : Value) (AA : Option Addr) (an ac : Nat) (w : World) (hs : s.size ≤ 70368744177664) (hT : Tabs w) : Calls Tryz.prog 22 #[.agg (vS k s L H Z), .slice AA an ac] w (Dres zS (gotL k s) w) := by
  have hT' := veil hT
  obtain ⟨q, hq⟩ : ∃ q, (gotL k s).length = q := ⟨_, rfl⟩
  have ht := two_of (vS k s L H Z) w
  obtain ⟨w2, hw2⟩ : ∃ w2 : World, w2 = (w.alloc (.cells (vS k s L H Z) 26)).alloc (.cells zS 26) := ⟨_, rfl⟩
  rw [← hw2] at ht
  have hw2' : Veil (w2 = (w.alloc (.cells #[.int .u8 k, .string s, L, H, Z] 26)).alloc (.cells #[.int .u8 0, .string ⟨#[]⟩, .slice none 0 0, .slice none 0 0, .slice none 0 0] 26)) := veil hw2
  show Calls Tryz.prog 22 #[.agg #[.int .u8 k, .string s, L, H, Z], .slice AA an ac] w _
  have hsz2 := ht.sz
  have hx2 := veil ht.box
  have hz2 := veil ht.res
  have hb2 := veil ht.bel
  clear hw2 ht
  go_enter Tryz.func22, Tryz.ntmps22
  go_wp2_with (refine wpList_build_to rfl 26 _ rfl zS (by kernel_rfl) ?_)
  rw [← hw2'.out]
  refine (got_any k s L H Z _ hs (tabs_below hT'.out hb2.out)).mono ?_
  rintro e w3 ⟨A, c, rfl, hf3, hb3⟩
  have hf3' := veil (frP_of (g := w.heap.size + 1) hf3 (by omega))
  have hB3 := veil (two_below hb2.out hb3)
  have hz3 := veil ((hb3.block _ (by omega)).trans hz2.out)
  have hsz3 : w.heap.size + 2 ≤ w3.heap.size := by have := hb3.size; omega
  rw [hq] at hf3' ⊢
  clear hb3 hf3 hq
  have hset := veil (RelG.stor_set (w.heap.size + 1) 26 zS zS (.cells zS 26 (0, 0)) w3 hz3.out)
  have hrow := veil (setRow_heap w3 (w.heap.size + 1) zS zS 26 (0, 0) hz3.out)
  have hst := RelG.storeCells_row (P := Tryz.prog) w3 (w.heap.size + 1) 26 zS zS hz3.out rfl zS_one
  go_wp2_with fail
  refine bodyPost_ret (v := .tuple #[.agg zS, .slice A q c]) ?_ rfl (dres_of hB3.out hset.out (by omega) (by omega) (RelG.frP_sta _ _ _ _ hf3'.out hset.out))
  exact RelG.results_cell_tmp (p := 4) (q := 5) (ty := 26) Tryz.results22 _ _ (w.heap.size + 1) 26 zS (0, 0) _ _ rfl rfl hrow.out Tryz.underlying26 rfl zS_info
set_option maxRecDepth 100000 in
set_option maxHeartbeats 8000000 in
theorem append_any (k : Int) (s a : ByteArray) (L H Z : Value) (ad : Addr) (an ac : Nat) (w : World) (hs : s.size ≤ 1000000000) (has : a.size ≤ 1000000000) (h2 : 2 < an) (hac : an ≤ ac) (c2 : w.cell? (ad.add 2) = some (.string a)) (hT : Tabs w) :
    Calls Tryz.prog 23 #[.agg (vS k s L H Z), .slice (some ad) an ac] w (Dres (tS (s ++ a)) (lineL ⟨#[58]⟩ (numS ((s ++ a).size : Int))) w) := by
  have hT' := veil hT
  have hsa : (s ++ a).size = s.size + a.size := ByteArray.size_append
  have hadb : (ad.add 2).block < w.heap.size := World.block_lt_of_cell? w _ c2
  have c2' := veil c2
  obtain ⟨t, hts⟩ : ∃ t, s ++ a = t := ⟨_, rfl⟩
  have hts' := veil hts
  have ht64 : Int64 (t.size : Int) := by rw [← hts]; exact ⟨by omega, by omega⟩
  rw [hts]
  have z1 : ¬ 9223372036854775807 < s.size + a.size := by omega
  clear c2 hts
  have ht := two_of (vS k s L H Z) w
  obtain ⟨w2, hw2⟩ : ∃ w2 : World, w2 = (w.alloc (.cells (vS k s L H Z) 26)).alloc (.cells zS 26) := ⟨_, rfl⟩
  rw [← hw2] at ht
  have hw2' : Veil (w2 = (w.alloc (.cells (vS k s L H Z) 26)).alloc (.cells #[.int .u8 0, .string ⟨#[]⟩, .slice none 0 0, .slice none 0 0, .slice none 0 0] 26)) := veil hw2
  have hsz2 := ht.sz
  have hx2 := veil ht.box
  have hz2 := veil ht.res
  have hb2 := veil ht.bel
  clear hw2 ht
  go_enter Tryz.func23, Tryz.ntmps23
  go_wp2_with fail
  rw [← hw2'.out]
  refine RelG.wp_region_rel (G := RelG.Stor (w.heap.size + 1) (.cells zS 26 (0, 0)) (.cells zS 26 (0, 0))) (n := 18) [RelG.is _ 7 (.pointer (some ⟨w.heap.size, 1, none⟩)), RelG.is _ 8 (.string s), RelG.is _ 9 (.slice (some ad) an ac), RelG.is _ 10 (.pointer (some (ad.add 2))), RelG.is _ 11 (.string a), RelG.is _ 12 (.string t), RelG.is _ 6 (.string t)] [[7], [8], [9], [10], [11], [12], [6]] (by kernel_rfl) rfl rfl (by kernel_rfl) ?_ ?_
  · refine RelG.steps_cons (RelG.step_run0 (n := 18) (t := 2) (u := 7) (v := .pointer (some ⟨w.heap.size, 0, none⟩)) rfl rfl rfl (by decide) (by kernel_rfl) rfl (fun ρ w' hle h _ => by simp [execOp, h, go_sem]) rfl) ?_
    refine RelG.steps_cons (RelG.step_run (n := 18) (j := 0) (t := 7) (u := 8) (v := .pointer (some ⟨w.heap.size, 1, none⟩)) rfl rfl rfl (by decide) rfl rfl (fun ρ w' hle h _ => by
      have c : w'.cell? ⟨w.heap.size, 1, none⟩ = some (.string s) := by rw [cell_of_row _ _ _ _ _ _ (RelG.stor_other hle (by omega) hx2.out)]; rfl
      simp [execOp, h, go_sem, c]) rfl) ?_
    refine RelG.steps_cons (RelG.step_was (n := 18) (t := 1) (u := 9) rfl rfl rfl rfl (by decide) (by kernel_rfl) rfl rfl) ?_
    refine RelG.steps_cons (RelG.step_run (n := 18) (j := 2) (t := 9) (u := 10) (v := .slice (some ad) an ac) rfl rfl rfl (by decide) rfl rfl (fun ρ w' hle h hk => by
      have hlt : (2 : Int) < an := by omega
      simp [execOp, h, hk, go_sem, hlt]) rfl) ?_
    refine RelG.steps_cons (RelG.step_run (n := 18) (j := 3) (t := 10) (u := 11) (v := .pointer (some (ad.add 2))) rfl rfl rfl (by decide) rfl rfl (fun ρ w' hle h _ => by
      have c : w'.cell? (ad.add 2) = some (.string a) := by
        have hb := RelG.stor_below hb2.out hle (by omega) (by omega)
        rw [hb.cell hadb]; exact c2'.out
      have c3 : w'.cell? ⟨ad.block, ad.off + 2, none⟩ = some (.string a) := c
      simp [execOp, h, go_sem, c3]) rfl) ?_
    refine RelG.steps_cons (RelG.step_run2 (n := 18) (j := 1) (t := 8) (j2 := 4) (t2 := 11) (u := 12) (v := .string s) (v2 := .string a) rfl rfl rfl (by decide) rfl rfl rfl rfl (fun ρ w' hle h h' _ => by simp [execOp, h, h', go_sem, z1, hts'.out]) rfl) ?_
    refine RelG.steps_cons (RelG.step_pass (n := 18) (j := 5) (t := 12) (u := 6) rfl rfl (.inr rfl) rfl (by decide) rfl rfl rfl) ?_
    exact trivial
  intro v w3 hv hle
  have e6 : v 6 = .string t := hv 6 (by decide)
  have hz3 : w3.heap[w.heap.size + 1]? = some (.cells zS 26 (0, 0)) := hle.2.2.2 hz2.out
  have hB3 := veil (RelG.stor_below hb2.out hle (by omega) (by omega))
  have hsz3 : w.heap.size + 2 ≤ w3.heap.size := by have := stor_size hle; omega
  simp only [Rel.fill, Act.put, List.setIfInBounds_toArray, List.set_cons_zero, List.set_cons_succ]
  rw [e6]
  clear hv hle e6
  go_wp2_with fail
  refine (text_val t _).mono ?_
  rintro e w8 ⟨rfl, hb8⟩
  have hB8 := veil (two_below hB3.out hb8)
  have hz8 := veil ((hb8.block _ (by omega)).trans hz3)
  have hsz8 : w.heap.size + 2 ≤ w8.heap.size := by have := hb8.size; omega
  clear hb8 hz3
  go_wp2_with fail
  refine (Int_any (t.size : Int) _ ht64 (tabl_below hT'.out.tab hB8.out)).mono ?_
  rintro e w9 ⟨A, c, rfl, hf9, hb9⟩
  have hf9' := veil (frP_of (g := w.heap.size + 1) hf9 (by omega))
  have hB9 := veil (two_below hB8.out hb9)
  have hz9 := veil ((hb9.block _ (by omega)).trans hz8.out)
  have hsz9 : w.heap.size + 2 ≤ w9.heap.size := by have := hb9.size; omega
  obtain ⟨q, hq⟩ : ∃ q, (lineL ⟨#[58]⟩ (numS (t.size : Int))).length = q := ⟨_, rfl⟩
  rw [hq] at hf9' ⊢
  clear hb9 hf9 hq
  have hset := veil (RelG.stor_set (w.heap.size + 1) 26 zS (tS t) (.cells zS 26 (0, 0)) w9 hz9.out)
  have hrow := veil (setRow_heap w9 (w.heap.size + 1) zS (tS t) 26 (0, 0) hz9.out)
  have hst := RelG.storeCells_row (P := Tryz.prog) w9 (w.heap.size + 1) 26 zS (tS t) hz9.out rfl (tS_one _)
  go_wp2_with fail
  refine bodyPost_ret (v := .tuple #[.agg (tS t), .slice A q c]) ?_ rfl (dres_of hB9.out hset.out (by omega) (by omega) (RelG.frP_sta _ _ _ _ hf9'.out hset.out))
  exact RelG.results_cell_tmp (p := 4) (q := 5) (ty := 26) Tryz.results23 _ _ (w.heap.size + 1) 26 (tS t) (0, 0) _ _ rfl rfl hrow.out Tryz.underlying26 rfl (by kernel_rfl)
end Go.Proofs.Tryz.Ln
