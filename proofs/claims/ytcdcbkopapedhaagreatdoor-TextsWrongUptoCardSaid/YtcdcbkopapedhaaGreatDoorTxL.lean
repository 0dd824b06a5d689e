import Derived.Test.YtcdcbkopapedhaaGreatDoorDo
import Derived.Test.YtcdcbkopapedhaaGreatDoorWrG
/- The examples of layer 11. -/
namespace Go.Proofs.Tryz.Ln
open Go Go.RowKit Go.Proofs.Mem Go.Proofs.App
open Go.Proofs.YtcdcbkopapedhaaGreatDoorW.PrintWords
set_option linter.unusedVariables false
theorem str_of {w : World} {A : Option Addr} {n c : Nat} {l : List Int} (h : ReadsInt w .u8 A n l) : (convert 29 9 (.slice A n c)).run Tryz.prog w = .ok (.string (strOfNums l)) w :=
  string_of_reads Tryz.underlying29 Tryz.underlying5 Tryz.underlying9 h
abbrev nl : Value := .slice none 0 0
theorem show1 : moreF (vS 1 ⟨#[57]⟩ nl nl nl) (if (1 : Int) = 0 then numS 0 else ⟨#[57]⟩) (numS 1) = (#[.int .u8 1, .string ⟨#[49, 48]⟩, .slice none 0 0, .slice none 0 0, .slice none 0 0], [58, 49, 48, 13, 10]) := by kernel_rfl
theorem show2 : moreF (vS 1 ⟨#[120]⟩ nl nl nl) (if (1 : Int) = 0 then numS 0 else ⟨#[120]⟩) (numS 1) = (#[.int .u8 1, .string ⟨#[120]⟩, .slice none 0 0, .slice none 0 0, .slice none 0 0], [45, 69, 82, 82, 32, 118, 97, 108, 117, 101, 32, 105, 115, 32, 110, 111, 116, 32, 97, 110, 32, 105, 110, 116, 101, 103, 101, 114, 32, 111, 114, 32, 111, 117, 116, 32, 111, 102, 32, 114, 97, 110, 103, 101, 13, 10]) := by kernel_rfl
theorem low_incr : lowS ⟨#[105, 110, 99, 114]⟩ = ⟨#[105, 110, 99, 114]⟩ := by decide +kernel
set_option maxRecDepth 100000 in
set_option maxHeartbeats 8000000 in
theorem shown11_any (w : World) (hT : Tabs w) : Calls Tryz.prog 4 #[] w fun e w' => e = .returned (.bool true) ∧ Below w.heap.size w w' := by
  have hT' := veil hT
  have hb1 := veil (below_alloc (Below.refl w.heap.size w) (.cells #[.string ⟨#[105, 110, 99, 114]⟩, .string ⟨#[107]⟩] 9))
  have hc1 := veil (heap_alloc_last w (.cells #[.string ⟨#[105, 110, 99, 114]⟩, .string ⟨#[107]⟩] 9))
  clear hT
  go_enter Tryz.func4, Tryz.ntmps4
  go_wp2_with fail
  have h1 := do_incr 1 ⟨#[57]⟩ ⟨#[105, 110, 99, 114]⟩ nl nl nl ⟨w.heap.size, 0, none⟩ 2 2 _ (.inr rfl) (by decide) (by decide) low_incr (by decide) (by decide) (by rw [cell_of_row _ _ _ _ _ _ hc1.out]; rfl) (by simp [vS, Value.oneCell']) (tabs_below hT'.out hb1.out)
  rw [show1] at h1
  refine h1.mono ?_
  rintro e w2 ⟨A1, n1, c1, rfl, hf1, hb2⟩
  have hB2 := veil (two_below hb1.out hb2)
  have hr1 := veil (hf1.reads (by have := hf1.len; simp at this; omega))
  clear h1 hf1 hb2
  obtain ⟨w3, hw3⟩ : ∃ w3 : World, w3 = (w2.alloc (.cells #[.int .u8 1, .string ⟨#[49, 48]⟩, .slice none 0 0, .slice none 0 0, .slice none 0 0] 26)).alloc (.cells #[.string ⟨#[105, 110, 99, 114]⟩, .string ⟨#[107]⟩] 9) := ⟨_, rfl⟩
  have hsz3 : w3.heap.size = w2.heap.size + 2 := by rw [hw3]; simp
  have hb3 : Below w2.heap.size w2 w3 := by rw [hw3]; exact (below_alloc (Below.refl _ _) _).alloc (by simp) _
  have hx3 : w3.heap[w2.heap.size]? = some (.cells #[.int .u8 1, .string ⟨#[49, 48]⟩, .slice none 0 0, .slice none 0 0, .slice none 0 0] 26) := by rw [hw3]; exact heap_alloc2_old w2 _ _
  have hc3 : w3.heap[w2.heap.size + 1]? = some (.cells #[.string ⟨#[105, 110, 99, 114]⟩, .string ⟨#[107]⟩] 9) := by
    rw [hw3]
    have := heap_alloc_last (w2.alloc (.cells #[.int .u8 1, .string ⟨#[49, 48]⟩, .slice none 0 0, .slice none 0 0, .slice none 0 0] 26)) (.cells #[.string ⟨#[105, 110, 99, 114]⟩, .string ⟨#[107]⟩] 9)
    simpa using this
  have hB3 := veil (two_below hB2.out hb3)
  have hr3 := veil (hr1.out.below hb3)
  have hw3' := veil hw3
  have hx3' := veil hx3
  clear hw3 hb3 hx3
  go_wp2_with fail
  rw [← hw3'.out]
  have h2 := do_incr 1 ⟨#[120]⟩ ⟨#[105, 110, 99, 114]⟩ nl nl nl ⟨w2.heap.size + 1, 0, none⟩ 2 2 w3 (.inr rfl) (by decide) (by decide) low_incr (by decide) (by decide) (by rw [cell_of_row _ _ _ _ _ _ hc3]; rfl) (by simp [vS, Value.oneCell']) (tabs_below hT'.out hB3.out)
  rw [show2] at h2
  refine h2.mono ?_
  rintro e w4 ⟨A2, n2, c2, rfl, hf2, hb4⟩
  have hB4 := veil (two_below hB3.out hb4)
  have hr4 := veil (hf2.reads (by have := hf2.len; simp at this; omega))
  have hr5 := veil (hr3.out.below hb4)
  have hx4 := veil ((hb4.block _ (by omega)).trans hx3'.out)
  have hsz4 := hb4.size
  have hb5 : Below w4.heap.size w4 (w4.alloc (.cells #[.int .u8 1, .string ⟨#[120]⟩, .slice none 0 0, .slice none 0 0, .slice none 0 0] 26)) := below_alloc (Below.refl _ _) _
  have hB5 := veil (two_below hB4.out hb5)
  have st1 := str_of (c := c1) (hr5.out.below hb5)
  have st2 := str_of (c := c2) (hr4.out.below hb5)
  have q1 : (w4.alloc (.cells #[.int .u8 1, .string ⟨#[120]⟩, .slice none 0 0, .slice none 0 0, .slice none 0 0] 26)).cell? ⟨w2.heap.size, 1, none⟩ = some (.string ⟨#[49, 48]⟩) := by
    rw [cell_of_row _ _ _ _ _ _ ((hb5.block _ (by omega)).trans hx4.out)]; rfl
  rw [show strOfNums [58, 49, 48, 13, 10] = ⟨#[58, 49, 48, 13, 10]⟩ from by decide +kernel] at st1
  rw [show strOfNums [45, 69, 82, 82, 32, 118, 97, 108, 117, 101, 32, 105, 115, 32, 110, 111, 116, 32, 97, 110, 32, 105, 110, 116, 101, 103, 101, 114, 32, 111, 114, 32, 111, 117, 116, 32, 111, 102, 32, 114, 97, 110, 103, 101, 13, 10] = ⟨#[45, 69, 82, 82, 32, 118, 97, 108, 117, 101, 32, 105, 115, 32, 110, 111, 116, 32, 97, 110, 32, 105, 110, 116, 101, 103, 101, 114, 32, 111, 114, 32, 111, 117, 116, 32, 111, 102, 32, 114, 97, 110, 103, 101, 13, 10]⟩ from by decide +kernel] at st2
  clear h2 hf2 hb4 hb5
  go_wp2_with fail
  go_ret
  exact ⟨rfl, hB5.out⟩
end Go.Proofs.Tryz.Ln
/- texts.Do with a value of another type. -/
namespace Go.Proofs.Tryz.Ln
open Go Go.RowKit Go.Proofs.Mem Go.Proofs.App
open Go.Proofs.YtcdcbkopapedhaaGreatDoorW.PrintWords Go.Proofs.YtcdcbkopapedhaaGreatDoorW.PrintLast
set_option linter.unusedVariables false
set_option linter.unusedSimpArgs false
def WrongT : ByteArray := ⟨#[87, 82, 79, 78, 71, 84, 89, 80, 69, 32, 79, 112, 101, 114, 97, 116, 105, 111, 110, 32, 97, 103, 97, 105, 110, 115, 116, 32, 97, 32, 107, 101, 121, 32, 104, 111, 108, 100, 105, 110, 103, 32, 116, 104, 101, 32, 119, 114, 111, 110, 103, 32, 107, 105, 110, 100, 32, 111, 102, 32, 118, 97, 108, 117, 101]⟩
set_option maxRecDepth 100000 in
set_option maxHeartbeats 8000000 in
/-- a request at a value of another type -/
theorem do_wrongT (k : Int) (s nm a0 : ByteArray) (L H Z : Value) (ad : Addr) (an ac j : Nat) (f : FuncId) (w : World) (hk0 : k ≠ 0) (hk1 : k ≠ 1) (ha0 : a0.size ≤ 70368744177664) (hlow : lowS a0 = nm) (hj : Instr.findNow .string (.string nm) ents.toList 0 = some (some (j, fnV f)))
    (han : 0 < an) (hac : an ≤ ac) (c0 : w.cell? ad = some (.string a0)) (hone : (vS k s L H Z).all (·.oneCell') = true) :
    Calls Tryz.prog 9 #[.agg (vS k s L H Z), .slice (some ad) an ac] w (Dres (vS k s L H Z) (lineL ⟨#[45]⟩ WrongT) w) := by
  obtain ⟨R, hR⟩ : ∃ R, lineL ⟨#[45]⟩ WrongT = R := ⟨_, rfl⟩
  have herr : Veil (∀ w', Calls Tryz.prog 18 #[.string WrongT] w' (Bytes_ R w')) := veil (fun w' => by rw [← hR]; exact Err_any WrongT w' (by decide +kernel))
  rw [hR]
  clear hR
  have e0 : (k != 0) = true := by simp [hk0]
  have e2 : (k != 1) = true := by simp [hk1]
  have ht := two_of (vS k s L H Z) w
  obtain ⟨w2, hw2⟩ : ∃ w2 : World, w2 = (w.alloc (.cells (vS k s L H Z) 26)).alloc (.cells zS 26) := ⟨_, rfl⟩
  rw [← hw2] at ht
  have hw2' : Veil (w2 = (w.alloc (.cells (vS k s L H Z) 26)).alloc (.cells #[.int .u8 0, .string ⟨#[]⟩, .slice none 0 0, .slice none 0 0, .slice none 0 0] 26)) := veil hw2
  have hsz2 := ht.sz
  have hx2 := veil ht.box
  have hz2 := veil ht.res
  have hb2 := veil ht.bel
  have hadb : ad.block < w.heap.size := World.block_lt_of_cell? w _ c0
  have c2 := veil ((hb2.out.cell hadb).trans c0)
  have hj' := veil hj
  have hone' := veil hone
  clear hw2 ht hj c0 hone
  go_enter Tryz.func9, Tryz.ntmps9
  go_wp2_with fail
  rw [← hw2'.out]
  refine RelG.wp_region_rel2 (G := CellO w.heap.size 48 #[.func (.func f) #[] #[]]) (n := 39) [mapR _ _ _ 9, RelG.is _ 10 (.slice (some ad) an ac), RelG.is _ 11 (.pointer (some ad)), RelG.is _ 12 (.string a0), RelG.is _ 13 (.string nm), RelG.is _ 14 (.tuple #[fnV f, .bool true]), RelG.is _ 8 (.tuple #[fnV f, .bool true]), RelG.is _ 15 (fnV f), RelG.is _ 16 (.bool true), ptR _ _ _ 6, hoR _ _ _ 6, RelG.is _ 7 (.bool true)] [[9], [10], [11], [12], [13], [14], [8], [15], [16], [6], [6], [7]] (by kernel_rfl) rfl rfl (by kernel_rfl) ?_ ?_
  · refine RelG.steps_cons (RelG.step_call rfl Tryz.func16 (by kernel_rfl) rfl #[] rfl (fun b w' D => by simp) (fun b w' D => (acts_any w').mono fun e w3 ⟨he, hw⟩ => ⟨_, he, by
      show mapP (RelG.get (b.put (some 9) _) 9) w3
      rw [RelG.get_put b 9 _ (by rw [D.siz]; exact (by decide : 9 < 39)), hw]
      exact ⟨_, rfl, heap_alloc_last w' _⟩, by rw [hw]; exact (CellO _ _ _).bel (below_alloc (Below.refl _ _) _)⟩)) ?_
    refine RelG.steps_cons (RelG.step_was (n := 39) (t := 1) (u := 10) rfl rfl rfl rfl (by decide) (by kernel_rfl) rfl rfl) ?_
    refine RelG.steps_cons (RelG.step_run (n := 39) (j := 1) (t := 10) (u := 11) (v := .slice (some ad) an ac) rfl rfl rfl (by decide) rfl rfl (fun ρ w' hle h hk => by
      simp [execOp, h, hk, go_sem]
      intro h0
      omega) rfl) ?_
    refine RelG.steps_cons (RelG.step_run (n := 39) (j := 2) (t := 11) (u := 12) (v := .pointer (some ad)) rfl rfl rfl (by decide) rfl rfl (fun ρ w' hle h _ => by
      have hb := cellO_below hb2.out hle (Nat.le_refl _)
      have c : w'.cell? ad = some (.string a0) := by
        have h1 := hb2.out.cell hadb
        have h2 := hb.cell hadb
        rw [h2, ← h1]; exact c2.out
      simp [execOp, h, go_sem, c]) rfl) ?_
    refine RelG.steps_cons (RelG.step_call rfl Tryz.func17 (by kernel_rfl) rfl #[.string a0] rfl (fun b w' D => by simp only [List.map_toArray, List.map_cons, List.map_nil, D.is 3 rfl rfl]) (fun b w' D => call_is' (by have h := low_any a0 w' ha0; rw [hlow] at h; exact h) (by rw [D.siz]; exact (by decide : 13 < 39)))) ?_
    refine RelG.steps_cons (RelG.step_val rfl fun b w' D => ⟨_, by
      obtain ⟨r, h1, h2⟩ := D.rel 0 rfl
      have e1 : b.eval (.tmp 9) = .map (some r) := h1
      have e2 : b.eval (.tmp 13) = .string nm := D.is 4 rfl rfl
      have hg := MapK.get_run (P := Tryz.prog) (w := w') 50 9 48 r 6 j ents nm (fnV f) Tryz.underlying50 Tryz.underlying9 h2 hj'.out
      unfold execOp
      simp only [e1, e2]
      simp only [Sem.run_bind, hg]
      rfl, RelG.get_put b 14 _ (by rw [D.siz]; exact (by decide : 14 < 39))⟩) ?_
    refine RelG.steps_cons (RelG.step_pass (n := 39) (j := 5) (t := 14) (u := 8) rfl rfl (.inl rfl) rfl (by decide) rfl rfl rfl) ?_
    refine RelG.steps_cons (RelG.step_run (n := 39) (j := 6) (t := 8) (u := 15) (v := .tuple #[fnV f, .bool true]) rfl rfl rfl (by decide) rfl rfl (fun ρ w' hle h _ => by simp [execOp, h, go_sem]) rfl) ?_
    refine RelG.steps_cons (RelG.step_run (n := 39) (j := 6) (t := 8) (u := 16) (v := .tuple #[fnV f, .bool true]) rfl rfl rfl (by decide) rfl rfl (fun ρ w' hle h _ => by simp [execOp, h, go_sem]) rfl) ?_
    refine RelG.steps_cons (RelG.step_make rfl fun b w' D => ⟨.pointer (some ⟨w'.heap.size, 0, none⟩), w'.alloc (.cells #[.nilFunc] 48), by simp [execOp, go_sem], by
      show ptP _ _ _ (RelG.get (b.put (some 6) _) 6) _
      rw [RelG.get_put b 6 _ (by rw [D.siz]; exact (by decide : 6 < 39))]
      have := D.bel.1.2.2.2
      exact ⟨_, _, rfl, by omega, heap_alloc_last w' _, rfl⟩, (CellO _ _ _).bel (below_alloc (Below.refl _ _) _)⟩) ?_
    refine RelG.steps_cons (RelG.step_skip rfl rfl fun b w' D => by
      obtain ⟨p, c, h1, h2, h3, h4⟩ := D.rel 9 rfl
      have e1 : b.eval (.tmp 6) = .pointer (some ⟨p, 0, none⟩) := h1
      have e2 : b.eval (.tmp 15) = .agg #[.func (.func f) #[] #[]] := D.is 7 rfl rfl
      refine ⟨w'.setRow p #[.func (.func f) #[] #[]], ?_, ⟨p, h1, h2, setRow_heap w' p c _ _ (0, 0) h3⟩, cellO_set _ _ _ c w' p h2 h4 h3⟩
      unfold execOp
      simp only [e1, e2, Instr.storeAt, Instr.sureAddr, Sem.run_bind, Sem.run_pure, Result.andThen_ok, run_storeVar_row (P := Tryz.prog) w' p 48 48 c #[.func (.func f) #[] #[]] h3 (by kernel_rfl) h4 (by simp [Value.oneCell'])]) ?_
    refine RelG.steps_cons (RelG.step_pass (n := 39) (j := 8) (t := 16) (u := 7) rfl rfl (.inr rfl) rfl (by decide) rfl rfl rfl) ?_
    exact trivial
  intro v e w3 hg hv hle
  have h6 : e 6 = v 9 := hg 9 6 rfl
  have h7 : e 7 = v 11 := hg 11 7 rfl
  have hh : hoP w.heap.size 48 #[.func (.func f) #[] #[]] (e 6) w3 := hv 10 (by decide)
  rw [h6] at hh
  obtain ⟨p, e6, hp, hh3⟩ := hh
  have e7 : e 7 = .bool true := hv 11 (by decide)
  rw [h7] at e7
  have hB3 := veil (cellO_below hb2.out hle (Nat.le_refl _))
  have hx3 := veil (cellO_other hle hx2.out (fun c h => by cases h))
  have hz3 := veil (cellO_other hle hz2.out (fun c h => by cases h))
  have hsz3 : w.heap.size + 2 ≤ w3.heap.size := by have := hle.1.2.2.2; omega
  have hh3' := veil hh3
  simp only [Rel.fill, Act.put, List.setIfInBounds_toArray, List.set_cons_zero, List.set_cons_succ]
  rw [e6, e7]
  have q1 : w3.cell? ⟨w.heap.size, 0, none⟩ = some (.int .u8 k) := by rw [cell_of_row _ _ _ _ _ _ hx3.out]; rfl
  have q2 : w3.cell? ⟨p, 0, none⟩ = some (.func (.func f) #[] #[]) := by rw [cell_of_row _ _ _ _ _ _ hh3]; rfl
  clear hv hle e6 e7 hh3 hg h6 h7
  have q3 : w3.cell? ⟨w.heap.size, 1, none⟩ = some (.string s) := by rw [cell_of_row _ _ _ _ _ _ hx3.out]; rfl
  have q4 : w3.cell? ⟨w.heap.size, 2, none⟩ = some L := by rw [cell_of_row _ _ _ _ _ _ hx3.out]; rfl
  have q5 : w3.cell? ⟨w.heap.size, 3, none⟩ = some H := by rw [cell_of_row _ _ _ _ _ _ hx3.out]; rfl
  have q6 : w3.cell? ⟨w.heap.size, 4, none⟩ = some Z := by rw [cell_of_row _ _ _ _ _ _ hx3.out]; rfl
  go_wp2_with fail
  refine RelG.wp_region_rel2 (G := (RelG.Stor (w.heap.size + 1) (.cells zS 26 (0, 0)) (.cells #[.int .u8 k, .string s, L, H, Z] 26 (0, 0)))) (n := 39) [RelG.is _ 30 (.agg #[.int .u8 k, .string s, L, H, Z]), RelG.fr _ _ _ 31 R, RelG.put _ _ _, RelG.fr _ _ _ 5 R] [[30], [31], [], [5]] (by kernel_rfl) rfl rfl (by kernel_rfl) ?_ ?_
  · refine RelG.steps_cons (RelG.step_load (n := 39) (t := 2) (u := 30) (b := w.heap.size) (t' := 26) (cs := #[.int .u8 k, .string s, L, H, Z]) (fr := (0, 0)) rfl rfl rfl rfl (by decide) (by kernel_rfl) (by kernel_rfl) Tryz.underlying26 rfl (info5v k s L H Z) (fun w' hle => RelG.stor_other hle (by omega) hx3.out) rfl) ?_
    refine RelG.steps_cons (RelG.step_call rfl Tryz.func18 (by kernel_rfl) rfl #[.string WrongT] rfl (fun b' w' D => by simp [Act.eval, WrongT]) (fun b' w' D => call_fr (herr.out w') (by have := stor_size D.bel; omega) (by rw [D.siz]; exact (by decide : 31 < 39)))) ?_
    refine RelG.steps_cons (RelG.step_store (j := 0) (t := 4) (u := 30) rfl rfl rfl (by kernel_rfl) (by kernel_rfl) rfl rfl ⟨zS, rfl, rfl⟩ hz3.out (info5v k s L H Z) hone'.out rfl) ?_
    refine RelG.steps_cons (RelG.step_pass_of (n := 39) (j := 1) (t := 31) (u := 5) (p := RelG.frP (w.heap.size + 1) R) (hp := fun x w w' h hle => RelG.frP_sta _ x w w' h hle) rfl rfl (.inr rfl) rfl (by decide) rfl rfl rfl) ?_
    exact trivial
  intro v e w9 hg hv hle
  have k5 : e 5 = v 3 := hg 3 5 rfl
  have h2 : w9.heap[w.heap.size + 1]? = some (.cells #[.int .u8 k, .string s, L, H, Z] 26 (0, 0)) := hv 2 (by decide)
  have h3 : RelG.frP (w.heap.size + 1) R (e 5) w9 := hv 3 (by decide)
  rw [k5] at h3
  simp only [Rel.fill, Act.put, List.setIfInBounds_toArray, List.set_cons_zero, List.set_cons_succ]
  have hD := veil (dres_of (v := #[.int .u8 k, .string s, L, H, Z]) hB3.out hle (by omega) (by omega) h3)
  have h2' := veil h2
  clear hg hv hle h3 h2 k5
  go_wp2_with fail
  refine bodyPost_ret (v := .tuple #[.agg #[.int .u8 k, .string s, L, H, Z], v 3]) ?_ rfl hD.out
  exact RelG.results_cell_tmp (p := 4) (q := 5) (ty := 26) Tryz.results9 _ _ (w.heap.size + 1) 26 #[.int .u8 k, .string s, L, H, Z] (0, 0) _ _ rfl rfl h2'.out Tryz.underlying26 rfl (info5v k s L H Z)
end Go.Proofs.Tryz.Ln
/- What layer 11 answers to any request: for the law of values of another type. -/
namespace Go.Proofs.Tryz.Vl
open Go Go.RowKit Go.Proofs.Mem Go.Proofs.App
open Go.Proofs.YtcdcbkopapedhaaGreatDoorW.PrintWords Go.Proofs.YtcdcbkopapedhaaGreatDoorW.PrintLast
open Go.Proofs.Tryz.Ln
set_option linter.unusedVariables false
set_option linter.unusedSimpArgs false
theorem bytesOf_app (a b : ByteArray) : bytesOf (a ++ b) = bytesOf a ++ bytesOf b := by simp [bytesOf, ByteArray.data_append]
theorem line_head (c : UInt8) (s : BA) : (lineL ⟨#[c]⟩ s)[0]? = some (c.toNat : Int) := by
  unfold lineL
  rw [bytesOf_app, bytesOf_app]
  simp [bytesOf]
theorem line_ne (c : UInt8) (s : BA) : lineL ⟨#[c]⟩ s ≠ [] := fun h => by
  have := line_head c s
  rw [h] at this
  cases this
theorem bulk_head (s : BA) : (bulkL s)[0]? = some 36 := by
  unfold bulkL
  have h := line_head 36 (numS s.size)
  have h2 : 0 < (lineL ⟨#[36]⟩ (numS s.size)).length := List.length_pos_iff.2 (line_ne _ _)
  rw [List.getElem?_append_left h2, h]
  rfl
theorem ne_of_head {r : List Int} {a : Int} (h : r[0]? = some a) : r ≠ [] := fun e => by rw [e] at h; cases h
theorem bulkL_leT (s : BA) (h : s.size ≤ 1000000) : (bulkL s).length ≤ 2000000 := by
  have hz := numS_size (s.size : Int) (by omega) (by omega)
  unfold bulkL
  rw [List.length_append, lineL_len, bytesOf_length, ByteArray.size_append]
  show 1 + _ + 2 + (_ + 2) ≤ _
  omega
theorem got_head (k : Int) (s : BA) : (gotL k s)[0]? = some 36 := by
  unfold gotL
  split
  · exact line_head 36 _
  · exact bulk_head s
theorem line_two (c : UInt8) (s : BA) : 2 ≤ (lineL ⟨#[c]⟩ s).length := by
  rw [lineL_len]
  show 2 ≤ 1 + _ + 2
  omega
theorem got_two (k : Int) (s : BA) : 2 ≤ (gotL k s).length := by
  unfold gotL
  split
  · exact line_two 36 _
  · unfold bulkL
    rw [List.length_append]
    have := line_two 36 (numS s.size)
    omega
abbrev LayerOK : Int → VV → List BA → Prop := LayerC Tabs 9 (lineL ⟨#[45]⟩ WrongT)
theorem got_len (k : Int) (s : BA) (h : s.size ≤ 1000000) : (gotL k s).length ≤ 70368744177664 := by
  unfold gotL
  split
  · rw [lineL_len]; decide
  · exact Nat.le_trans (bulkL_leT s h) (by decide)
theorem fitV_len (k : Int) (s : BA) (l : List BA) (h : List PR) (z : List MK) : (fitV k s l h z).l.length ≤ 1000 ∧ (fitV k s l h z).h.length ≤ 1000 ∧ (fitV k s l h z).z.length ≤ 1000 := by
  have t8 : ∀ {α : Type} (m : List α), (m.take 8).length ≤ 8 := fun m => by rw [List.length_take]; omega
  have h1 := putAll_len (putF id) (putF_len id) (l.take 8) (t8 l)
  have h2 := putAll_len (putF Prod.fst) (putF_len Prod.fst) (h.take 8) (t8 h)
  have h3 := putAll_len putM putM_len (z.take 8) (t8 z)
  have h4 := t8 l
  unfold fitV
  split
  · simp [vvText]
  split
  · unfold vvList; split
    · simp [zeroV]
    · exact ⟨by show (l.take 8).length ≤ _; omega, by simp, by simp⟩
  split
  · unfold vvSet; split
    · simp [zeroV]
    · exact ⟨h1, by simp, by simp⟩
  split
  · unfold vvHash; split
    · simp [zeroV]
    · exact ⟨by simp, h2, by simp⟩
  split
  · unfold vvSorted; split
    · simp [zeroV]
    · exact ⟨by simp, by simp, h3⟩
  simp [zeroV]
theorem fitV_one (k : Int) (s : BA) (l : List BA) (h : List PR) (z : List MK) : fitV k s l h z = zeroV ∨ (∃ t, fitV k s l h z = ⟨1, t, [], [], []⟩ ∧ t.size ≤ 40) ∨ ((fitV k s l h z).k ≠ 0 ∧ (fitV k s l h z).k ≠ 1) := by
  unfold fitV
  split
  · refine .inr (.inl ⟨_, rfl, ?_⟩)
    rw [ByteArray.size_extract]
    have : mnI (s.size : Int) 40 ≤ 40 := by unfold mnI; split <;> omega
    omega
  split
  · unfold vvList; split
    · exact .inl rfl
    · exact .inr (.inr ⟨by simp, by simp⟩)
  split
  · unfold vvSet; split
    · exact .inl rfl
    · exact .inr (.inr ⟨by simp, by simp⟩)
  split
  · unfold vvHash; split
    · exact .inl rfl
    · exact .inr (.inr ⟨by simp, by simp⟩)
  split
  · unfold vvSorted; split
    · exact .inl rfl
    · exact .inr (.inr ⟨by simp, by simp⟩)
  exact .inl rfl
theorem dor_same {g B : Nat} {cs : Array Value} {v : VV} {r : List Int} {w : World} {e : Ending} {w' : World} (hv : IsVg g B w cs v) (h : Dres cs r w e w') : DoR g B cs v r True w e w' := by
  obtain ⟨A, n, c, he, hf, hb⟩ := h
  exact ⟨cs, A, n, c, he, hf, hv.below hb, fun _ => rfl, hb⟩
theorem dor_text {g B : Nat} {cs : Array Value} {t : BA} {r : List Int} {w : World} {e : Ending} {w' : World} (h : Dres (tS t) r w e w') : DoR g B cs ⟨1, t, [], [], []⟩ r False w e w' := by
  obtain ⟨A, n, c, he, hf, hb⟩ := h
  exact ⟨tS t, A, n, c, he, hf, ⟨nlv, nlv, nlv, rfl, gN_nil _ _ _, gN_nil _ _ _, gN_nil _ _ _⟩, fun h => h.elim, hb⟩
theorem dor_none {g B : Nat} {cs : Array Value} {r : List Int} {w : World} {e : Ending} {w' : World} (h : Dres zS r w e w') : DoR g B cs zeroV r False w e w' := by
  obtain ⟨A, n, c, he, hf, hb⟩ := h
  exact ⟨zS, A, n, c, he, hf, ⟨nlv, nlv, nlv, rfl, gN_nil _ _ _, gN_nil _ _ _, gN_nil _ _ _⟩, fun h => h.elim, hb⟩
/-- the words, as the contracts of this layer read them -/
theorem words_at {w : World} {x : Value} {M : List BA} (h : gR w x M.length (scs M)) (h1 : 1 ≤ M.length) : ∃ ad c, x = .slice (some ad) M.length c ∧ M.length ≤ c ∧ (∀ s, M[0]? = some s → w.cell? ad = some (.string s)) ∧ ∀ s, M[2]? = some s → w.cell? (ad.add 2) = some (.string s) := by
  obtain ⟨b, o, c, e, hc, hcell⟩ := h.there (by omega)
  refine ⟨⟨b, o, none⟩, c, e, hc, fun s hs => ?_, fun s hs => ?_⟩
  · exact hcell 0 _ (scs_at M 0 s hs)
  · rw [add_plain']
    exact hcell 2 _ (scs_at M 2 s hs)
abbrev Txt (v : VV) : Prop := v = zeroV ∨ ∃ t, v = ⟨1, t, [], [], []⟩ ∧ t.size ≤ 40
theorem Txt.k {v : VV} (h : Txt v) : v.k = 0 ∨ v.k = 1 := by
  rcases h with rfl | ⟨t, rfl, _⟩
  · exact .inl rfl
  · exact .inr rfl
theorem Txt.s {v : VV} (h : Txt v) : v.s.size ≤ 40 := by
  rcases h with rfl | ⟨t, rfl, h⟩
  · decide
  · exact h
theorem Txt.l {v : VV} (h : Txt v) : v.l.length ≤ 1000000 ∧ v.h.length ≤ 1000000 ∧ v.z.length ≤ 1000000 := by
  rcases h with rfl | ⟨t, rfl, h⟩ <;> simp [zeroV]
theorem no_wrong {v : VV} (h : Txt v) {P : Prop} : v.k ≠ 0 → v.k ≠ 1 → P := fun h0 h1 => by
  rcases h.k with h | h
  · exact absurd h h0
  · exact absurd h h1
theorem get_layer (v : VV) (M : List BA) (hv : Txt v) (h1 : 1 ≤ M.length) (h0 : M[0]? = some ⟨#[103, 101, 116]⟩) : LayerOK 1 v M := by
  obtain ⟨b1, b2, b3⟩ := hv.l
  have hs := hv.s
  refine ⟨v, gotL v.k v.s, True, fun g B w' x cs hg hcs hx hT => ?_, got_two _ _, got_len _ _ (by omega), no_wrong hv, fun _ => trivial, fun _ => rfl, b1, b2, b3⟩
  obtain ⟨ad, c, rfl, hc, c0, c2⟩ := words_at hx h1
  obtain ⟨xL, xH, xZ, rfl, g1, g2, g3⟩ := hcs.ex
  exact (do_get v.k v.s ⟨#[103, 101, 116]⟩ xL xH xZ ad M.length c w' hv.k (by omega) (by decide) (by decide +kernel) (by omega) hc (c0 _ h0) hcs.v.one hT).mono fun e w'' h => dor_same hcs h
theorem getdel_layer (v : VV) (M : List BA) (hv : Txt v) (h1 : 1 ≤ M.length) (h0 : M[0]? = some ⟨#[103, 101, 116, 100, 101, 108]⟩) : LayerOK 1 v M := by
  have hs := hv.s
  refine ⟨zeroV, gotL v.k v.s, False, fun g B w' x cs hg hcs hx hT => ?_, got_two _ _, got_len _ _ (by omega), no_wrong hv, fun h => by rw [got_head] at h; exact absurd h (by decide), fun h => h.elim, by decide, by decide, by decide⟩
  obtain ⟨ad, c, rfl, hc, c0, c2⟩ := words_at hx h1
  obtain ⟨xL, xH, xZ, rfl, g1, g2, g3⟩ := hcs.ex
  exact (do_getdel v.k v.s ⟨#[103, 101, 116, 100, 101, 108]⟩ xL xH xZ ad M.length c w' hv.k (by omega) (by decide) (by decide +kernel) (by omega) hc (c0 _ h0) hcs.v.one hT).mono fun e w'' h => dor_none h
theorem append_layer (v : VV) (M : List BA) (hv : Txt v) (h1 : 3 ≤ M.length) (h0 : M[0]? = some ⟨#[97, 112, 112, 101, 110, 100]⟩) (hM : ∀ s ∈ M, s.size ≤ 20) : LayerOK 1 v M := by
  have hs := hv.s
  obtain ⟨a, ha⟩ : ∃ a, M[2]? = some a := ⟨_, List.getElem?_eq_getElem (by omega)⟩
  have hz := hM a (List.mem_of_getElem? ha)
  have hsz : (v.s ++ a).size ≤ 60 := by rw [ByteArray.size_append]; omega
  have hn := numS_size ((v.s ++ a).size : Int) (by omega) (by omega)
  refine ⟨⟨1, v.s ++ a, [], [], []⟩, lineL ⟨#[58]⟩ (numS ((v.s ++ a).size : Int)), False, fun g B w' x cs hg hcs hx hT => ?_, line_two _ _, by rw [lineL_len]; show 1 + _ + 2 ≤ _; omega, no_wrong hv, fun h => by rw [line_head] at h; exact absurd h (by decide), fun h => h.elim, by simp, by simp, by simp⟩
  obtain ⟨ad, c, rfl, hc, c0, c2⟩ := words_at hx (by omega)
  obtain ⟨xL, xH, xZ, rfl, g1, g2, g3⟩ := hcs.ex
  exact (do_append v.k v.s ⟨#[97, 112, 112, 101, 110, 100]⟩ a xL xH xZ ad M.length c w' hv.k (by omega) (by decide) (by decide +kernel) (by omega) hc (c0 _ h0) (by omega) (c2 _ ha) hcs.v.one hT).mono fun e w'' h => dor_text h
theorem strlen_layer (v : VV) (M : List BA) (hv : Txt v) (h1 : 1 ≤ M.length) (h0 : M[0]? = some ⟨#[115, 116, 114, 108, 101, 110]⟩) : LayerOK 1 v M := by
  obtain ⟨b1, b2, b3⟩ := hv.l
  have hs := hv.s
  have hn := numS_size (v.s.size : Int) (by omega) (by omega)
  refine ⟨v, lineL ⟨#[58]⟩ (numS (v.s.size : Int)), True, fun g B w' x cs hg hcs hx hT => ?_, line_two _ _, by rw [lineL_len]; show 1 + _ + 2 ≤ _; omega, no_wrong hv, fun _ => trivial, fun _ => rfl, b1, b2, b3⟩
  obtain ⟨ad, c, rfl, hc, c0, c2⟩ := words_at hx h1
  obtain ⟨xL, xH, xZ, rfl, g1, g2, g3⟩ := hcs.ex
  exact (do_strlen v.k v.s ⟨#[115, 116, 114, 108, 101, 110]⟩ xL xH xZ ad M.length c w' hv.k (by omega) (by decide) (by decide +kernel) (by omega) hc (c0 _ h0) hcs.v.one hT).mono fun e w'' h => dor_same hcs h
theorem addO_bound {a b y : Int} (h : addO a b = some y) : -9223372036854775808 ≤ y ∧ y ≤ 9223372036854775807 := by
  unfold addO at h
  split at h
  · next hh =>
    obtain rfl := Option.some.inj h
    exact hh
  · cases h
/-- a number made more: what it yields, whatever the cells -/
theorem more_layer (v : VV) (M : List BA) (a was : BA) (hv : Txt v) (h : ∀ (g B : Nat) (w' : World) (x : Value) (cs : Array Value), g < w'.heap.size → IsVg g B w' cs v → gR w' x M.length (scs M) → Tabs w' → Calls Tryz.prog 9 #[.agg cs, x] w' (Dres (moreF cs was a).1 (moreF cs was a).2 w')) : LayerOK 1 v M := by
  obtain ⟨b1, b2, b3⟩ := hv.l
  have bad : ∀ E : BA, E.size ≤ 1000 → (∀ cs, moreF cs was a = (cs, lineL ⟨#[45]⟩ E)) → LayerOK 1 v M := fun E hE he =>
    ⟨v, lineL ⟨#[45]⟩ E, True, fun g B w' x cs hg hcs hx hT => (h g B w' x cs hg hcs hx hT).mono fun e w'' hd => dor_same hcs (by rw [he] at hd; exact hd), line_two _ _, by rw [lineL_len]; show 1 + _ + 2 ≤ _; omega, no_wrong hv, fun _ => trivial, fun _ => rfl, b1, b2, b3⟩
  cases hpa : Dig.parseO a with
  | none => exact bad NotInt (by decide) (fun cs => by unfold moreF; rw [hpa])
  | some k =>
    cases hpb : Dig.parseO was with
    | none => exact bad NotInt (by decide) (fun cs => by unfold moreF; rw [hpa, hpb])
    | some n =>
      cases hadd : addO n k with
      | none => exact bad Overflow (by decide) (fun cs => by unfold moreF; rw [hpa, hpb]; simp only [hadd])
      | some y =>
        have he : ∀ cs, moreF cs was a = (tS (numS y), lineL ⟨#[58]⟩ (numS y)) := fun cs => by unfold moreF; rw [hpa, hpb]; simp only [hadd]
        have hy : (numS y).size ≤ 21 := by
          have hb := addO_bound hadd
          exact numS_size y hb.1 hb.2
        exact ⟨⟨1, numS y, [], [], []⟩, lineL ⟨#[58]⟩ (numS y), False, fun g B w' x cs hg hcs hx hT => (h g B w' x cs hg hcs hx hT).mono fun e w'' hd => dor_text (by rw [he] at hd; exact hd), line_two _ _, by rw [lineL_len]; show 1 + _ + 2 ≤ _; omega, no_wrong hv, fun h => by rw [line_head] at h; exact absurd h (by decide), fun h => h.elim, by simp, by simp, by simp⟩
theorem incrby_layer (v : VV) (M : List BA) (hv : Txt v) (h1 : 3 ≤ M.length) (h0 : M[0]? = some ⟨#[105, 110, 99, 114, 98, 121]⟩) (hM : ∀ s ∈ M, s.size ≤ 20) : LayerOK 1 v M := by
  have hs := hv.s
  obtain ⟨a, ha⟩ : ∃ a, M[2]? = some a := ⟨_, List.getElem?_eq_getElem (by omega)⟩
  have hz := hM a (List.mem_of_getElem? ha)
  refine more_layer v M a (if v.k = 0 then numS 0 else v.s) hv fun g B w' x cs hg hcs hx hT => ?_
  obtain ⟨ad, c, rfl, hc, c0, c2⟩ := words_at hx (by omega)
  obtain ⟨xL, xH, xZ, rfl, g1, g2, g3⟩ := hcs.ex
  exact do_incrby v.k v.s ⟨#[105, 110, 99, 114, 98, 121]⟩ a xL xH xZ ad M.length c w' hv.k (by omega) (by decide) (by decide +kernel) (by omega) hc (c0 _ h0) (by omega) (c2 _ ha) hcs.v.one hT
theorem incr_layer (v : VV) (M : List BA) (hv : Txt v) (h1 : 1 ≤ M.length) (h0 : M[0]? = some ⟨#[105, 110, 99, 114]⟩) : LayerOK 1 v M := by
  have hs := hv.s
  refine more_layer v M (numS 1) (if v.k = 0 then numS 0 else v.s) hv fun g B w' x cs hg hcs hx hT => ?_
  obtain ⟨ad, c, rfl, hc, c0, c2⟩ := words_at hx h1
  obtain ⟨xL, xH, xZ, rfl, g1, g2, g3⟩ := hcs.ex
  exact do_incr v.k v.s ⟨#[105, 110, 99, 114]⟩ xL xH xZ ad M.length c w' hv.k (by omega) (by decide) (by decide +kernel) (by omega) hc (c0 _ h0) hcs.v.one hT
theorem wrong_layer (v : VV) (M : List BA) (nm : BA) (j : Nat) (f : FuncId) (hk0 : v.k ≠ 0) (hk1 : v.k ≠ 1) (hv : v.l.length ≤ 1000 ∧ v.h.length ≤ 1000 ∧ v.z.length ≤ 1000) (h1 : 1 ≤ M.length) (h0 : M[0]? = some nm) (hz : nm.size ≤ 1000) (hlow : lowS nm = nm)
    (hj : Instr.findNow .string (.string nm) ents.toList 0 = some (some (j, fnV f))) : LayerOK 1 v M := by
  refine ⟨v, lineL ⟨#[45]⟩ WrongT, True, fun g B w' x cs hg hcs hx hT => ?_, line_two _ _, by rw [lineL_len]; decide +kernel, fun _ _ => ⟨trivial, rfl⟩, fun _ => trivial, fun _ => rfl, by omega, by omega, by omega⟩
  obtain ⟨ad, c, rfl, hc, c0, c2⟩ := words_at hx h1
  obtain ⟨xL, xH, xZ, rfl, g1, g2, g3⟩ := hcs.ex
  exact (do_wrongT v.k v.s nm nm xL xH xZ ad M.length c j f w' hk0 hk1 (by omega) hlow hj (by omega) hc (c0 _ h0) hcs.v.one).mono fun e w'' h => dor_same hcs h
def idT (q : Nat) : Int := [0, 2, 3, 4, 5, 6].getD q 0
/-- the layer, at all its six commands -/
theorem texts_layer (k : Int) (s : BA) (l : List BA) (h : List PR) (z : List MK) (q : Nat) (hq : q < 6) (ws : List BA) :
    ∃ nm ar cg, Go.Proofs.Tryz.Cmd.atF (idT q) = some (nm, ar, cg, true) ∧ ¬ nm.toList = [109, 115, 101, 116] ∧ (ar ≠ 0 ∧ -10 ≤ ar ∧ ar ≤ 10) ∧ LayerOK 1 (fitV k s l h z) (fit8 nm ar ws) := by
  have hlen := fitV_len k s l h z
  have h2 := fitV_one k s l h z
  generalize fitV k s l h z = v at hlen h2
  have hcase : (v.k ≠ 0 ∧ v.k ≠ 1) ∨ Txt v := by
    rcases h2 with h | h | h
    · exact .inr (.inl h)
    · exact .inr (.inr h)
    · exact .inl h
  have go : ∀ (nm : BA) (ar cg : Int) (j : Nat) (f : FuncId), Go.Proofs.Tryz.Cmd.atF (idT q) = some (nm, ar, cg, true) → ¬ nm.toList = [109, 115, 101, 116] → (ar ≠ 0 ∧ -10 ≤ ar ∧ ar ≤ 10) → nm.size ≤ 20 → lowS nm = nm → Instr.findNow .string (.string nm) ents.toList 0 = some (some (j, fnV f)) →
      (Txt v → LayerOK 1 v (fit8 nm ar ws)) → ∃ nm ar cg, Go.Proofs.Tryz.Cmd.atF (idT q) = some (nm, ar, cg, true) ∧ ¬ nm.toList = [109, 115, 101, 116] ∧ (ar ≠ 0 ∧ -10 ≤ ar ∧ ar ≤ 10) ∧ LayerOK 1 v (fit8 nm ar ws) := by
    intro nm ar cg j f h1 h2 h3 hz hlow hj hgood
    refine ⟨nm, ar, cg, h1, h2, h3, ?_⟩
    rcases hcase with ⟨hk0, hk1⟩ | hc
    · exact wrong_layer v _ nm j f hk0 hk1 hlen (fit8_len nm ar ws).2 (fit8_head nm ar ws) (by omega) hlow hj
    · exact hgood hc
  match q, hq with
  | 0, _ => exact go ⟨#[103, 101, 116]⟩ 2 9 0 20 (by decide +kernel) (by decide +kernel) (by decide) (by decide) (by decide +kernel) (by kernel_rfl) (fun hc => get_layer v _ hc (fit8_len _ _ _).2 (fit8_head _ _ _))
  | 1, _ => exact go ⟨#[97, 112, 112, 101, 110, 100]⟩ 3 10 2 23 (by decide +kernel) (by decide +kernel) (by decide) (by decide) (by decide +kernel) (by kernel_rfl) (fun hc => append_layer v _ hc (by have := (fit8_len ⟨#[97, 112, 112, 101, 110, 100]⟩ 3 ws).1; omega) (fit8_head _ _ _) (fit8_size _ _ _ (by decide)))
  | 2, _ => exact go ⟨#[115, 116, 114, 108, 101, 110]⟩ 2 9 3 26 (by decide +kernel) (by decide +kernel) (by decide) (by decide) (by decide +kernel) (by kernel_rfl) (fun hc => strlen_layer v _ hc (fit8_len _ _ _).2 (fit8_head _ _ _))
  | 3, _ => exact go ⟨#[105, 110, 99, 114, 98, 121]⟩ 3 10 4 27 (by decide +kernel) (by decide +kernel) (by decide) (by decide) (by decide +kernel) (by kernel_rfl) (fun hc => incrby_layer v _ hc (by have := (fit8_len ⟨#[105, 110, 99, 114, 98, 121]⟩ 3 ws).1; omega) (fit8_head _ _ _) (fit8_size _ _ _ (by decide)))
  | 4, _ => exact go ⟨#[105, 110, 99, 114]⟩ 2 10 5 29 (by decide +kernel) (by decide +kernel) (by decide) (by decide) (by decide +kernel) (by kernel_rfl) (fun hc => incr_layer v _ hc (fit8_len _ _ _).2 (fit8_head _ _ _))
  | 5, _ => exact go ⟨#[103, 101, 116, 100, 101, 108]⟩ 2 10 1 22 (by decide +kernel) (by decide +kernel) (by decide) (by decide) (by decide +kernel) (by kernel_rfl) (fun hc => getdel_layer v _ hc (fit8_len _ _ _).2 (fit8_head _ _ _))
  | n + 6, h => exact absurd h (by omega)
end Go.Proofs.Tryz.Vl
/- TextsWrong: the law of values of another type. -/
namespace Go.Proofs.Tryz.Vl
open Go Go.RowKit Go.Proofs.Mem Go.Proofs.App
open Go.Proofs.YtcdcbkopapedhaaGreatDoorW.PrintWords Go.Proofs.YtcdcbkopapedhaaGreatDoorW.PrintLast
open Go.Proofs.Rel (dsts depsOf)
open Go.Proofs.Tryz.Ln (lineL Tabs tabs_below WrongT)
set_option linter.unusedVariables false
set_option linter.unusedSimpArgs false
def wrongReply : BA := ⟨#[45, 87, 82, 79, 78, 71, 84, 89, 80, 69, 32, 79, 112, 101, 114, 97, 116, 105, 111, 110, 32, 97, 103, 97, 105, 110, 115, 116, 32, 97, 32, 107, 101, 121, 32, 104, 111, 108, 100, 105, 110, 103, 32, 116, 104, 101, 32, 119, 114, 111, 110, 103, 32, 107, 105, 110, 100, 32, 111, 102, 32, 118, 97, 108, 117, 101, 13, 10]⟩
theorem head45 (r : List Int) (h0 : r ≠ []) (h : r.getD 0 0 = 45) : r[0]? = some 45 := by
  cases r with
  | nil => exact absurd rfl h0
  | cons a b => simp at h; simp [h]
def idsC : Array Value := #[.int .i64 0, .int .i64 2, .int .i64 3, .int .i64 4, .int .i64 5, .int .i64 6]
theorem ids_any (w : World) : Calls Tryz.prog 7 #[] w fun e w' => e = .returned (.slice (some ⟨w.heap.size, 0, none⟩) 6 6) ∧ w' = w.alloc (.cells idsC 3) := by
  go_enter Tryz.func7, Tryz.ntmps7
  go_wp2_with fail
  go_ret
  exact ⟨rfl, rfl⟩
def idsP (x : Value) (w : World) : Prop := ∃ k, x = .slice (some ⟨k, 0, none⟩) 6 6 ∧ w.heap[k]? = some (.cells idsC 3 (0, 0))
def ixP (n : Nat) (x : Value) (w : World) : Prop := ∃ k, x = .pointer (some ⟨k, n, none⟩) ∧ w.heap[k]? = some (.cells idsC 3 (0, 0))
def idsR (B : Nat) (cs : Array Value) (v' : VV) (same : Prop) (u : Tmp) : RelG.Rl (NO B cs v' same) := RelG.of _ u idsP (fun x w w' ⟨k, h1, h2⟩ hle => ⟨k, h1, NewLe.other hle (by decide) h2⟩)
def ixR (B : Nat) (cs : Array Value) (v' : VV) (same : Prop) (n : Nat) (u : Tmp) : RelG.Rl (NO B cs v' same) := RelG.of _ u (ixP n) (fun x w w' ⟨k, h1, h2⟩ hle => ⟨k, h1, NewLe.other hle (by decide) h2⟩)
theorem ids_cell {w : World} {k n : Nat} (h : w.heap[k]? = some (.cells idsC 3 (0, 0))) (hn : n < 6) : w.cell? ⟨k, n, none⟩ = some (.int .i64 (idT n)) := by
  match n, hn with
  | 0, _ => rw [cell_of_row _ _ _ _ _ _ h]; rfl
  | 1, _ => rw [cell_of_row _ _ _ _ _ _ h]; rfl
  | 2, _ => rw [cell_of_row _ _ _ _ _ _ h]; rfl
  | 3, _ => rw [cell_of_row _ _ _ _ _ _ h]; rfl
  | 4, _ => rw [cell_of_row _ _ _ _ _ _ h]; rfl
  | 5, _ => rw [cell_of_row _ _ _ _ _ _ h]; rfl
  | n + 6, h => omega
theorem idx_ids (k n : Nat) (hn : n < 6) (ρ : Operand → Value) (w : World) (h1 : ρ (.tmp 17) = .slice (some ⟨k, 0, none⟩) 6 6) (h2 : ρ (.tmp 20) = .int .i64 (n : Int)) {o : Oper} (ho : o.op = .indexAddr 32 (.tmp 17) (.tmp 20) := by rfl) : (execOp ρ o).run Tryz.prog w = .ok (.value (.pointer (some ⟨k, n, none⟩))) w := by
  unfold execOp
  simp only [ho, h1, h2]
  match n, hn with
  | 0, _ => simp [go_sem]
  | 1, _ => simp [go_sem]
  | 2, _ => simp [go_sem]
  | 3, _ => simp [go_sem]
  | 4, _ => simp [go_sem]
  | 5, _ => simp [go_sem]
  | n + 6, h => omega
theorem ld_ids (k n : Nat) (hn : n < 6) (ρ : Operand → Value) (w : World) (h1 : ρ (.tmp 21) = .pointer (some ⟨k, n, none⟩)) (h : w.heap[k]? = some (.cells idsC 3 (0, 0))) {o : Oper} (ho : o.op = .load 3 (.tmp 21) := by rfl) : (execOp ρ o).run Tryz.prog w = .ok (.value (.int .i64 (idT n))) w := by
  have c := ids_cell h hn
  unfold execOp
  simp only [ho, h1]
  simp [go_sem, c]
theorem conv_q (q : Int) (hq : 0 ≤ q ∧ q ≤ 255) (ρ : Operand → Value) (w : World) (h : ρ (.tmp 18) = .int .u8 q) {o : Oper} (ho : o.op = .convert 5 3 (.tmp 18) := by rfl) : (execOp ρ o).run Tryz.prog w = .ok (.value (.int .i64 q)) w := by
  unfold execOp
  simp only [ho, h]
  simp [go_sem]
  have e : IntKind.i64.wrap q = q := by rw [IntKind.wrap_i64]; omega
  exact e
theorem rem_q (q : Int) (hq : 0 ≤ q ∧ q ≤ 255) (ρ : Operand → Value) (w : World) (h : ρ (.tmp 19) = .int .i64 q) (hk : ∀ y, ρ (.const y) = y) {o : Oper} (ho : o.op = .binOp .rem 3 (.tmp 19) (.const (.int .i64 6)) 3 := by rfl) : (execOp ρ o).run Tryz.prog w = .ok (.value (.int .i64 (q % 6))) w := by
  have hqm : Int.tmod q 6 = q % 6 := Int.tmod_eq_emod_of_nonneg hq.1
  unfold execOp
  simp only [ho, h, hk]
  simp [go_sem, hqm]
set_option maxRecDepth 100000 in
set_option maxHeartbeats 16000000 in
theorem TextsWrong_any (k : Int) (s : BA) (x y u : Value) (l : List BA) (h : List PR) (z : List MK) (q : Int) (A : Option Addr) (c : Nat) (ws : List BA) (w : World) (hk : 0 ≤ k ∧ k ≤ 255) (hx : gR w x l.length (scs l)) (hy : gR w y h.length (pcs h)) (hu : gR w u z.length (mcs z)) (hq : 0 ≤ q ∧ q ≤ 255) (hws : Kd.C Kd.string w A ws.length ws) (hc : ws.length ≤ c)
    (v : VV) (hv : fitV k s l h z = v) (hvl : v.l.length ≤ 1000000 ∧ v.h.length ≤ 1000000 ∧ v.z.length ≤ 1000000) (nm : BA) (ar cg : Int) (hat : Go.Proofs.Tryz.Cmd.atF (idT (q % 6).toNat) = some (nm, ar, cg, true)) (hmn : ¬ nm.toList = [109, 115, 101, 116]) (har : ar ≠ 0 ∧ -10 ≤ ar ∧ ar ≤ 10) (hL : LayerOK 1 v (fit8 nm ar ws)) (hT : Tabs w) :
    Calls Tryz.prog 3 #[.agg #[.int .u8 k, .string s, x, y, u], .int .u8 q, .slice A ws.length c] w fun e w' => e = .returned (.bool true) ∧ Below w.heap.size w w' := by
  obtain ⟨v', r, same, hdo, hr2, hrl, hwr, hre, hsv, hl1, hl2, hl3⟩ := hL
  obtain ⟨hvl1, hvl2, hvl3⟩ := hvl
  have hqm : Int.tmod q 6 = q % 6 := Int.tmod_eq_emod_of_nonneg hq.1
  obtain ⟨qn, hqn⟩ : ∃ qn, (q % 6).toNat = qn := ⟨_, rfl⟩
  rw [hqn] at hat
  have hq6 : 0 ≤ q % 6 ∧ q % 6 < 6 := ⟨Int.emod_nonneg _ (by decide), Int.emod_lt_of_pos _ (by decide)⟩
  have hqn6 : qn < 6 := by omega
  have hqnI : ((qn : Nat) : Int) = q % 6 := by omega
  obtain ⟨wB, hwB⟩ : ∃ wB : World, wB = w.alloc (.cells #[.int .u8 k, .string s, x, y, u] vT) := ⟨_, rfl⟩
  have hbB : Below w.heap.size w wB := by rw [hwB]; exact below_alloc (Below.refl _ _) _
  have hsB : wB.heap.size = w.heap.size + 1 := by rw [hwB]; simp
  have hpB : wB.heap[w.heap.size]? = some (.cells #[.int .u8 k, .string s, x, y, u] vT (0, 0)) := by rw [hwB]; exact heap_alloc_new w _
  have hx' := veil hx
  have hy' := veil hy
  have hu' := veil hu
  have hws' := veil hws
  have hT' := veil hT
  have hbB' := veil hbB
  have hsB' := veil hsB
  have hpB' := veil hpB
  have hwB' := veil hwB
  have hdo' := veil hdo
  have hr2' := veil hr2
  have hr0' : Veil (r ≠ []) := veil (fun h => by rw [h] at hr2; simp at hr2)
  have hwr' := veil hwr
  have hre' := veil hre
  have hsv' := veil hsv
  have hat' := veil hat
  have hv' := veil hv
  clear hx hy hu hws hT hbB hsB hpB hwB hdo hwr hre hsv hat hv
  go_enter Tryz.func3, Tryz.ntmps3
  go_wp2_with fail
  rw [← hwB'.out]
  refine (Go.Proofs.Tryz.Ln.shown11_any wB (tabs_below hT'.out hbB'.out)).mono ?_
  rintro e w1 ⟨rfl, hb1⟩
  have hB1 := veil (two_below hbB'.out hb1)
  have hp1 := (hb1.block _ (by have := hsB'.out; omega)).trans hpB'.out
  have hp1' := veil hp1
  have hs1 := veil (show w.heap.size + 1 ≤ w1.heap.size by have := hb1.size; have := hsB'.out; omega)
  clear hb1
  have hp1c0 : (w1).cell? ⟨w.heap.size, 0, none⟩ = some (.int .u8 k) := by rw [cell_of_row _ _ _ _ _ _ hp1]; rfl
  have hp1c1 : (w1).cell? ⟨w.heap.size, 1, none⟩ = some (.string s) := by rw [cell_of_row _ _ _ _ _ _ hp1]; rfl
  have hp1c2 : (w1).cell? ⟨w.heap.size, 2, none⟩ = some (x) := by rw [cell_of_row _ _ _ _ _ _ hp1]; rfl
  have hp1c3 : (w1).cell? ⟨w.heap.size, 3, none⟩ = some (y) := by rw [cell_of_row _ _ _ _ _ _ hp1]; rfl
  have hp1c4 : (w1).cell? ⟨w.heap.size, 4, none⟩ = some (u) := by rw [cell_of_row _ _ _ _ _ _ hp1]; rfl
  clear hp1
  go_wp2_with fail
  refine (Fit_any k s x y u l h z w1 hk (hx'.out.below hB1.out) (hy'.out.below hB1.out) (hu'.out.below hB1.out)).mono ?_
  rintro e w2 ⟨cs1, rfl, hv1, hb2⟩
  rw [hv'.out] at hv1
  obtain ⟨x1, y1, u1, rfl, g1, g2, g3⟩ := hv1.ex
  clear hp1c0 hp1c1 hp1c2 hp1c3 hp1c4
  have hB2 := veil (two_below hB1.out hb2)
  obtain ⟨wA, hwA⟩ : ∃ wA : World, wA = w2.alloc (.cells #[.int .u8 v.k, .string v.s, x1, y1, u1] vT) := ⟨_, rfl⟩
  have hbA : Below w2.heap.size w2 wA := by rw [hwA]; exact below_alloc (Below.refl _ _) _
  have hgA : wA.heap[w2.heap.size]? = some (.cells #[.int .u8 v.k, .string v.s, x1, y1, u1] vT (0, 0)) := by rw [hwA]; exact heap_alloc_new w2 _
  have hpA : wA.heap[w.heap.size]? = some (.cells #[.int .u8 k, .string s, x, y, u] vT (0, 0)) := ((two_below hb2 hbA).block _ (by have := hs1.out; omega)).trans hp1'.out
  have hBA := veil (two_below hB2.out hbA)
  have hsA : Veil (wA.heap.size = w2.heap.size + 1) := veil (by rw [hwA]; simp)
  have hs2 := veil (show w1.heap.size ≤ w2.heap.size from hb2.size)
  have g1A := veil (g1.below hbA)
  have g2A := veil (g2.below hbA)
  have g3A := veil (g3.below hbA)
  have hvV1 : Veil (IsV wA #[.int .u8 v.k, .string v.s, x1, y1, u1] v) := veil (hv1.below hbA)
  have hone1 := veil hv1.one
  have hpAc0 : (wA).cell? ⟨w.heap.size, 0, none⟩ = some (.int .u8 k) := by rw [cell_of_row _ _ _ _ _ _ hpA]; rfl
  have hpAc1 : (wA).cell? ⟨w.heap.size, 1, none⟩ = some (.string s) := by rw [cell_of_row _ _ _ _ _ _ hpA]; rfl
  have hpAc2 : (wA).cell? ⟨w.heap.size, 2, none⟩ = some (x) := by rw [cell_of_row _ _ _ _ _ _ hpA]; rfl
  have hpAc3 : (wA).cell? ⟨w.heap.size, 3, none⟩ = some (y) := by rw [cell_of_row _ _ _ _ _ _ hpA]; rfl
  have hpAc4 : (wA).cell? ⟨w.heap.size, 4, none⟩ = some (u) := by rw [cell_of_row _ _ _ _ _ _ hpA]; rfl
  have hgA' := veil hgA
  have hpA' := veil hpA
  have hwA' := veil hwA
  clear hb2 hbA hgA hpA g1 g2 g3 hv1
  rw [hwA] at hpAc0 hpAc1 hpAc2 hpAc3 hpAc4
  clear hwA
  go_wp2_with (refine wpList_store_new rfl vT _ _ rfl #[.int .u8 v.k, .string v.s, x1, y1, u1] #[.int .u8 0, .string ⟨#[]⟩, nlv, nlv, nlv] vT rfl rfl (info5v _ _ _ _ _) rfl hone1.out ?_)
  clear hpAc0 hpAc1 hpAc2 hpAc3 hpAc4
  rw [← hwA'.out]
  have hpi := veil (IsV.b hvV1.out)
  refine RelG.wp_region_rel2 (G := NO wA.heap.size #[.int .u8 v.k, .string v.s, x1, y1, u1] v' same) (n := 60) [RelG.is _ 16 (.agg #[.int .u8 v.k, .string v.s, x1, y1, u1]), idsR _ _ _ _ 17, RelG.is _ 18 (.int .u8 q), RelG.is _ 19 (.int .i64 q), RelG.is _ 20 (.int .i64 (qn : Int)), ixR _ _ _ _ qn 21, RelG.is _ 22 (.int .i64 (idT qn)), RelG.is _ 23 (.slice A ws.length c), dbR _ _ _ r _ 24, dbR _ _ _ r _ 15, vbR _ _ _ _ 25, rpR _ _ _ r _ 26, ptR' _ _ _ _ 9, flR' _ _ _ _ 9, rpR _ _ _ r _ 10] [[16], [17], [18], [19], [20], [21], [22], [23], [24], [15], [25], [26], [9], [9], [10]] (by kernel_rfl) rfl rfl (by kernel_rfl) ?_ ?_
  · refine RelG.steps_cons (RelG.step_load (n := 60) (t := 8) (u := 16) (b := w2.heap.size) (t' := vT) (cs := #[.int .u8 v.k, .string v.s, x1, y1, u1]) (fr := (0, 0)) rfl rfl rfl rfl (by decide) (by kernel_rfl) (by kernel_rfl) Tryz.underlying26 rfl (info5v _ _ _ _ _) (fun w' hle => NewLe.old hle (by have := hsA.out; omega) hgA'.out) rfl) ?_
    refine RelG.steps_cons (step_callV rfl Tryz.func7 (by kernel_rfl) rfl rfl (fun b w' D => ⟨#[], by simp, (ids_any w').mono fun e w'' ⟨he, hw⟩ => ⟨_, he, by
        show idsP (RelG.get (b.put (some 17) _) 17) w''
        rw [RelG.get_put b 17 _ (by rw [D.siz]; exact (by decide : 17 < 60)), hw]
        exact ⟨_, rfl, heap_alloc_last w' _⟩, (NO wA.heap.size #[.int .u8 v.k, .string v.s, x1, y1, u1] v' same).bel (by rw [hw]; exact below_alloc (Below.refl _ _) _)⟩⟩)) ?_
    refine RelG.steps_cons (RelG.step_was (n := 60) (t := 1) (u := 18) rfl rfl rfl rfl (by decide) (by kernel_rfl) (by kernel_rfl) rfl) ?_
    refine RelG.steps_cons (RelG.step_run (n := 60) (j := 2) (t := 18) (u := 19) (v := .int .u8 q) rfl rfl rfl (by decide) rfl rfl (fun ρ w' hle h hk => conv_q q hq ρ w' h) rfl) ?_
    refine RelG.steps_cons (RelG.step_run (n := 60) (j := 3) (t := 19) (u := 20) (v := .int .i64 q) rfl rfl rfl (by decide) rfl rfl (fun ρ w' hle h hk => by rw [hqnI]; exact rem_q q hq ρ w' h hk) rfl) ?_
    refine RelG.steps_cons (RelG.step_val rfl fun b w' D => by
        obtain ⟨kk, h1, h2⟩ := D.rel 1 rfl
        have e1 : b.eval (.tmp 17) = .slice (some ⟨kk, 0, none⟩) 6 6 := h1
        have e2 : b.eval (.tmp 20) = .int .i64 (qn : Int) := D.is 4 rfl rfl
        refine ⟨.pointer (some ⟨kk, qn, none⟩), idx_ids kk qn hqn6 b.eval w' e1 e2, ?_⟩
        show ixP qn (RelG.get (b.put (some 21) _) 21) w'
        rw [RelG.get_put b 21 _ (by rw [D.siz]; exact (by decide : 21 < 60))]
        exact ⟨kk, rfl, h2⟩) ?_
    refine RelG.steps_cons (RelG.step_val rfl fun b w' D => by
        obtain ⟨kk, h1, h2⟩ := D.rel 5 rfl
        have e1 : b.eval (.tmp 21) = .pointer (some ⟨kk, qn, none⟩) := h1
        refine ⟨.int .i64 (idT qn), ld_ids kk qn hqn6 b.eval w' e1 h2, ?_⟩
        exact RelG.get_put b 22 _ (by rw [D.siz]; exact (by decide : 22 < 60))) ?_
    refine RelG.steps_cons (RelG.step_was (n := 60) (t := 2) (u := 23) rfl rfl rfl rfl (by decide) (by kernel_rfl) (by kernel_rfl) rfl) ?_
    refine RelG.steps_cons (step_callV rfl Tryz.func6 (by kernel_rfl) rfl rfl (fun b w' D => by
        have e1 : b.eval (.tmp 16) = .agg #[.int .u8 v.k, .string v.s, x1, y1, u1] := D.is 0 rfl rfl
        have e2 : b.eval (.tmp 22) = .int .i64 (idT qn) := D.is 6 rfl rfl
        have e3 : b.eval (.tmp 23) = .slice A ws.length c := D.is 7 rfl rfl
        have hle : NewLe wA.heap.size (Gv wA.heap.size #[.int .u8 v.k, .string v.s, x1, y1, u1] v' same) wA w' := D.bel
        have hbw := hle.below hBA.out (by have := hBA.out.size; omega) (by have := hBA.out.size; omega)
        have hcw := hpi.out.new hle
        refine ⟨#[.agg #[.int .u8 v.k, .string v.s, x1, y1, u1], .int .i64 (idT qn), .slice A ws.length c], by simp only [List.map_toArray, List.map_cons, List.map_nil, e1, e2, e3], (do_any wA.heap.size w' #[.int .u8 v.k, .string v.s, x1, y1, u1] v v' r same (idT qn) A ws.length c (fit8 nm ar ws) hcw (fun w'' hb => Fit8_any _ nm ar cg A c ws w'' hat'.out hmn har (Kd.C_below hws'.out (two_below hbw hb)) hc) (fun w'' xx hb hgt hx => hdo'.out _ _ w'' xx _ hgt ((hcw.g (Nat.le_succ _)).below hb) hx (tabs_below hT'.out (two_below hbw hb)))).mono ?_⟩
        rintro e w'' ⟨cs3, A', n', c', he, hf, hv3, hsame, hb4⟩
        refine ⟨_, he, ?_, (NO wA.heap.size #[.int .u8 v.k, .string v.s, x1, y1, u1] v' same).bel hb4⟩
        show dbP _ _ _ _ _ (RelG.get (b.put (some 24) _) 24) w''
        rw [RelG.get_put b 24 _ (by rw [D.siz]; exact (by decide : 24 < 60))]
        exact ⟨cs3, _, rfl, hv3, hsame, hr2'.out, A', n', c', _, rfl, hf⟩)) ?_
    refine RelG.steps_cons (RelG.step_pass_of (n := 60) (j := 8) (t := 24) (u := 15) (p := dbP wA.heap.size #[.int .u8 v.k, .string v.s, x1, y1, u1] v' r same) (hp := fun x w w' ⟨c, y, h1, h2, h3, h4⟩ hle => ⟨c, y, h1, h2.new hle, h3, rpP_new h4 hle⟩) rfl rfl (.inl rfl) rfl (by decide) rfl rfl rfl) ?_
    refine RelG.steps_cons (RelG.step_val rfl fun b w' D => by
        obtain ⟨cs', y, h1, h2, h3, h4⟩ := D.rel 9 rfl
        have e1 : b.eval (.tmp 15) = .tuple #[.agg cs', y] := h1
        exact ⟨.agg cs', run_exV0 e1, by
          show vbP _ _ _ _ (RelG.get (b.put (some 25) _) 25) w'
          rw [RelG.get_put b 25 _ (by rw [D.siz]; exact (by decide : 25 < 60))]
          exact ⟨cs', rfl, h2, h3⟩⟩) ?_
    refine RelG.steps_cons (RelG.step_val rfl fun b w' D => by
        obtain ⟨cs', y, h1, h2, h3, h4⟩ := D.rel 9 rfl
        have e1 : b.eval (.tmp 15) = .tuple #[.agg cs', y] := h1
        exact ⟨y, run_exV1 e1, by
          show rpP _ (RelG.get (b.put (some 26) _) 26) w'
          rw [RelG.get_put b 26 _ (by rw [D.siz]; exact (by decide : 26 < 60))]
          exact h4⟩) ?_
    refine RelG.steps_cons (RelG.step_make rfl fun b w' D => ⟨.pointer (some ⟨w'.heap.size, 0, none⟩), w'.alloc (.cells #[.int .u8 0, .string ⟨#[]⟩, nlv, nlv, nlv] vT), by simp [execOp, go_sem], by
      show ptV _ (RelG.get (b.put (some 9) _) 9) _
      rw [RelG.get_put b 9 _ (by rw [D.siz]; exact (by decide : 9 < 60))]
      have hle : NewLe wA.heap.size (Gv wA.heap.size #[.int .u8 v.k, .string v.s, x1, y1, u1] v' same) wA w' := D.bel
      exact ⟨_, rfl, hle.size, _, _, _, _, _, heap_alloc_last w' _⟩, (NO wA.heap.size #[.int .u8 v.k, .string v.s, x1, y1, u1] v' same).bel (below_alloc (Below.refl _ _) _)⟩) ?_
    refine RelG.steps_cons (RelG.step_skip rfl rfl fun b w' D => by
      obtain ⟨p, h1, h2, h3⟩ := D.rel 12 rfl
      obtain ⟨cs', h4, h5, h6⟩ := D.rel 10 rfl
      have e1 : b.eval (.tmp 9) = .pointer (some ⟨p, 0, none⟩) := h1
      have e2 : b.eval (.tmp 25) = .agg cs' := h4
      have hfl := fill_le h2 h3 h5 h6
      obtain ⟨a1, a2, a3, a4, a5, h7⟩ := h3
      refine ⟨w'.setRow p cs', ?_, ⟨p, h1, h2, hfl.2⟩, hfl.1⟩
      unfold execOp
      simp only [e1, e2, Instr.storeAt, Instr.sureAddr, Sem.run_bind, Sem.run_pure, Result.andThen_ok, run_storeVar_row (P := Tryz.prog) w' p vT vT _ cs' h7 (info5s h5.v.siz) (by rw [h5.v.siz]; rfl) h5.v.one]) ?_
    refine RelG.steps_cons (RelG.step_pass_of (n := 60) (j := 11) (t := 26) (u := 10) (p := rpP r) (hp := fun x w w' h hle => rpP_new h hle) rfl rfl (.inr rfl) rfl (by decide) rfl rfl rfl) ?_
    exact trivial
  intro va ee w4 hg hvv hle0
  have hle : NewLe wA.heap.size (Gv wA.heap.size #[.int .u8 v.k, .string v.s, x1, y1, u1] v' same) wA w4 := hle0
  have q9 : ee 9 = va 12 := hg 12 9 rfl
  have q10 : ee 10 = va 14 := hg 14 10 rfl
  have hf9 : flV wA.heap.size #[.int .u8 v.k, .string v.s, x1, y1, u1] v' same (ee 9) w4 := hvv 13 (by decide)
  have hr10 : rpP r (ee 10) w4 := hvv 14 (by decide)
  rw [q9] at hf9
  rw [q10] at hr10
  obtain ⟨p, e9, hp, cs3, hgT, hv3, hsame⟩ := hf9
  obtain ⟨_, A', n', c', base, e10, hf⟩ := hr10
  obtain ⟨x3, y3, u3, rfl, g1, g2, g3⟩ := hv3.ex
  have hV4 := (hpi.out.new hle).v
  obtain ⟨xa, ya, za, ea, j1, j2, j3⟩ := hV4.ex
  obtain ⟨rfl, rfl, rfl⟩ : x1 = xa ∧ y1 = ya ∧ u1 = za := by
    have := congrArg Array.toList ea
    simp at this
    exact this
  have j1 := veil j1
  have j2 := veil j2
  have j3 := veil j3
  have j7 := veil g1.r
  have j8 := veil g2.r
  have j9 := veil g3.r
  have hf5 := veil hf
  have hsame' := veil hsame
  have hg8 : w4.heap[w2.heap.size]? = some (.cells #[.int .u8 v.k, .string v.s, x1, y1, u1] vT (0, 0)) := hle.old (by have := hsA.out; omega) hgA'.out
  have hg8E := veil hg8
  have hB5 := veil (hle.below hBA.out (by have := hBA.out.size; omega) (by have := hBA.out.size; omega))
  have hg8c0 : w4.cell? ⟨w2.heap.size, 0, none⟩ = some (.int .u8 v.k) := by rw [cell_of_row _ _ _ _ _ _ hg8]; rfl
  have hg8c1 : w4.cell? ⟨w2.heap.size, 1, none⟩ = some (.string v.s) := by rw [cell_of_row _ _ _ _ _ _ hg8]; rfl
  have hg8c2 : w4.cell? ⟨w2.heap.size, 2, none⟩ = some (x1) := by rw [cell_of_row _ _ _ _ _ _ hg8]; rfl
  have hg8c3 : w4.cell? ⟨w2.heap.size, 3, none⟩ = some (y1) := by rw [cell_of_row _ _ _ _ _ _ hg8]; rfl
  have hg8c4 : w4.cell? ⟨w2.heap.size, 4, none⟩ = some (u1) := by rw [cell_of_row _ _ _ _ _ _ hg8]; rfl
  have hgTc0 : w4.cell? ⟨p, 0, none⟩ = some (.int .u8 v'.k) := by rw [cell_of_row _ _ _ _ _ _ hgT]; rfl
  have hgTc1 : w4.cell? ⟨p, 1, none⟩ = some (.string v'.s) := by rw [cell_of_row _ _ _ _ _ _ hgT]; rfl
  have hgTc2 : w4.cell? ⟨p, 2, none⟩ = some (x3) := by rw [cell_of_row _ _ _ _ _ _ hgT]; rfl
  have hgTc3 : w4.cell? ⟨p, 3, none⟩ = some (y3) := by rw [cell_of_row _ _ _ _ _ _ hgT]; rfl
  have hgTc4 : w4.cell? ⟨p, 4, none⟩ = some (u3) := by rw [cell_of_row _ _ _ _ _ _ hgT]; rfl
  simp only [Rel.fill, Act.put, List.setIfInBounds_toArray, List.set_cons_zero, List.set_cons_succ]
  rw [e9, e10]
  clear hg hvv hle0 hle q9 q10 e9 e10 hf hsame hV4 ea g1 g2 g3 hv3 hg8 hgT
  have hS : Veil (Calls Tryz.prog 8 #[.agg #[.int .u8 v'.k, .string v'.s, x3, y3, u3], .agg #[.int .u8 v.k, .string v.s, x1, y1, u1]] w4 fun e w' => (∃ b, e = .returned (.bool b) ∧ (same → b = true)) ∧ Below w4.heap.size w4 w') := veil (by
    by_cases hs : same
    · obtain rfl := hsv'.out hs
      exact (Same_any v'.k v'.s x3 y3 u3 x1 y1 u1 v'.l v'.h v'.z w4 j7.out j1.out j8.out j2.out j9.out j3.out hvl1 hvl2 hvl3).mono fun e w' ⟨h1, h2⟩ => ⟨⟨true, h1, fun _ => rfl⟩, h2⟩
    · exact (Same_tot v'.k v.k v'.s v.s x3 y3 u3 x1 y1 u1 v'.l v.l v'.h v.h v'.z v.z w4 j7.out j1.out j8.out j2.out j9.out j3.out hl1 hl2 hl3).mono fun e w' ⟨⟨b, h1⟩, h2⟩ => ⟨⟨b, h1, fun h => absurd h hs⟩, h2⟩)
  clear j1 j2 j3 j7 j8 j9
  go_wp2_with fail
  clear hg8c0 hg8c1 hg8c2 hg8c3 hg8c4
  clear hgTc0 hgTc1 hgTc2 hgTc3 hgTc4
  refine hS.out.mono ?_
  rintro e w6 ⟨⟨sb, rfl, hsb⟩, hb6⟩
  have hg8 := (hb6.block _ (by have := hg8E.out; exact (Array.getElem?_eq_some_iff.1 this).1)).trans hg8E.out
  have hg8c0 : w6.cell? ⟨w2.heap.size, 0, none⟩ = some (.int .u8 v.k) := by rw [cell_of_row _ _ _ _ _ _ hg8]; rfl
  have hB6 := veil (two_below hB5.out hb6)
  have hf6 := hf5.out.below hb6
  have hsb' := veil hsb
  clear hb6 hg8 hsb hS
  obtain ⟨n1, hn1⟩ : ∃ n, r.length = n := ⟨_, rfl⟩
  have hn'1 : n' = n1 := by rw [← hn1]; exact hf6.len.symm
  subst hn'1
  have hnp : 0 < n' := by rw [← hn1]; exact List.length_pos_iff.2 hr0'.out
  have hnz : ((n' : Int) == 0) = false := by rw [beq_eq_false_iff_ne]; omega
  have hpos : (0 : Int) < n' := by omega
  obtain ⟨bb, rfl, _, _, hcb, _⟩ := hf6.there (by have := hf6.le; omega)
  have hc0 := hcb 0 hnp
  have hrd := veil (hf6.reads (by omega))
  have hn1' := veil hn1
  clear hf6 hcb hn1
  by_cases hkw : v.k ≠ 0 ∧ v.k ≠ 1
  · obtain ⟨hk0, hk2⟩ := hkw
    obtain ⟨hs, hrW⟩ := hwr'.out hk0 hk2
    obtain rfl := hsb'.out hs
    have e0 : (v.k != 0) = true := by simp [hk0]
    have e2 : (v.k != 1) = true := by simp [hk2]
    have hcv : (convert 29 9 (.slice (some ⟨bb, 0, none⟩) n' c')).run Tryz.prog w6 = .ok (.string (strOfNums r)) w6 := string_of_reads Tryz.underlying29 Tryz.underlying5 Tryz.underlying9 hrd.out
    have hst : strOfNums r = wrongReply := by rw [hrW]; decide +kernel
    rw [hst] at hcv
    clear hk0 hk2 hrW hst hs
    go_wp2_with fail
    go_ret
    refine ⟨congrArg (fun t => Ending.returned (Value.bool t)) (show _ = true from ?_), hB6.out⟩
    decide +kernel
  · have hkd : v.k = 0 ∨ v.k = 1 := by omega
    have hr45 : Veil (r.getD 0 0 = 45 → sb = true) := veil (fun h => hsb'.out (hre'.out (head45 r hr0'.out h)))
    obtain ⟨r0, hr0e⟩ : ∃ r0, r.getD 0 0 = r0 := ⟨_, rfl⟩
    rw [hr0e] at hc0 hr45
    clear hkw hr0e
    by_cases h45 : r0 = 45
    · obtain rfl := hr45.out h45
      have h45b : (r0 != 45) = false := by simp [h45]
      clear h45 hr45
      rcases hkd with hkd | hkd
      all_goals
        rw [hkd] at hg8c0
        go_wp2_with fail
        go_ret
        exact ⟨rfl, hB6.out⟩
    · have h45b : (r0 != 45) = true := by simp [h45]
      clear h45 hr45
      rcases hkd with hkd | hkd
      all_goals
        rw [hkd] at hg8c0
        go_wp2_with fail
        go_ret
        exact ⟨rfl, hB6.out⟩
end Go.Proofs.Tryz.Vl
/- TextsWrong, as its row wants it. -/
namespace Go.Proofs.Tryz.Vl
open Go Go.RowKit Go.Proofs.Mem Go.Proofs.App
open Go.Proofs.YtcdcbkopapedhaaGreatDoorW.PrintWords Go.Proofs.YtcdcbkopapedhaaGreatDoorW.PrintLast
open Go.Proofs.Tryz.Ln (Tabs)
set_option linter.unusedVariables false
theorem texts_wrong_walk (k : Int) (s : BA) (x y u : Value) (l : List BA) (e : List PR) (z : List MK) (q : Int) (A : Option Addr) (cap : Nat) (ws : List BA) (W : World) (hk : 0 ≤ k ∧ k ≤ 255) (gl : gR W x l.length (scs l)) (ge : gR W y e.length (pcs e)) (gz : gR W u z.length (mcs z)) (hb : (l.map (·.size)).sum + l.length ≤ 1048576)
    (hq : (Lit.int .u8 q).wf = true) (hw : Kd.C Kd.string W A ws.length ws) (hc : ws.length ≤ cap) (hbw : (ws.map (·.size)).sum + ws.length ≤ 1048576) (hT : Tabs W) :
    Calls Tryz.prog 3 #[.agg #[.int .u8 k, .string s, x, y, u], .int .u8 q, .slice A ws.length cap] W fun e w' => e = .returned (.bool true) ∧ Below W.heap.size W w' := by
  simp only [Lit.wf, Bool.and_eq_true, decide_eq_true_eq] at hq
  have hq' : 0 ≤ q ∧ q ≤ 255 := hq
  have h0 : 0 ≤ q % 6 ∧ q % 6 < 6 := ⟨Int.emod_nonneg _ (by decide), Int.emod_lt_of_pos _ (by decide)⟩
  obtain ⟨nm, ar, cg, h1, h2, h3, h4⟩ := texts_layer k s l e z (q % 6).toNat (by omega) ws
  obtain ⟨v1, v2, v3⟩ := fitV_len k s l e z
  exact TextsWrong_any k s x y u l e z q A cap ws W hk gl ge gz hq' hw hc _ rfl ⟨by omega, by omega, by omega⟩ nm ar cg h1 h2 h3 h4 hT
end Go.Proofs.Tryz.Vl
