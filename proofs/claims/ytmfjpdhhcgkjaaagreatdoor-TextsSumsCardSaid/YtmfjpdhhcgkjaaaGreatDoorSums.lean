import Derived.Test.YtmfjpdhhcgkjaaaGreatDoorInc
/- The law of sums. -/
namespace Go.Proofs.Tryz.Ln
open Go Go.RowKit Go.Proofs.Mem Go.Proofs.App
open Go.Proofs.YtmfjpdhhcgkjaaaGreatDoorW.PrintWords Go.Proofs.YtmfjpdhhcgkjaaaGreatDoorW.PrintMore
attribute [local go_sem] min2_sym min_two   -- for this text's walks alone
set_option linter.unusedVariables false
set_option linter.unusedSimpArgs false
theorem tm (n : Int) : -1152921504606846976 < n.tmod 1152921504606846976 ∧ n.tmod 1152921504606846976 < 1152921504606846976 := ⟨Int.lt_tmod_of_pos n (by decide), Int.tmod_lt_of_pos n (by decide)⟩
theorem parseS_any (s : ByteArray) (w : World) : Calls Tryz.prog 17 #[.string s] w fun e w' => e = .returned (.tuple #[.int .i64 (Go.Proofs.YtmfjpdhhcgkjaaaGreatDoor.Pure1.pairO (Dig.parseO s)).1, .bool (Go.Proofs.YtmfjpdhhcgkjaaaGreatDoor.Pure1.pairO (Dig.parseO s)).2]) ∧ Below w.heap.size w w' := by
  obtain ⟨k, hk⟩ := (Go.Proofs.YtmfjpdhhcgkjaaaGreatDoor.Pure1.parse_ev s).rounds
  exact Go.Proofs.YtmfjpdhhcgkjaaaGreatDoor.Zr.tipstaffref01_Parse.calls k s _ _ w hk
theorem moreS_any (x : Int) (s : ByteArray) (hx : Int64 x) (h : Dig.parseO s ≠ none) : ∃ S r, moreF (vS 1 (numS x) nl nl nl) (if (1 : Int) = 0 then numS 0 else numS x) s = (vS 1 S nl nl nl, r) := by
  rw [if_neg (by decide)]
  unfold moreF
  rw [show Dig.parseO (numS x) = some x from Dig.parse_num x hx]
  cases h1 : Dig.parseO s with
  | none => exact absurd h1 h
  | some k =>
    cases h2 : addO x k with
    | none => exact ⟨numS x, lineL ⟨#[45]⟩ Overflow, by simp only [h2]⟩
    | some y => exact ⟨numS y, lineL ⟨#[58]⟩ (numS y), by simp only [h2]; rfl⟩
theorem moreS_none (v : Array Value) (x : Int) (s : ByteArray) (h : Dig.parseO s = none) : moreF v (if (1 : Int) = 0 then numS 0 else numS x) s = (v, lineL ⟨#[45]⟩ NotInt) := by
  unfold moreF
  rw [h]
set_option maxRecDepth 100000 in
set_option maxHeartbeats 16000000 in
theorem sums_any (m0 m1 m2 : Int) (s : ByteArray) (w : World) (hT : Tabs w) :
    Calls Tryz.prog 5 #[.agg #[.int .i64 m0, .int .i64 m1, .int .i64 m2], .string s] w fun e w' => e = .returned (.bool true) ∧ Below w.heap.size w w' := by
  have hT' := veil hT
  have hb0 := veil (below_alloc (Below.refl w.heap.size w) (.cells #[.int .i64 m0, .int .i64 m1, .int .i64 m2] 43))
  have hbx := veil (heap_alloc_last w (.cells #[.int .i64 m0, .int .i64 m1, .int .i64 m2] 43))
  clear hT
  go_enter Tryz.func5, Tryz.ntmps5
  go_wp2_with fail
  refine (shown11_any _ (tabs_below hT'.out hb0.out)).mono ?_
  rintro e w1 ⟨rfl, hb1⟩
  have hs1 := hb1.size
  have hB_0 := veil (two_below hb0.out hb1)
  have hx1 := veil ((hb1.block w.heap.size (by simp)).trans hbx.out)
  have g0 : w1.cell? ⟨w.heap.size, 0, none⟩ = some (.int .i64 m0) := by rw [cell_of_row _ _ _ _ _ _ hx1.out]; rfl
  have g1 : w1.cell? ⟨w.heap.size, 1, none⟩ = some (.int .i64 m1) := by rw [cell_of_row _ _ _ _ _ _ hx1.out]; rfl
  have g2 : w1.cell? ⟨w.heap.size, 2, none⟩ = some (.int .i64 m2) := by rw [cell_of_row _ _ _ _ _ _ hx1.out]; rfl
  have hwb : w.heap.size ≤ w1.heap.size := by simp at hs1; omega
  clear hb1 hb0 hbx hx1
  go_wp2_with fail
  have t0 := tm m0
  have t1 := tm m1
  have t2 := tm m2
  obtain ⟨x, hx⟩ : ∃ x, m0.tmod 1152921504606846976 = x := ⟨_, rfl⟩
  obtain ⟨y, hy⟩ : ∃ y, m1.tmod 1152921504606846976 = y := ⟨_, rfl⟩
  obtain ⟨z, hz⟩ : ∃ z, m2.tmod 1152921504606846976 = z := ⟨_, rfl⟩
  rw [hx] at t0 ⊢
  rw [hy] at t1 ⊢
  rw [hz] at t2 ⊢
  clear hx hy hz g0 g1 g2
  have ix : Int64 x := by unfold Int64; omega
  have iy : Int64 y := by unfold Int64; omega
  have iz : Int64 z := by unfold Int64; omega
  have ixy : Int64 (x + y) := by unfold Int64; omega
  have ixyz : Int64 (x + y + z) := by unfold Int64; omega
  have zx := numS_size x ix.1 ix.2
  have zy := numS_size y iy.1 iy.2
  have zz := numS_size z iz.1 iz.2
  have zxy := numS_size (x + y) ixy.1 ixy.2
  have zxyz := numS_size (x + y + z) ixyz.1 ixyz.2
  refine (rtext_any x _ ix).mono ?_
  rintro e wt ⟨rfl, hbt⟩
  have hst := hbt.size
  have hB_1 := veil (two_below hB_0.out (hbt))
  clear hbt hB_0
  go_wp2_with (first | (refine wpList_store_row rfl 26 _ _ rfl wt.heap.size (tS (numS x)) rfl rfl 26 zS (heap_alloc_last wt _) (by kernel_rfl) rfl (tS_one _) ?_))
  obtain ⟨b2, hb2⟩ : ∃ b2 : World, b2 = (wt.alloc (.cells #[.int .u8 0, .string ⟨#[]⟩, .slice none 0 0, .slice none 0 0, .slice none 0 0] 26)).setRow wt.heap.size (tS (numS x)) := ⟨_, rfl⟩
  have hN2 := newV (tS (numS x)) wt
  rw [← hb2] at hN2 ⊢
  have hs2 := hN2.sz
  have hB_3 := veil (two_below hB_1.out (hN2.bel))
  have fv_2 := veil hN2.cell
  clear hb2 hN2 hB_1
  refine RelG.wp_region_rel2 (G := FillO b2.heap.size (tS (numS (x + y)))) (n := 106) [RelG.is _ 34 (.agg (tS (numS x))), RelG.is _ 35 (.int .i64 y), RelG.is _ 36 (.string (numS y)), txR _ _ #[.string ⟨#[105, 110, 99, 114, 98, 121]⟩, .string ⟨#[107]⟩, .string (numS y)] 37, tuR _ _ (tS (numS (x + y))) (lineL ⟨#[58]⟩ (numS (x + y))) 38, tuR _ _ (tS (numS (x + y))) (lineL ⟨#[58]⟩ (numS (x + y))) 33, RelG.is _ 39 (.agg (tS (numS (x + y)))), rwR _ _ (lineL ⟨#[58]⟩ (numS (x + y))) 40, ncR _ _ 10, flR _ _ 10, rwR _ _ (lineL ⟨#[58]⟩ (numS (x + y))) 11] [[34], [35], [36], [37], [38], [33], [39], [40], [10], [10], [11]] (by kernel_rfl) rfl rfl (by kernel_rfl) ?_ ?_
  · refine RelG.steps_cons (RelG.step_load (n := 106) (t := 9) (u := 34) (b := wt.heap.size) (t' := tV) (cs := tS (numS x)) (fr := (0, 0)) rfl rfl rfl rfl (by decide) (by kernel_rfl) (by kernel_rfl) Tryz.underlying26 rfl (by kernel_rfl) (fun w' hle => fill_keep hle fv_2.out (by omega)) rfl) ?_
    refine RelG.steps_cons (RelG.step_was (n := 106) (t := 7) (u := 35) rfl rfl rfl rfl (by decide) (by kernel_rfl) (by kernel_rfl) rfl) ?_
    refine RelG.steps_cons (RelG.step_call rfl Tryz.func13 (by kernel_rfl) rfl #[.int .i64 y] rfl (fun b w' D => by simp only [List.map_toArray, List.map_cons, List.map_nil, D.is 1 rfl rfl]) (fun b w' D => call_is' (rtext_any y w' iy) (by rw [D.siz]; exact (by decide : 36 < 106)))) ?_
    refine RelG.steps_cons (RelG.step_make rfl fun b w' D => ⟨.slice (some ⟨w'.heap.size, 0, none⟩) 3 3, w'.alloc (.cells #[.string ⟨#[105, 110, 99, 114, 98, 121]⟩, .string ⟨#[107]⟩, .string (numS y)] 9), by
        have e2 : b.eval (.tmp 36) = .string (numS y) := D.is 2 rfl rfl
        have hr := run_texts3 w' ⟨#[105, 110, 99, 114, 98, 121]⟩ ⟨#[107]⟩ (numS y)
        unfold execOp
        simp only [List.map_toArray, List.map_cons, List.map_nil, e2, show ∀ v, b.eval (.const v) = v from fun _ => rfl, Sem.run_bind]
        rw [hr]
        rfl, by
        show txP _ (RelG.get (b.put (some 37) _) 37) _
        rw [RelG.get_put b 37 _ (by rw [D.siz]; exact (by decide : 37 < 106))]
        exact ⟨_, rfl, heap_alloc_last w' _⟩, (FillO _ _).bel (below_alloc (Below.refl _ _) _)⟩) ?_
    refine RelG.steps_cons (step_callA rfl Tryz.func12 (by kernel_rfl) rfl rfl (fun b w' D => by
        obtain ⟨q, h1, h2⟩ := D.rel 3 rfl
        have e1 : b.eval (.tmp 34) = .agg (tS (numS x)) := D.is 0 rfl rfl
        have e2 : b.eval (.tmp 37) = .slice (some ⟨q, 0, none⟩) 3 3 := h1
        have h := do_incrby 1 (numS (x)) ⟨#[105, 110, 99, 114, 98, 121]⟩ (numS y) nl nl nl ⟨q, 0, none⟩ 3 3 w' (.inr rfl) (by omega) (by decide) low_incrby (by decide) (by decide) (by rw [cell_of_row _ _ _ _ _ _ h2]; rfl) (by omega) (by show w'.cell? ⟨q, 2, none⟩ = _; rw [cell_of_row _ _ _ _ _ _ h2]; rfl) (by simp [vS, Value.oneCell']) (tabs_below hT'.out (two_below hB_3.out (fill_below (Below.refl _ _) D.bel (Nat.le_refl _))))
        rw [more_num (vS 1 (numS (x)) nl nl nl) (x) y ix iy ixy] at h
        refine ⟨#[.agg (vS 1 (numS (x)) nl nl nl), .slice (some ⟨q, 0, none⟩) 3 3], by simp only [List.map_toArray, List.map_cons, List.map_nil, e1, e2]; rfl, h.mono fun e w'' ⟨A, n, c, he, hf, hb⟩ => ⟨_, he, ?_, (FillO _ _).bel hb⟩⟩
        show tuP _ _ (RelG.get (b.put (some 38) _) 38) w''
        rw [RelG.get_put b 38 _ (by rw [D.siz]; exact (by decide : 38 < 106))]
        exact ⟨_, rfl, rwP_of hf (by rw [line_len]; omega) (by rw [line_len]; omega)⟩)) ?_
    refine RelG.steps_cons (RelG.step_pass_of (n := 106) (j := 4) (t := 38) (u := 33) (p := tuP (tS (numS (x + y))) (lineL ⟨#[58]⟩ (numS (x + y)))) (hp := fun x w w' h hle => tuP_sta x w w' h hle) rfl rfl (.inl rfl) rfl (by decide) rfl rfl rfl) ?_
    refine RelG.steps_cons (RelG.step_val rfl fun b w' D => by
        obtain ⟨y', h1, h2⟩ := D.rel 5 rfl
        have e1 : b.eval (.tmp 33) = .tuple #[.agg (tS (numS (x + y))), y'] := h1
        exact ⟨.agg (tS (numS (x + y))), run_ext0 e1, RelG.get_put b 39 _ (by rw [D.siz]; exact (by decide : 39 < 106))⟩) ?_
    refine RelG.steps_cons (RelG.step_val rfl fun b w' D => by
        obtain ⟨y', h1, h2⟩ := D.rel 5 rfl
        have e1 : b.eval (.tmp 33) = .tuple #[.agg (tS (numS (x + y))), y'] := h1
        exact ⟨y', run_ext1 e1, by
          show rwP _ (RelG.get (b.put (some 40) _) 40) w'
          rw [RelG.get_put b 40 _ (by rw [D.siz]; exact (by decide : 40 < 106))]
          exact h2⟩) ?_
    refine RelG.steps_cons (RelG.step_make rfl fun b w' D => ⟨.pointer (some ⟨w'.heap.size, 0, none⟩), w'.alloc (.cells zS tV), by simp [execOp, go_sem, zS, tV], by
        show ncP _ _ (RelG.get (b.put (some 10) _) 10) _
        rw [RelG.get_put b 10 _ (by rw [D.siz]; exact (by decide : 10 < 106))]
        have := D.bel.1.2.2.2
        exact ⟨_, rfl, by omega, .inl (heap_alloc_last w' _)⟩, (FillO _ _).bel (below_alloc (Below.refl _ _) _)⟩) ?_
    refine RelG.steps_cons (RelG.step_skip rfl rfl fun b w' D => by
        obtain ⟨p, h1, h2, h3⟩ := D.rel 8 rfl
        have e1 : b.eval (.tmp 10) = .pointer (some ⟨p, 0, none⟩) := h1
        have e2 : b.eval (.tmp 39) = .agg (tS (numS (x + y))) := D.is 6 rfl rfl
        obtain ⟨old, h3, hsz, hle⟩ : ∃ old, w'.heap[p]? = some (.cells old tV (0, 0)) ∧ old.size = (tS (numS (x + y))).size ∧ (FillO b2.heap.size (tS (numS (x + y)))).le w' (w'.setRow p (tS (numS (x + y)))) := by
          rcases h3 with h3 | h3
          · exact ⟨_, h3, rfl, fill_set w' p h2 h3⟩
          · exact ⟨_, h3, rfl, fill_same w' p h3⟩
        refine ⟨w'.setRow p (tS (numS (x + y))), ?_, ⟨p, h1, h2, setRow_heap w' p old _ _ (0, 0) h3⟩, hle⟩
        unfold execOp
        simp only [e1, e2, Instr.storeAt, Instr.sureAddr, Sem.run_bind, Sem.run_pure, Result.andThen_ok, run_storeVar_row (P := Tryz.prog) w' p tV tV old (tS (numS (x + y))) h3 (by kernel_rfl) hsz (tS_one _)]) ?_
    refine RelG.steps_cons (RelG.step_pass_of (n := 106) (j := 7) (t := 40) (u := 11) (p := rwP (lineL ⟨#[58]⟩ (numS (x + y)))) (hp := fun x w w' h hle => rwP_sta h hle) rfl rfl (.inr rfl) rfl (by decide) rfl rfl rfl) ?_
    exact trivial
  intro v e d4 hg hv hle
  have k10 : e 10 = v 8 := hg 8 10 rfl
  have k11 : e 11 = v 10 := hg 10 11 rfl
  have hfl : flP b2.heap.size (tS (numS (x + y))) (e 10) d4 := hv 9 (by decide)
  have hrw : rwP (lineL ⟨#[58]⟩ (numS (x + y))) (e 11) d4 := hv 10 (by decide)
  rw [k10] at hfl
  rw [k11] at hrw
  obtain ⟨p4, e10, hp4, hcell⟩ := hfl
  obtain ⟨A4, n4, c4, e11, hr⟩ := rwP_reads hrw
  have hs4 : b2.heap.size ≤ d4.heap.size := hle.1.2.2.2
  have hq4 : p4 < d4.heap.size := (Array.getElem?_eq_some_iff.1 hcell).1
  have hb4 := fill_below (Below.refl _ _) hle (Nat.le_refl _)
  have hB_5 := veil (two_below hB_3.out (hb4))
  have fv_5 := veil (((hb4).block _ (by omega)).trans fv_2.out)
  have fone_4 := veil hcell
  have frone_4 := veil hr
  simp only [Rel.fill, Act.put, List.setIfInBounds_toArray, List.set_cons_zero, List.set_cons_succ]
  rw [e10, e11]
  clear hg hv hle k10 k11 hrw hcell hr hb4 e10 e11 hB_3 fv_2
  go_wp2_with fail
  refine RelG.wp_region_rel2 (G := FillO d4.heap.size (tS (numS (x + y + z)))) (n := 106) [RelG.is _ 42 (.agg (tS (numS (x + y)))), RelG.is _ 43 (.int .i64 z), RelG.is _ 44 (.string (numS z)), txR _ _ #[.string ⟨#[73, 78, 67, 82, 66, 89]⟩, .string ⟨#[107]⟩, .string (numS z)] 45, tuR _ _ (tS (numS (x + y + z))) (lineL ⟨#[58]⟩ (numS (x + y + z))) 46, tuR _ _ (tS (numS (x + y + z))) (lineL ⟨#[58]⟩ (numS (x + y + z))) 41, RelG.is _ 47 (.agg (tS (numS (x + y + z)))), rwR _ _ (lineL ⟨#[58]⟩ (numS (x + y + z))) 48, ncR _ _ 12, flR _ _ 12, rwR _ _ (lineL ⟨#[58]⟩ (numS (x + y + z))) 13] [[42], [43], [44], [45], [46], [41], [47], [48], [12], [12], [13]] (by kernel_rfl) rfl rfl (by kernel_rfl) ?_ ?_
  · refine RelG.steps_cons (RelG.step_load (n := 106) (t := 10) (u := 42) (b := p4) (t' := tV) (cs := tS (numS (x + y))) (fr := (0, 0)) rfl rfl rfl rfl (by decide) (by kernel_rfl) (by kernel_rfl) Tryz.underlying26 rfl (by kernel_rfl) (fun w' hle => fill_keep hle fone_4.out (by omega)) rfl) ?_
    refine RelG.steps_cons (RelG.step_was (n := 106) (t := 8) (u := 43) rfl rfl rfl rfl (by decide) (by kernel_rfl) (by kernel_rfl) rfl) ?_
    refine RelG.steps_cons (RelG.step_call rfl Tryz.func13 (by kernel_rfl) rfl #[.int .i64 z] rfl (fun b w' D => by simp only [List.map_toArray, List.map_cons, List.map_nil, D.is 1 rfl rfl]) (fun b w' D => call_is' (rtext_any z w' iz) (by rw [D.siz]; exact (by decide : 44 < 106)))) ?_
    refine RelG.steps_cons (RelG.step_make rfl fun b w' D => ⟨.slice (some ⟨w'.heap.size, 0, none⟩) 3 3, w'.alloc (.cells #[.string ⟨#[73, 78, 67, 82, 66, 89]⟩, .string ⟨#[107]⟩, .string (numS z)] 9), by
        have e2 : b.eval (.tmp 44) = .string (numS z) := D.is 2 rfl rfl
        have hr := run_texts3 w' ⟨#[73, 78, 67, 82, 66, 89]⟩ ⟨#[107]⟩ (numS z)
        unfold execOp
        simp only [List.map_toArray, List.map_cons, List.map_nil, e2, show ∀ v, b.eval (.const v) = v from fun _ => rfl, Sem.run_bind]
        rw [hr]
        rfl, by
        show txP _ (RelG.get (b.put (some 45) _) 45) _
        rw [RelG.get_put b 45 _ (by rw [D.siz]; exact (by decide : 45 < 106))]
        exact ⟨_, rfl, heap_alloc_last w' _⟩, (FillO _ _).bel (below_alloc (Below.refl _ _) _)⟩) ?_
    refine RelG.steps_cons (step_callA rfl Tryz.func12 (by kernel_rfl) rfl rfl (fun b w' D => by
        obtain ⟨q, h1, h2⟩ := D.rel 3 rfl
        have e1 : b.eval (.tmp 42) = .agg (tS (numS (x + y))) := D.is 0 rfl rfl
        have e2 : b.eval (.tmp 45) = .slice (some ⟨q, 0, none⟩) 3 3 := h1
        have h := do_incrby 1 (numS (x + y)) ⟨#[73, 78, 67, 82, 66, 89]⟩ (numS z) nl nl nl ⟨q, 0, none⟩ 3 3 w' (.inr rfl) (by omega) (by decide) low_INCRBY (by decide) (by decide) (by rw [cell_of_row _ _ _ _ _ _ h2]; rfl) (by omega) (by show w'.cell? ⟨q, 2, none⟩ = _; rw [cell_of_row _ _ _ _ _ _ h2]; rfl) (by simp [vS, Value.oneCell']) (tabs_below hT'.out (two_below hB_5.out (fill_below (Below.refl _ _) D.bel (Nat.le_refl _))))
        rw [more_num (vS 1 (numS (x + y)) nl nl nl) (x + y) z ixy iz ixyz] at h
        refine ⟨#[.agg (vS 1 (numS (x + y)) nl nl nl), .slice (some ⟨q, 0, none⟩) 3 3], by simp only [List.map_toArray, List.map_cons, List.map_nil, e1, e2]; rfl, h.mono fun e w'' ⟨A, n, c, he, hf, hb⟩ => ⟨_, he, ?_, (FillO _ _).bel hb⟩⟩
        show tuP _ _ (RelG.get (b.put (some 46) _) 46) w''
        rw [RelG.get_put b 46 _ (by rw [D.siz]; exact (by decide : 46 < 106))]
        exact ⟨_, rfl, rwP_of hf (by rw [line_len]; omega) (by rw [line_len]; omega)⟩)) ?_
    refine RelG.steps_cons (RelG.step_pass_of (n := 106) (j := 4) (t := 46) (u := 41) (p := tuP (tS (numS (x + y + z))) (lineL ⟨#[58]⟩ (numS (x + y + z)))) (hp := fun x w w' h hle => tuP_sta x w w' h hle) rfl rfl (.inl rfl) rfl (by decide) rfl rfl rfl) ?_
    refine RelG.steps_cons (RelG.step_val rfl fun b w' D => by
        obtain ⟨y', h1, h2⟩ := D.rel 5 rfl
        have e1 : b.eval (.tmp 41) = .tuple #[.agg (tS (numS (x + y + z))), y'] := h1
        exact ⟨.agg (tS (numS (x + y + z))), run_ext0 e1, RelG.get_put b 47 _ (by rw [D.siz]; exact (by decide : 47 < 106))⟩) ?_
    refine RelG.steps_cons (RelG.step_val rfl fun b w' D => by
        obtain ⟨y', h1, h2⟩ := D.rel 5 rfl
        have e1 : b.eval (.tmp 41) = .tuple #[.agg (tS (numS (x + y + z))), y'] := h1
        exact ⟨y', run_ext1 e1, by
          show rwP _ (RelG.get (b.put (some 48) _) 48) w'
          rw [RelG.get_put b 48 _ (by rw [D.siz]; exact (by decide : 48 < 106))]
          exact h2⟩) ?_
    refine RelG.steps_cons (RelG.step_make rfl fun b w' D => ⟨.pointer (some ⟨w'.heap.size, 0, none⟩), w'.alloc (.cells zS tV), by simp [execOp, go_sem, zS, tV], by
        show ncP _ _ (RelG.get (b.put (some 12) _) 12) _
        rw [RelG.get_put b 12 _ (by rw [D.siz]; exact (by decide : 12 < 106))]
        have := D.bel.1.2.2.2
        exact ⟨_, rfl, by omega, .inl (heap_alloc_last w' _)⟩, (FillO _ _).bel (below_alloc (Below.refl _ _) _)⟩) ?_
    refine RelG.steps_cons (RelG.step_skip rfl rfl fun b w' D => by
        obtain ⟨p, h1, h2, h3⟩ := D.rel 8 rfl
        have e1 : b.eval (.tmp 12) = .pointer (some ⟨p, 0, none⟩) := h1
        have e2 : b.eval (.tmp 47) = .agg (tS (numS (x + y + z))) := D.is 6 rfl rfl
        obtain ⟨old, h3, hsz, hle⟩ : ∃ old, w'.heap[p]? = some (.cells old tV (0, 0)) ∧ old.size = (tS (numS (x + y + z))).size ∧ (FillO d4.heap.size (tS (numS (x + y + z)))).le w' (w'.setRow p (tS (numS (x + y + z)))) := by
          rcases h3 with h3 | h3
          · exact ⟨_, h3, rfl, fill_set w' p h2 h3⟩
          · exact ⟨_, h3, rfl, fill_same w' p h3⟩
        refine ⟨w'.setRow p (tS (numS (x + y + z))), ?_, ⟨p, h1, h2, setRow_heap w' p old _ _ (0, 0) h3⟩, hle⟩
        unfold execOp
        simp only [e1, e2, Instr.storeAt, Instr.sureAddr, Sem.run_bind, Sem.run_pure, Result.andThen_ok, run_storeVar_row (P := Tryz.prog) w' p tV tV old (tS (numS (x + y + z))) h3 (by kernel_rfl) hsz (tS_one _)]) ?_
    refine RelG.steps_cons (RelG.step_pass_of (n := 106) (j := 7) (t := 48) (u := 13) (p := rwP (lineL ⟨#[58]⟩ (numS (x + y + z)))) (hp := fun x w w' h hle => rwP_sta h hle) rfl rfl (.inr rfl) rfl (by decide) rfl rfl rfl) ?_
    exact trivial
  intro v e d6 hg hv hle
  have k10 : e 12 = v 8 := hg 8 12 rfl
  have k11 : e 13 = v 10 := hg 10 13 rfl
  have hfl : flP d4.heap.size (tS (numS (x + y + z))) (e 12) d6 := hv 9 (by decide)
  have hrw : rwP (lineL ⟨#[58]⟩ (numS (x + y + z))) (e 13) d6 := hv 10 (by decide)
  rw [k10] at hfl
  rw [k11] at hrw
  obtain ⟨p6, e10, hp6, hcell⟩ := hfl
  obtain ⟨A6, n6, c6, e11, hr⟩ := rwP_reads hrw
  have hs6 : d4.heap.size ≤ d6.heap.size := hle.1.2.2.2
  have hq6 : p6 < d6.heap.size := (Array.getElem?_eq_some_iff.1 hcell).1
  have hb6 := fill_below (Below.refl _ _) hle (Nat.le_refl _)
  have hB_7 := veil (two_below hB_5.out (hb6))
  have fv_7 := veil (((hb6).block _ (by omega)).trans fv_5.out)
  have fone_7 := veil (((hb6).block _ (by omega)).trans fone_4.out)
  have ftwo_6 := veil hcell
  have frtwo_6 := veil hr
  simp only [Rel.fill, Act.put, List.setIfInBounds_toArray, List.set_cons_zero, List.set_cons_succ]
  rw [e10, e11]
  clear hg hv hle k10 k11 hrw hcell hr hb6 e10 e11 hB_5 fv_5 fone_4
  obtain ⟨m0, m1, m2⟩ := mn_le (x := s.size) (y := 20) (by omega) (by omega)
  have hza := cutM_size s 20 (by omega)
  unfold cutM at hza
  go_wp2_with fail
  obtain ⟨a, ha⟩ : ∃ a, s.extract 0 (mn (↑s.size) 20).toNat = a := ⟨_, rfl⟩
  rw [ha] at hza ⊢
  clear ha m0 m1 m2
  refine (parseS_any a _).mono ?_
  rintro e wp ⟨rfl, hbp⟩
  have hsp := hbp.size
  have hB_8 := veil (two_below hB_7.out (hbp))
  have fv_8 := veil (((hbp).block _ (by omega)).trans fv_7.out)
  have fone_8 := veil (((hbp).block _ (by omega)).trans fone_7.out)
  have ftwo_8 := veil (((hbp).block _ (by omega)).trans ftwo_6.out)
  have frtwo_8 := veil (frtwo_6.out.below (hbp))
  clear hbp hB_7 fv_7 fone_7 ftwo_6 frtwo_6
  have hgv := fv_8.out
  cases hpa : Dig.parseO a with
  | none =>
    simp only [Go.Proofs.YtmfjpdhhcgkjaaaGreatDoor.Pure1.pairO]
    go_wp2_with (first | (refine wpList_load_row rfl 26 _ rfl wt.heap.size rfl 26 (tS (numS x)) (0, 0) _ hgv Tryz.underlying26 rfl (by kernel_rfl) ?_))
    clear hgv
    obtain ⟨c9, hc9⟩ : ∃ c9 : World, c9 = wp.alloc (.cells #[.string ⟨#[105, 110, 99, 114, 98, 121]⟩, .string ⟨#[107]⟩, .string a] 9) := ⟨_, rfl⟩
    have hT9 := newT #[.string ⟨#[105, 110, 99, 114, 98, 121]⟩, .string ⟨#[107]⟩, .string a] wp
    rw [← hc9] at hT9 ⊢
    have hs9 := hT9.sz
    have hB_10 := veil (two_below hB_8.out (hT9.bel))
    have fv_10 := veil (((hT9.bel).block _ (by omega)).trans fv_8.out)
    have fone_10 := veil (((hT9.bel).block _ (by omega)).trans fone_8.out)
    have ftwo_10 := veil (((hT9.bel).block _ (by omega)).trans ftwo_8.out)
    have frtwo_10 := veil (frtwo_8.out.below (hT9.bel))
    clear hc9 hB_8 fv_8 fone_8 ftwo_8 frtwo_8
    have h11 := do_incrby 1 (numS x) ⟨#[105, 110, 99, 114, 98, 121]⟩ a nl nl nl ⟨wp.heap.size, 0, none⟩ 3 3 c9 (.inr rfl) (by omega) (by decide) low_incrby (by decide) (by decide) (by rw [cell_of_row _ _ _ _ _ _ hT9.cell]; rfl) (by omega) (by show c9.cell? ⟨wp.heap.size, 2, none⟩ = _; rw [cell_of_row _ _ _ _ _ _ hT9.cell]; rfl) (by simp [vS, Value.oneCell']) (tabs_below hT'.out hB_10.out)
    rw [moreS_none _ x a hpa] at h11
    refine h11.mono ?_
    rintro e a11 ⟨A11, n11, c11, rfl, hf11, hb11⟩
    have hs11 := hb11.size
    have hB_12 := veil (two_below hB_10.out (hb11))
    have fv_12 := veil (((hb11).block _ (by omega)).trans fv_10.out)
    have fone_12 := veil (((hb11).block _ (by omega)).trans fone_10.out)
    have ftwo_12 := veil (((hb11).block _ (by omega)).trans ftwo_10.out)
    have frtwo_12 := veil (frtwo_10.out.below (hb11))
    have hq11 := hf11.len
    clear h11 hb11 hT9 hB_10 fv_10 fone_10 ftwo_10 frtwo_10
    have fq_11 := veil (hf11.reads (by rw [← hq11]; show (lineL ⟨#[45]⟩ NotInt).length ≤ _; decide))
    clear hf11
    have hN := newV (vS 1 (numS x) nl nl nl) a11
    have hg17 : ((a11.alloc (.cells #[.int .u8 0, .string ⟨#[]⟩, .slice none 0 0, .slice none 0 0, .slice none 0 0] 26)).setRow a11.heap.size (vS 1 (numS x) nl nl nl)).cell? ⟨a11.heap.size, 1, none⟩ = some (.string (numS x)) := by rw [cell_of_row _ _ _ _ _ _ hN.cell]; rfl
    have hg9 : ((a11.alloc (.cells #[.int .u8 0, .string ⟨#[]⟩, .slice none 0 0, .slice none 0 0, .slice none 0 0] 26)).setRow a11.heap.size (vS 1 (numS x) nl nl nl)).cell? ⟨wt.heap.size, 1, none⟩ = some (.string (numS x)) := by rw [cell_of_row _ _ _ _ _ _ ((hN.bel.block _ (by omega)).trans fv_12.out)]; rfl
    clear hN
    go_wp2_with (first | (refine wpList_store_row rfl 26 _ _ rfl a11.heap.size (vS 1 (numS x) nl nl nl) rfl rfl 26 zS (heap_alloc_last a11 _) (by kernel_rfl) rfl (by simp [vS, tS, zS, Value.oneCell']) ?_))
    clear hg17 hg9
    obtain ⟨b13, hb13⟩ : ∃ b13 : World, b13 = (a11.alloc (.cells #[.int .u8 0, .string ⟨#[]⟩, .slice none 0 0, .slice none 0 0, .slice none 0 0] 26)).setRow a11.heap.size (vS 1 (numS x) nl nl nl) := ⟨_, rfl⟩
    have hN13 := newV (vS 1 (numS x) nl nl nl) a11
    rw [← hb13] at hN13 ⊢
    have hs13 := hN13.sz
    have hB_14 := veil (two_below hB_12.out (hN13.bel))
    have fv_14 := veil (((hN13.bel).block _ (by omega)).trans fv_12.out)
    have fone_14 := veil (((hN13.bel).block _ (by omega)).trans fone_12.out)
    have ftwo_14 := veil (((hN13.bel).block _ (by omega)).trans ftwo_12.out)
    have frtwo_14 := veil (frtwo_12.out.below (hN13.bel))
    have fq_14 := veil (fq_11.out.below (hN13.bel))
    have fodd_13 := veil hN13.cell
    clear hb13 hN13 hB_12 fv_12 fone_12 ftwo_12 frtwo_12 fq_11
    refine Rel.wp_region_rel (n := 106) [Rel.is (.bool true), Rel.is (.bool true), Rel.is (.pointer (some ⟨p6, 1, none⟩)), Rel.is (.string (numS (x + y + z))), Rel.is (.int .i64 x), Rel.is (.int .i64 y), Rel.is (.int .i64 (x + y)), Rel.is (.int .i64 z), Rel.is (.int .i64 (x + y + z)), Rel.is (.string (numS (x + y + z))), Rel.is (.bool true), Rel.is (.bool true), Rel.is (.bool true), Rel.rd (lineL ⟨#[58]⟩ (numS (x + y + z))), Rel.is (.string (strOfNums (lineL ⟨#[58]⟩ (numS (x + y + z))))), Rel.is (.int .i64 x), Rel.is (.int .i64 y), Rel.is (.int .i64 (x + y)), Rel.is (.int .i64 z), Rel.is (.int .i64 (x + y + z)), Rel.rd (lineL ⟨#[58]⟩ (numS (x + y + z))), Rel.is (.string (strOfNums (lineL ⟨#[58]⟩ (numS (x + y + z))))), Rel.is (.bool true), Rel.is (.bool true), Rel.is (.bool true), Rel.is (.bool false), Rel.is (.bool false), Rel.is (.bool true), Rel.is (.bool true), Rel.rd (lineL ⟨#[45]⟩ NotInt), Rel.is (.string (strOfNums (lineL ⟨#[45]⟩ NotInt))), Rel.is (.bool true), Rel.is (.bool true), Rel.is (.bool true), Rel.is (.bool true), Rel.is (.bool true)] (by kernel_rfl) (by rfl) (by kernel_rfl) ?_ ?_
    · refine Rel.steps_cons (Rel.step_wasB (n := 106) (t := 5) rfl (.inl rfl) (.inl rfl) rfl (by kernel_rfl) rfl) ?_
      refine Rel.steps_cons (Rel.step_passB (n := 106) (j := 0) (t := 71) rfl (.inl rfl) (.inl rfl) rfl rfl rfl rfl) ?_
      refine Rel.steps_cons (Rel.step_run0 (n := 106) (t := 12) (v := .pointer (some ⟨p6, 0, none⟩)) rfl (.inr ⟨1, 72, true, rfl, rfl, rfl, by decide, rfl⟩) rfl (by kernel_rfl) (fun ρ w' hb h1 hk => by simp [execOp, h1, hk, go_sem, Addr.add]) rfl) ?_
      refine Rel.steps_cons (Rel.step_cell (n := 106) (j := 2) (t := 73) rfl (.inr ⟨1, 72, true, rfl, rfl, rfl, by decide, rfl⟩) rfl rfl rfl rfl Tryz.underlying9 (.inl rfl) (by rw [cell_of_row _ _ _ _ _ _ ftwo_14.out]; rfl) rfl) ?_
      refine Rel.steps_cons (Rel.step_wasB (n := 106) (t := 6) rfl (.inr ⟨1, 72, true, rfl, rfl, rfl, by decide, rfl⟩) (.inl rfl) rfl (by kernel_rfl) rfl) ?_
      refine Rel.steps_cons (Rel.step_wasB (n := 106) (t := 7) rfl (.inr ⟨1, 72, true, rfl, rfl, rfl, by decide, rfl⟩) (.inl rfl) rfl (by kernel_rfl) rfl) ?_
      refine Rel.steps_cons (Rel.step_run2 (n := 106) (j := 4) (t := 75) (j2 := 5) (t2 := 76) rfl (.inr ⟨1, 72, true, rfl, rfl, rfl, by decide, rfl⟩) rfl rfl rfl rfl rfl rfl (fun ρ w' hb h1 h2 hk => by simp [execOp, h1, h2, hk, go_sem, iwrapE ixy]) rfl) ?_
      refine Rel.steps_cons (Rel.step_wasB (n := 106) (t := 8) rfl (.inr ⟨1, 72, true, rfl, rfl, rfl, by decide, rfl⟩) (.inl rfl) rfl (by kernel_rfl) rfl) ?_
      refine Rel.steps_cons (Rel.step_run2 (n := 106) (j := 6) (t := 77) (j2 := 7) (t2 := 78) rfl (.inr ⟨1, 72, true, rfl, rfl, rfl, by decide, rfl⟩) rfl rfl rfl rfl rfl rfl (fun ρ w' hb h1 h2 hk => by simp [execOp, h1, h2, hk, go_sem, iwrapE ixyz]) rfl) ?_
      refine Rel.steps_cons (Rel.step_callB (n := 106) rfl (.inr ⟨1, 72, true, rfl, rfl, rfl, by decide, rfl⟩) Tryz.func13 (by kernel_rfl) rfl #[.int .i64 (x + y + z)] rfl (fun b w D => by simp only [List.map_toArray, List.map_cons, List.map_nil, show b.eval (.tmp 79) = .int .i64 (x + y + z) from D.is 8 79 rfl rfl rfl]) (fun w hb => (rtext_any _ w ixyz).mono fun e w' h => ⟨_, h.1, rfl, h.2⟩)) ?_
      refine Rel.steps_cons (Rel.step_texts (n := 106) (j := 3) (t := 74) (j2 := 9) (t2 := 80) rfl (.inr ⟨1, 72, true, rfl, rfl, rfl, by decide, rfl⟩) rfl Tryz.underlying9 rfl rfl rfl rfl rfl rfl (.inl ⟨rfl, (decide_eq_true rfl).symm⟩) rfl) ?_
      refine Rel.steps_cons (Rel.step_run2 (n := 106) (j := 1) (t := 72) (j2 := 10) (t2 := 81) rfl (.inl rfl) rfl rfl rfl rfl rfl rfl (fun ρ w' _ h1 h2 hk => by simp [execOp, h1, h2, hk, asBool]) rfl) ?_
      refine Rel.steps_cons (Rel.step_passB (n := 106) (j := 11) (t := 82) rfl (.inl rfl) (.inl rfl) rfl rfl rfl rfl) ?_
      refine Rel.steps_cons (Rel.step_rdB (n := 106) (t := 13) (A := A6) (m := n6) (c := c6) rfl (.inr ⟨12, 83, true, rfl, rfl, rfl, by decide, rfl⟩) rfl rfl (by kernel_rfl) frtwo_14.out rfl) ?_
      refine Rel.steps_cons (Rel.step_strB (n := 106) (j := 13) (t := 84) rfl (.inr ⟨12, 83, true, rfl, rfl, rfl, by decide, rfl⟩) rfl Tryz.underlying29 Tryz.underlying5 Tryz.underlying9 rfl rfl rfl rfl) ?_
      refine Rel.steps_cons (Rel.step_wasB (n := 106) (t := 6) rfl (.inr ⟨12, 83, true, rfl, rfl, rfl, by decide, rfl⟩) (.inl rfl) rfl (by kernel_rfl) rfl) ?_
      refine Rel.steps_cons (Rel.step_wasB (n := 106) (t := 7) rfl (.inr ⟨12, 83, true, rfl, rfl, rfl, by decide, rfl⟩) (.inl rfl) rfl (by kernel_rfl) rfl) ?_
      refine Rel.steps_cons (Rel.step_run2 (n := 106) (j := 15) (t := 86) (j2 := 16) (t2 := 87) rfl (.inr ⟨12, 83, true, rfl, rfl, rfl, by decide, rfl⟩) rfl rfl rfl rfl rfl rfl (fun ρ w' hb h1 h2 hk => by simp [execOp, h1, h2, hk, go_sem, iwrapE ixy]) rfl) ?_
      refine Rel.steps_cons (Rel.step_wasB (n := 106) (t := 8) rfl (.inr ⟨12, 83, true, rfl, rfl, rfl, by decide, rfl⟩) (.inl rfl) rfl (by kernel_rfl) rfl) ?_
      refine Rel.steps_cons (Rel.step_run2 (n := 106) (j := 17) (t := 88) (j2 := 18) (t2 := 89) rfl (.inr ⟨12, 83, true, rfl, rfl, rfl, by decide, rfl⟩) rfl rfl rfl rfl rfl rfl (fun ρ w' hb h1 h2 hk => by simp [execOp, h1, h2, hk, go_sem, iwrapE ixyz]) rfl) ?_
      refine Rel.steps_cons (Rel.step_callB (n := 106) rfl (.inr ⟨12, 83, true, rfl, rfl, rfl, by decide, rfl⟩) Tryz.func15 (by kernel_rfl) rfl #[.int .i64 (x + y + z)] rfl (fun b w D => by simp only [List.map_toArray, List.map_cons, List.map_nil, show b.eval (.tmp 90) = .int .i64 (x + y + z) from D.is 19 90 rfl rfl rfl]) (fun w hb => rdB (by rw [line_len]; omega) (YInt_any _ w ixyz))) ?_
      refine Rel.steps_cons (Rel.step_strB (n := 106) (j := 20) (t := 91) rfl (.inr ⟨12, 83, true, rfl, rfl, rfl, by decide, rfl⟩) rfl Tryz.underlying29 Tryz.underlying5 Tryz.underlying9 rfl rfl rfl rfl) ?_
      refine Rel.steps_cons (Rel.step_texts (n := 106) (j := 14) (t := 85) (j2 := 21) (t2 := 92) rfl (.inr ⟨12, 83, true, rfl, rfl, rfl, by decide, rfl⟩) rfl Tryz.underlying9 rfl rfl rfl rfl rfl rfl (.inl ⟨rfl, (decide_eq_true rfl).symm⟩) rfl) ?_
      refine Rel.steps_cons (Rel.step_run2 (n := 106) (j := 12) (t := 83) (j2 := 22) (t2 := 93) rfl (.inl rfl) rfl rfl rfl rfl rfl rfl (fun ρ w' _ h1 h2 hk => by simp [execOp, h1, h2, hk, asBool]) rfl) ?_
      refine Rel.steps_cons (Rel.step_passB (n := 106) (j := 23) (t := 94) rfl (.inl rfl) (.inl rfl) rfl rfl rfl rfl) ?_
      refine Rel.steps_cons (Rel.step_wasB (n := 106) (t := 16) rfl (.inr ⟨24, 95, true, rfl, rfl, rfl, by decide, rfl⟩) (.inl rfl) rfl (by kernel_rfl) rfl) ?_
      refine Rel.steps_cons (Rel.step_passB (n := 106) (j := 25) (t := 96) rfl (.inr ⟨24, 95, true, rfl, rfl, rfl, by decide, rfl⟩) (.inl rfl) rfl rfl rfl rfl) ?_
      refine Rel.steps_cons (Rel.step_wasB (n := 106) (t := 19) rfl (.inr ⟨26, 97, false, rfl, rfl, rfl, by decide, rfl⟩) (.inl rfl) rfl (by kernel_rfl) rfl) ?_
      refine Rel.steps_cons (Rel.step_passB (n := 106) (j := 27) (t := 98) rfl (.inr ⟨26, 97, false, rfl, rfl, rfl, by decide, rfl⟩) (.inl rfl) rfl rfl rfl rfl) ?_
      refine Rel.steps_cons (Rel.step_rdB (n := 106) (t := 18) (A := A11) (m := n11) (c := c11) rfl (.inr ⟨28, 99, true, rfl, rfl, rfl, by decide, rfl⟩) rfl rfl (by kernel_rfl) fq_14.out rfl) ?_
      refine Rel.steps_cons (Rel.step_strB (n := 106) (j := 29) (t := 100) rfl (.inr ⟨28, 99, true, rfl, rfl, rfl, by decide, rfl⟩) rfl Tryz.underlying29 Tryz.underlying5 Tryz.underlying9 rfl rfl rfl rfl) ?_
      refine Rel.steps_cons (Rel.step_run1 (n := 106) (j := 30) (t := 101) rfl (.inr ⟨28, 99, true, rfl, rfl, rfl, by decide, rfl⟩) rfl rfl rfl (fun ρ w' hb h1 hk => by simp [execOp, h1, hk, go_sem, notint_line]) rfl) ?_
      refine Rel.steps_cons (Rel.step_run2 (n := 106) (j := 28) (t := 99) (j2 := 31) (t2 := 102) rfl (.inr ⟨26, 97, false, rfl, rfl, rfl, by decide, rfl⟩) rfl rfl rfl rfl rfl rfl (fun ρ w' _ h1 h2 hk => by simp [execOp, h1, h2, hk, asBool]) rfl) ?_
      refine Rel.steps_cons (Rel.step_run2 (n := 106) (j := 26) (t := 97) (j2 := 32) (t2 := 103) rfl (.inr ⟨24, 95, true, rfl, rfl, rfl, by decide, rfl⟩) rfl rfl rfl rfl rfl rfl (fun ρ w' _ h1 h2 hk => by simp [execOp, h1, h2, hk, asBool]) rfl) ?_
      refine Rel.steps_cons (Rel.step_run2 (n := 106) (j := 24) (t := 95) (j2 := 33) (t2 := 104) rfl (.inl rfl) rfl rfl rfl rfl rfl rfl (fun ρ w' _ h1 h2 hk => by simp [execOp, h1, h2, hk, asBool]) rfl) ?_
      refine Rel.steps_cons (Rel.step_passB (n := 106) (j := 34) (t := 105) rfl (.inl rfl) (.inr rfl) rfl rfl rfl rfl) ?_
      exact trivial
    intro v b15 hv hb15
    have e15 : v 35 = .bool true := hv 35 (by decide)
    have hs15 := hb15.size
    have hB_16 := veil (two_below hB_14.out (hb15))
    have fv_16 := veil (((hb15).block _ (by omega)).trans fv_14.out)
    have fone_16 := veil (((hb15).block _ (by omega)).trans fone_14.out)
    have ftwo_16 := veil (((hb15).block _ (by omega)).trans ftwo_14.out)
    have fodd_16 := veil (((hb15).block _ (by omega)).trans fodd_13.out)
    have frtwo_16 := veil (frtwo_14.out.below (hb15))
    have fq_16 := veil (fq_14.out.below (hb15))
    simp only [Rel.fill, Act.put, List.setIfInBounds_toArray, List.set_cons_zero, List.set_cons_succ]
    rw [e15]
    clear hb15 hv e15 hB_14 fv_14 fone_14 ftwo_14 fodd_13 frtwo_14 fq_14
    go_wp2_with fail
    go_ret
    exact ⟨rfl, hB_16.out⟩
  | some pn =>
    simp only [Go.Proofs.YtmfjpdhhcgkjaaaGreatDoor.Pure1.pairO]
    go_wp2_with (first | (refine wpList_load_row rfl 26 _ rfl wt.heap.size rfl 26 (tS (numS x)) (0, 0) _ hgv Tryz.underlying26 rfl (by kernel_rfl) ?_))
    clear hgv
    obtain ⟨S, rr, hm⟩ := moreS_any x a ix (by rw [hpa]; exact fun h => by cases h)
    obtain ⟨c9, hc9⟩ : ∃ c9 : World, c9 = wp.alloc (.cells #[.string ⟨#[105, 110, 99, 114, 98, 121]⟩, .string ⟨#[107]⟩, .string a] 9) := ⟨_, rfl⟩
    have hT9 := newT #[.string ⟨#[105, 110, 99, 114, 98, 121]⟩, .string ⟨#[107]⟩, .string a] wp
    rw [← hc9] at hT9 ⊢
    have hs9 := hT9.sz
    have hB_10 := veil (two_below hB_8.out (hT9.bel))
    have fv_10 := veil (((hT9.bel).block _ (by omega)).trans fv_8.out)
    have fone_10 := veil (((hT9.bel).block _ (by omega)).trans fone_8.out)
    have ftwo_10 := veil (((hT9.bel).block _ (by omega)).trans ftwo_8.out)
    have frtwo_10 := veil (frtwo_8.out.below (hT9.bel))
    clear hc9 hB_8 fv_8 fone_8 ftwo_8 frtwo_8
    have h11 := do_incrby 1 (numS x) ⟨#[105, 110, 99, 114, 98, 121]⟩ a nl nl nl ⟨wp.heap.size, 0, none⟩ 3 3 c9 (.inr rfl) (by omega) (by decide) low_incrby (by decide) (by decide) (by rw [cell_of_row _ _ _ _ _ _ hT9.cell]; rfl) (by omega) (by show c9.cell? ⟨wp.heap.size, 2, none⟩ = _; rw [cell_of_row _ _ _ _ _ _ hT9.cell]; rfl) (by simp [vS, Value.oneCell']) (tabs_below hT'.out hB_10.out)
    rw [hm] at h11
    refine h11.mono ?_
    rintro e a11 ⟨A11, n11, c11, rfl, hf11, hb11⟩
    have hs11 := hb11.size
    have hB_12 := veil (two_below hB_10.out (hb11))
    have fv_12 := veil (((hb11).block _ (by omega)).trans fv_10.out)
    have fone_12 := veil (((hb11).block _ (by omega)).trans fone_10.out)
    have ftwo_12 := veil (((hb11).block _ (by omega)).trans ftwo_10.out)
    have frtwo_12 := veil (frtwo_10.out.below (hb11))
    have hq11 := hf11.len
    clear h11 hb11 hT9 hB_10 fv_10 fone_10 ftwo_10 frtwo_10
    clear hf11
    have hN := newV (vS 1 S nl nl nl) a11
    have hg17 : ((a11.alloc (.cells #[.int .u8 0, .string ⟨#[]⟩, .slice none 0 0, .slice none 0 0, .slice none 0 0] 26)).setRow a11.heap.size (vS 1 S nl nl nl)).cell? ⟨a11.heap.size, 1, none⟩ = some (.string S) := by rw [cell_of_row _ _ _ _ _ _ hN.cell]; rfl
    have hg9 : ((a11.alloc (.cells #[.int .u8 0, .string ⟨#[]⟩, .slice none 0 0, .slice none 0 0, .slice none 0 0] 26)).setRow a11.heap.size (vS 1 S nl nl nl)).cell? ⟨wt.heap.size, 1, none⟩ = some (.string (numS x)) := by rw [cell_of_row _ _ _ _ _ _ ((hN.bel.block _ (by omega)).trans fv_12.out)]; rfl
    clear hN
    go_wp2_with (first | (refine wpList_store_row rfl 26 _ _ rfl a11.heap.size (vS 1 S nl nl nl) rfl rfl 26 zS (heap_alloc_last a11 _) (by kernel_rfl) rfl (by simp [vS, tS, zS, Value.oneCell']) ?_))
    clear hg17 hg9
    obtain ⟨b13, hb13⟩ : ∃ b13 : World, b13 = (a11.alloc (.cells #[.int .u8 0, .string ⟨#[]⟩, .slice none 0 0, .slice none 0 0, .slice none 0 0] 26)).setRow a11.heap.size (vS 1 S nl nl nl) := ⟨_, rfl⟩
    have hN13 := newV (vS 1 S nl nl nl) a11
    rw [← hb13] at hN13 ⊢
    have hs13 := hN13.sz
    have hB_14 := veil (two_below hB_12.out (hN13.bel))
    have fv_14 := veil (((hN13.bel).block _ (by omega)).trans fv_12.out)
    have fone_14 := veil (((hN13.bel).block _ (by omega)).trans fone_12.out)
    have ftwo_14 := veil (((hN13.bel).block _ (by omega)).trans ftwo_12.out)
    have frtwo_14 := veil (frtwo_12.out.below (hN13.bel))
    have fodd_13 := veil hN13.cell
    clear hb13 hN13 hB_12 fv_12 fone_12 ftwo_12 frtwo_12
    refine Rel.wp_region_rel (n := 106) [Rel.is (.bool true), Rel.is (.bool true), Rel.is (.pointer (some ⟨p6, 1, none⟩)), Rel.is (.string (numS (x + y + z))), Rel.is (.int .i64 x), Rel.is (.int .i64 y), Rel.is (.int .i64 (x + y)), Rel.is (.int .i64 z), Rel.is (.int .i64 (x + y + z)), Rel.is (.string (numS (x + y + z))), Rel.is (.bool true), Rel.is (.bool true), Rel.is (.bool true), Rel.rd (lineL ⟨#[58]⟩ (numS (x + y + z))), Rel.is (.string (strOfNums (lineL ⟨#[58]⟩ (numS (x + y + z))))), Rel.is (.int .i64 x), Rel.is (.int .i64 y), Rel.is (.int .i64 (x + y)), Rel.is (.int .i64 z), Rel.is (.int .i64 (x + y + z)), Rel.rd (lineL ⟨#[58]⟩ (numS (x + y + z))), Rel.is (.string (strOfNums (lineL ⟨#[58]⟩ (numS (x + y + z))))), Rel.is (.bool true), Rel.is (.bool true), Rel.is (.bool true), Rel.is (.bool true), Rel.is (.bool true), Rel.is undef, Rel.is undef, Rel.is undef, Rel.is undef, Rel.is undef, Rel.is undef, Rel.is (.bool true), Rel.is (.bool true), Rel.is (.bool true)] (by kernel_rfl) (by rfl) (by kernel_rfl) ?_ ?_
    · refine Rel.steps_cons (Rel.step_wasB (n := 106) (t := 5) rfl (.inl rfl) (.inl rfl) rfl (by kernel_rfl) rfl) ?_
      refine Rel.steps_cons (Rel.step_passB (n := 106) (j := 0) (t := 71) rfl (.inl rfl) (.inl rfl) rfl rfl rfl rfl) ?_
      refine Rel.steps_cons (Rel.step_run0 (n := 106) (t := 12) (v := .pointer (some ⟨p6, 0, none⟩)) rfl (.inr ⟨1, 72, true, rfl, rfl, rfl, by decide, rfl⟩) rfl (by kernel_rfl) (fun ρ w' hb h1 hk => by simp [execOp, h1, hk, go_sem, Addr.add]) rfl) ?_
      refine Rel.steps_cons (Rel.step_cell (n := 106) (j := 2) (t := 73) rfl (.inr ⟨1, 72, true, rfl, rfl, rfl, by decide, rfl⟩) rfl rfl rfl rfl Tryz.underlying9 (.inl rfl) (by rw [cell_of_row _ _ _ _ _ _ ftwo_14.out]; rfl) rfl) ?_
      refine Rel.steps_cons (Rel.step_wasB (n := 106) (t := 6) rfl (.inr ⟨1, 72, true, rfl, rfl, rfl, by decide, rfl⟩) (.inl rfl) rfl (by kernel_rfl) rfl) ?_
      refine Rel.steps_cons (Rel.step_wasB (n := 106) (t := 7) rfl (.inr ⟨1, 72, true, rfl, rfl, rfl, by decide, rfl⟩) (.inl rfl) rfl (by kernel_rfl) rfl) ?_
      refine Rel.steps_cons (Rel.step_run2 (n := 106) (j := 4) (t := 75) (j2 := 5) (t2 := 76) rfl (.inr ⟨1, 72, true, rfl, rfl, rfl, by decide, rfl⟩) rfl rfl rfl rfl rfl rfl (fun ρ w' hb h1 h2 hk => by simp [execOp, h1, h2, hk, go_sem, iwrapE ixy]) rfl) ?_
      refine Rel.steps_cons (Rel.step_wasB (n := 106) (t := 8) rfl (.inr ⟨1, 72, true, rfl, rfl, rfl, by decide, rfl⟩) (.inl rfl) rfl (by kernel_rfl) rfl) ?_
      refine Rel.steps_cons (Rel.step_run2 (n := 106) (j := 6) (t := 77) (j2 := 7) (t2 := 78) rfl (.inr ⟨1, 72, true, rfl, rfl, rfl, by decide, rfl⟩) rfl rfl rfl rfl rfl rfl (fun ρ w' hb h1 h2 hk => by simp [execOp, h1, h2, hk, go_sem, iwrapE ixyz]) rfl) ?_
      refine Rel.steps_cons (Rel.step_callB (n := 106) rfl (.inr ⟨1, 72, true, rfl, rfl, rfl, by decide, rfl⟩) Tryz.func13 (by kernel_rfl) rfl #[.int .i64 (x + y + z)] rfl (fun b w D => by simp only [List.map_toArray, List.map_cons, List.map_nil, show b.eval (.tmp 79) = .int .i64 (x + y + z) from D.is 8 79 rfl rfl rfl]) (fun w hb => (rtext_any _ w ixyz).mono fun e w' h => ⟨_, h.1, rfl, h.2⟩)) ?_
      refine Rel.steps_cons (Rel.step_texts (n := 106) (j := 3) (t := 74) (j2 := 9) (t2 := 80) rfl (.inr ⟨1, 72, true, rfl, rfl, rfl, by decide, rfl⟩) rfl Tryz.underlying9 rfl rfl rfl rfl rfl rfl (.inl ⟨rfl, (decide_eq_true rfl).symm⟩) rfl) ?_
      refine Rel.steps_cons (Rel.step_run2 (n := 106) (j := 1) (t := 72) (j2 := 10) (t2 := 81) rfl (.inl rfl) rfl rfl rfl rfl rfl rfl (fun ρ w' _ h1 h2 hk => by simp [execOp, h1, h2, hk, asBool]) rfl) ?_
      refine Rel.steps_cons (Rel.step_passB (n := 106) (j := 11) (t := 82) rfl (.inl rfl) (.inl rfl) rfl rfl rfl rfl) ?_
      refine Rel.steps_cons (Rel.step_rdB (n := 106) (t := 13) (A := A6) (m := n6) (c := c6) rfl (.inr ⟨12, 83, true, rfl, rfl, rfl, by decide, rfl⟩) rfl rfl (by kernel_rfl) frtwo_14.out rfl) ?_
      refine Rel.steps_cons (Rel.step_strB (n := 106) (j := 13) (t := 84) rfl (.inr ⟨12, 83, true, rfl, rfl, rfl, by decide, rfl⟩) rfl Tryz.underlying29 Tryz.underlying5 Tryz.underlying9 rfl rfl rfl rfl) ?_
      refine Rel.steps_cons (Rel.step_wasB (n := 106) (t := 6) rfl (.inr ⟨12, 83, true, rfl, rfl, rfl, by decide, rfl⟩) (.inl rfl) rfl (by kernel_rfl) rfl) ?_
      refine Rel.steps_cons (Rel.step_wasB (n := 106) (t := 7) rfl (.inr ⟨12, 83, true, rfl, rfl, rfl, by decide, rfl⟩) (.inl rfl) rfl (by kernel_rfl) rfl) ?_
      refine Rel.steps_cons (Rel.step_run2 (n := 106) (j := 15) (t := 86) (j2 := 16) (t2 := 87) rfl (.inr ⟨12, 83, true, rfl, rfl, rfl, by decide, rfl⟩) rfl rfl rfl rfl rfl rfl (fun ρ w' hb h1 h2 hk => by simp [execOp, h1, h2, hk, go_sem, iwrapE ixy]) rfl) ?_
      refine Rel.steps_cons (Rel.step_wasB (n := 106) (t := 8) rfl (.inr ⟨12, 83, true, rfl, rfl, rfl, by decide, rfl⟩) (.inl rfl) rfl (by kernel_rfl) rfl) ?_
      refine Rel.steps_cons (Rel.step_run2 (n := 106) (j := 17) (t := 88) (j2 := 18) (t2 := 89) rfl (.inr ⟨12, 83, true, rfl, rfl, rfl, by decide, rfl⟩) rfl rfl rfl rfl rfl rfl (fun ρ w' hb h1 h2 hk => by simp [execOp, h1, h2, hk, go_sem, iwrapE ixyz]) rfl) ?_
      refine Rel.steps_cons (Rel.step_callB (n := 106) rfl (.inr ⟨12, 83, true, rfl, rfl, rfl, by decide, rfl⟩) Tryz.func15 (by kernel_rfl) rfl #[.int .i64 (x + y + z)] rfl (fun b w D => by simp only [List.map_toArray, List.map_cons, List.map_nil, show b.eval (.tmp 90) = .int .i64 (x + y + z) from D.is 19 90 rfl rfl rfl]) (fun w hb => rdB (by rw [line_len]; omega) (YInt_any _ w ixyz))) ?_
      refine Rel.steps_cons (Rel.step_strB (n := 106) (j := 20) (t := 91) rfl (.inr ⟨12, 83, true, rfl, rfl, rfl, by decide, rfl⟩) rfl Tryz.underlying29 Tryz.underlying5 Tryz.underlying9 rfl rfl rfl rfl) ?_
      refine Rel.steps_cons (Rel.step_texts (n := 106) (j := 14) (t := 85) (j2 := 21) (t2 := 92) rfl (.inr ⟨12, 83, true, rfl, rfl, rfl, by decide, rfl⟩) rfl Tryz.underlying9 rfl rfl rfl rfl rfl rfl (.inl ⟨rfl, (decide_eq_true rfl).symm⟩) rfl) ?_
      refine Rel.steps_cons (Rel.step_run2 (n := 106) (j := 12) (t := 83) (j2 := 22) (t2 := 93) rfl (.inl rfl) rfl rfl rfl rfl rfl rfl (fun ρ w' _ h1 h2 hk => by simp [execOp, h1, h2, hk, asBool]) rfl) ?_
      refine Rel.steps_cons (Rel.step_passB (n := 106) (j := 23) (t := 94) rfl (.inl rfl) (.inl rfl) rfl rfl rfl rfl) ?_
      refine Rel.steps_cons (Rel.step_wasB (n := 106) (t := 16) rfl (.inr ⟨24, 95, true, rfl, rfl, rfl, by decide, rfl⟩) (.inl rfl) rfl (by kernel_rfl) rfl) ?_
      refine Rel.steps_cons (Rel.step_passB (n := 106) (j := 25) (t := 96) rfl (.inr ⟨24, 95, true, rfl, rfl, rfl, by decide, rfl⟩) (.inl rfl) rfl rfl rfl rfl) ?_
      refine Rel.steps_cons (Rel.step_off (n := 106) (g := 26) (t := 97) (v := false) (x := .bool true) rfl rfl rfl rfl (by decide) rfl (by decide) rfl) ?_
      refine Rel.steps_cons (Rel.step_off (n := 106) (g := 26) (t := 97) (v := false) (x := .bool true) rfl rfl rfl rfl (by decide) rfl (by decide) rfl) ?_
      refine Rel.steps_cons (Rel.step_off (n := 106) (g := 28) (t := 99) (v := true) (x := undef) rfl rfl rfl rfl (by decide) rfl (by decide) rfl) ?_
      refine Rel.steps_cons (Rel.step_off (n := 106) (g := 28) (t := 99) (v := true) (x := undef) rfl rfl rfl rfl (by decide) rfl (by decide) rfl) ?_
      refine Rel.steps_cons (Rel.step_off (n := 106) (g := 28) (t := 99) (v := true) (x := undef) rfl rfl rfl rfl (by decide) rfl (by decide) rfl) ?_
      refine Rel.steps_cons (Rel.step_off (n := 106) (g := 26) (t := 97) (v := false) (x := .bool true) rfl rfl rfl rfl (by decide) rfl (by decide) rfl) ?_
      refine Rel.steps_cons (Rel.step_run1 (n := 106) (j := 26) (t := 97) rfl (.inr ⟨24, 95, true, rfl, rfl, rfl, by decide, rfl⟩) rfl rfl rfl (fun ρ w' _ h1 hk => by simp [execOp, h1, hk, asBool]) rfl) ?_
      refine Rel.steps_cons (Rel.step_run2 (n := 106) (j := 24) (t := 95) (j2 := 33) (t2 := 104) rfl (.inl rfl) rfl rfl rfl rfl rfl rfl (fun ρ w' _ h1 h2 hk => by simp [execOp, h1, h2, hk, asBool]) rfl) ?_
      refine Rel.steps_cons (Rel.step_passB (n := 106) (j := 34) (t := 105) rfl (.inl rfl) (.inr rfl) rfl rfl rfl rfl) ?_
      exact trivial
    intro v b15 hv hb15
    have e15 : v 35 = .bool true := hv 35 (by decide)
    have hs15 := hb15.size
    have hB_16 := veil (two_below hB_14.out (hb15))
    have fv_16 := veil (((hb15).block _ (by omega)).trans fv_14.out)
    have fone_16 := veil (((hb15).block _ (by omega)).trans fone_14.out)
    have ftwo_16 := veil (((hb15).block _ (by omega)).trans ftwo_14.out)
    have fodd_16 := veil (((hb15).block _ (by omega)).trans fodd_13.out)
    have frtwo_16 := veil (frtwo_14.out.below (hb15))
    simp only [Rel.fill, Act.put, List.setIfInBounds_toArray, List.set_cons_zero, List.set_cons_succ]
    rw [e15]
    clear hb15 hv e15 hB_14 fv_14 fone_14 ftwo_14 fodd_13 frtwo_14
    go_wp2_with fail
    go_ret
    exact ⟨rfl, hB_16.out⟩
theorem sums_walk (a b c : Int) (s : ByteArray) (W : World) (wa : (Lit.int .i64 a).wf = true) (wb : (Lit.int .i64 b).wf = true) (wc : (Lit.int .i64 c).wf = true) (ws : s.size ≤ 140737488351232) (hT : Tabs W) :
    Calls Tryz.prog 5 #[.agg #[.int .i64 a, .int .i64 b, .int .i64 c], .string s] W fun e w' => e = .returned (.bool true) ∧ Below W.heap.size W w' := sums_any a b c s W hT
end Go.Proofs.Tryz.Ln
