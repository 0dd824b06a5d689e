import Derived.Test.YtnlmdijpbedefaaGreatDoorLsF
/- A law of lists. -/
namespace Go.Proofs.Tryz.Ln
open Go Go.RowKit Go.Proofs.Mem Go.Proofs.App
open Go.Proofs.YtnlmdijpbedefaaGreatDoorW.PrintWords Go.Proofs.YtnlmdijpbedefaaGreatDoorW.PrintMore Go.Proofs.YtnlmdijpbedefaaGreatDoorW.PrintLast
open Go.Proofs.Rel (dsts depsOf)
attribute [local go_sem] min2_sym min_two
set_option linter.unusedVariables false
set_option linter.unusedSimpArgs false

set_option maxRecDepth 100000 in
set_option maxHeartbeats 32000000 in
theorem backl_any (A : Option Addr) (c : Nat) (l : List ByteArray) (x : Int) (w : World) (hr : ReadsOf Value.string ByteArray.empty w A l.length l) (hc : l.length ≤ c) (hx : 0 ≤ x ∧ x ≤ 65535) (hsum : sumS l ≤ 1048576) (hT : Tabs w) :
    Calls Tryz.prog 3 #[.slice A l.length c, .int .u16 x] w fun e w' => e = .returned (.bool true) ∧ Below w.heap.size w w' := by
  have hT' := veil hT
  have hr' := veil hr
  obtain ⟨hx0, hx1⟩ := hx
  clear hT hr
  by_cases h12 : 12 < l.length
  obtain ⟨m, hm⟩ : ∃ m : Nat, m = 12 := ⟨_, rfl⟩
  have hml : m ≤ l.length := by omega
  have hcut : ∀ W : World, (Instr.slice 22 (.slice A l.length c) none (some (.int .i64 12)) none).run Tryz.prog W = .ok (.slice A m c) W := by rw [hm]; exact cutH A l.length c 12 (by omega) hc
  have h12i : (12 : Int) < l.length := by omega
  have hm12 : m ≤ 12 := by omega
  have hmc : m ≤ c := by omega
  have hr0 := veil (hr'.out.take_ m hml)
  have hsz := veil (Nat.le_trans (sumS_take l m) hsum)
  have hnl : Veil ((l.take m).length = m) := veil (by rw [List.length_take]; omega)
  obtain ⟨ws, hws⟩ : ∃ ws, l.take m = ws := ⟨_, rfl⟩
  rw [hws] at hr0 hsz hnl
  clear hws hsum hr' h12
  clear hm
  rotate_left
  obtain ⟨m, hm⟩ : ∃ m, l.length = m := ⟨_, rfl⟩
  have hml : m ≤ l.length := by omega
  have h12i : ¬ (12 : Int) < m := by omega
  have hm12 : m ≤ 12 := by omega
  have hmc : m ≤ c := by omega
  have hr0 := veil (hr'.out.take_ m hml)
  have hsz := veil (Nat.le_trans (sumS_take l m) hsum)
  have hnl : Veil ((l.take m).length = m) := veil (by rw [List.length_take]; omega)
  obtain ⟨ws, hws⟩ : ∃ ws, l.take m = ws := ⟨_, rfl⟩
  rw [hws] at hr0 hsz hnl
  clear hws hsum hr' h12
  rw [hm]
  clear hm
  all_goals
    go_enter Tryz.func3, Tryz.ntmps3
    go_wp2_with fail
    refine (shown12_any _ hT'.out).mono ?_
    rintro e w1 ⟨rfl, hb1⟩
    have hB1 := veil hb1
    have hGw : w.heap.size ≤ w1.heap.size := hb1.size
    clear hb1
    go_wp2_with (refine wpList_store_row rfl tV _ _ rfl w1.heap.size (#[.int .u8 0, .string ⟨#[]⟩, .slice none 0 0, .slice none 0 0, .slice none 0 0]) rfl rfl tV zS (heap_alloc_last w1 _) (info5x _ _ _ _ _) rfl (one5 0 ⟨#[]⟩ none 0 0 nl nl rfl rfl) ?_)
    obtain ⟨b1, hb1⟩ : ∃ b1 : World, b1 = (w1.alloc (.cells #[.int .u8 0, .string ⟨#[]⟩, .slice none 0 0, .slice none 0 0, .slice none 0 0] tV)).setRow w1.heap.size (#[.int .u8 0, .string ⟨#[]⟩, .slice none 0 0, .slice none 0 0, .slice none 0 0]) := ⟨_, rfl⟩
    have hN1 := newV (#[.int .u8 0, .string ⟨#[]⟩, .slice none 0 0, .slice none 0 0, .slice none 0 0]) w1
    rw [← hb1] at hN1 ⊢
    have hsN1 := hN1.sz
    have hB_2 := veil (two_below hB1.out (hN1.bel))
    clear hB1
    have hhc_n := veil hN1.cell
    clear hb1 hN1
    go_loopw [7] (fun i wr => ∃ (q : Nat) (v : Value), q ≤ m ∧ i = .int .i64 q ∧ wr.heap[w1.heap.size]? = some (.cells (lvS (ws.take q) v) tV (0, 0)) ∧ tR wr v (ws.take q) ∧ v.oneCell' = true ∧ b1.heap.size ≤ wr.heap.size ∧ Below w.heap.size w wr) (fun i _ => m - (intOf i).toNat)
    case atStart => exact ⟨0, nl, Nat.zero_le _, rfl, by rw [List.take_zero]; have h := hhc_n.out; simpa [lvS, zS] using h, by rw [List.take_zero]; exact tR_nil _, rfl, Nat.le_refl _, hB_2.out⟩
    case round =>
      obtain ⟨q, v, hq, rfl, hcell, hv, hv1, hszr, hbr⟩ := hrel
      have hcell' := veil hcell
      have hv' := veil hv
      have hv1' := veil hv1
      have hbr' := veil hbr
      clear hcell hv hv1 hbr
      by_cases hlt : q < m
      · have q0 : (0 : Int) ≤ q := by omega
        have qN : (q : Int) < (m : Nat) := by omega
        have qM : ¬ ((m : Int) ≤ q) := by omega
        obtain ⟨sq, hsq⟩ : ∃ s, ws[q]? = some s := ⟨_, List.getElem?_eq_getElem (by rw [hnl.out]; exact hlt)⟩
        obtain ⟨ad, hA, hcq⟩ := reads_at (hr0.out.below hbr'.out) hsq
        subst hA
        have cq := veil hcq
        clear hcq
        have hL : ws.take (q + 1) = ws.take q ++ [sq] := by rw [List.take_add_one, hsq]; rfl
        have hLn : (ws.take q).length = q := by rw [List.length_take, hnl.out]; omega
        obtain ⟨Lo, hLo⟩ : ∃ Lo, ws.take q = Lo := ⟨_, rfl⟩
        obtain ⟨Lx, hLx⟩ : ∃ Lx, ws.take (q + 1) = Lx := ⟨_, rfl⟩
        rw [hLo] at hcell' hv' hLn
        rw [hLo, hLx] at hL
        have hLx' := veil hLx
        clear hLo hLx hsq
        have hne : Lx ≠ [] := by rw [hL]; simp
        have hLxn : (Lx.length : Int) = (q : Int) + 1 := by rw [hL, List.length_append, hLn]; simp
        obtain ⟨mo, hmo⟩ : ∃ mo, lvS Lo v = mo := ⟨_, rfl⟩
        have hmso : mo.size = 5 := by rw [← hmo]; exact lvS_size _ _
        obtain ⟨R, hR⟩ : ∃ R, lineL ⟨#[58]⟩ (numS ((q : Int) + 1)) = R := ⟨_, rfl⟩
        have hRz : 2 ≤ R.length ∧ R.length ≤ 9223372036854775807 := by rw [← hR, line_len]; have := numS_size ((q : Int) + 1) (by omega) (by omega); omega
        obtain ⟨hR2, hR9⟩ := hRz
        have hI : Int64 ((q : Int) + 1) := ⟨by omega, by omega⟩
        have hdo : Veil (∀ w' b, Below wr.heap.size wr w' → w'.heap[b]? = some (.cells #[.string ⟨#[114, 112, 117, 115, 104]⟩, .string ⟨#[107]⟩, .string sq] 9 (0, 0)) → Calls Tryz.prog 8 #[.agg mo, .slice (some ⟨b, 0, none⟩) 3 3] w' (Pres Lx R w')) := veil (fun w' b h1 h2 => by
          have h := do_pushV false ⟨#[114, 112, 117, 115, 104]⟩ v Lo [⟨#[114, 112, 117, 115, 104]⟩, ⟨#[107]⟩, sq] (some ⟨b, 0, none⟩) 3 w' (hv'.out.below h1) hv1'.out (tR_lit [⟨#[114, 112, 117, 115, 104]⟩, ⟨#[107]⟩, sq] 3 rfl h2 (by simp)) (by simp) rfl (by decide) low_rpush (by rw [hLn]; simp; omega) (tabs_below hT'.out (two_below hbr'.out h1))
          rw [show putL false Lo (List.drop 2 [⟨#[114, 112, 117, 115, 104]⟩, ⟨#[107]⟩, sq]) = Lx from by rw [hL]; simp [putL], hLxn, hR, hmo] at h
          exact h)
        rw [hmo] at hcell'
        clear hmo hL
        have hGlt : w1.heap.size < wr.heap.size := (Array.getElem?_eq_some_iff.1 hcell'.out).1
        go_wp2_with fail
        refine RelG.wp_region_relM (G := NewO wr.heap.size) (G1 := BelO) (n := 126) (new_sub _) 11 _ [RelG.is _ 35 (.agg mo), RelG.is _ 36 (.slice (some ad) m c), RelG.is _ 37 (.int .i64 q), RelG.is _ 38 (.pointer (some (ad.add q))), RelG.is _ 39 (.string sq), txB w1.heap.size #[.string ⟨#[114, 112, 117, 115, 104]⟩, .string ⟨#[107]⟩, .string sq] 40, prB w1.heap.size Lx R 41, prB w1.heap.size Lx R 34, lvB w1.heap.size Lx 42, frB w1.heap.size R 43, nzB wr.heap.size 8, no _ 8, no _ 9] [RelG.is _ 35 (.agg mo), RelG.is _ 36 (.slice (some ad) m c), RelG.is _ 37 (.int .i64 q), RelG.is _ 38 (.pointer (some (ad.add q))), RelG.is _ 39 (.string sq), anyR _ 40, anyR _ 41, tyN _ w1.heap.size R hR2 34, anyR _ 42, frN _ w1.heap.size R hR2 43, anyR _ 8, flN _ Lx hne 8, frN _ w1.heap.size R hR2 9] [[35], [36], [37], [38], [39], [40], [41], [34], [42], [43], [8], [8], [9]] (by kernel_rfl) rfl rfl (by kernel_rfl) rfl rfl ?_ ?_ ?_ ?_ ?_
        · intro j e w' h
          match j, h with
          | 0, h => exact h
          | 1, h => exact h
          | 2, h => exact h
          | 3, h => exact h
          | 4, h => exact h
          | 5, h => trivial
          | 6, h => trivial
          | 7, h => obtain ⟨v2, y, base, h1, h2, h3, h4, h5⟩ := h; exact ⟨_, y, h1, h5⟩
          | 8, h => trivial
          | 9, h => exact h
          | 10, h => trivial
          | 11, h => exact False.elim h
          | 12, h => exact False.elim h
          | n + 13, h => trivial
        · refine RelG.stepsF_cons (RelG.step_load (n := 126) (t := 6) (u := 35) (b := w1.heap.size) (t' := tV) (cs := mo) (fr := (0, 0)) rfl rfl rfl rfl (by decide) (by kernel_rfl) (by kernel_rfl) Tryz.underlying28 rfl (by rw [hmso]; exact info28) (fun w' hle => (Below.block hle _ hGlt).trans hcell'.out) rfl) ?_
          refine RelG.stepsF_cons (RelG.step_was (n := 126) (t := 0) (u := 36) rfl rfl rfl rfl (by decide) (by kernel_rfl) (by kernel_rfl) rfl) ?_
          refine RelG.stepsF_cons (RelG.step_was (n := 126) (t := 7) (u := 37) rfl rfl rfl rfl (by decide) (by kernel_rfl) (by kernel_rfl) rfl) ?_
          refine RelG.stepsF_cons (RelG.step_run2 (n := 126) (j := 1) (t := 36) (j2 := 2) (t2 := 37) (u := 38) (v := (.slice (some ad) m c)) (v2 := .int .i64 q) rfl rfl rfl (by decide) rfl rfl rfl rfl (fun ρ w' hle h h2 hk => by simp [execOp, h, h2, hk, go_sem, q0, qN, qM]) rfl) ?_
          refine RelG.stepsF_cons (RelG.step_run (n := 126) (j := 3) (t := 38) (u := 39) (v := .pointer (some (ad.add q))) rfl rfl rfl (by decide) rfl rfl (fun ρ w' hle h hk => by
              have c := (Below.cell hle (p := ad.add q) (World.block_lt_of_cell? wr _ cq.out)).trans cq.out
              simp [execOp, h, hk, go_sem, c]) rfl) ?_
          refine RelG.stepsF_cons (RelG.step_make rfl fun b w' D => ⟨.slice (some ⟨w'.heap.size, 0, none⟩) 3 3, w'.alloc (.cells #[.string ⟨#[114, 112, 117, 115, 104]⟩, .string ⟨#[107]⟩, .string sq] 9), by
                have e2 : b.eval (.tmp 39) = .string sq := D.is 4 rfl rfl
                have hr := run_texts3 w' ⟨#[114, 112, 117, 115, 104]⟩ ⟨#[107]⟩ sq
                unfold execOp
                simp only [List.map_toArray, List.map_cons, List.map_nil, e2, show ∀ v, b.eval (.const v) = v from fun _ => rfl, Sem.run_bind]
                rw [hr]
                rfl, by
                show txP _ _ (RelG.get (b.put (some 40) _) 40) _
                rw [RelG.get_put b 40 _ (by rw [D.siz]; exact (by decide : 40 < 126))]
                exact ⟨_, rfl, heap_alloc_last w' _, by have := Below.size D.bel; omega⟩, below_alloc (Below.refl _ _) _⟩) ?_
          refine RelG.stepsF_cons (step_callA rfl Tryz.func8 (by kernel_rfl) rfl rfl (fun b w' D => by
              obtain ⟨z, h1, h2, h3⟩ := D.rel 5 rfl
              have e1 : b.eval (.tmp 35) = .agg mo := D.is 0 rfl rfl
              have e2 : b.eval (.tmp 40) = .slice (some ⟨z, 0, none⟩) 3 3 := h1
              refine ⟨#[.agg mo, .slice (some ⟨z, 0, none⟩) 3 3], by simp only [List.map_toArray, List.map_cons, List.map_nil, e1, e2], (hdo.out w' z D.bel h2).mono fun e w'' ⟨u, A, n, c, he, ho, hf, hb⟩ => ⟨_, he, ?_, hb⟩⟩
              show prP _ _ _ (RelG.get (b.put (some 41) _) 41) w''
              rw [RelG.get_put b 41 _ (by rw [D.siz]; exact (by decide : 41 < 126))]
              have hgt : w1.heap.size < w'.heap.size := by have := Below.size D.bel; omega
              exact ⟨u, _, w'.heap.size, rfl, hgt, ho, or_one ho, ⟨A, n, c, _, rfl, hf, hgt⟩⟩)) ?_
          refine RelG.stepsF_cons (RelG.step_pass_of (n := 126) (j := 6) (t := 41) (u := 34) (p := prP w1.heap.size Lx R) (hp := fun x w w' h hle => prP_w x w w' h (bel_sub _ _ _ _ hle)) rfl rfl (.inl rfl) rfl (by decide) rfl rfl rfl) ?_
          refine RelG.stepsF_cons (RelG.step_val rfl fun b w' D => by
              obtain ⟨u, y, base, h1, h2, h3, h4, h5⟩ := D.rel 7 rfl
              have e1 : b.eval (.tmp 34) = .tuple #[.agg (lvS Lx u), y] := h1
              exact ⟨.agg (lvS Lx u), run_ext0 e1, by
                show lvP _ _ (RelG.get (b.put (some 42) _) 42) w'
                rw [RelG.get_put b 42 _ (by rw [D.siz]; exact (by decide : 42 < 126))]
                exact ⟨u, base, rfl, h2, h3, h4⟩⟩) ?_
          refine RelG.stepsF_cons (RelG.step_val rfl fun b w' D => by
              obtain ⟨u, y, base, h1, h2, h3, h4, h5⟩ := D.rel 7 rfl
              have e1 : b.eval (.tmp 34) = .tuple #[.agg (lvS Lx u), y] := h1
              exact ⟨y, run_ext1 e1, by
                show RelG.frP _ _ (RelG.get (b.put (some 43) _) 43) w'
                rw [RelG.get_put b 43 _ (by rw [D.siz]; exact (by decide : 43 < 126))]
                exact h5⟩) ?_
          refine RelG.stepsF_cons (RelG.step_make rfl fun b w' D => ⟨.pointer (some ⟨w'.heap.size, 0, none⟩), w'.alloc (.cells zS tV), run_alloc _ _ _ rfl, by
              show nzP _ (RelG.get (b.put (some 8) _) 8) _
              rw [RelG.get_put b 8 _ (by rw [D.siz]; exact (by decide : 8 < 126))]
              exact ⟨_, rfl, Below.size D.bel, heap_alloc_last w' _⟩, below_alloc (Below.refl _ _) _⟩) ?_
          refine RelG.stepsF_skip (by kernel_rfl) ?_
          refine RelG.stepsF_skip (by kernel_rfl) ?_
          exact trivial
        · exact RelG.storeS_skip rfl rfl fun b w' D => by
            obtain ⟨u, base, h1, h2, h3, h4⟩ := D.rel 8 rfl
            obtain ⟨p, h6, h7, h8⟩ := D.rel 10 rfl
            have e2 : b.eval (.tmp 42) = .agg (lvS Lx u) := h1
            have e1 : b.eval (.tmp 8) = .pointer (some ⟨p, 0, none⟩) := h6
            refine ⟨w'.setRow p (lvS Lx u), ?_, ⟨p, u, base, h6, h7, own_setRow h3 h8, setRow_heap w' p zS (lvS Lx u) tV (0, 0) h8, h4⟩, new_set _ h7 h8⟩
            unfold execOp
            simp only [e1, e2, Instr.storeAt, Instr.sureAddr, Sem.run_bind, Sem.run_pure, Result.andThen_ok, run_storeVar_row (P := Tryz.prog) w' p tV tV zS (lvS Lx u) h8 (by rw [lvS_size]; exact info28) (by rw [lvS_size]; rfl) (lvS_oneV _ _ h4)]
        · refine RelG.stepsF_skip (by kernel_rfl) ?_
          refine RelG.stepsF_skip (by kernel_rfl) ?_
          refine RelG.stepsF_skip (by kernel_rfl) ?_
          refine RelG.stepsF_skip (by kernel_rfl) ?_
          refine RelG.stepsF_skip (by kernel_rfl) ?_
          refine RelG.stepsF_skip (by kernel_rfl) ?_
          refine RelG.stepsF_skip (by kernel_rfl) ?_
          refine RelG.stepsF_skip (by kernel_rfl) ?_
          refine RelG.stepsF_skip (by kernel_rfl) ?_
          refine RelG.stepsF_cons (RelG.step_val rfl fun b w' D => by
              obtain ⟨u, y, h1, h5⟩ := D.rel 7 rfl
              have e1 : b.eval (.tmp 34) = .tuple #[u, y] := h1
              exact ⟨y, run_ext1 e1, by
                show RelG.frP _ _ (RelG.get (b.put (some 43) _) 43) w'
                rw [RelG.get_put b 43 _ (by rw [D.siz]; exact (by decide : 43 < 126))]
                exact h5⟩) ?_
          refine RelG.stepsF_skip (by kernel_rfl) ?_
          refine RelG.stepsF_skip (by kernel_rfl) ?_
          refine RelG.stepsF_cons (RelG.step_pass_of (n := 126) (j := 9) (t := 43) (u := 9) (p := RelG.frP w1.heap.size R) (hp := fun x w w' h hle => fr_new hR2 h hle) rfl rfl (.inr rfl) rfl (by decide) rfl rfl rfl) ?_
          exact trivial
        intro u e w9 hg hv hle
        have k8 : e 8 = u 10 := hg 10 8 rfl
        have k9 : e 9 = u 12 := hg 12 9 rfl
        have hfl : flP wr.heap.size Lx (e 8) w9 := hv 11 (by decide)
        have hfr : RelG.frP w1.heap.size R (e 9) w9 := hv 12 (by decide)
        rw [k8] at hfl
        rw [k9] at hfr
        obtain ⟨p, v9, base, ep, hp, ho9, hc9, h19⟩ := hfl
        obtain ⟨Ar, nr, cr, base2, er, hf9, _⟩ := hfr
        have hb9 := new_below (Below.refl _ _) hle (Nat.le_refl _)
        have hs9 := hb9.size
        have hB_3 := veil (two_below hbr'.out (hb9))
        have hc_3 := veil (((hb9).block _ (by omega)).trans hcell'.out)
        clear hbr' hcell'
        simp only [Rel.fill, Act.put, List.setIfInBounds_toArray, List.set_cons_zero, List.set_cons_succ]
        rw [ep, er]
        have hc9' := veil hc9
        have hrd := veil (hf9.reads (by rw [← hf9.len]; exact hR9))
        have ho9' := veil ho9
        have h19' := veil h19
        clear hg hv hle k8 k9 ep er hc9 ho9 hf9 h19 hb9 hdo hv' cq
        have e1v : Veil (IntKind.i64.wrap ((q : Int) + 1) = (q : Int) + 1) := veil (iwrapE (by unfold Int64; omega))
        have e1w : Veil (wrap64 ((q : Int) + 1) = (q : Int) + 1) := veil (by unfold wrap64; omega)
        have e1 := e1v.out
        have e1' := e1w.out
        have hplt : p < w9.heap.size := (Array.getElem?_eq_some_iff.1 hc9'.out).1
        go_wp2_with fail
        refine Rel.wp_region_rel (n := 126) [Rel.rd R, Rel.is (.string (strOfNums R)), Rel.is (.int .i64 q), Rel.is (.int .i64 ((q : Int) + 1)), Rel.rd R, Rel.is (.string (strOfNums R)), Rel.is (.bool false)] (by kernel_rfl) (by rfl) (by kernel_rfl) ?_ ?_
        · refine Rel.steps_cons (Rel.step_rdB (n := 126) (t := 9) (A := Ar) (m := nr) (c := cr) rfl (.inl rfl) rfl rfl (by kernel_rfl) hrd.out rfl) ?_
          refine Rel.steps_cons (Rel.step_strB (n := 126) (j := 0) (t := 44) rfl (.inl rfl) rfl Tryz.underlying29 Tryz.underlying5 Tryz.underlying9 rfl rfl rfl rfl) ?_
          refine Rel.steps_cons (Rel.step_wasB (n := 126) (t := 7) rfl (.inl rfl) (.inl rfl) rfl (by kernel_rfl) rfl) ?_
          refine Rel.steps_cons (Rel.step_run1 (n := 126) (j := 2) (t := 46) rfl (.inl rfl) rfl rfl rfl (fun ρ w' hb h1 hk => by simp [execOp, h1, hk, go_sem, e1, e1']) rfl) ?_
          refine Rel.steps_cons (Rel.step_callB (n := 126) rfl (.inl rfl) Tryz.func9 (by kernel_rfl) rfl #[.int .i64 ((q : Int) + 1)] rfl (fun b w D => by simp only [List.map_toArray, List.map_cons, List.map_nil, show b.eval (.tmp 47) = .int .i64 ((q : Int) + 1) from D.is 3 47 rfl rfl rfl]) (fun w' hb' => YInt_rd hR hR9 hI w')) ?_
          refine Rel.steps_cons (Rel.step_strB (n := 126) (j := 4) (t := 48) rfl (.inl rfl) rfl Tryz.underlying29 Tryz.underlying5 Tryz.underlying9 rfl rfl rfl rfl) ?_
          refine Rel.steps_cons (Rel.step_texts (n := 126) (j := 1) (t := 45) (j2 := 5) (t2 := 49) rfl (.inl rfl) rfl Tryz.underlying9 rfl rfl rfl rfl rfl rfl (.inr ⟨rfl, (by rw [decide_eq_true rfl]; rfl)⟩) rfl) ?_
          exact trivial
        intro vr wz hvr hbz
        have ez : vr 6 = .bool false := hvr 6 (by decide)
        have hsz1 := hbz.size
        have hoz := own_move ho9'.out (fun k hk => hbz.block k (own_lt ho9'.out k hk))
        have hoz' := veil hoz
        have hB_4 := veil (two_below hB_3.out (hbz))
        have hc_4 := veil (((hbz).block _ (by omega)).trans hc_3.out)
        have hp_4 := veil (((hbz).block _ (by omega)).trans hc9'.out)
        clear hB_3 hc_3 hc9'
        simp only [Rel.fill, Act.put, List.setIfInBounds_toArray, List.set_cons_zero, List.set_cons_succ]
        rw [ez]
        clear hbz hvr ez ho9' hoz e1 e1'
        obtain ⟨mn9, hmn⟩ : ∃ mv, lvS Lx v9 = mv := ⟨_, rfl⟩
        have hmns : mn9.size = 5 := by rw [← hmn]; exact lvS_size _ _
        have hmno : mn9.all (·.oneCell') = true := by rw [← hmn]; exact lvS_oneV _ _ h19'.out
        rw [hmn] at hp_4
        have hmn' := veil hmn
        clear hmn
        have L1 := hp_4.out
        have L2 := hc_4.out
        have kk := veil (show ((q : Int) + 1) = ((q + 1 : Nat) : Int) by omega)
        go_wp2_with (first | (refine wpList_load_row rfl tV _ rfl p rfl tV (mn9) (0, 0) _ L1 Tryz.underlying28 rfl (by rw [hmns]; exact info28) ?_) | (refine wpList_store_row rfl tV _ _ rfl (w1.heap.size) mn9 rfl rfl tV mo L2 (by rw [hmns]; exact info28) (by rw [hmso, hmns]) hmno ?_))
        have hcz := veil (setRow_heap wz w1.heap.size mo mn9 tV (0, 0) L2)
        have hvz := veil (tR_own (own_setRow (mv := mn9) hoz'.out L2))
        have hBz := veil (below_setRow hB_4.out w1.heap.size mn9 hGw)
        clear L1 L2
        go_roundw
        case rel => exact ⟨q + 1, v9, hlt, congrArg (Value.int .i64) kk.out, by rw [hLx'.out, hmn'.out]; exact hcz.out, by rw [hLx'.out]; exact hvz.out, h19'.out, by have h := hBz.out.size; simp only [World.setRow, Array.size_modify] at h ⊢; omega, hBz.out⟩
        case measure => simp [intOf]; omega
      · obtain rfl : m = q := by omega
        have htk : ws.take m = ws := List.take_of_length_le (by rw [hnl.out]; exact Nat.le_refl _)
        go_wp2_with fail
        go_loopw [10, 11, 12] (fun vf vt vi wr => ∃ (fr t i : Nat) (v : Value), fr ≤ t ∧ t ≤ m ∧ fr + (m - t) = i ∧ vf = .int .i64 fr ∧ vt = .int .i64 t ∧ vi = .int .i64 i ∧ wr.heap[w1.heap.size]? = some (.cells (lvS ((ws.take t).drop fr) v) tV (0, 0)) ∧ tR wr v ((ws.take t).drop fr) ∧ v.oneCell' = true ∧ b1.heap.size ≤ wr.heap.size ∧ Below w.heap.size w wr) (fun _ _ vi _ => m - (intOf vi).toNat)
        case atStart => exact ⟨0, m, 0, v, Nat.zero_le _, Nat.le_refl _, by omega, rfl, rfl, rfl, by rw [List.drop_zero]; exact hcell'.out, by rw [List.drop_zero]; exact hv'.out, hv1'.out, hszr, hbr'.out⟩
        clear htk
        case round =>
          obtain ⟨fr, t, i, v, hft, htm, hfi, rfl, rfl, rfl, hcell, hv, hv1, hszr, hbr⟩ := hrel
          have hcell' := veil hcell
          have hv' := veil hv
          have hv1' := veil hv1
          have hbr' := veil hbr
          clear hcell hv hv1 hbr
          by_cases hlt : fr < t
          · have f0 : (0 : Int) ≤ fr := by omega
            have fN : (fr : Int) < (t : Nat) := by omega
            have fM : (fr : Int) < (m : Nat) := by omega
            have fM' : ¬ ((m : Int) ≤ fr) := by omega
            obtain ⟨sa, hsa⟩ : ∃ s, ws[fr]? = some s := ⟨_, List.getElem?_eq_getElem (by rw [hnl.out]; omega)⟩
            obtain ⟨ad, hA, ca⟩ := reads_at (hr0.out.below hbr'.out) hsa
            subst hA
            have hsq := veil hsa
            have hIFv : Veil (IntKind.i64.wrap ((i : Int) + 1) = (i : Int) + 1) := veil (iwrapE (by unfold Int64; omega))
            have hIFw : Veil (wrap64 ((i : Int) + 1) = (i : Int) + 1) := veil (by unfold wrap64; omega)
            clear hsa
            cases hbit : bits BinOp.and IntKind.u16 (x / 2 ^ i) 1 == 1
            · have hbit' := veil hbit
              clear hbit
              have hget := getF ws hlt hsq.out
              have her := erase0 (ws.take t) fr
              have hLn : ((ws.take t).drop fr).length = t - fr := by rw [List.length_drop, List.length_take, hnl.out]; omega
              have hszb := size_le (List.mem_of_getElem? hsq.out)
              have hsx : sa.size ≤ 70368744177664 := by
                have h3 := hsz.out
                omega
              clear hszb
              obtain ⟨Lo, hLo⟩ : ∃ Lo, (ws.take t).drop fr = Lo := ⟨_, rfl⟩
              obtain ⟨Lx, hLx⟩ : ∃ Lx, (ws.take t).drop (fr + 1) = Lx := ⟨_, rfl⟩
              rw [hLo] at hcell' hv' hget her hLn
              rw [hLx] at her
              have hLx' := veil hLx
              obtain ⟨n, hn⟩ : ∃ n : Nat, t - (fr + 1) = n := ⟨_, rfl⟩
              have hLxn : Lx.length = n := by rw [← hLx, List.length_drop, List.length_take, hnl.out]; omega
              have e6v : Veil (IntKind.i64.wrap ((t : Int) - ((fr : Int) + 1)) = n) := veil (by rw [iwrapE (by unfold Int64; omega)]; omega)
              have e6w : Veil (wrap64 ((t : Int) - ((fr : Int) + 1)) = n) := veil (by unfold wrap64; omega)
              clear hLo hLx
              obtain ⟨RB, hRB⟩ : ∃ R, bulkL sa = R := ⟨_, rfl⟩
              have hRB9 : RB.length ≤ 9223372036854775807 := by rw [← hRB]; exact bulkL_len _ hsx
              obtain ⟨RL, hRL⟩ : ∃ R, lineL ⟨#[58]⟩ (numS (n : Int)) = R := ⟨_, rfl⟩
              have hRL9 : RL.length ≤ 9223372036854775807 := by rw [← hRL, line_len]; have := numS_size (n : Int) (by omega) (by omega); omega
              have hI : Int64 (n : Int) := ⟨by omega, by omega⟩
              obtain ⟨mo, hmo⟩ : ∃ mo, lvS Lo v = mo := ⟨_, rfl⟩
              rw [hmo] at hcell'
              have hmso : mo.size = 5 := by rw [← hmo]; exact lvS_size _ _
              have hmoe := veil hmo
              clear hmo
              have hGlt : w1.heap.size < wr.heap.size := (Array.getElem?_eq_some_iff.1 hcell'.out).1
              have hRBv := veil hRB
              have hRLv := veil hRL
              have hgetv := veil hget
              have herv := veil her
              have hLnv := veil hLn
              have hLxv := veil hLxn
              have hRB9v := veil hRB9
              have hRL9v := veil hRL9
              have hIv := veil hI
              have hsxv := veil hsx
              have hnv := veil hn
              clear hRB hRL hget her hLn hLxn hRB9 hRL9 hI hsx hn
              have L4 := hcell'.out
              have hbit := hbit'.out
              go_wp2_with (refine wpList_load_row rfl tV _ rfl w1.heap.size rfl tV (mo) (0, 0) _ L4 Tryz.underlying28 rfl (by rw [hmso]; exact info28) ?_)
              clear L4 hbit
              obtain ⟨wt, hw5⟩ : ∃ W : World, W = wr.alloc (.cells #[.string ⟨#[108, 112, 111, 112]⟩, .string ⟨#[107]⟩] 9) := ⟨_, rfl⟩
              rw [← hw5]
              have hb5 : Below wr.heap.size wr wt := by rw [hw5]; exact below_alloc (Below.refl _ _) _
              have ha5 : tR wt (.slice (some ⟨wr.heap.size, 0, none⟩) 2 2) [⟨#[108, 112, 111, 112]⟩, ⟨#[107]⟩] := tR_lit [⟨#[108, 112, 111, 112]⟩, ⟨#[107]⟩] 2 rfl (by rw [hw5]; exact heap_alloc_last wr _) (by simp)
              have hs5 := hb5.size
              have hB_6 := veil (two_below hbr'.out (hb5))
              have hc_6 := veil (((hb5).block _ (by omega)).trans hcell'.out)
              have hv_6 := veil (hv'.out.below (hb5))
              clear hbr' hcell' hv'
              clear hb5 hw5
              have hRB := hRBv.out
              have hRL := hRLv.out
              have hget := hgetv.out
              have her := herv.out
              have hLn := hLnv.out
              have hLxn := hLxv.out
              have hRB9 := hRB9v.out
              have hRL9 := hRL9v.out
              have hI := hIv.out
              have hsx := hsxv.out
              have hn := hnv.out
              have hdo := do_popV false ⟨#[108, 112, 111, 112]⟩ sa v Lo [⟨#[108, 112, 111, 112]⟩, ⟨#[107]⟩] (some ⟨wr.heap.size, 0, none⟩) 2 wt hv_6.out ha5 (by decide) rfl (by decide) low_lpop hget (by omega) hsx (tabs_below hT'.out hB_6.out)
              rw [hmoe.out, her, hRB] at hdo
              refine hdo.mono ?_
              rintro e w7 ⟨v7, Ar7, nr7, cr7, rfl, ho7, hf7, hb7⟩
              have hs7 := hb7.size
              have hB_7 := veil (two_below hB_6.out (hb7))
              have hc_7 := veil (((hb7).block _ (by omega)).trans hc_6.out)
              clear hB_6 hc_6
              have hv71 := veil (or_one ho7)
              have ho7' := veil ho7
              obtain ⟨mn7, hmn⟩ : ∃ mv, lvS Lx v7 = mv := ⟨_, rfl⟩
              rw [hmn]
              have hmns : mn7.size = 5 := by rw [← hmn]; exact lvS_size _ _
              have hmno : mn7.all (·.oneCell') = true := by rw [← hmn]; exact lvS_oneV _ _ hv71.out
              have hmn' := veil hmn
              have hrd7 := veil (hf7.reads (by rw [← hf7.len]; exact hRB9))
              clear hdo hmn ho7 hf7 hb7 ha5 her hget
              have hN := newV mn7 w7
              have hg := hN.cell
              clear hN
              go_wp2_with (first | (refine wpList_store_row rfl tV _ _ rfl w7.heap.size mn7 rfl rfl tV zS (heap_alloc_last w7 _) (by rw [hmns]; exact info28) hmns.symm hmno ?_) | (refine wpList_load_row rfl tV _ rfl w7.heap.size rfl tV (mn7) (0, 0) _ hg Tryz.underlying28 rfl (by rw [hmns]; exact info28) ?_))
              clear hg
              obtain ⟨b8, hb8⟩ : ∃ b8 : World, b8 = (w7.alloc (.cells #[.int .u8 0, .string ⟨#[]⟩, .slice none 0 0, .slice none 0 0, .slice none 0 0] tV)).setRow w7.heap.size (mn7) := ⟨_, rfl⟩
              have hN8 := newV (mn7) w7
              rw [← hb8] at hN8 ⊢
              have hsN8 := hN8.sz
              have hB_9 := veil (two_below hB_7.out (hN8.bel))
              have hc_9 := veil (((hN8.bel).block _ (by omega)).trans hc_7.out)
              have ho_9 := veil (own_move ho7'.out (fun k hk => (hN8.bel).block k (own_lt ho7'.out k hk)))
              have hrb_9 := veil (hrd7.out.below (hN8.bel))
              clear hB_7 hc_7 ho7' hrd7
              have hhw_n := veil hN8.cell
              clear hb8 hN8
              obtain ⟨wt2, hw10⟩ : ∃ W : World, W = b8.alloc (.cells #[.string ⟨#[108, 108, 101, 110]⟩, .string ⟨#[107]⟩] 9) := ⟨_, rfl⟩
              rw [← hw10]
              have hb10 : Below b8.heap.size b8 wt2 := by rw [hw10]; exact below_alloc (Below.refl _ _) _
              have ha10 : tR wt2 (.slice (some ⟨b8.heap.size, 0, none⟩) 2 2) [⟨#[108, 108, 101, 110]⟩, ⟨#[107]⟩] := tR_lit [⟨#[108, 108, 101, 110]⟩, ⟨#[107]⟩] 2 rfl (by rw [hw10]; exact heap_alloc_last b8 _) (by simp)
              have hs10 := hb10.size
              have hB_11 := veil (two_below hB_9.out (hb10))
              have hc_11 := veil (((hb10).block _ (by omega)).trans hc_9.out)
              have ho_11 := veil (own_move ho_9.out (fun k hk => (hb10).block k (own_lt ho_9.out k hk)))
              have hrb_11 := veil (hrb_9.out.below (hb10))
              have hw_11 := veil (((hb10).block _ (by omega)).trans hhw_n.out)
              clear hB_9 hc_9 ho_9 hrb_9 hhw_n
              clear hb10 hw10
              rw [hsN8] at ha10
              have hdo := do_llenV ⟨#[108, 108, 101, 110]⟩ v7 Lx [⟨#[108, 108, 101, 110]⟩, ⟨#[107]⟩] (some ⟨w7.heap.size + 1, 0, none⟩) 2 wt2 (tR_own ho_11.out) ha10 (by decide) rfl (by decide) low_llen (by omega) (tabs_below hT'.out hB_11.out)
              rw [hmn'.out, hLxn, hRL] at hdo
              refine hdo.mono ?_
              rintro e w8 ⟨Ar8, nr8, cr8, rfl, hf8, hb8⟩
              have hs8 := hb8.size
              have hB_12 := veil (two_below hB_11.out (hb8))
              have hc_12 := veil (((hb8).block _ (by omega)).trans hc_11.out)
              have ho_12 := veil (own_move ho_11.out (fun k hk => (hb8).block k (own_lt ho_11.out k hk)))
              have hrb_12 := veil (hrb_11.out.below (hb8))
              have hw_12 := veil (((hb8).block _ (by omega)).trans hw_11.out)
              clear hB_11 hc_11 ho_11 hrb_11 hw_11
              have hrd8 := veil (hf8.reads (by rw [← hf8.len]; exact hRL9))
              clear hdo hf8 hb8 ha10
              go_wp2_with (refine wpList_store_row rfl tV _ _ rfl w8.heap.size mn7 rfl rfl tV zS (heap_alloc_last w8 _) (by rw [hmns]; exact info28) hmns.symm hmno ?_)
              obtain ⟨b13, hb13⟩ : ∃ b13 : World, b13 = (w8.alloc (.cells #[.int .u8 0, .string ⟨#[]⟩, .slice none 0 0, .slice none 0 0, .slice none 0 0] tV)).setRow w8.heap.size (mn7) := ⟨_, rfl⟩
              have hN13 := newV (mn7) w8
              rw [← hb13] at hN13 ⊢
              have hsN13 := hN13.sz
              have hB_14 := veil (two_below hB_12.out (hN13.bel))
              have hc_14 := veil (((hN13.bel).block _ (by omega)).trans hc_12.out)
              have ho_14 := veil (own_move ho_12.out (fun k hk => (hN13.bel).block k (own_lt ho_12.out k hk)))
              have hrb_14 := veil (hrb_12.out.below (hN13.bel))
              have hw_14 := veil (((hN13.bel).block _ (by omega)).trans hw_12.out)
              have hrl_14 := veil (hrd8.out.below (hN13.bel))
              clear hB_12 hc_12 ho_12 hrb_12 hw_12 hrd8
              have hhx_n := veil hN13.cell
              clear hb13 hN13
              have e6 := e6v.out
              have e6' := e6w.out
              refine Rel.wp_region_rel (n := 126) [Rel.rd RB, Rel.is (.string (strOfNums RB)), Rel.is (.string sa), Rel.rd RB, Rel.is (.string (strOfNums RB)), Rel.is (.bool false), Rel.is (.bool false), Rel.rd RL, Rel.is (.string (strOfNums RL)), Rel.is (.int .i64 t), Rel.is (.int .i64 ((fr : Int) + 1)), Rel.is (.int .i64 n), Rel.rd RL, Rel.is (.string (strOfNums RL)), Rel.is (.bool false), Rel.is (.bool false)] (by kernel_rfl) (by rfl) (by kernel_rfl) ?_ ?_
              · refine Rel.steps_cons (Rel.step_rdB (n := 126) (t := 16) (A := Ar7) (m := nr7) (c := cr7) rfl (.inl rfl) rfl rfl (by kernel_rfl) hrb_14.out rfl) ?_
                refine Rel.steps_cons (Rel.step_strB (n := 126) (j := 0) (t := 90) rfl (.inl rfl) rfl Tryz.underlying29 Tryz.underlying5 Tryz.underlying9 rfl rfl rfl rfl) ?_
                refine Rel.steps_cons (Rel.step_wasB (n := 126) (t := 14) rfl (.inl rfl) (.inl rfl) rfl (by kernel_rfl) rfl) ?_
                refine Rel.steps_cons (Rel.step_callB (n := 126) rfl (.inl rfl) Tryz.func10 (by kernel_rfl) rfl #[.string sa] rfl (fun b w D => by simp only [List.map_toArray, List.map_cons, List.map_nil, show b.eval (.tmp 92) = .string sa from D.is 2 92 rfl rfl rfl]) (fun w' hb' => YBulk_rd hRB hRB9 hsx w')) ?_
                refine Rel.steps_cons (Rel.step_strB (n := 126) (j := 3) (t := 93) rfl (.inl rfl) rfl Tryz.underlying29 Tryz.underlying5 Tryz.underlying9 rfl rfl rfl rfl) ?_
                refine Rel.steps_cons (Rel.step_texts (n := 126) (j := 1) (t := 91) (j2 := 4) (t2 := 94) rfl (.inl rfl) rfl Tryz.underlying9 rfl rfl rfl rfl rfl rfl (.inr ⟨rfl, (by rw [decide_eq_true rfl]; rfl)⟩) rfl) ?_
                refine Rel.steps_cons (Rel.step_passB (n := 126) (j := 5) (t := 95) rfl (.inl rfl) (.inl rfl) rfl rfl rfl rfl) ?_
                refine Rel.steps_cons (Rel.step_rdB (n := 126) (t := 18) (A := Ar8) (m := nr8) (c := cr8) rfl (.inr ⟨6, 96, false, rfl, rfl, rfl, by decide, rfl⟩) rfl rfl (by kernel_rfl) hrl_14.out rfl) ?_
                refine Rel.steps_cons (Rel.step_strB (n := 126) (j := 7) (t := 97) rfl (.inr ⟨6, 96, false, rfl, rfl, rfl, by decide, rfl⟩) rfl Tryz.underlying29 Tryz.underlying5 Tryz.underlying9 rfl rfl rfl rfl) ?_
                refine Rel.steps_cons (Rel.step_wasB (n := 126) (t := 11) rfl (.inr ⟨6, 96, false, rfl, rfl, rfl, by decide, rfl⟩) (.inl rfl) rfl (by kernel_rfl) rfl) ?_
                refine Rel.steps_cons (Rel.step_wasB (n := 126) (t := 10) rfl (.inr ⟨6, 96, false, rfl, rfl, rfl, by decide, rfl⟩) (.inl rfl) rfl (by kernel_rfl) rfl) ?_
                refine Rel.steps_cons (Rel.step_run2 (n := 126) (j := 9) (t := 99) (j2 := 10) (t2 := 100) rfl (.inr ⟨6, 96, false, rfl, rfl, rfl, by decide, rfl⟩) rfl rfl rfl rfl rfl rfl (fun ρ w' hb h1 h2 hk => by simp [execOp, h1, h2, hk, go_sem, e6, e6']) rfl) ?_
                refine Rel.steps_cons (Rel.step_callB (n := 126) rfl (.inr ⟨6, 96, false, rfl, rfl, rfl, by decide, rfl⟩) Tryz.func9 (by kernel_rfl) rfl #[.int .i64 n] rfl (fun b w D => by simp only [List.map_toArray, List.map_cons, List.map_nil, show b.eval (.tmp 101) = .int .i64 n from D.is 11 101 rfl rfl rfl]) (fun w' hb' => YInt_rd hRL hRL9 hI w')) ?_
                refine Rel.steps_cons (Rel.step_strB (n := 126) (j := 12) (t := 102) rfl (.inr ⟨6, 96, false, rfl, rfl, rfl, by decide, rfl⟩) rfl Tryz.underlying29 Tryz.underlying5 Tryz.underlying9 rfl rfl rfl rfl) ?_
                refine Rel.steps_cons (Rel.step_texts (n := 126) (j := 8) (t := 98) (j2 := 13) (t2 := 103) rfl (.inr ⟨6, 96, false, rfl, rfl, rfl, by decide, rfl⟩) rfl Tryz.underlying9 rfl rfl rfl rfl rfl rfl (.inr ⟨rfl, (by rw [decide_eq_true rfl]; rfl)⟩) rfl) ?_
                refine Rel.steps_cons (Rel.step_run2 (n := 126) (j := 6) (t := 96) (j2 := 14) (t2 := 104) rfl (.inl rfl) rfl rfl rfl rfl rfl rfl (fun ρ w' _ h1 h2 hk => by simp [execOp, h1, h2, hk, asBool]) rfl) ?_
                exact trivial
              clear e6 e6'
              intro vr wz hvr hbz
              have ez : vr 15 = .bool false := hvr 15 (by decide)
              have hsz1 := hbz.size
              have hB_15 := veil (two_below hB_14.out (hbz))
              have hc_15 := veil (((hbz).block _ (by omega)).trans hc_14.out)
              have ho_15 := veil (own_move ho_14.out (fun k hk => (hbz).block k (own_lt ho_14.out k hk)))
              have hw_15 := veil (((hbz).block _ (by omega)).trans hw_14.out)
              clear hB_14 hc_14 ho_14 hw_14
              simp only [Rel.fill, Act.put, List.setIfInBounds_toArray, List.set_cons_zero, List.set_cons_succ]
              rw [ez]
              clear hbz hvr ez
              have L1 := hw_15.out
              have L2 := hc_15.out
              have kk := veil (show ((i : Int) + 1) = ((i + 1 : Nat) : Int) by omega)
              have kf := veil (show ((fr : Int) + 1) = ((fr + 1 : Nat) : Int) by omega)
              have e5 := hIFv.out
              have e5' := hIFw.out
              go_wp2_with (first | (refine wpList_load_row rfl tV _ rfl w7.heap.size rfl tV (mn7) (0, 0) _ L1 Tryz.underlying28 rfl (by rw [hmns]; exact info28) ?_) | (refine wpList_store_row rfl tV _ _ rfl (w1.heap.size) mn7 rfl rfl tV mo L2 (by rw [hmns]; exact info28) (by rw [hmso, hmns]) hmno ?_))
              clear e5 e5'
              have hcz := veil (setRow_heap wz w1.heap.size mo mn7 tV (0, 0) L2)
              have hvz := veil (tR_own (own_setRow (mv := mn7) ho_15.out L2))
              have hBz := veil (below_setRow hB_15.out w1.heap.size mn7 hGw)
              clear L1 L2
              go_roundw
              case rel => exact ⟨(fr + 1), t, i + 1, v7, by omega, by omega, by omega, congrArg (Value.int .i64) kf.out, rfl, congrArg (Value.int .i64) kk.out, by rw [hLx'.out, hmn'.out]; exact hcz.out, by rw [hLx'.out]; exact hvz.out, hv71.out, by have h := hBz.out.size; simp only [World.setRow, Array.size_modify] at h ⊢; omega, hBz.out⟩
              case measure => simp [intOf]; omega
            · have hbit' := veil hbit
              clear hbit
              obtain ⟨t1, ht1⟩ : ∃ t1 : Nat, t = t1 + 1 := ⟨t - 1, by omega⟩
              have hft1 : fr ≤ t1 := by omega
              have hft1v := veil hft1
              have g0 : (0 : Int) ≤ (t : Int) - 1 := by omega
              have gN : (t : Int) - 1 < (m : Nat) := by omega
              have gM : ¬ ((m : Int) ≤ (t : Int) - 1) := by omega
              obtain ⟨sb, hsb⟩ : ∃ s, ws[t1]? = some s := ⟨_, List.getElem?_eq_getElem (by rw [hnl.out]; omega)⟩
              obtain ⟨ad2, hA2, cb⟩ := reads_at (hr0.out.below hbr'.out) hsb
              obtain rfl := Option.some.inj hA2
              rw [show t1 = t - 1 by omega] at cb
              have ht1v := veil ht1
              have hget := getB ws ht1 hft1 (by rw [hnl.out]; exact htm) hsb
              have her := eraseT ws ht1 hft1 (by rw [hnl.out]; exact htm)
              have hLn : ((ws.take t).drop fr).length = t - fr := by rw [List.length_drop, List.length_take, hnl.out]; omega
              have hszb := size_le (List.mem_of_getElem? hsb)
              clear hsb hA2
              have hsx : sb.size ≤ 70368744177664 := by
                have h3 := hsz.out
                omega
              clear hszb
              obtain ⟨Lo, hLo⟩ : ∃ Lo, (ws.take t).drop fr = Lo := ⟨_, rfl⟩
              obtain ⟨Lx, hLx⟩ : ∃ Lx, (ws.take t1).drop fr = Lx := ⟨_, rfl⟩
              rw [hLo] at hcell' hv' hget her hLn
              rw [hLx] at her
              have hLx' := veil hLx
              obtain ⟨n, hn⟩ : ∃ n : Nat, t1 - fr = n := ⟨_, rfl⟩
              have hLxn : Lx.length = n := by rw [← hLx, List.length_drop, List.length_take, hnl.out]; omega
              have e6v : Veil (IntKind.i64.wrap ((t1 : Int) - fr) = n) := veil (by rw [iwrapE (by unfold Int64; omega)]; omega)
              have e6w : Veil (wrap64 ((t1 : Int) - fr) = n) := veil (by unfold wrap64; omega)
              clear hLo hLx
              obtain ⟨RB, hRB⟩ : ∃ R, bulkL sb = R := ⟨_, rfl⟩
              have hRB9 : RB.length ≤ 9223372036854775807 := by rw [← hRB]; exact bulkL_len _ hsx
              obtain ⟨RL, hRL⟩ : ∃ R, lineL ⟨#[58]⟩ (numS (n : Int)) = R := ⟨_, rfl⟩
              have hRL9 : RL.length ≤ 9223372036854775807 := by rw [← hRL, line_len]; have := numS_size (n : Int) (by omega) (by omega); omega
              have hI : Int64 (n : Int) := ⟨by omega, by omega⟩
              obtain ⟨mo, hmo⟩ : ∃ mo, lvS Lo v = mo := ⟨_, rfl⟩
              rw [hmo] at hcell'
              have hmso : mo.size = 5 := by rw [← hmo]; exact lvS_size _ _
              have hmoe := veil hmo
              clear hmo
              have hGlt : w1.heap.size < wr.heap.size := (Array.getElem?_eq_some_iff.1 hcell'.out).1
              have hRBv := veil hRB
              have hRLv := veil hRL
              have hgetv := veil hget
              have herv := veil her
              have hLnv := veil hLn
              have hLxv := veil hLxn
              have hRB9v := veil hRB9
              have hRL9v := veil hRL9
              have hIv := veil hI
              have hsxv := veil hsx
              have hnv := veil hn
              clear hRB hRL hget her hLn hLxn hRB9 hRL9 hI hsx hn ht1 hft1
              have L4 := hcell'.out
              have hbit := hbit'.out
              go_wp2_with (refine wpList_load_row rfl tV _ rfl w1.heap.size rfl tV (mo) (0, 0) _ L4 Tryz.underlying28 rfl (by rw [hmso]; exact info28) ?_)
              clear L4 hbit
              obtain ⟨wt, hw16⟩ : ∃ W : World, W = wr.alloc (.cells #[.string ⟨#[114, 112, 111, 112]⟩, .string ⟨#[107]⟩] 9) := ⟨_, rfl⟩
              rw [← hw16]
              have hb16 : Below wr.heap.size wr wt := by rw [hw16]; exact below_alloc (Below.refl _ _) _
              have ha16 : tR wt (.slice (some ⟨wr.heap.size, 0, none⟩) 2 2) [⟨#[114, 112, 111, 112]⟩, ⟨#[107]⟩] := tR_lit [⟨#[114, 112, 111, 112]⟩, ⟨#[107]⟩] 2 rfl (by rw [hw16]; exact heap_alloc_last wr _) (by simp)
              have hs16 := hb16.size
              have hB_17 := veil (two_below hbr'.out (hb16))
              have hc_17 := veil (((hb16).block _ (by omega)).trans hcell'.out)
              have hv_17 := veil (hv'.out.below (hb16))
              clear hbr' hcell' hv'
              clear hb16 hw16
              have hRB := hRBv.out
              have hRL := hRLv.out
              have hget := hgetv.out
              have her := herv.out
              have hLn := hLnv.out
              have hLxn := hLxv.out
              have hRB9 := hRB9v.out
              have hRL9 := hRL9v.out
              have hI := hIv.out
              have hsx := hsxv.out
              have hn := hnv.out
              have ht1 := ht1v.out
              have hft1 := hft1v.out
              have hdo := do_popV true ⟨#[114, 112, 111, 112]⟩ sb v Lo [⟨#[114, 112, 111, 112]⟩, ⟨#[107]⟩] (some ⟨wr.heap.size, 0, none⟩) 2 wt hv_17.out ha16 (by decide) rfl (by decide) low_rpop hget (by omega) hsx (tabs_below hT'.out hB_17.out)
              rw [hmoe.out, her, hRB] at hdo
              refine hdo.mono ?_
              rintro e w7 ⟨v7, Ar7, nr7, cr7, rfl, ho7, hf7, hb7⟩
              have hs7 := hb7.size
              have hB_18 := veil (two_below hB_17.out (hb7))
              have hc_18 := veil (((hb7).block _ (by omega)).trans hc_17.out)
              clear hB_17 hc_17
              have hv71 := veil (or_one ho7)
              have ho7' := veil ho7
              obtain ⟨mn7, hmn⟩ : ∃ mv, lvS Lx v7 = mv := ⟨_, rfl⟩
              rw [hmn]
              have hmns : mn7.size = 5 := by rw [← hmn]; exact lvS_size _ _
              have hmno : mn7.all (·.oneCell') = true := by rw [← hmn]; exact lvS_oneV _ _ hv71.out
              have hmn' := veil hmn
              have hrd7 := veil (hf7.reads (by rw [← hf7.len]; exact hRB9))
              clear hdo hmn ho7 hf7 hb7 ha16 her hget
              have hN := newV mn7 w7
              have hg := hN.cell
              clear hN
              go_wp2_with (first | (refine wpList_store_row rfl tV _ _ rfl w7.heap.size mn7 rfl rfl tV zS (heap_alloc_last w7 _) (by rw [hmns]; exact info28) hmns.symm hmno ?_) | (refine wpList_load_row rfl tV _ rfl w7.heap.size rfl tV (mn7) (0, 0) _ hg Tryz.underlying28 rfl (by rw [hmns]; exact info28) ?_))
              clear hg
              obtain ⟨b19, hb19⟩ : ∃ b19 : World, b19 = (w7.alloc (.cells #[.int .u8 0, .string ⟨#[]⟩, .slice none 0 0, .slice none 0 0, .slice none 0 0] tV)).setRow w7.heap.size (mn7) := ⟨_, rfl⟩
              have hN19 := newV (mn7) w7
              rw [← hb19] at hN19 ⊢
              have hsN19 := hN19.sz
              have hB_20 := veil (two_below hB_18.out (hN19.bel))
              have hc_20 := veil (((hN19.bel).block _ (by omega)).trans hc_18.out)
              have ho_20 := veil (own_move ho7'.out (fun k hk => (hN19.bel).block k (own_lt ho7'.out k hk)))
              have hrb_20 := veil (hrd7.out.below (hN19.bel))
              clear hB_18 hc_18 ho7' hrd7
              have hhw_n := veil hN19.cell
              clear hb19 hN19
              obtain ⟨wt2, hw21⟩ : ∃ W : World, W = b19.alloc (.cells #[.string ⟨#[108, 108, 101, 110]⟩, .string ⟨#[107]⟩] 9) := ⟨_, rfl⟩
              rw [← hw21]
              have hb21 : Below b19.heap.size b19 wt2 := by rw [hw21]; exact below_alloc (Below.refl _ _) _
              have ha21 : tR wt2 (.slice (some ⟨b19.heap.size, 0, none⟩) 2 2) [⟨#[108, 108, 101, 110]⟩, ⟨#[107]⟩] := tR_lit [⟨#[108, 108, 101, 110]⟩, ⟨#[107]⟩] 2 rfl (by rw [hw21]; exact heap_alloc_last b19 _) (by simp)
              have hs21 := hb21.size
              have hB_22 := veil (two_below hB_20.out (hb21))
              have hc_22 := veil (((hb21).block _ (by omega)).trans hc_20.out)
              have ho_22 := veil (own_move ho_20.out (fun k hk => (hb21).block k (own_lt ho_20.out k hk)))
              have hrb_22 := veil (hrb_20.out.below (hb21))
              have hw_22 := veil (((hb21).block _ (by omega)).trans hhw_n.out)
              clear hB_20 hc_20 ho_20 hrb_20 hhw_n
              clear hb21 hw21
              rw [hsN19] at ha21
              have hdo := do_llenV ⟨#[108, 108, 101, 110]⟩ v7 Lx [⟨#[108, 108, 101, 110]⟩, ⟨#[107]⟩] (some ⟨w7.heap.size + 1, 0, none⟩) 2 wt2 (tR_own ho_22.out) ha21 (by decide) rfl (by decide) low_llen (by omega) (tabs_below hT'.out hB_22.out)
              rw [hmn'.out, hLxn, hRL] at hdo
              refine hdo.mono ?_
              rintro e w8 ⟨Ar8, nr8, cr8, rfl, hf8, hb8⟩
              have hs8 := hb8.size
              have hB_23 := veil (two_below hB_22.out (hb8))
              have hc_23 := veil (((hb8).block _ (by omega)).trans hc_22.out)
              have ho_23 := veil (own_move ho_22.out (fun k hk => (hb8).block k (own_lt ho_22.out k hk)))
              have hrb_23 := veil (hrb_22.out.below (hb8))
              have hw_23 := veil (((hb8).block _ (by omega)).trans hw_22.out)
              clear hB_22 hc_22 ho_22 hrb_22 hw_22
              have hrd8 := veil (hf8.reads (by rw [← hf8.len]; exact hRL9))
              clear hdo hf8 hb8 ha21
              go_wp2_with (refine wpList_store_row rfl tV _ _ rfl w8.heap.size mn7 rfl rfl tV zS (heap_alloc_last w8 _) (by rw [hmns]; exact info28) hmns.symm hmno ?_)
              obtain ⟨b24, hb24⟩ : ∃ b24 : World, b24 = (w8.alloc (.cells #[.int .u8 0, .string ⟨#[]⟩, .slice none 0 0, .slice none 0 0, .slice none 0 0] tV)).setRow w8.heap.size (mn7) := ⟨_, rfl⟩
              have hN24 := newV (mn7) w8
              rw [← hb24] at hN24 ⊢
              have hsN24 := hN24.sz
              have hB_25 := veil (two_below hB_23.out (hN24.bel))
              have hc_25 := veil (((hN24.bel).block _ (by omega)).trans hc_23.out)
              have ho_25 := veil (own_move ho_23.out (fun k hk => (hN24.bel).block k (own_lt ho_23.out k hk)))
              have hrb_25 := veil (hrb_23.out.below (hN24.bel))
              have hw_25 := veil (((hN24.bel).block _ (by omega)).trans hw_23.out)
              have hrl_25 := veil (hrd8.out.below (hN24.bel))
              clear hB_23 hc_23 ho_23 hrb_23 hw_23 hrd8
              have hhx_n := veil hN24.cell
              clear hb24 hN24
              have e6 := e6v.out
              have e6' := e6w.out
              refine Rel.wp_region_rel (n := 126) [Rel.rd RB, Rel.is (.string (strOfNums RB)), Rel.is (.string sb), Rel.rd RB, Rel.is (.string (strOfNums RB)), Rel.is (.bool false), Rel.is (.bool false), Rel.rd RL, Rel.is (.string (strOfNums RL)), Rel.is (.int .i64 t1), Rel.is (.int .i64 fr), Rel.is (.int .i64 n), Rel.rd RL, Rel.is (.string (strOfNums RL)), Rel.is (.bool false), Rel.is (.bool false)] (by kernel_rfl) (by rfl) (by kernel_rfl) ?_ ?_
              · refine Rel.steps_cons (Rel.step_rdB (n := 126) (t := 16) (A := Ar7) (m := nr7) (c := cr7) rfl (.inl rfl) rfl rfl (by kernel_rfl) hrb_25.out rfl) ?_
                refine Rel.steps_cons (Rel.step_strB (n := 126) (j := 0) (t := 90) rfl (.inl rfl) rfl Tryz.underlying29 Tryz.underlying5 Tryz.underlying9 rfl rfl rfl rfl) ?_
                refine Rel.steps_cons (Rel.step_wasB (n := 126) (t := 14) rfl (.inl rfl) (.inl rfl) rfl (by kernel_rfl) rfl) ?_
                refine Rel.steps_cons (Rel.step_callB (n := 126) rfl (.inl rfl) Tryz.func10 (by kernel_rfl) rfl #[.string sb] rfl (fun b w D => by simp only [List.map_toArray, List.map_cons, List.map_nil, show b.eval (.tmp 92) = .string sb from D.is 2 92 rfl rfl rfl]) (fun w' hb' => YBulk_rd hRB hRB9 hsx w')) ?_
                refine Rel.steps_cons (Rel.step_strB (n := 126) (j := 3) (t := 93) rfl (.inl rfl) rfl Tryz.underlying29 Tryz.underlying5 Tryz.underlying9 rfl rfl rfl rfl) ?_
                refine Rel.steps_cons (Rel.step_texts (n := 126) (j := 1) (t := 91) (j2 := 4) (t2 := 94) rfl (.inl rfl) rfl Tryz.underlying9 rfl rfl rfl rfl rfl rfl (.inr ⟨rfl, (by rw [decide_eq_true rfl]; rfl)⟩) rfl) ?_
                refine Rel.steps_cons (Rel.step_passB (n := 126) (j := 5) (t := 95) rfl (.inl rfl) (.inl rfl) rfl rfl rfl rfl) ?_
                refine Rel.steps_cons (Rel.step_rdB (n := 126) (t := 18) (A := Ar8) (m := nr8) (c := cr8) rfl (.inr ⟨6, 96, false, rfl, rfl, rfl, by decide, rfl⟩) rfl rfl (by kernel_rfl) hrl_25.out rfl) ?_
                refine Rel.steps_cons (Rel.step_strB (n := 126) (j := 7) (t := 97) rfl (.inr ⟨6, 96, false, rfl, rfl, rfl, by decide, rfl⟩) rfl Tryz.underlying29 Tryz.underlying5 Tryz.underlying9 rfl rfl rfl rfl) ?_
                refine Rel.steps_cons (Rel.step_wasB (n := 126) (t := 11) rfl (.inr ⟨6, 96, false, rfl, rfl, rfl, by decide, rfl⟩) (.inl rfl) rfl (by kernel_rfl) rfl) ?_
                refine Rel.steps_cons (Rel.step_wasB (n := 126) (t := 10) rfl (.inr ⟨6, 96, false, rfl, rfl, rfl, by decide, rfl⟩) (.inl rfl) rfl (by kernel_rfl) rfl) ?_
                refine Rel.steps_cons (Rel.step_run2 (n := 126) (j := 9) (t := 99) (j2 := 10) (t2 := 100) rfl (.inr ⟨6, 96, false, rfl, rfl, rfl, by decide, rfl⟩) rfl rfl rfl rfl rfl rfl (fun ρ w' hb h1 h2 hk => by simp [execOp, h1, h2, hk, go_sem, e6, e6']) rfl) ?_
                refine Rel.steps_cons (Rel.step_callB (n := 126) rfl (.inr ⟨6, 96, false, rfl, rfl, rfl, by decide, rfl⟩) Tryz.func9 (by kernel_rfl) rfl #[.int .i64 n] rfl (fun b w D => by simp only [List.map_toArray, List.map_cons, List.map_nil, show b.eval (.tmp 101) = .int .i64 n from D.is 11 101 rfl rfl rfl]) (fun w' hb' => YInt_rd hRL hRL9 hI w')) ?_
                refine Rel.steps_cons (Rel.step_strB (n := 126) (j := 12) (t := 102) rfl (.inr ⟨6, 96, false, rfl, rfl, rfl, by decide, rfl⟩) rfl Tryz.underlying29 Tryz.underlying5 Tryz.underlying9 rfl rfl rfl rfl) ?_
                refine Rel.steps_cons (Rel.step_texts (n := 126) (j := 8) (t := 98) (j2 := 13) (t2 := 103) rfl (.inr ⟨6, 96, false, rfl, rfl, rfl, by decide, rfl⟩) rfl Tryz.underlying9 rfl rfl rfl rfl rfl rfl (.inr ⟨rfl, (by rw [decide_eq_true rfl]; rfl)⟩) rfl) ?_
                refine Rel.steps_cons (Rel.step_run2 (n := 126) (j := 6) (t := 96) (j2 := 14) (t2 := 104) rfl (.inl rfl) rfl rfl rfl rfl rfl rfl (fun ρ w' _ h1 h2 hk => by simp [execOp, h1, h2, hk, asBool]) rfl) ?_
                exact trivial
              clear e6 e6'
              intro vr wz hvr hbz
              have ez : vr 15 = .bool false := hvr 15 (by decide)
              have hsz1 := hbz.size
              have hB_26 := veil (two_below hB_25.out (hbz))
              have hc_26 := veil (((hbz).block _ (by omega)).trans hc_25.out)
              have ho_26 := veil (own_move ho_25.out (fun k hk => (hbz).block k (own_lt ho_25.out k hk)))
              have hw_26 := veil (((hbz).block _ (by omega)).trans hw_25.out)
              clear hB_25 hc_25 ho_25 hw_25
              simp only [Rel.fill, Act.put, List.setIfInBounds_toArray, List.set_cons_zero, List.set_cons_succ]
              rw [ez]
              clear hbz hvr ez
              have L1 := hw_26.out
              have L2 := hc_26.out
              have kk := veil (show ((i : Int) + 1) = ((i + 1 : Nat) : Int) by omega)
              have kt := veil (show (t : Int) - 1 = (t1 : Int) by omega)
              have kf := veil (show ((fr : Int) + 1) = ((fr + 1 : Nat) : Int) by omega)
              have e5 := hIFv.out
              have e5' := hIFw.out
              go_wp2_with (first | (refine wpList_load_row rfl tV _ rfl w7.heap.size rfl tV (mn7) (0, 0) _ L1 Tryz.underlying28 rfl (by rw [hmns]; exact info28) ?_) | (refine wpList_store_row rfl tV _ _ rfl (w1.heap.size) mn7 rfl rfl tV mo L2 (by rw [hmns]; exact info28) (by rw [hmso, hmns]) hmno ?_))
              clear e5 e5'
              have hcz := veil (setRow_heap wz w1.heap.size mo mn7 tV (0, 0) L2)
              have hvz := veil (tR_own (own_setRow (mv := mn7) ho_26.out L2))
              have hBz := veil (below_setRow hB_26.out w1.heap.size mn7 hGw)
              clear L1 L2
              go_roundw
              case rel => exact ⟨fr, t1, i + 1, v7, by omega, by omega, by omega, rfl, rfl, congrArg (Value.int .i64) kk.out, by rw [hLx'.out, hmn'.out]; exact hcz.out, by rw [hLx'.out]; exact hvz.out, hv71.out, by have h := hBz.out.size; simp only [World.setRow, Array.size_modify] at h ⊢; omega, hBz.out⟩
              case measure => simp [intOf]; omega
          · obtain rfl : fr = t := by omega
            have hnil : (ws.take fr).drop fr = [] := List.drop_eq_nil_of_le (by rw [List.length_take]; omega)
            rw [hnil] at hcell' hv'
            clear hnil
            obtain ⟨mo, hmo⟩ : ∃ mo, lvS [] v = mo := ⟨_, rfl⟩
            rw [hmo] at hcell'
            have hmso : mo.size = 5 := by rw [← hmo]; exact lvS_size _ _
            have hmoo : mo.all (·.oneCell') = true := by rw [← hmo]; exact lvS_oneV _ _ hv1'.out
            have hk0 : mo[0]? = some (.int .u8 0) := by rw [← hmo]; rfl
            have hmoe := veil hmo
            clear hmo
            have L4 := hcell'.out
            go_wp2_with (refine wpList_load_row rfl tV _ rfl w1.heap.size rfl tV (mo) (0, 0) _ L4 Tryz.underlying28 rfl (by rw [hmso]; exact info28) ?_)
            clear L4
            obtain ⟨wt, hw27⟩ : ∃ W : World, W = wr.alloc (.cells #[.string ⟨#[108, 112, 111, 112]⟩, .string ⟨#[107]⟩] 9) := ⟨_, rfl⟩
            rw [← hw27]
            have hb27 : Below wr.heap.size wr wt := by rw [hw27]; exact below_alloc (Below.refl _ _) _
            have ha27 : tR wt (.slice (some ⟨wr.heap.size, 0, none⟩) 2 2) [⟨#[108, 112, 111, 112]⟩, ⟨#[107]⟩] := tR_lit [⟨#[108, 112, 111, 112]⟩, ⟨#[107]⟩] 2 rfl (by rw [hw27]; exact heap_alloc_last wr _) (by simp)
            have hs27 := hb27.size
            have hB_28 := veil (two_below hbr'.out (hb27))
            have hc_28 := veil (((hb27).block _ (by omega)).trans hcell'.out)
            clear hbr' hcell'
            clear hb27 hw27
            have hdo := do_popZ false ⟨#[108, 112, 111, 112]⟩ v [⟨#[108, 112, 111, 112]⟩, ⟨#[107]⟩] (some ⟨wr.heap.size, 0, none⟩) 2 wt ha27 (by decide) rfl (by decide) low_lpop (tabs_below hT'.out hB_28.out)
            rw [hmoe.out] at hdo
            refine hdo.mono ?_
            rintro e w8 ⟨Ar, nr, cr, rfl, hf8, hb8⟩
            have hs8 := hb8.size
            have hB_29 := veil (two_below hB_28.out (hb8))
            have hc_29 := veil (((hb8).block _ (by omega)).trans hc_28.out)
            clear hB_28 hc_28
            have hnr := veil (hf8.reads (by rw [← hf8.len]; decide +kernel))
            clear hf8 hb8 hdo ha27
            go_wp2_with (refine wpList_store_row rfl tV _ _ rfl w8.heap.size mo rfl rfl tV zS (heap_alloc_last w8 _) (by rw [hmso]; exact info28) hmso.symm hmoo ?_)
            obtain ⟨b30, hb30⟩ : ∃ b30 : World, b30 = (w8.alloc (.cells #[.int .u8 0, .string ⟨#[]⟩, .slice none 0 0, .slice none 0 0, .slice none 0 0] tV)).setRow w8.heap.size (mo) := ⟨_, rfl⟩
            have hN30 := newV (mo) w8
            rw [← hb30] at hN30 ⊢
            have hsN30 := hN30.sz
            have hB_31 := veil (two_below hB_29.out (hN30.bel))
            have hc_31 := veil (((hN30.bel).block _ (by omega)).trans hc_29.out)
            have hrd_31 := veil (hnr.out.below (hN30.bel))
            clear hB_29 hc_29 hnr
            have hhc2_n := veil hN30.cell
            clear hb30 hN30
            refine Rel.wp_region_rel (n := 126) [Rel.is (.bool true), Rel.is (.bool true), Rel.is (.pointer (some ⟨w1.heap.size, 0, none⟩)), Rel.is (.int .u8 0), Rel.is (.bool true), Rel.is (.bool true), Rel.is (.bool true), Rel.rd (lineL ⟨#[36]⟩ ⟨#[45, 49]⟩), Rel.is (.string (strOfNums (lineL ⟨#[36]⟩ ⟨#[45, 49]⟩))), Rel.rd (lineL ⟨#[36]⟩ ⟨#[45, 49]⟩), Rel.is (.string (strOfNums (lineL ⟨#[36]⟩ ⟨#[45, 49]⟩))), Rel.is (.bool true), Rel.is (.bool true), Rel.is (.bool true)] (by kernel_rfl) (by rfl) (by kernel_rfl) ?_ ?_
            · refine Rel.steps_cons (Rel.step_wasB (n := 126) (t := 5) rfl (.inl rfl) (.inl rfl) rfl (by kernel_rfl) rfl) ?_
              refine Rel.steps_cons (Rel.step_passB (n := 126) (j := 0) (t := 113) rfl (.inl rfl) (.inl rfl) rfl rfl rfl rfl) ?_
              refine Rel.steps_cons (Rel.step_run0 (n := 126) (t := 6) (v := .pointer (some ⟨w1.heap.size, 0, none⟩)) rfl (.inr ⟨1, 114, true, rfl, rfl, rfl, by decide, rfl⟩) rfl (by kernel_rfl) (fun ρ w' hb h1 hk => by simp [execOp, h1, hk, go_sem, Addr.add]) rfl) ?_
              refine Rel.steps_cons (Rel.step_cell (n := 126) (j := 2) (t := 115) rfl (.inr ⟨1, 114, true, rfl, rfl, rfl, by decide, rfl⟩) rfl rfl rfl rfl Tryz.underlying5 (.inr (.inr (.inl ⟨_, rfl⟩))) (by rw [cell_of_row _ _ _ _ _ _ hc_31.out]; exact hk0) rfl) ?_
              refine Rel.steps_cons (Rel.step_run1 (n := 126) (j := 3) (t := 116) rfl (.inr ⟨1, 114, true, rfl, rfl, rfl, by decide, rfl⟩) rfl rfl rfl (fun ρ w' hb h1 hk => by simp [execOp, h1, hk, go_sem]) rfl) ?_
              refine Rel.steps_cons (Rel.step_run2 (n := 126) (j := 1) (t := 114) (j2 := 4) (t2 := 117) rfl (.inl rfl) rfl rfl rfl rfl rfl rfl (fun ρ w' _ h1 h2 hk => by simp [execOp, h1, h2, hk, asBool]) rfl) ?_
              refine Rel.steps_cons (Rel.step_passB (n := 126) (j := 5) (t := 118) rfl (.inl rfl) (.inl rfl) rfl rfl rfl rfl) ?_
              refine Rel.steps_cons (Rel.step_rdB (n := 126) (t := 20) (A := Ar) (m := nr) (c := cr) rfl (.inr ⟨6, 119, true, rfl, rfl, rfl, by decide, rfl⟩) rfl rfl (by kernel_rfl) hrd_31.out rfl) ?_
              refine Rel.steps_cons (Rel.step_strB (n := 126) (j := 7) (t := 120) rfl (.inr ⟨6, 119, true, rfl, rfl, rfl, by decide, rfl⟩) rfl Tryz.underlying29 Tryz.underlying5 Tryz.underlying9 rfl rfl rfl rfl) ?_
              refine Rel.steps_cons (Rel.step_callB (n := 126) rfl (.inr ⟨6, 119, true, rfl, rfl, rfl, by decide, rfl⟩) Tryz.func11 (by kernel_rfl) rfl #[] rfl (fun b w D => by simp) (fun w' hb' => rdB (by decide +kernel) (YNull_any w'))) ?_
              refine Rel.steps_cons (Rel.step_strB (n := 126) (j := 9) (t := 122) rfl (.inr ⟨6, 119, true, rfl, rfl, rfl, by decide, rfl⟩) rfl Tryz.underlying29 Tryz.underlying5 Tryz.underlying9 rfl rfl rfl rfl) ?_
              refine Rel.steps_cons (Rel.step_texts (n := 126) (j := 8) (t := 121) (j2 := 10) (t2 := 123) rfl (.inr ⟨6, 119, true, rfl, rfl, rfl, by decide, rfl⟩) rfl Tryz.underlying9 rfl rfl rfl rfl rfl rfl (.inl ⟨rfl, (decide_eq_true rfl).symm⟩) rfl) ?_
              refine Rel.steps_cons (Rel.step_run2 (n := 126) (j := 6) (t := 119) (j2 := 11) (t2 := 124) rfl (.inl rfl) rfl rfl rfl rfl rfl rfl (fun ρ w' _ h1 h2 hk => by simp [execOp, h1, h2, hk, asBool]) rfl) ?_
              refine Rel.steps_cons (Rel.step_passB (n := 126) (j := 12) (t := 125) rfl (.inl rfl) (.inr rfl) rfl rfl rfl rfl) ?_
              exact trivial
            intro v9 wz hv9 hbz
            have ez : v9 13 = .bool true := hv9 13 (by decide)
            have hBz := veil (two_below hB_31.out hbz)
            simp only [Rel.fill, Act.put, List.setIfInBounds_toArray, List.set_cons_zero, List.set_cons_succ]
            rw [ez]
            clear hbz hv9 ez
            go_wp2_with fail
            go_ret
            exact ⟨rfl, hBz.out⟩
theorem backl_walk (A : Option Addr) (cap : Nat) (l : List ByteArray) (x : Int) (W : World) (hr : Kd.C Kd.string W A l.length l) (hc : l.length ≤ cap) (hs : (l.map (·.size)).sum + l.length ≤ 1048576) (hx : (Lit.int .u16 x).wf = true) (hT : Tabs W) :
    Calls Tryz.prog 3 #[.slice A l.length cap, .int .u16 x] W fun e w' => e = .returned (.bool true) ∧ Below W.heap.size W w' :=
  backl_any A cap l x W (Kd.reads_of_C (enc := Value.string) (d := ByteArray.empty) (h1 := fun _ => rfl) hr) hc (wfu16 hx) (by show (l.map (·.size)).sum ≤ _; omega) hT
end Go.Proofs.Tryz.Ln
