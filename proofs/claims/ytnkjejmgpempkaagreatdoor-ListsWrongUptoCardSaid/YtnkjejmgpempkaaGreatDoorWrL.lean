import Derived.Test.YtnkjejmgpempkaaGreatDoorWrG
import Derived.Test.YtnkjejmgpempkaaGreatDoorLsI
/- A request of a command of this layer, of any words: do. -/
namespace Go.Proofs.Tryz.Vl
open Go Go.RowKit Go.Proofs.Mem Go.Proofs.App
open Go.Proofs.YtnkjejmgpempkaaGreatDoorW.PrintWords Go.Proofs.YtnkjejmgpempkaaGreatDoorW.PrintLast
open Go.Proofs.Rel (dsts depsOf)
open Go.Proofs.Tryz.Ln (tR TR lineL)
set_option linter.unusedVariables false
set_option linter.unusedSimpArgs false
section
variable {P : Program} {Q : Exit → Act → World → Prop} {l : List Oper} {G : RelG.Ord} {rs : List (RelG.Rl G)} {a : Act} {n : Nat} {w0 : World}
theorem step_callV {i : Nat} {o : Oper} {f : FuncId} {fn : Func} {xs : Array Operand} {ts : Array TypeId} (hg : o.guard = none) (hf : P.funcs[f]? = some fn) (hname : (fn.name == "runtime.NumGoroutine") = false) (hb : fn.body.isSome = true)
    (hop : o.op = .call { callee := .value (.func f), args := xs, argTypes := ts })
    (h : ∀ b w, RelG.Dep l rs a w0 o b w → ∃ args, xs.map b.eval = args ∧ Calls P f args w fun e w' => ∃ x, e = .returned x ∧ (RelG.at_ rs i).r (RelG.get (b.put o.dst x)) w' ∧ G.le w w') : RelG.Step P l Q rs a w0 i o := fun b w D K hK => by
  obtain ⟨args, h1, h2⟩ := h b w D
  exact goes_ hf hname hb args (by simp [Region.wanted, hg]) rfl hop h1 (h2.mono fun e w' ⟨x, he, hr, hb⟩ => ⟨x, he, hK x w' hr hb⟩)
end
theorem run_exV0 {P : Program} {b : Act} {w : World} {o : Oper} {t : Nat} {x y : Value} (h : b.eval (.tmp t) = .tuple #[x, y]) (ho : o.op = .extract (.tmp t) 0 := by rfl) : (execOp b.eval o).run P w = .ok (.value x) w := by
  unfold execOp
  simp only [ho, h]
  simp [go_sem]
theorem run_exV1 {P : Program} {b : Act} {w : World} {o : Oper} {t : Nat} {x y : Value} (h : b.eval (.tmp t) = .tuple #[x, y]) (ho : o.op = .extract (.tmp t) 1 := by rfl) : (execOp b.eval o).run P w = .ok (.value y) w := by
  unfold execOp
  simp only [ho, h]
  simp [go_sem]
def dpR (g : Nat) (cs : Array Value) (v' : VV) (r : List Int) (same : Prop) (u : Tmp) : RelG.Rl (FldO g (Pv g cs v' same) (Pv_bel g cs v' same)) := RelG.of _ u (dP g cs v' r same) (fun x w w' ⟨c, y, h1, h2, h3, h4⟩ hle => ⟨c, y, h1, h2.kp hle.1, h3, frP_kp h4 hle.1⟩)
def vpR (g : Nat) (cs : Array Value) (v' : VV) (same : Prop) (u : Tmp) : RelG.Rl (FldO g (Pv g cs v' same) (Pv_bel g cs v' same)) := RelG.of _ u (vP g cs v' same) (fun x w w' ⟨c, h1, h2, h3⟩ hle => ⟨c, h1, h2.kp hle.1, h3⟩)
def fpR (g : Nat) (cs : Array Value) (v' : VV) (r : List Int) (same : Prop) (u : Tmp) : RelG.Rl (FldO g (Pv g cs v' same) (Pv_bel g cs v' same)) := RelG.of _ u (RelG.frP g r) (fun x w w' h hle => frP_kp h hle.1)
/-- a row of texts of one's own, behind block g -/
def txP (g : Nat) (M : List BA) (x : Value) (w : World) : Prop := ∃ base, g < base ∧ w.ownsRow base 9 1 x M.length (encs Value.string M)
def txR (g : Nat) (cs : Array Value) (v' : VV) (same : Prop) (M : List BA) (u : Tmp) : RelG.Rl (FldO g (Pv g cs v' same) (Pv_bel g cs v' same)) := RelG.of _ u (txP g M) (fun x w w' ⟨base, h1, h2⟩ hle => ⟨base, h1, Kp.own h2 h1 hle.1⟩)
set_option maxRecDepth 100000 in
set_option maxHeartbeats 8000000 in
theorem do_any (w : World) (cs : Array Value) (v v' : VV) (r : List Int) (same : Prop) (id : Int) (A : Option Addr) (n c : Nat) (M : List BA) (hcs : IsV w cs v)
    (hfit : ∀ w', Below w.heap.size w w' → Calls Tryz.prog 13 #[.int .i64 id, .slice A n c] w' fun e w'' => ∃ x, e = .returned x ∧ w''.ownsRow w'.heap.size 9 1 x M.length (encs Value.string M) ∧ Below w'.heap.size w' w'')
    (hdo : ∀ w' x, Below w.heap.size w w' → w.heap.size + 1 < w'.heap.size → tR w' x M → Calls Tryz.prog 8 #[.agg cs, x] w' (DoR (w.heap.size + 1) cs v' r same w')) :
    Calls Tryz.prog 6 #[.agg cs, .int .i64 id, .slice A n c] w (DoW cs v' r same w) := by
  obtain ⟨w2, hw2⟩ : ∃ w2 : World, w2 = (w.alloc (.cells cs vT)).alloc (.cells #[.int .u8 0, .string ⟨#[]⟩, nlv, nlv, nlv] vT) := ⟨_, rfl⟩
  have hb2 : Below w.heap.size w w2 := by rw [hw2]; exact (below_alloc (Below.refl _ _) _).alloc (by simp) _
  have hs2 : w2.heap.size = w.heap.size + 2 := by rw [hw2]; simp
  have hx2 : w2.heap[w.heap.size]? = some (.cells cs vT (0, 0)) := by rw [hw2]; exact heap_alloc2_old w _ _
  have hz2 : w2.heap[w.heap.size + 1]? = some (.cells #[.int .u8 0, .string ⟨#[]⟩, nlv, nlv, nlv] vT (0, 0)) := by
    rw [hw2]
    have h := heap_alloc_last (w.alloc (.cells cs vT)) (.cells #[.int .u8 0, .string ⟨#[]⟩, nlv, nlv, nlv] vT)
    simpa using h
  have hsz5 := veil hcs.siz
  have hone := veil hcs.one
  have hB2 := veil hb2
  have hX2 := veil hx2
  have hZ2 := veil hz2
  have hw2' := veil hw2
  have hfit' := veil hfit
  have hdo' := veil hdo
  have hgl : w.heap.size + 1 < w2.heap.size := by omega
  have hl0 : w.heap.size < w2.heap.size := by omega
  clear hb2 hs2 hx2 hz2 hw2 hfit hdo hcs
  go_enter Tryz.func6, Tryz.ntmps6
  go_wp2_with fail
  rw [← hw2'.out]
  refine RelG.wp_region_relS (G := FldO (w.heap.size + 1) (Pv (w.heap.size + 1) cs v' same) (Pv_bel _ _ _ _)) (G1 := BelV) (n := 15) (bel_fld _ _ _) 7 _ [6, 8] [RelG.is _ 8 (.agg cs), RelG.is _ 9 (.int .i64 id), RelG.is _ 10 (.slice A n c), txR _ _ _ _ M 11, dpR _ _ _ r _ 12, vpR _ _ _ _ 13, fpR _ _ _ r _ 14, RelG.wo _ (Pv (w.heap.size + 1) cs v' same) (fun W W' h hle => hle.2 h), fpR _ _ _ r _ 7] [[8], [9], [10], [11], [12], [13], [14], [], [7]] (by kernel_rfl) rfl rfl (by kernel_rfl) rfl (by kernel_rfl) ?_ ?_ ?_ ?_
  · refine RelG.stepsS_cons (RelG.step_load (n := 15) (t := 3) (u := 8) (b := w.heap.size) (t' := vT) (cs := cs) (fr := (0, 0)) rfl rfl rfl rfl (by decide) (by kernel_rfl) (by kernel_rfl) Tryz.underlying26 rfl (info5s hsz5.out) (fun w' hle => (Below.block hle _ hl0).trans hX2.out) rfl) ?_
    refine RelG.stepsS_cons (RelG.step_was (n := 15) (t := 1) (u := 9) rfl rfl rfl rfl (by decide) (by kernel_rfl) (by kernel_rfl) rfl) ?_
    refine RelG.stepsS_cons (RelG.step_was (n := 15) (t := 2) (u := 10) rfl rfl rfl rfl (by decide) (by kernel_rfl) (by kernel_rfl) rfl) ?_
    refine RelG.stepsS_cons (step_callV rfl Tryz.func13 (by kernel_rfl) rfl rfl (fun b w' D => by
        have e1 : b.eval (.tmp 9) = .int .i64 id := D.is 1 rfl rfl
        have e2 : b.eval (.tmp 10) = .slice A n c := D.is 2 rfl rfl
        refine ⟨#[.int .i64 id, .slice A n c], by simp only [List.map_toArray, List.map_cons, List.map_nil, e1, e2], (hfit'.out w' (two_below hB2.out D.bel)).mono fun e w'' ⟨x, he, ho, hb⟩ => ⟨x, he, ?_, hb⟩⟩
        show txP _ _ (RelG.get (b.put (some 11) _) 11) w''
        rw [RelG.get_put b 11 _ (by rw [D.siz]; exact (by decide : 11 < 15))]
        exact ⟨_, by have := Below.size D.bel; omega, ho⟩)) ?_
    refine RelG.stepsS_cons (step_callV rfl Tryz.func8 (by kernel_rfl) rfl rfl (fun b w' D => by
        obtain ⟨base, h1, h2⟩ := D.rel 3 rfl
        have e1 : b.eval (.tmp 8) = .agg cs := D.is 0 rfl rfl
        obtain ⟨x, hx⟩ : ∃ x, b.eval (.tmp 11) = x := ⟨_, rfl⟩
        have h2' : w'.ownsRow base 9 1 x M.length (encs Value.string M) := hx ▸ h2
        have hgt : w.heap.size + 1 < w'.heap.size := by have := Below.size D.bel; omega
        refine ⟨#[.agg cs, x], by simp only [List.map_toArray, List.map_cons, List.map_nil, e1, hx], (hdo'.out w' x (two_below hB2.out D.bel) hgt (Go.Proofs.Tryz.Ln.tR_own h2')).mono fun e w'' ⟨cs', A', n', c', he, hf, hv, hs, hb⟩ => ⟨_, he, ?_, hb⟩⟩
        show dP _ _ _ _ _ (RelG.get (b.put (some 12) _) 12) w''
        rw [RelG.get_put b 12 _ (by rw [D.siz]; exact (by decide : 12 < 15))]
        exact ⟨cs', _, rfl, hv, hs, ⟨A', n', c', _, rfl, hf, hgt⟩⟩)) ?_
    refine RelG.stepsS_cons (RelG.step_val rfl fun b w' D => by
        obtain ⟨cs', y, h1, h2, h3, h4⟩ := D.rel 4 rfl
        have e1 : b.eval (.tmp 12) = .tuple #[.agg cs', y] := h1
        exact ⟨.agg cs', run_exV0 e1, by
          show vP _ _ _ _ (RelG.get (b.put (some 13) _) 13) w'
          rw [RelG.get_put b 13 _ (by rw [D.siz]; exact (by decide : 13 < 15))]
          exact ⟨cs', rfl, h2, h3⟩⟩) ?_
    refine RelG.stepsS_cons (RelG.step_val rfl fun b w' D => by
        obtain ⟨cs', y, h1, h2, h3, h4⟩ := D.rel 4 rfl
        have e1 : b.eval (.tmp 12) = .tuple #[.agg cs', y] := h1
        exact ⟨y, run_exV1 e1, by
          show RelG.frP _ _ (RelG.get (b.put (some 14) _) 14) w'
          rw [RelG.get_put b 14 _ (by rw [D.siz]; exact (by decide : 14 < 15))]
          exact h4⟩) ?_
    refine RelG.stepsS_skip ?_
    refine RelG.stepsS_cons (RelG.step_pass_of (n := 15) (j := 6) (t := 14) (u := 7) (p := RelG.frP (w.heap.size + 1) r) (hp := fun x w w' h hle => frP_kp h (Kp.of hle)) rfl rfl (.inr rfl) rfl (by decide) rfl rfl rfl) ?_
    exact trivial
  · exact RelG.storeS_skip rfl rfl fun b w' D => by
      obtain ⟨cs', h1, h2, h3⟩ := D.rel 5 rfl
      have e2 : b.eval (.tmp 13) = .agg cs' := h1
      have e1 : b.eval (.tmp 6) = .pointer (some ⟨w.heap.size + 1, 0, none⟩) := (D.was 6 (by kernel_rfl)).trans (by kernel_rfl)
      have hgo := (Below.block D.bel _ hgl).trans hZ2.out
      have hP : Pv (w.heap.size + 1) cs v' same (w'.setRow (w.heap.size + 1) cs') := ⟨cs', setRow_heap w' _ _ cs' vT (0, 0) hgo, h2.kp (setRow_kp _), h3⟩
      refine ⟨w'.setRow (w.heap.size + 1) cs', ?_, hP, ⟨setRow_kp _, fun _ => hP⟩⟩
      unfold execOp
      simp only [e1, e2, Instr.storeAt, Instr.sureAddr, Sem.run_bind, Sem.run_pure, Result.andThen_ok, run_storeVar_row (P := Tryz.prog) w' (w.heap.size + 1) vT vT #[.int .u8 0, .string ⟨#[]⟩, nlv, nlv, nlv] cs' hgo (info5s h2.v.siz) (by rw [h2.v.siz]; rfl) h2.v.one]
  · intro i hi oo ho
    have hi2 : i = 6 ∨ i = 8 := by simpa using hi
    rcases hi2 with rfl | rfl
    rotate_left
    · obtain rfl := Option.some.inj ho
      exact RelG.pureS_val rfl fun b w' hz hn => by
        have h := hn 6 (List.contains_iff_mem.1 (by kernel_rfl))
        refine ⟨b.eval (.tmp 14), BigFrame.run_assign _ rfl w', ?_⟩
        show RelG.frP _ _ (RelG.get (b.put (some 7) _) 7) w'
        rw [RelG.get_put b 7 _ (by rw [hz]; exact (by decide : 7 < 15))]
        exact h
    obtain rfl := Option.some.inj ho
    exact RelG.pureS_val rfl fun b w' hz hn => by
      obtain ⟨cs', y, h1, h2, h3, h4⟩ := hn 4 (List.contains_iff_mem.1 (by kernel_rfl))
      have e1 : b.eval (.tmp 12) = .tuple #[.agg cs', y] := h1
      exact ⟨y, run_exV1 e1, by
        show RelG.frP _ _ (RelG.get (b.put (some 14) _) 14) w'
        rw [RelG.get_put b 14 _ (by rw [hz]; exact (by decide : 14 < 15))]
        exact h4⟩
  intro u e w9 hg hv hle
  have hPv : Pv (w.heap.size + 1) cs v' same w9 := hv 7 (by decide)
  obtain ⟨cs', hc1, hc2, hc3⟩ := hPv
  have hfr : RelG.frP (w.heap.size + 1) r (e 7) w9 := hv 8 (by decide)
  have k7 : e 7 = u 8 := hg 8 7 rfl
  rw [k7] at hfr
  have hkp : Kp (w.heap.size + 1) w2 w9 := hle.1
  simp only [Rel.fill, Act.put, List.setIfInBounds_toArray, List.set_cons_zero, List.set_cons_succ]
  have hbf := veil (Kp.below hB2.out hkp (by omega) (by omega))
  have hc1' := veil hc1
  have hc2' := veil hc2.v
  have hc3' := veil hc3
  have hfr' := veil hfr
  clear hg hv hle hc1 hc2 hc3 hfr k7 hkp
  go_wp2_with fail
  obtain ⟨A', n', c', base, ex, hf, hgb⟩ := hfr'.out
  rw [ex]
  refine bodyPost_ret (v := .tuple #[.agg cs', .slice A' n' c']) ?_ rfl ⟨cs', A', n', c', rfl, ⟨hf.len, hf.le, fun hp => ?_⟩, hc2'.out, hc3'.out, hbf.out⟩
  · exact RelG.results_cell_tmp (p := 6) (q := 7) (ty := vT) Tryz.results6 _ _ (w.heap.size + 1) vT cs' (0, 0) _ _ rfl rfl hc1'.out Tryz.underlying26 rfl (info5s hc2'.out.siz)
  · obtain ⟨b, e, h1, h2, h3, h4⟩ := hf.there hp
    exact ⟨b, e, by omega, h2, h3, h4⟩
end Go.Proofs.Tryz.Vl
/- The law of values of another type. -/
namespace Go.Proofs.Tryz.Vl
open Go Go.RowKit Go.Proofs.Mem Go.Proofs.App
open Go.Proofs.YtnkjejmgpempkaaGreatDoorW.PrintWords Go.Proofs.YtnkjejmgpempkaaGreatDoorW.PrintLast
open Go.Proofs.Tryz.Ln (tR TR lineL Tabs tabs_below WrongT)
set_option linter.unusedVariables false
set_option linter.unusedSimpArgs false
def wrongReply : BA := ⟨#[45, 87, 82, 79, 78, 71, 84, 89, 80, 69, 32, 79, 112, 101, 114, 97, 116, 105, 111, 110, 32, 97, 103, 97, 105, 110, 115, 116, 32, 97, 32, 107, 101, 121, 32, 104, 111, 108, 100, 105, 110, 103, 32, 116, 104, 101, 32, 119, 114, 111, 110, 103, 32, 107, 105, 110, 100, 32, 111, 102, 32, 118, 97, 108, 117, 101, 13, 10]⟩
theorem head45 (r : List Int) (h0 : r ≠ []) (h : r.getD 0 0 = 45) : r[0]? = some 45 := by
  cases r with
  | nil => exact absurd rfl h0
  | cons a b => simp at h; simp [h]
/-- what a layer's Do yields for a value and a request -/
def LayerOK (own : Int) (v : VV) (M : List BA) : Prop := ∃ (v' : VV) (r : List Int) (same : Prop), (∀ (g : Nat) (w' : World) (x : Value) (cs : Array Value), g < w'.heap.size → IsVg g w' cs v → tR w' x M → Tabs w' → Calls Tryz.prog 8 #[.agg cs, x] w' (DoR g cs v' r same w')) ∧ r ≠ [] ∧ r.length ≤ 70368744177664 ∧ (v.k ≠ 0 → v.k ≠ own → same ∧ r = lineL ⟨#[45]⟩ WrongT) ∧ (r[0]? = some 45 → same) ∧ (same → v' = v) ∧ v'.l.length ≤ 1000000 ∧ v'.h.length ≤ 1000000 ∧ v'.z.length ≤ 1000000
set_option maxRecDepth 100000 in
set_option maxHeartbeats 16000000 in
theorem ListsWrong_any (k : Int) (s : BA) (x y u : Value) (l : List BA) (h : List PR) (z : List MK) (q : Int) (A : Option Addr) (c : Nat) (ws : List BA) (w : World) (hk : 0 ≤ k ∧ k ≤ 255) (hx : gR w x l.length (scs l)) (hy : gR w y h.length (pcs h)) (hu : gR w u z.length (mcs z)) (hq : 0 ≤ q ∧ q ≤ 255) (hws : Kd.C Kd.string w A ws.length ws) (hc : ws.length ≤ c)
    (v : VV) (hv : fitV k s l h z = v) (hvl : v.l.length ≤ 1000000 ∧ v.h.length ≤ 1000000 ∧ v.z.length ≤ 1000000) (nm : BA) (ar cg : Int) (hat : Go.Proofs.Tryz.Cmd.atF (9 + q % 6) = some (nm, ar, cg, true)) (hmn : ¬ nm.toList = [109, 115, 101, 116]) (har : ar ≠ 0 ∧ -10 ≤ ar ∧ ar ≤ 10) (hL : LayerOK 2 v (fit8 nm ar ws)) (hT : Tabs w) :
    Calls Tryz.prog 3 #[.agg #[.int .u8 k, .string s, x, y, u], .int .u8 q, .slice A ws.length c] w fun e w' => e = .returned (.bool true) ∧ Below w.heap.size w w' := by
  obtain ⟨v', r, same, hdo, hr0, hrl, hwr, hre, hsv, hl1, hl2, hl3⟩ := hL
  obtain ⟨hvl1, hvl2, hvl3⟩ := hvl
  have hqm : Int.tmod q 6 = q % 6 := Int.tmod_eq_emod_of_nonneg hq.1
  have hq6 : 0 ≤ q % 6 ∧ q % 6 < 6 := ⟨Int.emod_nonneg _ (by decide), Int.emod_lt_of_pos _ (by decide)⟩
  obtain ⟨wB, hwB⟩ : ∃ wB : World, wB = w.alloc (.cells #[.int .u8 k, .string s, x, y, u] vT) := ⟨_, rfl⟩
  have hbB : Below w.heap.size w wB := by rw [hwB]; exact below_alloc (Below.refl _ _) _
  have hsB : wB.heap.size = w.heap.size + 1 := by rw [hwB]; simp
  have hpB : wB.heap[w.heap.size]? = some (.cells #[.int .u8 k, .string s, x, y, u] vT (0, 0)) := by rw [hwB]; exact heap_alloc_new w _
  have hx' := veil hx
  have hy' := veil hy
  have hu' := veil hu
  have hws' := veil hws
  have hT' := veil hT
  have hbB' := veil hbB
  have hsB' := veil hsB
  have hpB' := veil hpB
  have hwB' := veil hwB
  have hdo' := veil hdo
  have hr0' := veil hr0
  have hwr' := veil hwr
  have hre' := veil hre
  have hsv' := veil hsv
  have hat' := veil hat
  have hv' := veil hv
  clear hx hy hu hws hT hbB hsB hpB hwB hdo hr0 hwr hre hsv hat hv
  go_enter Tryz.func3, Tryz.ntmps3
  go_wp2_with fail
  rw [← hwB'.out]
  refine (Go.Proofs.Tryz.Ln.shown12_any wB (tabs_below hT'.out hbB'.out)).mono ?_
  rintro e w1 ⟨rfl, hb1⟩
  have hB1 := veil (two_below hbB'.out hb1)
  have hp1 := (hb1.block _ (by have := hsB'.out; omega)).trans hpB'.out
  have hp1' := veil hp1
  have hs1 := veil (show w.heap.size + 1 ≤ w1.heap.size by have := hb1.size; have := hsB'.out; omega)
  clear hb1
  have hp1c0 : (w1).cell? ⟨w.heap.size, 0, none⟩ = some (.int .u8 k) := by rw [cell_of_row _ _ _ _ _ _ hp1]; rfl
  have hp1c1 : (w1).cell? ⟨w.heap.size, 1, none⟩ = some (.string s) := by rw [cell_of_row _ _ _ _ _ _ hp1]; rfl
  have hp1c2 : (w1).cell? ⟨w.heap.size, 2, none⟩ = some (x) := by rw [cell_of_row _ _ _ _ _ _ hp1]; rfl
  have hp1c3 : (w1).cell? ⟨w.heap.size, 3, none⟩ = some (y) := by rw [cell_of_row _ _ _ _ _ _ hp1]; rfl
  have hp1c4 : (w1).cell? ⟨w.heap.size, 4, none⟩ = some (u) := by rw [cell_of_row _ _ _ _ _ _ hp1]; rfl
  clear hp1
  go_wp2_with fail
  refine (Fit_any k s x y u l h z w1 hk (hx'.out.below hB1.out) (hy'.out.below hB1.out) (hu'.out.below hB1.out)).mono ?_
  rintro e w2 ⟨cs1, rfl, hv1, hb2⟩
  rw [hv'.out] at hv1
  obtain ⟨x1, y1, u1, rfl, g1, g2, g3⟩ := hv1.ex
  clear hp1c0 hp1c1 hp1c2 hp1c3 hp1c4
  have hB2 := veil (two_below hB1.out hb2)
  obtain ⟨wA, hwA⟩ : ∃ wA : World, wA = w2.alloc (.cells #[.int .u8 v.k, .string v.s, x1, y1, u1] vT) := ⟨_, rfl⟩
  have hbA : Below w2.heap.size w2 wA := by rw [hwA]; exact below_alloc (Below.refl _ _) _
  have hgA : wA.heap[w2.heap.size]? = some (.cells #[.int .u8 v.k, .string v.s, x1, y1, u1] vT (0, 0)) := by rw [hwA]; exact heap_alloc_new w2 _
  have hpA : wA.heap[w.heap.size]? = some (.cells #[.int .u8 k, .string s, x, y, u] vT (0, 0)) := ((two_below hb2 hbA).block _ (by have := hs1.out; omega)).trans hp1'.out
  have hBA := veil (two_below hB2.out hbA)
  have hsA : Veil (wA.heap.size = w2.heap.size + 1) := veil (by rw [hwA]; simp)
  have hs2 := veil (show w1.heap.size ≤ w2.heap.size from hb2.size)
  have g1A := veil (g1.below hbA)
  have g2A := veil (g2.below hbA)
  have g3A := veil (g3.below hbA)
  have hvV1 : Veil (IsV wA #[.int .u8 v.k, .string v.s, x1, y1, u1] v) := veil (hv1.below hbA)
  have hone1 := veil hv1.one
  have hpAc0 : (wA).cell? ⟨w.heap.size, 0, none⟩ = some (.int .u8 k) := by rw [cell_of_row _ _ _ _ _ _ hpA]; rfl
  have hpAc1 : (wA).cell? ⟨w.heap.size, 1, none⟩ = some (.string s) := by rw [cell_of_row _ _ _ _ _ _ hpA]; rfl
  have hpAc2 : (wA).cell? ⟨w.heap.size, 2, none⟩ = some (x) := by rw [cell_of_row _ _ _ _ _ _ hpA]; rfl
  have hpAc3 : (wA).cell? ⟨w.heap.size, 3, none⟩ = some (y) := by rw [cell_of_row _ _ _ _ _ _ hpA]; rfl
  have hpAc4 : (wA).cell? ⟨w.heap.size, 4, none⟩ = some (u) := by rw [cell_of_row _ _ _ _ _ _ hpA]; rfl
  have hgA' := veil hgA
  have hpA' := veil hpA
  have hwA' := veil hwA
  clear hb2 hbA hgA hpA g1 g2 g3 hv1
  rw [hwA] at hpAc0 hpAc1 hpAc2 hpAc3 hpAc4
  clear hwA
  go_wp2_with (refine wpList_store_new rfl vT _ _ rfl #[.int .u8 v.k, .string v.s, x1, y1, u1] #[.int .u8 0, .string ⟨#[]⟩, nlv, nlv, nlv] vT rfl rfl (info5v _ _ _ _ _) rfl hone1.out ?_)
  clear hpAc0 hpAc1 hpAc2 hpAc3 hpAc4
  rw [← hwA'.out]
  refine (Fit_any k s x y u l h z wA hk (hx'.out.below hBA.out) (hy'.out.below hBA.out) (hu'.out.below hBA.out)).mono ?_
  rintro e w3 ⟨cs2, rfl, hv2, hb3⟩
  rw [hv'.out] at hv2
  obtain ⟨x2, y2, u2, rfl, g1, g2, g3⟩ := hv2.ex
  have hB3 := veil (two_below hBA.out hb3)
  obtain ⟨wC, hwC⟩ : ∃ wC : World, wC = w3.alloc (.cells #[.int .u8 v.k, .string v.s, x2, y2, u2] vT) := ⟨_, rfl⟩
  have hbC : Below w3.heap.size w3 wC := by rw [hwC]; exact below_alloc (Below.refl _ _) _
  have hgC : wC.heap[w3.heap.size]? = some (.cells #[.int .u8 v.k, .string v.s, x2, y2, u2] vT (0, 0)) := by rw [hwC]; exact heap_alloc_new w3 _
  have hg8 : wC.heap[w2.heap.size]? = some (.cells #[.int .u8 v.k, .string v.s, x1, y1, u1] vT (0, 0)) := ((two_below hb3 hbC).block _ (by have := hsA.out; omega)).trans hgA'.out
  have hBC := veil (two_below hB3.out hbC)
  have hAC := veil (two_below hb3 hbC)
  have hs3 := veil (show w2.heap.size + 1 ≤ w3.heap.size by have := hb3.size; have := hsA.out; omega)
  have hsC : Veil (wC.heap.size = w3.heap.size + 1) := veil (by rw [hwC]; simp)
  have g4 := veil (g1.below hbC)
  have g5 := veil (g2.below hbC)
  have g6 := veil (g3.below hbC)
  have hone2 := veil hv2.one
  have hg8c0 : (wC).cell? ⟨w2.heap.size, 0, none⟩ = some (.int .u8 v.k) := by rw [cell_of_row _ _ _ _ _ _ hg8]; rfl
  have hg8c1 : (wC).cell? ⟨w2.heap.size, 1, none⟩ = some (.string v.s) := by rw [cell_of_row _ _ _ _ _ _ hg8]; rfl
  have hg8c2 : (wC).cell? ⟨w2.heap.size, 2, none⟩ = some (x1) := by rw [cell_of_row _ _ _ _ _ _ hg8]; rfl
  have hg8c3 : (wC).cell? ⟨w2.heap.size, 3, none⟩ = some (y1) := by rw [cell_of_row _ _ _ _ _ _ hg8]; rfl
  have hg8c4 : (wC).cell? ⟨w2.heap.size, 4, none⟩ = some (u1) := by rw [cell_of_row _ _ _ _ _ _ hg8]; rfl
  have hgC' := veil hgC
  have hg8' := veil hg8
  have hwC' := veil hwC
  clear hb3 hbC hgC hg8 g1 g2 g3 hv2
  rw [hwC] at hg8c0 hg8c1 hg8c2 hg8c3 hg8c4
  clear hwC
  go_wp2_with (refine wpList_store_new rfl vT _ _ rfl #[.int .u8 v.k, .string v.s, x2, y2, u2] #[.int .u8 0, .string ⟨#[]⟩, nlv, nlv, nlv] vT rfl rfl (info5v _ _ _ _ _) rfl hone2.out ?_)
  clear hg8c0 hg8c1 hg8c2 hg8c3 hg8c4
  rw [← hwC'.out]
  have hvC : Veil (IsV wC #[.int .u8 v.k, .string v.s, x1, y1, u1] v) := veil ⟨⟨x1, y1, u1, rfl, g1A.out.below hAC.out, g2A.out.below hAC.out, g3A.out.below hAC.out⟩⟩
  refine (do_any wC #[.int .u8 v.k, .string v.s, x1, y1, u1] v v' r same (9 + q % 6) A ws.length c (fit8 nm ar ws) hvC.out (fun w' hb => Fit8_any _ nm ar cg A c ws w' hat'.out hmn har (Kd.C_below hws'.out (two_below hBC.out hb)) hc) (fun w' x hb hgt hx => hdo'.out _ w' x _ hgt ((hvC.out.g (Nat.le_succ _)).below hb) hx (tabs_below hT'.out (two_below hBC.out hb)))).mono ?_
  rintro e w4 ⟨cs3, A', n', c', rfl, hf, hv3, hsame, hb4⟩
  obtain ⟨x3, y3, u3, rfl, g1, g2, g3⟩ := hv3.ex
  have hB4 := veil (two_below hBC.out hb4)
  obtain ⟨wD, hwD⟩ : ∃ wD : World, wD = w4.alloc (.cells #[.int .u8 v'.k, .string v'.s, x3, y3, u3] vT) := ⟨_, rfl⟩
  have hbD : Below w4.heap.size w4 wD := by rw [hwD]; exact below_alloc (Below.refl _ _) _
  have hgD : wD.heap[w4.heap.size]? = some (.cells #[.int .u8 v'.k, .string v'.s, x3, y3, u3] vT (0, 0)) := by rw [hwD]; exact heap_alloc_new w4 _
  have hCD := two_below hb4 hbD
  have hg8 : wD.heap[w2.heap.size]? = some (.cells #[.int .u8 v.k, .string v.s, x1, y1, u1] vT (0, 0)) := (hCD.block _ (by have := hsC.out; have := hs3.out; omega)).trans hg8'.out
  have hg9 : wD.heap[w3.heap.size]? = some (.cells #[.int .u8 v.k, .string v.s, x2, y2, u2] vT (0, 0)) := (hCD.block _ (by have := hsC.out; omega)).trans hgC'.out
  have hs4 := veil (show w3.heap.size + 1 ≤ w4.heap.size by have := hb4.size; have := hsC.out; omega)
  have hsD : Veil (wD.heap.size = w4.heap.size + 1) := veil (by rw [hwD]; simp)
  have hBD := veil (two_below hB4.out hbD)
  have k1 := veil ((g1A.out.below hAC.out).below hCD)
  have k2 := veil ((g2A.out.below hAC.out).below hCD)
  have k3 := veil ((g3A.out.below hAC.out).below hCD)
  have k4 := veil (g4.out.below hCD)
  have k5 := veil (g5.out.below hCD)
  have k6 := veil (g6.out.below hCD)
  have k7 := veil (g1.below hbD)
  have k8 := veil (g2.below hbD)
  have k9 := veil (g3.below hbD)
  have hfD := veil (hf.below hbD)
  have hone3 := veil hv3.one
  have hsame' := veil hsame
  have hg8c0 : (wD).cell? ⟨w2.heap.size, 0, none⟩ = some (.int .u8 v.k) := by rw [cell_of_row _ _ _ _ _ _ hg8]; rfl
  have hg8c1 : (wD).cell? ⟨w2.heap.size, 1, none⟩ = some (.string v.s) := by rw [cell_of_row _ _ _ _ _ _ hg8]; rfl
  have hg8c2 : (wD).cell? ⟨w2.heap.size, 2, none⟩ = some (x1) := by rw [cell_of_row _ _ _ _ _ _ hg8]; rfl
  have hg8c3 : (wD).cell? ⟨w2.heap.size, 3, none⟩ = some (y1) := by rw [cell_of_row _ _ _ _ _ _ hg8]; rfl
  have hg8c4 : (wD).cell? ⟨w2.heap.size, 4, none⟩ = some (u1) := by rw [cell_of_row _ _ _ _ _ _ hg8]; rfl
  have hg9c0 : (wD).cell? ⟨w3.heap.size, 0, none⟩ = some (.int .u8 v.k) := by rw [cell_of_row _ _ _ _ _ _ hg9]; rfl
  have hg9c1 : (wD).cell? ⟨w3.heap.size, 1, none⟩ = some (.string v.s) := by rw [cell_of_row _ _ _ _ _ _ hg9]; rfl
  have hg9c2 : (wD).cell? ⟨w3.heap.size, 2, none⟩ = some (x2) := by rw [cell_of_row _ _ _ _ _ _ hg9]; rfl
  have hg9c3 : (wD).cell? ⟨w3.heap.size, 3, none⟩ = some (y2) := by rw [cell_of_row _ _ _ _ _ _ hg9]; rfl
  have hg9c4 : (wD).cell? ⟨w3.heap.size, 4, none⟩ = some (u2) := by rw [cell_of_row _ _ _ _ _ _ hg9]; rfl
  have hgD' := veil hgD
  have hg8D := veil hg8
  have hwD' := veil hwD
  clear hb4 hbD hgD hg8 hg9 hCD g1 g2 g3 g1A g2A g3A g4 g5 g6 hv3 hf hsame hvV1 hg8' hgC' hgA' hpA' hp1' hvC
  rw [hwD] at hg8c0 hg8c1 hg8c2 hg8c3 hg8c4 hg9c0 hg9c1 hg9c2 hg9c3 hg9c4
  clear hwD
  go_wp2_with (refine wpList_store_new rfl vT _ _ rfl #[.int .u8 v'.k, .string v'.s, x3, y3, u3] #[.int .u8 0, .string ⟨#[]⟩, nlv, nlv, nlv] vT rfl rfl (info5v _ _ _ _ _) rfl hone3.out ?_)
  clear hg8c0 hg8c1 hg8c2 hg8c3 hg8c4
  clear hg9c0 hg9c1 hg9c2 hg9c3 hg9c4
  rw [← hwD'.out]
  refine (Same_any v.k v.s x1 y1 u1 x2 y2 u2 v.l v.h v.z wD k1.out k4.out k2.out k5.out k3.out k6.out hvl1 hvl2 hvl3).mono ?_
  rintro e w5 ⟨rfl, hb5⟩
  have hg8 := (hb5.block _ (by have := hsD.out; have := hs4.out; have := hs3.out; omega)).trans hg8D.out
  have hgT := (hb5.block _ (by have := hsD.out; omega)).trans hgD'.out
  have hg8c0 : (w5).cell? ⟨w2.heap.size, 0, none⟩ = some (.int .u8 v.k) := by rw [cell_of_row _ _ _ _ _ _ hg8]; rfl
  have hg8c1 : (w5).cell? ⟨w2.heap.size, 1, none⟩ = some (.string v.s) := by rw [cell_of_row _ _ _ _ _ _ hg8]; rfl
  have hg8c2 : (w5).cell? ⟨w2.heap.size, 2, none⟩ = some (x1) := by rw [cell_of_row _ _ _ _ _ _ hg8]; rfl
  have hg8c3 : (w5).cell? ⟨w2.heap.size, 3, none⟩ = some (y1) := by rw [cell_of_row _ _ _ _ _ _ hg8]; rfl
  have hg8c4 : (w5).cell? ⟨w2.heap.size, 4, none⟩ = some (u1) := by rw [cell_of_row _ _ _ _ _ _ hg8]; rfl
  have hgTc0 : (w5).cell? ⟨w4.heap.size, 0, none⟩ = some (.int .u8 v'.k) := by rw [cell_of_row _ _ _ _ _ _ hgT]; rfl
  have hgTc1 : (w5).cell? ⟨w4.heap.size, 1, none⟩ = some (.string v'.s) := by rw [cell_of_row _ _ _ _ _ _ hgT]; rfl
  have hgTc2 : (w5).cell? ⟨w4.heap.size, 2, none⟩ = some (x3) := by rw [cell_of_row _ _ _ _ _ _ hgT]; rfl
  have hgTc3 : (w5).cell? ⟨w4.heap.size, 3, none⟩ = some (y3) := by rw [cell_of_row _ _ _ _ _ _ hgT]; rfl
  have hgTc4 : (w5).cell? ⟨w4.heap.size, 4, none⟩ = some (u3) := by rw [cell_of_row _ _ _ _ _ _ hgT]; rfl
  have hB5 := veil (two_below hBD.out hb5)
  have j1 := veil (k1.out.below hb5)
  have j2 := veil (k2.out.below hb5)
  have j3 := veil (k3.out.below hb5)
  have j7 := veil (k7.out.below hb5)
  have j8 := veil (k8.out.below hb5)
  have j9 := veil (k9.out.below hb5)
  have hf5 := veil (hfD.out.below hb5)
  have hg8E := veil hg8
  clear hb5 hg8 hgT k1 k2 k3 k4 k5 k6 k7 k8 k9 hfD
  have hS : Veil (Calls Tryz.prog 7 #[.agg #[.int .u8 v'.k, .string v'.s, x3, y3, u3], .agg #[.int .u8 v.k, .string v.s, x1, y1, u1]] w5 fun e w' => (∃ b, e = .returned (.bool b) ∧ (same → b = true)) ∧ Below w5.heap.size w5 w') := veil (by
    by_cases hs : same
    · obtain rfl := hsv'.out hs
      exact (Same_any v'.k v'.s x3 y3 u3 x1 y1 u1 v'.l v'.h v'.z w5 j7.out j1.out j8.out j2.out j9.out j3.out hvl1 hvl2 hvl3).mono fun e w' ⟨h1, h2⟩ => ⟨⟨true, h1, fun _ => rfl⟩, h2⟩
    · exact (Same_tot v'.k v.k v'.s v.s x3 y3 u3 x1 y1 u1 v'.l v.l v'.h v.h v'.z v.z w5 j7.out j1.out j8.out j2.out j9.out j3.out hl1 hl2 hl3).mono fun e w' ⟨⟨b, h1⟩, h2⟩ => ⟨⟨b, h1, fun h => absurd h hs⟩, h2⟩)
  clear j1 j2 j3 j7 j8 j9
  go_wp2_with fail
  clear hg8c0 hg8c1 hg8c2 hg8c3 hg8c4
  clear hgTc0 hgTc1 hgTc2 hgTc3 hgTc4
  refine hS.out.mono ?_
  rintro e w6 ⟨⟨sb, rfl, hsb⟩, hb6⟩
  have hg8 := (hb6.block _ (by have := hg8E.out; exact (Array.getElem?_eq_some_iff.1 this).1)).trans hg8E.out
  have hg8c0 : w6.cell? ⟨w2.heap.size, 0, none⟩ = some (.int .u8 v.k) := by rw [cell_of_row _ _ _ _ _ _ hg8]; rfl
  have hB6 := veil (two_below hB5.out hb6)
  have hf6 := hf5.out.below hb6
  have hsb' := veil hsb
  clear hb6 hg8 hsb hS
  obtain ⟨n1, hn1⟩ : ∃ n, r.length = n := ⟨_, rfl⟩
  have hn'1 : n' = n1 := by rw [← hn1]; exact hf6.len.symm
  subst hn'1
  have hnp : 0 < n' := by rw [← hn1]; exact List.length_pos_iff.2 hr0'.out
  have hnz : ((n' : Int) == 0) = false := by rw [beq_eq_false_iff_ne]; omega
  have hpos : (0 : Int) < n' := by omega
  obtain ⟨bb, rfl, _, _, hcb, _⟩ := hf6.there (by have := hf6.le; omega)
  have hc0 := hcb 0 hnp
  have hrd := veil (hf6.reads (by omega))
  have hn1' := veil hn1
  clear hf6 hcb hn1
  by_cases hkw : v.k ≠ 0 ∧ v.k ≠ 2
  · obtain ⟨hk0, hk2⟩ := hkw
    obtain ⟨hs, hrW⟩ := hwr'.out hk0 hk2
    obtain rfl := hsb'.out hs
    have e0 : (v.k != 0) = true := by simp [hk0]
    have e2 : (v.k != 2) = true := by simp [hk2]
    have hcv : (convert 29 9 (.slice (some ⟨bb, 0, none⟩) n' c')).run Tryz.prog w6 = .ok (.string (strOfNums r)) w6 := string_of_reads Tryz.underlying29 Tryz.underlying5 Tryz.underlying9 hrd.out
    have hst : strOfNums r = wrongReply := by rw [hrW]; decide +kernel
    rw [hst] at hcv
    clear hk0 hk2 hrW hst hs
    go_wp2_with fail
    go_ret
    refine ⟨congrArg (fun t => Ending.returned (Value.bool t)) (show _ = true from ?_), hB6.out⟩
    decide +kernel
  · have hkd : v.k = 0 ∨ v.k = 2 := by omega
    have hr45 : Veil (r.getD 0 0 = 45 → sb = true) := veil (fun h => hsb'.out (hre'.out (head45 r hr0'.out h)))
    obtain ⟨r0, hr0e⟩ : ∃ r0, r.getD 0 0 = r0 := ⟨_, rfl⟩
    rw [hr0e] at hc0 hr45
    clear hkw hr0e
    by_cases h45 : r0 = 45
    · obtain rfl := hr45.out h45
      have h45b : (r0 != 45) = false := by simp [h45]
      clear h45 hr45
      rcases hkd with hkd | hkd
      all_goals
        rw [hkd] at hg8c0
        go_wp2_with fail
        go_ret
        exact ⟨rfl, hB6.out⟩
    · have h45b : (r0 != 45) = true := by simp [h45]
      clear h45 hr45
      rcases hkd with hkd | hkd
      all_goals
        rw [hkd] at hg8c0
        go_wp2_with fail
        go_ret
        exact ⟨rfl, hB6.out⟩
end Go.Proofs.Tryz.Vl
