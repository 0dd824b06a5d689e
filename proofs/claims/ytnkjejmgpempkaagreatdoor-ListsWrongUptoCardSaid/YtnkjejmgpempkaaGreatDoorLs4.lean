import Derived.Test.YtnkjejmgpempkaaGreatDoorLsA
/- What lists.Do tells of texts that are put. -/
namespace Go.Proofs.Tryz.Ln
open Go Go.RowKit Go.Proofs.Mem Go.Proofs.App
open Go.Proofs.YtnkjejmgpempkaaGreatDoorW.PrintWords Go.Proofs.YtnkjejmgpempkaaGreatDoorW.PrintLast
open Go.Proofs.Rel (dsts depsOf)
set_option linter.unusedVariables false
set_option linter.unusedSimpArgs false
abbrev tV : TypeId := 26
abbrev oZ : Obj := .cells zS tV (0, 0)
/-- the result's cells hold a list of these texts, whose row is of later on -/
def Good (g : Nat) (L : List ByteArray) (w : World) : Prop := ∃ v base, g < base ∧ OR w base v L ∧ w.heap[g]? = some (.cells (lvS L v) tV (0, 0)) ∧ v.oneCell' = true
def goodLe (g : Nat) (L : List ByteArray) (w w' : World) : Prop :=
  (w'.os = w.os ∧ w'.tape = w.tape ∧ w'.output = w.output ∧ w.heap.size ≤ w'.heap.size) ∧ (∀ k, k ≠ g → k < w.heap.size → w'.heap[k]? = w.heap[k]?) ∧
  (w.heap[g]? = some oZ → w'.heap[g]? = some oZ ∨ Good g L w') ∧ (Good g L w → Good g L w')
def GoodO (g : Nat) (L : List ByteArray) : RelG.Ord where
  le := goodLe g L
  refl w := ⟨⟨rfl, rfl, rfl, Nat.le_refl _⟩, fun _ _ _ => rfl, fun h => .inl h, fun h => h⟩
  trans {a b c} h k := ⟨⟨k.1.1.trans h.1.1, k.1.2.1.trans h.1.2.1, k.1.2.2.1.trans h.1.2.2.1, Nat.le_trans h.1.2.2.2 k.1.2.2.2⟩, fun i hi hl => (k.2.1 i hi (Nat.lt_of_lt_of_le hl h.1.2.2.2)).trans (h.2.1 i hi hl),
    fun hz => by
      rcases h.2.2.1 hz with h1 | h1
      · exact k.2.2.1 h1
      · exact .inr (k.2.2.2 h1), fun hz => k.2.2.2 (h.2.2.2 hz)⟩
  bel {w w'} h := by
    have keep : ∀ {o : Obj}, w.heap[g]? = some o → w'.heap[g]? = some o := fun {o} hz => by
      rw [h.block g (Array.getElem?_eq_some_iff.1 hz).1]; exact hz
    exact ⟨⟨h.os, h.tape, h.output, h.size⟩, fun k _ hl => h.block k hl, fun hz => .inl (keep hz), fun ⟨v, base, h1, h2, h3, h4⟩ => ⟨v, base, h1, own_move h2 (fun k hk => h.block k (own_lt h2 k hk)), keep h3, h4⟩⟩
section
variable {g : Nat} {L : List ByteArray} {w w' : World}
theorem good_other (h : (GoodO g L).le w w') {k : Nat} {o : Obj} (hk : k ≠ g) (ho : w.heap[k]? = some o) : w'.heap[k]? = some o := by
  rw [h.2.1 k hk (Array.getElem?_eq_some_iff.1 ho).1]; exact ho
theorem good_below {B : Nat} {w0 : World} (hb : Below B w w0) (h : (GoodO g L).le w0 w') (hg : B ≤ g) (hB : B ≤ w0.heap.size) : Below B w w' :=
  ⟨h.1.1.trans hb.os, h.1.2.1.trans hb.tape, h.1.2.2.1.trans hb.output, Nat.le_trans hb.size h.1.2.2.2, fun k hk => (h.2.1 k (by omega) (by omega)).trans (hb.block k hk)⟩
theorem or_good {base : Nat} {v : Value} {M : List ByteArray} (h : OR w base v M) (hb : g < base) (hle : (GoodO g L).le w w') : OR w' base v M :=
  own_move h (fun k hk => hle.2.1 k (by have := own_base h k hk; omega) (own_lt h k hk))
theorem fr_good {r : List Int} {x : Value} (h : RelG.frP g r x w) (hle : (GoodO g L).le w w') : RelG.frP g r x w' := by
  obtain ⟨A, n, c, base, rfl, hf, hg⟩ := h
  refine ⟨A, n, c, base, rfl, ⟨hf.len, hf.le, fun hp => ?_⟩, hg⟩
  obtain ⟨b, e, h1, h2, hc, hs⟩ := hf.there hp
  have hbk := hle.2.1 b (by omega) h2
  refine ⟨b, e, h1, Nat.lt_of_lt_of_le h2 hle.1.2.2.2, fun j hj => ?_, fun j hj => ?_⟩
  · rw [← hc j hj]; unfold World.cell?; rw [hbk]
  · have := hs j hj
    unfold World.cell? World.frozen? at this ⊢
    rw [hbk]
    exact this
end
/-- a list's value, its row of later on -/
def lvP (g : Nat) (L : List ByteArray) (x : Value) (w : World) : Prop := ∃ v base, x = .agg (lvS L v) ∧ g < base ∧ OR w base v L ∧ v.oneCell' = true
def lvR (g : Nat) (L : List ByteArray) (u : Tmp) : RelG.Rl (GoodO g L) := RelG.of _ u (lvP g L) (fun x w w' ⟨v, base, h1, h2, h3, h4⟩ hle => ⟨v, base, h1, h2, or_good h3 h2 hle, h4⟩)
/-- .. and a reply -/
def prP (g : Nat) (L : List ByteArray) (r : List Int) (x : Value) (w : World) : Prop := ∃ v y base, x = .tuple #[.agg (lvS L v), y] ∧ g < base ∧ OR w base v L ∧ v.oneCell' = true ∧ RelG.frP g r y w
def prR (g : Nat) (L : List ByteArray) (r : List Int) (u : Tmp) : RelG.Rl (GoodO g L) := RelG.of _ u (prP g L r) (fun x w w' ⟨v, y, base, h1, h2, h3, h4, h5⟩ hle => ⟨v, y, base, h1, h2, or_good h3 h2 hle, h4, fr_good h5 hle⟩)
def frG (g : Nat) (L : List ByteArray) (r : List Int) (u : Tmp) : RelG.Rl (GoodO g L) := RelG.of _ u (RelG.frP g r) (fun x w w' h hle => fr_good h hle)
def goodR (g : Nat) (L : List ByteArray) : RelG.Rl (GoodO g L) := RelG.wo _ (Good g L) (fun w w' h hle => hle.2.2.2 h)
theorem run_ext0 {P : Program} {b : Act} {w : World} {o : Oper} {t : Nat} {x y : Value} (h : b.eval (.tmp t) = .tuple #[x, y]) (ho : o.op = .extract (.tmp t) 0 := by rfl) : (execOp b.eval o).run P w = .ok (.value x) w := by
  unfold execOp
  simp only [ho, h]
  rfl
theorem run_ext1 {P : Program} {b : Act} {w : World} {o : Oper} {t : Nat} {x y : Value} (h : b.eval (.tmp t) = .tuple #[x, y]) (ho : o.op = .extract (.tmp t) 1 := by rfl) : (execOp b.eval o).run P w = .ok (.value y) w := by
  unfold execOp
  simp only [ho, h]
  rfl
section
variable {P : Program} {Q : Exit → Act → World → Prop} {l : List Oper} {G : RelG.Ord} {rs : List (RelG.Rl G)} {a : Act} {n : Nat} {w0 : World}
theorem step_callA {i : Nat} {o : Oper} {f : FuncId} {fn : Func} {xs : Array Operand} {ts : Array TypeId} (hg : o.guard = none) (hf : P.funcs[f]? = some fn) (hname : (fn.name == "runtime.NumGoroutine") = false) (hb : fn.body.isSome = true)
    (hop : o.op = .call { callee := .value (.func f), args := xs, argTypes := ts })
    (h : ∀ b w, RelG.Dep l rs a w0 o b w → ∃ args, xs.map b.eval = args ∧ Calls P f args w fun e w' => ∃ x, e = .returned x ∧ (RelG.at_ rs i).r (RelG.get (b.put o.dst x)) w' ∧ G.le w w') : RelG.Step P l Q rs a w0 i o := fun b w D K hK => by
  obtain ⟨args, h1, h2⟩ := h b w D
  exact goes_ hf hname hb args (by simp [Region.wanted, hg]) rfl hop h1 (h2.mono fun e w' ⟨x, he, hr, hb⟩ => ⟨x, he, hK x w' hr hb⟩)
end
theorem good_store {g : Nat} {L : List ByteArray} {w0 w : World} {v : Value} {base : Nat} (h0 : w0.heap[g]? = some oZ) (hle : (GoodO g L).le w0 w) (hb : g < base) (ho : OR w base v L) (h1 : v.oneCell' = true) :
    ∃ old, w.heap[g]? = some (.cells old tV (0, 0)) ∧ old.size = (lvS L v).size ∧ Good g L (w.setRow g (lvS L v)) ∧ (GoodO g L).le w (w.setRow g (lvS L v)) := by
  have : ∃ old, w.heap[g]? = some (.cells old tV (0, 0)) ∧ old.size = 5 := by
    rcases hle.2.2.1 h0 with h | ⟨u, _, _, _, h, _⟩
    · exact ⟨zS, h, rfl⟩
    · exact ⟨_, h, lvS_size _ _⟩
  obtain ⟨old, hg, hs⟩ := this
  have hset := setRow_heap w g old (lvS L v) tV (0, 0) hg
  have hG : Good g L (w.setRow g (lvS L v)) := ⟨v, base, hb, own_setRow ho hg, hset, h1⟩
  refine ⟨old, hg, by rw [hs, lvS_size], hG, ⟨rfl, rfl, rfl, by simp [World.setRow]⟩, fun k hk _ => ?_, fun _ => .inr hG, fun _ => hG⟩
  unfold World.setRow
  simp only [Array.getElem?_modify]
  rw [if_neg (fun e => hk e.symm)]
theorem lvS_oneV (l : List ByteArray) (x : Value) (h : x.oneCell' = true) : (lvS l x).all (·.oneCell') = true := by
  unfold lvS
  split
  · simp [zS, Value.oneCell']
  · have : ∀ y ∈ #[Value.int .u8 2, .string ⟨#[]⟩, x, nl, nl], y.oneCell' = true := by
      intro y hy
      simp at hy
      rcases hy with rfl | rfl | rfl | rfl
      · rfl
      · rfl
      · exact h
      · rfl
    exact Array.all_eq_true_iff_forall_mem.2 this
theorem or_one {w : World} {base : Nat} {v : Value} {l : List ByteArray} (h : OR w base v l) : v.oneCell' = true := by
  obtain ⟨A, c, rfl, _⟩ := (tR_own h).ex
  rfl
theorem cut2 (B : Option Addr) (n c : Nat) (hn : 2 ≤ n) : ∃ B', (∀ W : World, (Instr.slice 22 (.slice B n c) (some (.int .i64 2)) none none).run Tryz.prog W = .ok (.slice B' (n - 2) (c - 2)) W) ∧ ∀ (w : World) (l : List ByteArray), l.length = n → tR w (.slice B n c) l → tR w (.slice B' (n - 2) (c - 2)) (l.drop 2) := by
  obtain ⟨i0, hi, hzz⟩ := Option.map_eq_some_iff.1 infoS
  simp only [Prod.mk.injEq] at hzz
  obtain ⟨_, hz1, _⟩ := hzz
  have hu : Tryz.prog.underlying 22 = some (.slice 9) := Tryz.underlying22
  have hel : Tryz.prog.elem 22 = 9 := by simp [Program.elem, hu]
  refine ⟨if c = 2 then B else B.map (·.add 2), fun W => ?_, fun w l hl h => ?_⟩
  · have hu2 : Tryz.prog.underlying 22 = some (.slice (Tryz.prog.elem 22)) := by rw [hel]; exact hu
    rw [run_slice_l W 22 B n c hu2 .i64 (2 : Int) (by decide) (by omega), hel]
    simp [sizeOf, typeInfo, hi, hz1, sliced, Result.andThen]
  · obtain ⟨A, c', e, h1, h2, h3, h4⟩ := h.ex
    injection e with e1 e2 e3
    subst e1
    subst e3
    have hd := h4.drop_ 2 (by omega) h1
    have hlen : (l.drop 2).length = n - 2 := by rw [List.length_drop]; omega
    refine ⟨if c = 2 then B else B.map (·.add 2), c - 2, by rw [hlen], by rw [hlen]; omega, by omega, fun ad ha => ?_, by
      have e : (l.drop 2).length = l.length - 2 := by rw [List.length_drop]
      show ReadsOf _ _ _ _ (l.drop 2).length _
      rw [e, hl]
      first | exact hd | (rw [hl] at hd; exact hd)⟩
    by_cases hc : c = 2
    · rw [if_pos hc] at ha
      exact h3 ad ha
    · rw [if_neg hc] at ha
      cases B with
      | none => cases ha
      | some b0 =>
        have := h3 b0 rfl
        simp only [Option.map_some, Option.some.injEq] at ha
        rw [← ha]
        unfold Addr.add
        split
        · exact this
        · first | exact this | rfl
def pushN : Bool → ByteArray
  | true => ⟨#[108, 112, 117, 115, 104]⟩
  | false => ⟨#[114, 112, 117, 115, 104]⟩
theorem info5x (k : Int) (s : ByteArray) (x H Z : Value) : (Tryz.prog.info? 26).map (·.size) = some (#[Value.int .u8 k, .string s, x, H, Z] : Array Value).size := by kernel_rfl
set_option maxRecDepth 100000 in
set_option maxHeartbeats 8000000 in
theorem do_push (ahead : Bool) (k : Int) (s a0 : ByteArray) (x H Z : Value) (l args : List ByteArray) (B : Option Addr) (ac : Nat) (w : World) (hk : k = 0 ∨ k = 2) (hx : tR w x l) (hargs : tR w (.slice B args.length ac) args) (h2 : 2 ≤ args.length) (ha : args[0]? = some a0) (hz0 : a0.size ≤ 1000) (hlow : lowS a0 = pushN ahead)
    (hn : l.length + args.length ≤ 1000000) (hT : Tabs w) :
    Calls Tryz.prog 8 #[.agg #[.int .u8 k, .string s, x, H, Z], .slice B args.length ac] w (Pres (putL ahead l (args.drop 2)) (lineL ⟨#[58]⟩ (numS ((putL ahead l (args.drop 2)).length : Int))) w) := by
  have hT' := veil hT
  obtain ⟨A1, c1, rfl, _⟩ := hx.ex
  obtain ⟨B', hcut, hcr⟩ := cut2 B args.length ac h2
  have hcut' := veil hcut
  have hy := hcr w args rfl hargs
  obtain ⟨ad, rfl, c0⟩ : ∃ ad, B = some ad ∧ w.cell? ad = some (.string a0) := by
    obtain ⟨A, c, e, _, _, _, h4⟩ := hargs.ex
    injection e with e1 _ _
    subst e1
    obtain ⟨ad, e, hc⟩ := h4.2.2 (by omega)
    refine ⟨ad, e, ?_⟩
    have := hc 0 (by omega)
    rw [List.getD_eq_getElem?_getD, ha, Option.getD_some] at this
    simpa [Addr.add] using this
  obtain ⟨hac, hac2⟩ : args.length ≤ ac ∧ ac ≤ 9223372036854775807 := by
    obtain ⟨A, c, e, h1, h2, _⟩ := hargs.ex
    injection e with _ _ e3
    subst e3
    exact ⟨h1, h2⟩
  obtain ⟨w2, hw2⟩ : ∃ w2 : World, w2 = (w.alloc (.cells #[.int .u8 k, .string s, .slice A1 l.length c1, H, Z] 26)).alloc (.cells #[.int .u8 0, .string ⟨#[]⟩, .slice none 0 0, .slice none 0 0, .slice none 0 0] 26) := ⟨_, rfl⟩
  have hsz2 : w2.heap.size = w.heap.size + 2 := by rw [hw2]; simp
  have hb2 : Below w.heap.size w w2 := by rw [hw2]; exact (below_alloc (Below.refl _ _) _).alloc (by simp) _
  have hx2 : w2.heap[w.heap.size]? = some (.cells #[.int .u8 k, .string s, .slice A1 l.length c1, H, Z] 26 (0, 0)) := by rw [hw2]; exact heap_alloc2_old w _ _
  have hz2 : w2.heap[w.heap.size + 1]? = some oZ := by
    rw [hw2]
    have := heap_alloc_last (w.alloc (.cells #[.int .u8 k, .string s, .slice A1 l.length c1, H, Z] 26)) (.cells #[.int .u8 0, .string ⟨#[]⟩, .slice none 0 0, .slice none 0 0, .slice none 0 0] 26)
    simpa [oZ, zS] using this
  have hadb : ad.block < w.heap.size := World.block_lt_of_cell? w _ c0
  have q0 : w2.cell? ad = some (.string a0) := (hb2.cell hadb).trans c0
  have q00 := q0
  rw [hw2] at q00
  have hB2 := veil hb2
  have hX2 := veil hx2
  have hZ2 := veil hz2
  have hw2' := veil hw2
  have hx' := veil (hx.below hb2)
  have hy' := veil (hy.below hb2)
  have hlow' := veil hlow
  have l0 : (0 : Int) < args.length := by omega
  obtain ⟨L, hL0⟩ : ∃ L, putL ahead l (args.drop 2) = L := ⟨_, rfl⟩
  obtain ⟨R, hR0⟩ : ∃ R, lineL ⟨#[58]⟩ (numS (L.length : Int)) = R := ⟨_, rfl⟩
  have hput : Veil (∀ w', tR w' (.slice A1 l.length c1) l → tR w' (.slice B' (args.length - 2) (ac - 2)) (args.drop 2) → Tabs w' → Calls Tryz.prog 17 #[.agg #[.int .u8 k, .string s, .slice A1 l.length c1, H, Z], .bool ahead, .slice B' (args.length - 2) (ac - 2)] w' (Pres L R w')) :=
    veil (fun w' h1 h2 h3 => by rw [← hR0, ← hL0]; exact put_any k s _ H Z _ ahead l (args.drop 2) w' h1 h2 (by rw [List.length_drop]; omega) h3)
  have hL := veil hL0
  have hR := veil hR0
  have hxw := veil hx
  have hyw := veil hy
  clear hT hx hargs hcut hcr hy c0 ha hL0 hR0 hw2 hb2 hx2 hz2 hlow
  rcases hk with rfl | rfl
  · cases ahead with
    | false =>
      go_enter Tryz.func8, Tryz.ntmps8
      go_wp2_with fail
      rw [← hw2'.out]
      refine (low_any a0 w2 (by omega)).mono ?_
      rintro e w3 ⟨rfl, hb3⟩
      rw [hlow'.out]
      have hB3 := veil (two_below hB2.out hb3)
      have hX3 := veil ((hb3.block _ (by omega)).trans hX2.out)
      have hZ3 := veil ((hb3.block _ (by omega)).trans hZ2.out)
      have hs3 := hb3.size
      clear hb3 q0 q00
      have q1 := cell_of_row _ _ 0 _ _ _ hX3.out
      simp only [List.getElem?_toArray, List.getElem?_cons_zero] at q1
      simp only [pushN]
      go_wp2_with fail
      refine RelG.wp_region_rel2 (G := GoodO (w.heap.size + 1) L) (n := 95) [RelG.is _ 37 (.agg #[.int .u8 0, .string s, .slice A1 l.length c1, H, Z]), RelG.is _ 38 (.string ⟨#[114, 112, 117, 115, 104]⟩), RelG.is _ 39 (.int .u8 114), RelG.is _ 40 (.bool false), RelG.is _ 41 (.slice (some ad) args.length ac), RelG.is _ 42 (.slice B' (args.length - 2) (ac - 2)), prR _ _ R 43, lvR _ _ 44, frG _ _ R 45, goodR _ _, frG _ _ R 5] [[37], [38], [39], [40], [41], [42], [43], [44], [45], [], [5]] (by kernel_rfl) rfl rfl (by kernel_rfl) ?_ ?_
      · refine RelG.steps_cons (RelG.step_load (n := 95) (t := 2) (u := 37) (b := w.heap.size) (t' := tV) (cs := #[.int .u8 0, .string s, .slice A1 l.length c1, H, Z]) (fr := (0, 0)) rfl rfl rfl rfl (by decide) (by kernel_rfl) (by kernel_rfl) Tryz.underlying26 rfl (info5x _ _ _ _ _) (fun w' hle => good_other hle (by omega) hX3.out) rfl) ?_
        refine RelG.steps_cons (RelG.step_was (n := 95) (t := 6) (u := 38) rfl rfl rfl rfl (by decide) (by kernel_rfl) (by kernel_rfl) rfl) ?_
        refine RelG.steps_cons (RelG.step_run (n := 95) (j := 1) (t := 38) (u := 39) (v := .string ⟨#[114, 112, 117, 115, 104]⟩) rfl rfl rfl (by decide) rfl rfl (fun ρ w' hle h hk => by simp [execOp, h, hk, go_sem]; rfl) rfl) ?_
        refine RelG.steps_cons (RelG.step_run (n := 95) (j := 2) (t := 39) (u := 40) (v := .int .u8 114) rfl rfl rfl (by decide) rfl rfl (fun ρ w' hle h hk => by simp [execOp, h, hk, go_sem]) rfl) ?_
        refine RelG.steps_cons (RelG.step_was (n := 95) (t := 1) (u := 41) rfl rfl rfl rfl (by decide) (by kernel_rfl) (by kernel_rfl) rfl) ?_
        refine RelG.steps_cons (RelG.step_run (n := 95) (j := 4) (t := 41) (u := 42) (v := .slice (some ad) args.length ac) rfl rfl rfl (by decide) rfl rfl (fun ρ w' hle h hk => by have hc := hcut'.out w'; simp [execOp, h, hk, Instr.sliceAt, hc]) rfl) ?_
        refine RelG.steps_cons (step_callA rfl Tryz.func17 (by kernel_rfl) rfl rfl (fun b w' D => by
            have e1 : b.eval (.tmp 37) = .agg #[.int .u8 0, .string s, .slice A1 l.length c1, H, Z] := D.is 0 rfl rfl
            have e2 : b.eval (.tmp 40) = .bool false := D.is 3 rfl rfl
            have e3 : b.eval (.tmp 42) = (.slice B' (args.length - 2) (ac - 2)) := D.is 5 rfl rfl
            have hw' := D.bel.1.2.2.2
            have hBw := good_below hB3.out D.bel (by omega) (by omega)
            have hgt : w.heap.size + 1 < w'.heap.size := by omega
            refine ⟨#[.agg #[.int .u8 0, .string s, .slice A1 l.length c1, H, Z], .bool false, (.slice B' (args.length - 2) (ac - 2))], by simp only [List.map_toArray, List.map_cons, List.map_nil, e1, e2, e3], (hput.out w' (hxw.out.below hBw) (hyw.out.below hBw) (tabs_below hT'.out hBw)).mono fun e w'' ⟨v, A, n, c, he, ho, hf, hb⟩ => ⟨_, he, ?_, (GoodO _ _).bel hb⟩⟩
            show prP _ _ _ (RelG.get (b.put (some 43) _) 43) w''
            rw [RelG.get_put b 43 _ (by rw [D.siz]; exact (by decide : 43 < 95))]
            exact ⟨v, _, w'.heap.size, rfl, hgt, ho, or_one ho, ⟨A, n, c, _, rfl, hf, hgt⟩⟩)) ?_
        refine RelG.steps_cons (RelG.step_val rfl fun b w' D => by
            obtain ⟨v, y, base, h1, h2, h3, h4, h5⟩ := D.rel 6 rfl
            have e1 : b.eval (.tmp 43) = .tuple #[.agg (lvS L v), y] := h1
            exact ⟨.agg (lvS L v), run_ext0 e1, by
              show lvP _ _ (RelG.get (b.put (some 44) _) 44) w'
              rw [RelG.get_put b 44 _ (by rw [D.siz]; exact (by decide : 44 < 95))]
              exact ⟨v, base, rfl, h2, h3, h4⟩⟩) ?_
        refine RelG.steps_cons (RelG.step_val rfl fun b w' D => by
            obtain ⟨v, y, base, h1, h2, h3, h4, h5⟩ := D.rel 6 rfl
            have e1 : b.eval (.tmp 43) = .tuple #[.agg (lvS L v), y] := h1
            exact ⟨y, run_ext1 e1, by
              show RelG.frP _ _ (RelG.get (b.put (some 45) _) 45) w'
              rw [RelG.get_put b 45 _ (by rw [D.siz]; exact (by decide : 45 < 95))]
              exact h5⟩) ?_
        refine RelG.steps_cons (RelG.step_skip rfl rfl fun b w' D => by
            obtain ⟨v, base, h1, h2, h3, h4⟩ := D.rel 7 rfl
            have e2 : b.eval (.tmp 44) = .agg (lvS L v) := h1
            have e1 : b.eval (.tmp 4) = .pointer (some ⟨w.heap.size + 1, 0, none⟩) := (D.was 4 (by kernel_rfl)).trans (by kernel_rfl)
            obtain ⟨old, hg, hs, hG, hle⟩ := good_store hZ3.out D.bel h2 h3 h4
            refine ⟨w'.setRow (w.heap.size + 1) (lvS L v), ?_, hG, hle⟩
            unfold execOp
            simp only [e1, e2, Instr.storeAt, Instr.sureAddr, Sem.run_bind, Sem.run_pure, Result.andThen_ok, run_storeVar_row (P := Tryz.prog) w' (w.heap.size + 1) tV tV old (lvS L v) hg (by rw [lvS_size]; exact info28) hs (lvS_oneV _ _ h4)]) ?_
        refine RelG.steps_cons (RelG.step_pass_of (n := 95) (j := 8) (t := 45) (u := 5) (p := RelG.frP (w.heap.size + 1) R) (hp := fun x w w' h hle => fr_good h hle) rfl rfl (.inr rfl) rfl (by decide) rfl rfl rfl) ?_
        exact trivial
      intro v e w9 hg hv hle
      have k5 : e 5 = v 10 := hg 10 5 rfl
      have hgood : Good (w.heap.size + 1) L w9 := hv 9 (by decide)
      have hfr : RelG.frP (w.heap.size + 1) R (e 5) w9 := hv 10 (by decide)
      rw [k5] at hfr
      obtain ⟨u, base, hb1, ho1, hc1', hu1⟩ := hgood
      obtain ⟨A, n, c, base2, ev, hf2, hbb⟩ := hfr
      have hBf := veil (good_below hB3.out hle (by omega) (by omega))
      simp only [Rel.fill, Act.put, List.setIfInBounds_toArray, List.set_cons_zero, List.set_cons_succ]
      rw [ev]
      have ho1' := veil ho1
      have hc1v := veil hc1'
      have hf2' := veil hf2
      clear hg hv hle k5 ev ho1 hc1' hf2 q1
      go_wp2_with fail
      refine bodyPost_ret (v := .tuple #[.agg (lvS L u), .slice A n c]) ?_ rfl ?_
      · exact RelG.results_cell_tmp (p := 4) (q := 5) (ty := 26) Tryz.results8 _ _ (w.heap.size + 1) 26 (lvS L u) (0, 0) _ _ rfl rfl hc1v.out Tryz.underlying26 rfl (by rw [lvS_size]; exact info28)
      · show Pres (putL false l (args.drop 2)) (lineL ⟨#[58]⟩ (numS ((putL false l (args.drop 2)).length : Int))) w _ _
        rw [hL.out, hR.out]
        exact ⟨u, A, n, c, rfl, own_weaken ho1'.out (by omega), hf2'.out.base (by omega), hBf.out⟩
    | true =>
      go_enter Tryz.func8, Tryz.ntmps8
      go_wp2_with fail
      rw [← hw2'.out]
      refine (low_any a0 w2 (by omega)).mono ?_
      rintro e w3 ⟨rfl, hb3⟩
      rw [hlow'.out]
      have hB3 := veil (two_below hB2.out hb3)
      have hX3 := veil ((hb3.block _ (by omega)).trans hX2.out)
      have hZ3 := veil ((hb3.block _ (by omega)).trans hZ2.out)
      have hs3 := hb3.size
      clear hb3 q0 q00
      have q1 := cell_of_row _ _ 0 _ _ _ hX3.out
      simp only [List.getElem?_toArray, List.getElem?_cons_zero] at q1
      simp only [pushN]
      go_wp2_with fail
      refine RelG.wp_region_rel2 (G := GoodO (w.heap.size + 1) L) (n := 95) [RelG.is _ 37 (.agg #[.int .u8 0, .string s, .slice A1 l.length c1, H, Z]), RelG.is _ 38 (.string ⟨#[108, 112, 117, 115, 104]⟩), RelG.is _ 39 (.int .u8 108), RelG.is _ 40 (.bool true), RelG.is _ 41 (.slice (some ad) args.length ac), RelG.is _ 42 (.slice B' (args.length - 2) (ac - 2)), prR _ _ R 43, lvR _ _ 44, frG _ _ R 45, goodR _ _, frG _ _ R 5] [[37], [38], [39], [40], [41], [42], [43], [44], [45], [], [5]] (by kernel_rfl) rfl rfl (by kernel_rfl) ?_ ?_
      · refine RelG.steps_cons (RelG.step_load (n := 95) (t := 2) (u := 37) (b := w.heap.size) (t' := tV) (cs := #[.int .u8 0, .string s, .slice A1 l.length c1, H, Z]) (fr := (0, 0)) rfl rfl rfl rfl (by decide) (by kernel_rfl) (by kernel_rfl) Tryz.underlying26 rfl (info5x _ _ _ _ _) (fun w' hle => good_other hle (by omega) hX3.out) rfl) ?_
        refine RelG.steps_cons (RelG.step_was (n := 95) (t := 6) (u := 38) rfl rfl rfl rfl (by decide) (by kernel_rfl) (by kernel_rfl) rfl) ?_
        refine RelG.steps_cons (RelG.step_run (n := 95) (j := 1) (t := 38) (u := 39) (v := .string ⟨#[108, 112, 117, 115, 104]⟩) rfl rfl rfl (by decide) rfl rfl (fun ρ w' hle h hk => by simp [execOp, h, hk, go_sem]; rfl) rfl) ?_
        refine RelG.steps_cons (RelG.step_run (n := 95) (j := 2) (t := 39) (u := 40) (v := .int .u8 108) rfl rfl rfl (by decide) rfl rfl (fun ρ w' hle h hk => by simp [execOp, h, hk, go_sem]) rfl) ?_
        refine RelG.steps_cons (RelG.step_was (n := 95) (t := 1) (u := 41) rfl rfl rfl rfl (by decide) (by kernel_rfl) (by kernel_rfl) rfl) ?_
        refine RelG.steps_cons (RelG.step_run (n := 95) (j := 4) (t := 41) (u := 42) (v := .slice (some ad) args.length ac) rfl rfl rfl (by decide) rfl rfl (fun ρ w' hle h hk => by have hc := hcut'.out w'; simp [execOp, h, hk, Instr.sliceAt, hc]) rfl) ?_
        refine RelG.steps_cons (step_callA rfl Tryz.func17 (by kernel_rfl) rfl rfl (fun b w' D => by
            have e1 : b.eval (.tmp 37) = .agg #[.int .u8 0, .string s, .slice A1 l.length c1, H, Z] := D.is 0 rfl rfl
            have e2 : b.eval (.tmp 40) = .bool true := D.is 3 rfl rfl
            have e3 : b.eval (.tmp 42) = (.slice B' (args.length - 2) (ac - 2)) := D.is 5 rfl rfl
            have hw' := D.bel.1.2.2.2
            have hBw := good_below hB3.out D.bel (by omega) (by omega)
            have hgt : w.heap.size + 1 < w'.heap.size := by omega
            refine ⟨#[.agg #[.int .u8 0, .string s, .slice A1 l.length c1, H, Z], .bool true, (.slice B' (args.length - 2) (ac - 2))], by simp only [List.map_toArray, List.map_cons, List.map_nil, e1, e2, e3], (hput.out w' (hxw.out.below hBw) (hyw.out.below hBw) (tabs_below hT'.out hBw)).mono fun e w'' ⟨v, A, n, c, he, ho, hf, hb⟩ => ⟨_, he, ?_, (GoodO _ _).bel hb⟩⟩
            show prP _ _ _ (RelG.get (b.put (some 43) _) 43) w''
            rw [RelG.get_put b 43 _ (by rw [D.siz]; exact (by decide : 43 < 95))]
            exact ⟨v, _, w'.heap.size, rfl, hgt, ho, or_one ho, ⟨A, n, c, _, rfl, hf, hgt⟩⟩)) ?_
        refine RelG.steps_cons (RelG.step_val rfl fun b w' D => by
            obtain ⟨v, y, base, h1, h2, h3, h4, h5⟩ := D.rel 6 rfl
            have e1 : b.eval (.tmp 43) = .tuple #[.agg (lvS L v), y] := h1
            exact ⟨.agg (lvS L v), run_ext0 e1, by
              show lvP _ _ (RelG.get (b.put (some 44) _) 44) w'
              rw [RelG.get_put b 44 _ (by rw [D.siz]; exact (by decide : 44 < 95))]
              exact ⟨v, base, rfl, h2, h3, h4⟩⟩) ?_
        refine RelG.steps_cons (RelG.step_val rfl fun b w' D => by
            obtain ⟨v, y, base, h1, h2, h3, h4, h5⟩ := D.rel 6 rfl
            have e1 : b.eval (.tmp 43) = .tuple #[.agg (lvS L v), y] := h1
            exact ⟨y, run_ext1 e1, by
              show RelG.frP _ _ (RelG.get (b.put (some 45) _) 45) w'
              rw [RelG.get_put b 45 _ (by rw [D.siz]; exact (by decide : 45 < 95))]
              exact h5⟩) ?_
        refine RelG.steps_cons (RelG.step_skip rfl rfl fun b w' D => by
            obtain ⟨v, base, h1, h2, h3, h4⟩ := D.rel 7 rfl
            have e2 : b.eval (.tmp 44) = .agg (lvS L v) := h1
            have e1 : b.eval (.tmp 4) = .pointer (some ⟨w.heap.size + 1, 0, none⟩) := (D.was 4 (by kernel_rfl)).trans (by kernel_rfl)
            obtain ⟨old, hg, hs, hG, hle⟩ := good_store hZ3.out D.bel h2 h3 h4
            refine ⟨w'.setRow (w.heap.size + 1) (lvS L v), ?_, hG, hle⟩
            unfold execOp
            simp only [e1, e2, Instr.storeAt, Instr.sureAddr, Sem.run_bind, Sem.run_pure, Result.andThen_ok, run_storeVar_row (P := Tryz.prog) w' (w.heap.size + 1) tV tV old (lvS L v) hg (by rw [lvS_size]; exact info28) hs (lvS_oneV _ _ h4)]) ?_
        refine RelG.steps_cons (RelG.step_pass_of (n := 95) (j := 8) (t := 45) (u := 5) (p := RelG.frP (w.heap.size + 1) R) (hp := fun x w w' h hle => fr_good h hle) rfl rfl (.inr rfl) rfl (by decide) rfl rfl rfl) ?_
        exact trivial
      intro v e w9 hg hv hle
      have k5 : e 5 = v 10 := hg 10 5 rfl
      have hgood : Good (w.heap.size + 1) L w9 := hv 9 (by decide)
      have hfr : RelG.frP (w.heap.size + 1) R (e 5) w9 := hv 10 (by decide)
      rw [k5] at hfr
      obtain ⟨u, base, hb1, ho1, hc1', hu1⟩ := hgood
      obtain ⟨A, n, c, base2, ev, hf2, hbb⟩ := hfr
      have hBf := veil (good_below hB3.out hle (by omega) (by omega))
      simp only [Rel.fill, Act.put, List.setIfInBounds_toArray, List.set_cons_zero, List.set_cons_succ]
      rw [ev]
      have ho1' := veil ho1
      have hc1v := veil hc1'
      have hf2' := veil hf2
      clear hg hv hle k5 ev ho1 hc1' hf2 q1
      go_wp2_with fail
      refine bodyPost_ret (v := .tuple #[.agg (lvS L u), .slice A n c]) ?_ rfl ?_
      · exact RelG.results_cell_tmp (p := 4) (q := 5) (ty := 26) Tryz.results8 _ _ (w.heap.size + 1) 26 (lvS L u) (0, 0) _ _ rfl rfl hc1v.out Tryz.underlying26 rfl (by rw [lvS_size]; exact info28)
      · show Pres (putL true l (args.drop 2)) (lineL ⟨#[58]⟩ (numS ((putL true l (args.drop 2)).length : Int))) w _ _
        rw [hL.out, hR.out]
        exact ⟨u, A, n, c, rfl, own_weaken ho1'.out (by omega), hf2'.out.base (by omega), hBf.out⟩
  · cases ahead with
    | false =>
      go_enter Tryz.func8, Tryz.ntmps8
      go_wp2_with fail
      rw [← hw2'.out]
      refine (low_any a0 w2 (by omega)).mono ?_
      rintro e w3 ⟨rfl, hb3⟩
      rw [hlow'.out]
      have hB3 := veil (two_below hB2.out hb3)
      have hX3 := veil ((hb3.block _ (by omega)).trans hX2.out)
      have hZ3 := veil ((hb3.block _ (by omega)).trans hZ2.out)
      have hs3 := hb3.size
      clear hb3 q0 q00
      have q1 := cell_of_row _ _ 0 _ _ _ hX3.out
      simp only [List.getElem?_toArray, List.getElem?_cons_zero] at q1
      simp only [pushN]
      go_wp2_with fail
      refine RelG.wp_region_rel2 (G := GoodO (w.heap.size + 1) L) (n := 95) [RelG.is _ 37 (.agg #[.int .u8 2, .string s, .slice A1 l.length c1, H, Z]), RelG.is _ 38 (.string ⟨#[114, 112, 117, 115, 104]⟩), RelG.is _ 39 (.int .u8 114), RelG.is _ 40 (.bool false), RelG.is _ 41 (.slice (some ad) args.length ac), RelG.is _ 42 (.slice B' (args.length - 2) (ac - 2)), prR _ _ R 43, lvR _ _ 44, frG _ _ R 45, goodR _ _, frG _ _ R 5] [[37], [38], [39], [40], [41], [42], [43], [44], [45], [], [5]] (by kernel_rfl) rfl rfl (by kernel_rfl) ?_ ?_
      · refine RelG.steps_cons (RelG.step_load (n := 95) (t := 2) (u := 37) (b := w.heap.size) (t' := tV) (cs := #[.int .u8 2, .string s, .slice A1 l.length c1, H, Z]) (fr := (0, 0)) rfl rfl rfl rfl (by decide) (by kernel_rfl) (by kernel_rfl) Tryz.underlying26 rfl (info5x _ _ _ _ _) (fun w' hle => good_other hle (by omega) hX3.out) rfl) ?_
        refine RelG.steps_cons (RelG.step_was (n := 95) (t := 6) (u := 38) rfl rfl rfl rfl (by decide) (by kernel_rfl) (by kernel_rfl) rfl) ?_
        refine RelG.steps_cons (RelG.step_run (n := 95) (j := 1) (t := 38) (u := 39) (v := .string ⟨#[114, 112, 117, 115, 104]⟩) rfl rfl rfl (by decide) rfl rfl (fun ρ w' hle h hk => by simp [execOp, h, hk, go_sem]; rfl) rfl) ?_
        refine RelG.steps_cons (RelG.step_run (n := 95) (j := 2) (t := 39) (u := 40) (v := .int .u8 114) rfl rfl rfl (by decide) rfl rfl (fun ρ w' hle h hk => by simp [execOp, h, hk, go_sem]) rfl) ?_
        refine RelG.steps_cons (RelG.step_was (n := 95) (t := 1) (u := 41) rfl rfl rfl rfl (by decide) (by kernel_rfl) (by kernel_rfl) rfl) ?_
        refine RelG.steps_cons (RelG.step_run (n := 95) (j := 4) (t := 41) (u := 42) (v := .slice (some ad) args.length ac) rfl rfl rfl (by decide) rfl rfl (fun ρ w' hle h hk => by have hc := hcut'.out w'; simp [execOp, h, hk, Instr.sliceAt, hc]) rfl) ?_
        refine RelG.steps_cons (step_callA rfl Tryz.func17 (by kernel_rfl) rfl rfl (fun b w' D => by
            have e1 : b.eval (.tmp 37) = .agg #[.int .u8 2, .string s, .slice A1 l.length c1, H, Z] := D.is 0 rfl rfl
            have e2 : b.eval (.tmp 40) = .bool false := D.is 3 rfl rfl
            have e3 : b.eval (.tmp 42) = (.slice B' (args.length - 2) (ac - 2)) := D.is 5 rfl rfl
            have hw' := D.bel.1.2.2.2
            have hBw := good_below hB3.out D.bel (by omega) (by omega)
            have hgt : w.heap.size + 1 < w'.heap.size := by omega
            refine ⟨#[.agg #[.int .u8 2, .string s, .slice A1 l.length c1, H, Z], .bool false, (.slice B' (args.length - 2) (ac - 2))], by simp only [List.map_toArray, List.map_cons, List.map_nil, e1, e2, e3], (hput.out w' (hxw.out.below hBw) (hyw.out.below hBw) (tabs_below hT'.out hBw)).mono fun e w'' ⟨v, A, n, c, he, ho, hf, hb⟩ => ⟨_, he, ?_, (GoodO _ _).bel hb⟩⟩
            show prP _ _ _ (RelG.get (b.put (some 43) _) 43) w''
            rw [RelG.get_put b 43 _ (by rw [D.siz]; exact (by decide : 43 < 95))]
            exact ⟨v, _, w'.heap.size, rfl, hgt, ho, or_one ho, ⟨A, n, c, _, rfl, hf, hgt⟩⟩)) ?_
        refine RelG.steps_cons (RelG.step_val rfl fun b w' D => by
            obtain ⟨v, y, base, h1, h2, h3, h4, h5⟩ := D.rel 6 rfl
            have e1 : b.eval (.tmp 43) = .tuple #[.agg (lvS L v), y] := h1
            exact ⟨.agg (lvS L v), run_ext0 e1, by
              show lvP _ _ (RelG.get (b.put (some 44) _) 44) w'
              rw [RelG.get_put b 44 _ (by rw [D.siz]; exact (by decide : 44 < 95))]
              exact ⟨v, base, rfl, h2, h3, h4⟩⟩) ?_
        refine RelG.steps_cons (RelG.step_val rfl fun b w' D => by
            obtain ⟨v, y, base, h1, h2, h3, h4, h5⟩ := D.rel 6 rfl
            have e1 : b.eval (.tmp 43) = .tuple #[.agg (lvS L v), y] := h1
            exact ⟨y, run_ext1 e1, by
              show RelG.frP _ _ (RelG.get (b.put (some 45) _) 45) w'
              rw [RelG.get_put b 45 _ (by rw [D.siz]; exact (by decide : 45 < 95))]
              exact h5⟩) ?_
        refine RelG.steps_cons (RelG.step_skip rfl rfl fun b w' D => by
            obtain ⟨v, base, h1, h2, h3, h4⟩ := D.rel 7 rfl
            have e2 : b.eval (.tmp 44) = .agg (lvS L v) := h1
            have e1 : b.eval (.tmp 4) = .pointer (some ⟨w.heap.size + 1, 0, none⟩) := (D.was 4 (by kernel_rfl)).trans (by kernel_rfl)
            obtain ⟨old, hg, hs, hG, hle⟩ := good_store hZ3.out D.bel h2 h3 h4
            refine ⟨w'.setRow (w.heap.size + 1) (lvS L v), ?_, hG, hle⟩
            unfold execOp
            simp only [e1, e2, Instr.storeAt, Instr.sureAddr, Sem.run_bind, Sem.run_pure, Result.andThen_ok, run_storeVar_row (P := Tryz.prog) w' (w.heap.size + 1) tV tV old (lvS L v) hg (by rw [lvS_size]; exact info28) hs (lvS_oneV _ _ h4)]) ?_
        refine RelG.steps_cons (RelG.step_pass_of (n := 95) (j := 8) (t := 45) (u := 5) (p := RelG.frP (w.heap.size + 1) R) (hp := fun x w w' h hle => fr_good h hle) rfl rfl (.inr rfl) rfl (by decide) rfl rfl rfl) ?_
        exact trivial
      intro v e w9 hg hv hle
      have k5 : e 5 = v 10 := hg 10 5 rfl
      have hgood : Good (w.heap.size + 1) L w9 := hv 9 (by decide)
      have hfr : RelG.frP (w.heap.size + 1) R (e 5) w9 := hv 10 (by decide)
      rw [k5] at hfr
      obtain ⟨u, base, hb1, ho1, hc1', hu1⟩ := hgood
      obtain ⟨A, n, c, base2, ev, hf2, hbb⟩ := hfr
      have hBf := veil (good_below hB3.out hle (by omega) (by omega))
      simp only [Rel.fill, Act.put, List.setIfInBounds_toArray, List.set_cons_zero, List.set_cons_succ]
      rw [ev]
      have ho1' := veil ho1
      have hc1v := veil hc1'
      have hf2' := veil hf2
      clear hg hv hle k5 ev ho1 hc1' hf2 q1
      go_wp2_with fail
      refine bodyPost_ret (v := .tuple #[.agg (lvS L u), .slice A n c]) ?_ rfl ?_
      · exact RelG.results_cell_tmp (p := 4) (q := 5) (ty := 26) Tryz.results8 _ _ (w.heap.size + 1) 26 (lvS L u) (0, 0) _ _ rfl rfl hc1v.out Tryz.underlying26 rfl (by rw [lvS_size]; exact info28)
      · show Pres (putL false l (args.drop 2)) (lineL ⟨#[58]⟩ (numS ((putL false l (args.drop 2)).length : Int))) w _ _
        rw [hL.out, hR.out]
        exact ⟨u, A, n, c, rfl, own_weaken ho1'.out (by omega), hf2'.out.base (by omega), hBf.out⟩
    | true =>
      go_enter Tryz.func8, Tryz.ntmps8
      go_wp2_with fail
      rw [← hw2'.out]
      refine (low_any a0 w2 (by omega)).mono ?_
      rintro e w3 ⟨rfl, hb3⟩
      rw [hlow'.out]
      have hB3 := veil (two_below hB2.out hb3)
      have hX3 := veil ((hb3.block _ (by omega)).trans hX2.out)
      have hZ3 := veil ((hb3.block _ (by omega)).trans hZ2.out)
      have hs3 := hb3.size
      clear hb3 q0 q00
      have q1 := cell_of_row _ _ 0 _ _ _ hX3.out
      simp only [List.getElem?_toArray, List.getElem?_cons_zero] at q1
      simp only [pushN]
      go_wp2_with fail
      refine RelG.wp_region_rel2 (G := GoodO (w.heap.size + 1) L) (n := 95) [RelG.is _ 37 (.agg #[.int .u8 2, .string s, .slice A1 l.length c1, H, Z]), RelG.is _ 38 (.string ⟨#[108, 112, 117, 115, 104]⟩), RelG.is _ 39 (.int .u8 108), RelG.is _ 40 (.bool true), RelG.is _ 41 (.slice (some ad) args.length ac), RelG.is _ 42 (.slice B' (args.length - 2) (ac - 2)), prR _ _ R 43, lvR _ _ 44, frG _ _ R 45, goodR _ _, frG _ _ R 5] [[37], [38], [39], [40], [41], [42], [43], [44], [45], [], [5]] (by kernel_rfl) rfl rfl (by kernel_rfl) ?_ ?_
      · refine RelG.steps_cons (RelG.step_load (n := 95) (t := 2) (u := 37) (b := w.heap.size) (t' := tV) (cs := #[.int .u8 2, .string s, .slice A1 l.length c1, H, Z]) (fr := (0, 0)) rfl rfl rfl rfl (by decide) (by kernel_rfl) (by kernel_rfl) Tryz.underlying26 rfl (info5x _ _ _ _ _) (fun w' hle => good_other hle (by omega) hX3.out) rfl) ?_
        refine RelG.steps_cons (RelG.step_was (n := 95) (t := 6) (u := 38) rfl rfl rfl rfl (by decide) (by kernel_rfl) (by kernel_rfl) rfl) ?_
        refine RelG.steps_cons (RelG.step_run (n := 95) (j := 1) (t := 38) (u := 39) (v := .string ⟨#[108, 112, 117, 115, 104]⟩) rfl rfl rfl (by decide) rfl rfl (fun ρ w' hle h hk => by simp [execOp, h, hk, go_sem]; rfl) rfl) ?_
        refine RelG.steps_cons (RelG.step_run (n := 95) (j := 2) (t := 39) (u := 40) (v := .int .u8 108) rfl rfl rfl (by decide) rfl rfl (fun ρ w' hle h hk => by simp [execOp, h, hk, go_sem]) rfl) ?_
        refine RelG.steps_cons (RelG.step_was (n := 95) (t := 1) (u := 41) rfl rfl rfl rfl (by decide) (by kernel_rfl) (by kernel_rfl) rfl) ?_
        refine RelG.steps_cons (RelG.step_run (n := 95) (j := 4) (t := 41) (u := 42) (v := .slice (some ad) args.length ac) rfl rfl rfl (by decide) rfl rfl (fun ρ w' hle h hk => by have hc := hcut'.out w'; simp [execOp, h, hk, Instr.sliceAt, hc]) rfl) ?_
        refine RelG.steps_cons (step_callA rfl Tryz.func17 (by kernel_rfl) rfl rfl (fun b w' D => by
            have e1 : b.eval (.tmp 37) = .agg #[.int .u8 2, .string s, .slice A1 l.length c1, H, Z] := D.is 0 rfl rfl
            have e2 : b.eval (.tmp 40) = .bool true := D.is 3 rfl rfl
            have e3 : b.eval (.tmp 42) = (.slice B' (args.length - 2) (ac - 2)) := D.is 5 rfl rfl
            have hw' := D.bel.1.2.2.2
            have hBw := good_below hB3.out D.bel (by omega) (by omega)
            have hgt : w.heap.size + 1 < w'.heap.size := by omega
            refine ⟨#[.agg #[.int .u8 2, .string s, .slice A1 l.length c1, H, Z], .bool true, (.slice B' (args.length - 2) (ac - 2))], by simp only [List.map_toArray, List.map_cons, List.map_nil, e1, e2, e3], (hput.out w' (hxw.out.below hBw) (hyw.out.below hBw) (tabs_below hT'.out hBw)).mono fun e w'' ⟨v, A, n, c, he, ho, hf, hb⟩ => ⟨_, he, ?_, (GoodO _ _).bel hb⟩⟩
            show prP _ _ _ (RelG.get (b.put (some 43) _) 43) w''
            rw [RelG.get_put b 43 _ (by rw [D.siz]; exact (by decide : 43 < 95))]
            exact ⟨v, _, w'.heap.size, rfl, hgt, ho, or_one ho, ⟨A, n, c, _, rfl, hf, hgt⟩⟩)) ?_
        refine RelG.steps_cons (RelG.step_val rfl fun b w' D => by
            obtain ⟨v, y, base, h1, h2, h3, h4, h5⟩ := D.rel 6 rfl
            have e1 : b.eval (.tmp 43) = .tuple #[.agg (lvS L v), y] := h1
            exact ⟨.agg (lvS L v), run_ext0 e1, by
              show lvP _ _ (RelG.get (b.put (some 44) _) 44) w'
              rw [RelG.get_put b 44 _ (by rw [D.siz]; exact (by decide : 44 < 95))]
              exact ⟨v, base, rfl, h2, h3, h4⟩⟩) ?_
        refine RelG.steps_cons (RelG.step_val rfl fun b w' D => by
            obtain ⟨v, y, base, h1, h2, h3, h4, h5⟩ := D.rel 6 rfl
            have e1 : b.eval (.tmp 43) = .tuple #[.agg (lvS L v), y] := h1
            exact ⟨y, run_ext1 e1, by
              show RelG.frP _ _ (RelG.get (b.put (some 45) _) 45) w'
              rw [RelG.get_put b 45 _ (by rw [D.siz]; exact (by decide : 45 < 95))]
              exact h5⟩) ?_
        refine RelG.steps_cons (RelG.step_skip rfl rfl fun b w' D => by
            obtain ⟨v, base, h1, h2, h3, h4⟩ := D.rel 7 rfl
            have e2 : b.eval (.tmp 44) = .agg (lvS L v) := h1
            have e1 : b.eval (.tmp 4) = .pointer (some ⟨w.heap.size + 1, 0, none⟩) := (D.was 4 (by kernel_rfl)).trans (by kernel_rfl)
            obtain ⟨old, hg, hs, hG, hle⟩ := good_store hZ3.out D.bel h2 h3 h4
            refine ⟨w'.setRow (w.heap.size + 1) (lvS L v), ?_, hG, hle⟩
            unfold execOp
            simp only [e1, e2, Instr.storeAt, Instr.sureAddr, Sem.run_bind, Sem.run_pure, Result.andThen_ok, run_storeVar_row (P := Tryz.prog) w' (w.heap.size + 1) tV tV old (lvS L v) hg (by rw [lvS_size]; exact info28) hs (lvS_oneV _ _ h4)]) ?_
        refine RelG.steps_cons (RelG.step_pass_of (n := 95) (j := 8) (t := 45) (u := 5) (p := RelG.frP (w.heap.size + 1) R) (hp := fun x w w' h hle => fr_good h hle) rfl rfl (.inr rfl) rfl (by decide) rfl rfl rfl) ?_
        exact trivial
      intro v e w9 hg hv hle
      have k5 : e 5 = v 10 := hg 10 5 rfl
      have hgood : Good (w.heap.size + 1) L w9 := hv 9 (by decide)
      have hfr : RelG.frP (w.heap.size + 1) R (e 5) w9 := hv 10 (by decide)
      rw [k5] at hfr
      obtain ⟨u, base, hb1, ho1, hc1', hu1⟩ := hgood
      obtain ⟨A, n, c, base2, ev, hf2, hbb⟩ := hfr
      have hBf := veil (good_below hB3.out hle (by omega) (by omega))
      simp only [Rel.fill, Act.put, List.setIfInBounds_toArray, List.set_cons_zero, List.set_cons_succ]
      rw [ev]
      have ho1' := veil ho1
      have hc1v := veil hc1'
      have hf2' := veil hf2
      clear hg hv hle k5 ev ho1 hc1' hf2 q1
      go_wp2_with fail
      refine bodyPost_ret (v := .tuple #[.agg (lvS L u), .slice A n c]) ?_ rfl ?_
      · exact RelG.results_cell_tmp (p := 4) (q := 5) (ty := 26) Tryz.results8 _ _ (w.heap.size + 1) 26 (lvS L u) (0, 0) _ _ rfl rfl hc1v.out Tryz.underlying26 rfl (by rw [lvS_size]; exact info28)
      · show Pres (putL true l (args.drop 2)) (lineL ⟨#[58]⟩ (numS ((putL true l (args.drop 2)).length : Int))) w _ _
        rw [hL.out, hR.out]
        exact ⟨u, A, n, c, rfl, own_weaken ho1'.out (by omega), hf2'.out.base (by omega), hBf.out⟩
end Go.Proofs.Tryz.Ln
