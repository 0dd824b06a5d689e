import Derived.Test.YtnlmdijpbedefaaGreatDoorLsD
/- The law of texts that are put at once. -/
namespace Go.Proofs.Tryz.Ln
open Go Go.RowKit Go.Proofs.Mem Go.Proofs.App
open Go.Proofs.YtnlmdijpbedefaaGreatDoorW.PrintWords Go.Proofs.YtnlmdijpbedefaaGreatDoorW.PrintMore
open Go.Proofs.Rel (dsts depsOf)
attribute [local go_sem] min2_sym min_two
set_option linter.unusedVariables false
set_option linter.unusedSimpArgs false
def Lq (l : List ByteArray) (q : Nat) : List ByteArray := (l.take q).reverse
theorem Lq_succ (l : List ByteArray) (q : Nat) (s : ByteArray) (h : l[q]? = some s) : Lq l (q + 1) = s :: Lq l q := by
  unfold Lq
  rw [List.take_add_one, h]
  simp
theorem Lq_len (l : List ByteArray) (q : Nat) : (Lq l q).length ≤ q := by simp [Lq]; omega
theorem tR_goodw {w w' : World} {g b o n c : Nat} {L l : List ByteArray} (h : tR w (.slice (some ⟨b, o, none⟩) n c) l) (hle : (GoodW g L).le w w') (hne : b ≠ g) (hb : b < w.heap.size) : tR w' (.slice (some ⟨b, o, none⟩) n c) l := by
  obtain ⟨A, c', e, h1, h2, h3, h4⟩ := h.ex
  injection e with e1 e2 e3
  subst e1
  subst e2
  subst e3
  refine ⟨_, c, rfl, h1, h2, h3, h4.1, h4.2.1, fun hp => ?_⟩
  obtain ⟨ad, e, hc⟩ := h4.2.2 hp
  injection e with e
  subst e
  refine ⟨_, rfl, fun j hj => ?_⟩
  rw [← hc j hj, add_off]
  unfold World.cell?
  rw [hle.2.1 b hne hb]
theorem do_pushV (ahead : Bool) (a0 : ByteArray) (v : Value) (l args : List ByteArray) (B : Option Addr) (ac : Nat) (w : World) (hv : tR w v l) (h1 : v.oneCell' = true) (hargs : tR w (.slice B args.length ac) args) (h2 : 2 ≤ args.length) (ha : args[0]? = some a0) (hz0 : a0.size ≤ 1000) (hlow : lowS a0 = pushN ahead)
    (hn : l.length + args.length ≤ 1000000) (hT : Tabs w) :
    Calls Tryz.prog 8 #[.agg (lvS l v), .slice B args.length ac] w (Pres (putL ahead l (args.drop 2)) (lineL ⟨#[58]⟩ (numS ((putL ahead l (args.drop 2)).length : Int))) w) := by
  by_cases hl : l = []
  · subst hl
    exact do_push ahead 0 ⟨#[]⟩ a0 nl nl nl [] args B ac w (.inl rfl) (tR_nil w) hargs h2 ha hz0 hlow hn hT
  · rw [show lvS l v = _ from if_neg hl]
    exact do_push ahead 2 ⟨#[]⟩ a0 v nl nl l args B ac w (.inr rfl) hv hargs h2 ha hz0 hlow hn hT
/-- a new cell that holds v -/
structure NewV (v : Array Value) (w W : World) : Prop where
  sz : W.heap.size = w.heap.size + 1
  cell : W.heap[w.heap.size]? = some (.cells v tV (0, 0))
  bel : Below w.heap.size w W
theorem newV (v : Array Value) (w : World) : NewV v w ((w.alloc (.cells #[.int .u8 0, .string ⟨#[]⟩, .slice none 0 0, .slice none 0 0, .slice none 0 0] tV)).setRow w.heap.size v) where
  sz := by simp [World.setRow]
  cell := setRow_heap _ w.heap.size zS _ _ (0, 0) (heap_alloc_last w _)
  bel := below_setRow (below_alloc (Below.refl _ _) _) _ _ (Nat.le_refl _)
theorem line_len (m : UInt8) (s : ByteArray) : (lineL ⟨#[m]⟩ s).length = s.size + 3 := by
  rw [lineL_len]
  show 1 + s.size + 2 = _
  omega
theorem mn10 (n : Nat) : mn (n : Int) 10 = ((min n 10 : Nat) : Int) := by unfold mn; split <;> omega
set_option maxRecDepth 100000 in
set_option maxHeartbeats 16000000 in
theorem pushes_any (A : Option Addr) (c : Nat) (l : List ByteArray) (w : World) (hr : ReadsOf Value.string ByteArray.empty w A l.length l) (hc : l.length ≤ c) (hT : Tabs w) :
    Calls Tryz.prog 5 #[.slice A l.length c] w fun e w' => e = .returned (.bool true) ∧ Below w.heap.size w w' := by
  have hT' := veil hT
  have hr' := veil hr
  have hm := mn10 l.length
  obtain ⟨m, hm0⟩ : ∃ m, min l.length 10 = m := ⟨_, rfl⟩
  rw [hm0] at hm
  have hml : m ≤ l.length := by omega
  have hm10 : m ≤ 10 := by omega
  have hcut := cutH A l.length c m hml hc
  clear hT hr
  go_enter Tryz.func5, Tryz.ntmps5
  go_wp2_with fail
  refine (shown12_any _ hT'.out).mono ?_
  rintro e w1 ⟨rfl, hb1⟩
  have hB1 := veil hb1
  clear hb1
  obtain ⟨wE, hwE⟩ : ∃ wE : World, wE = w1.alloc (.cells #[] 9) := ⟨_, rfl⟩
  have hb2 : Below w1.heap.size w1 wE := by rw [hwE]; exact below_alloc (Below.refl _ _) _
  have hBE := veil (two_below hB1.out hb2)
  have hoE : OR wE w.heap.size (.slice (some ⟨w1.heap.size, 0, none⟩) 0 0) [] := ⟨rfl, .inr ⟨w1.heap.size, 0, #[], rfl, hB1.out.size, by rw [hwE]; exact heap_alloc_last w1 _, by simp, by decide, rfl, rfl⟩⟩
  have hrE := (hr'.out.below hBE.out).take_ m hml
  have hsE : w.heap.size ≤ wE.heap.size := hBE.out.size
  have hBE' := hBE.out
  rw [hwE] at hoE hrE hBE' hsE
  clear hb2
  go_wp2_with (refine print_append_row_of (w0 := w) Value.string ByteArray.empty w.heap.size rfl _ _ 22 9 (.string ⟨#[]⟩) 16 rfl Tryz.underlying22 infoS rfl (by decide) (fun _ => rfl) _ [] (l.take m) A m c rfl rfl hoE hrE hBE' hsE (by simp; omega) ?_)
  intro v1 w2 ho2 hb2 _ _
  have hlm : (l.take m).length = m := by rw [List.length_take]; omega
  have hB2 := veil hb2
  have ho2' : OR w2 w.heap.size v1 (l.take m) := by
    show w2.ownsRow _ _ 1 v1 (l.take m).length _
    rw [hlm]
    exact ho2
  obtain ⟨A2, c2, rfl, hc2, hc2m, hz2, hTR2⟩ := (tR_own ho2').ex
  rw [hlm] at hc2 ⊢
  have hTR2' := veil hTR2
  have hz2' := veil hz2
  have hlm' := veil hlm
  clear hb2 ho2 ho2' hoE hrE hBE' hsE hwE hcut hm hTR2 hz2
  by_cases h0 : m = 0
  · have h1' : ((m : Int) == 0) = true := by simp [h0]
    clear h0
    go_wp2_with fail
    obtain ⟨w3, hw3⟩ : ∃ w3 : World, w3 = (w2.alloc (.cells #[.string ⟨#[120]⟩] 9)).alloc (.cells #[.int .u8 0, .string ⟨#[]⟩, .slice none 0 0, .slice none 0 0, .slice none 0 0] 28) := ⟨_, rfl⟩
    have hsz3 : w3.heap.size = w2.heap.size + 2 := by rw [hw3]; simp
    have hb3 : Below w2.heap.size w2 w3 := by rw [hw3]; exact (below_alloc (Below.refl _ _) _).alloc (by simp) _
    have hx3 : w3.heap[w2.heap.size]? = some (.cells #[.string ⟨#[120]⟩] 9 (0, 0)) := by rw [hw3]; exact heap_alloc2_old w2 _ _
    have hg3 : Veil (w3.heap[w2.heap.size + 1]? = some (.cells (lvS [] nl) tV (0, 0))) := veil (by
      rw [hw3]
      have := heap_alloc_last (w2.alloc (.cells #[.string ⟨#[120]⟩] 9)) (.cells #[.int .u8 0, .string ⟨#[]⟩, .slice none 0 0, .slice none 0 0, .slice none 0 0] 28)
      simpa [lvS, zS] using this)
    have hB3 := veil (two_below hB2.out hb3)
    have hws : Veil (tR w3 (.slice (some ⟨w2.heap.size, 0, none⟩) 1 1) [⟨#[120]⟩]) := veil (tR_lit [⟨#[120]⟩] 1 rfl hx3 (by decide))
    have hw2s : w.heap.size ≤ w2.heap.size := hB2.out.size
    rw [← hw3]
    clear hb3 hx3 hw3 hB2 hTR2' hz2' hlm'
    generalize hxs : (Value.slice (some ⟨w2.heap.size, 0, none⟩) 1 1) = xs at hws ⊢
    obtain ⟨ab, ao, m1, c1, rfl, hab, hm1, hm10', hnl0⟩ : ∃ ab ao m1 c1 : Nat, xs = .slice (some ⟨ab, ao, none⟩) m1 c1 ∧ ab < w2.heap.size + 1 ∧ 1 ≤ m1 ∧ m1 ≤ 10 ∧ Veil (([⟨#[120]⟩] : List ByteArray).length = m1) := ⟨_, _, _, _, hxs.symm, by omega, by omega, by omega, veil rfl⟩
    clear hxs
    obtain ⟨ws, hwsd⟩ : ∃ ws : List ByteArray, [⟨#[120]⟩] = ws := ⟨_, rfl⟩
    rw [hwsd] at hws hnl0
    have hnl := hnl0
    clear hwsd hnl0
    go_loopw [6] (fun i wr => ∃ (q : Nat) (v : Value), q ≤ m1 ∧ i = .int .i64 q ∧ wr.heap[(w2.heap.size + 1)]? = some (.cells (lvS (Lq ws q) v) tV (0, 0)) ∧ tR wr v (Lq ws q) ∧ v.oneCell' = true ∧ tR wr (.slice (some ⟨ab, ao, none⟩) m1 c1) ws ∧ w3.heap.size ≤ wr.heap.size ∧ Below w.heap.size w wr) (fun i _ => m1 - (intOf i).toNat)
    case atStart => exact ⟨0, nl, by omega, rfl, by rw [show Lq ws 0 = [] from rfl]; exact hg3.out, by rw [show Lq ws 0 = [] from rfl]; exact tR_nil _, rfl, hws.out, Nat.le_refl _, hB3.out⟩
    case round =>
      obtain ⟨q, v, hq, rfl, hcell, hv, hv1, hwsr, hszr, hbr⟩ := hrel
      have hcell' := veil hcell
      have hv' := veil hv
      have hv1' := veil hv1
      have hwsr' := veil hwsr
      have hbr' := veil hbr
      clear hcell hv hv1 hwsr hbr
      by_cases hlt : q < m1
      · have q0 : (0 : Int) ≤ q := by omega
        have qN : (q : Int) < (m1 : Nat) := by omega
        have qM : ¬ ((m1 : Int) ≤ q) := by omega
        obtain ⟨sq, hsq⟩ : ∃ sq, (ws : List ByteArray)[q]? = some sq := ⟨_, List.getElem?_eq_getElem (by rw [hnl.out]; exact hlt)⟩
        have cq : Veil (wr.cell? ⟨ab, ao + q, none⟩ = some (.string sq)) := veil (by have h := tR_at hwsr'.out hsq; simpa using h)
        have hL := veil (Lq_succ ws q sq hsq)
        have hLn := Lq_len ws q
        obtain ⟨Lo, hLo⟩ : ∃ Lo, Lq ws q = Lo := ⟨_, rfl⟩
        rw [hLo] at hcell' hv' hL hLn
        have hGlt : (w2.heap.size + 1) < wr.heap.size := (Array.getElem?_eq_some_iff.1 hcell'.out).1
        have hABlt : ab < wr.heap.size := World.block_lt_of_cell? wr _ cq.out
        obtain ⟨R, hR⟩ : ∃ R, lineL ⟨#[58]⟩ (numS ((sq :: Lo).length : Int)) = R := ⟨_, rfl⟩
        have hdo : Veil (∀ w' b, Below wr.heap.size wr w' → w'.heap[b]? = some (.cells #[.string ⟨#[108, 112, 117, 115, 104]⟩, .string ⟨#[107]⟩, .string sq] 9 (0, 0)) → Calls Tryz.prog 8 #[.agg (lvS Lo v), .slice (some ⟨b, 0, none⟩) 3 3] w' (Pres (sq :: Lo) R w')) :=
          veil (fun w' b h1 h2 => by rw [← hR]; exact do_pushV true ⟨#[108, 112, 117, 115, 104]⟩ v Lo [⟨#[108, 112, 117, 115, 104]⟩, ⟨#[107]⟩, sq] (some ⟨b, 0, none⟩) 3 w' (hv'.out.below h1) hv1'.out (tR_lit [⟨#[108, 112, 117, 115, 104]⟩, ⟨#[107]⟩, sq] 3 rfl h2 (by simp)) (by simp) rfl (by decide) low_lpush (by simp; omega) (tabs_below hT'.out (two_below hbr'.out h1)))
        clear hR hLo hsq
        go_wp2_with fail
        refine RelG.wp_region_relS (G := GoodW (w2.heap.size + 1) (sq :: Lo)) (G1 := BelO) (n := 112) (bel_sub _ _) 10 _ [9] [RelG.is _ 33 (.agg (lvS Lo v)), RelG.is _ 34 (.slice (some ⟨ab, ao, none⟩) m1 c1), RelG.is _ 35 (.int .i64 q), RelG.is _ 36 (.pointer (some ⟨ab, ao + q, none⟩)), RelG.is _ 37 (.string sq), txW _ _ #[.string ⟨#[108, 112, 117, 115, 104]⟩, .string ⟨#[107]⟩, .string sq] 38, prW _ _ R 39, prW _ _ R 32, lvW _ _ 40, frW _ _ R 41, goodWR _ _] [[33], [34], [35], [36], [37], [38], [39], [32], [40], [41], []] (by kernel_rfl) rfl rfl (by kernel_rfl) rfl (by kernel_rfl) ?_ ?_ ?_ ?_
        · refine RelG.stepsS_cons (RelG.step_load (n := 112) (t := 5) (u := 33) (b := (w2.heap.size + 1)) (t' := tV) (cs := lvS Lo v) (fr := (0, 0)) rfl rfl rfl rfl (by decide) (by kernel_rfl) (by kernel_rfl) Tryz.underlying28 rfl (by rw [lvS_size]; exact info28) (fun w' hle => (Below.block hle _ hGlt).trans hcell'.out) rfl) ?_
          refine RelG.stepsS_cons (RelG.step_was (n := 112) (t := 4) (u := 34) rfl rfl rfl rfl (by decide) (by kernel_rfl) (by kernel_rfl) rfl) ?_
          refine RelG.stepsS_cons (RelG.step_was (n := 112) (t := 6) (u := 35) rfl rfl rfl rfl (by decide) (by kernel_rfl) (by kernel_rfl) rfl) ?_
          refine RelG.stepsS_cons (RelG.step_run2 (n := 112) (j := 1) (t := 34) (j2 := 2) (t2 := 35) (u := 36) (v := (.slice (some ⟨ab, ao, none⟩) m1 c1)) (v2 := .int .i64 q) rfl rfl rfl (by decide) rfl rfl rfl rfl (fun ρ w' hle h h2 hk => by simp [execOp, h, h2, hk, go_sem, q0, qN, qM, add_off]) rfl) ?_
          refine RelG.stepsS_cons (RelG.step_run (n := 112) (j := 3) (t := 36) (u := 37) (v := .pointer (some ⟨ab, ao + q, none⟩)) rfl rfl rfl (by decide) rfl rfl (fun ρ w' hle h hk => by
              have c := (Below.cell hle (p := ⟨ab, ao + q, none⟩) hABlt).trans cq.out
              simp [execOp, h, hk, go_sem, c]) rfl) ?_
          refine RelG.stepsS_cons (RelG.step_make rfl fun b w' D => ⟨.slice (some ⟨w'.heap.size, 0, none⟩) 3 3, w'.alloc (.cells #[.string ⟨#[108, 112, 117, 115, 104]⟩, .string ⟨#[107]⟩, .string sq] 9), by
                have e2 : b.eval (.tmp 37) = .string sq := D.is 4 rfl rfl
                have hr := run_texts3 w' ⟨#[108, 112, 117, 115, 104]⟩ ⟨#[107]⟩ sq
                unfold execOp
                simp only [List.map_toArray, List.map_cons, List.map_nil, e2, show ∀ v, b.eval (.const v) = v from fun _ => rfl, Sem.run_bind]
                rw [hr]
                rfl, by
                show txP _ _ (RelG.get (b.put (some 38) _) 38) _
                rw [RelG.get_put b 38 _ (by rw [D.siz]; exact (by decide : 38 < 112))]
                exact ⟨_, rfl, heap_alloc_last w' _, by have := Below.size D.bel; omega⟩, below_alloc (Below.refl _ _) _⟩) ?_
          refine RelG.stepsS_cons (step_callA rfl Tryz.func8 (by kernel_rfl) rfl rfl (fun b w' D => by
              obtain ⟨z, h1, h2, h3⟩ := D.rel 5 rfl
              have e1 : b.eval (.tmp 33) = .agg (lvS Lo v) := D.is 0 rfl rfl
              have e2 : b.eval (.tmp 38) = .slice (some ⟨z, 0, none⟩) 3 3 := h1
              refine ⟨#[.agg (lvS Lo v), .slice (some ⟨z, 0, none⟩) 3 3], by simp only [List.map_toArray, List.map_cons, List.map_nil, e1, e2], (hdo.out w' z D.bel h2).mono fun e w'' ⟨u, A, n, c, he, ho, hf, hb⟩ => ⟨_, he, ?_, hb⟩⟩
              show prP _ _ _ (RelG.get (b.put (some 39) _) 39) w''
              rw [RelG.get_put b 39 _ (by rw [D.siz]; exact (by decide : 39 < 112))]
              have hgt : (w2.heap.size + 1) < w'.heap.size := by have := Below.size D.bel; omega
              exact ⟨u, _, w'.heap.size, rfl, hgt, ho, or_one ho, ⟨A, n, c, _, rfl, hf, hgt⟩⟩)) ?_
          refine RelG.stepsS_cons (RelG.step_pass_of (n := 112) (j := 6) (t := 39) (u := 32) (p := prP (w2.heap.size + 1) (sq :: Lo) R) (hp := fun x w w' h hle => prP_w x w w' h (bel_sub _ _ _ _ hle)) rfl rfl (.inl rfl) rfl (by decide) rfl rfl rfl) ?_
          refine RelG.stepsS_cons (RelG.step_val rfl fun b w' D => by
              obtain ⟨u, y, base, h1, h2, h3, h4, h5⟩ := D.rel 7 rfl
              have e1 : b.eval (.tmp 32) = .tuple #[.agg (lvS (sq :: Lo) u), y] := h1
              exact ⟨.agg (lvS (sq :: Lo) u), run_ext0 e1, by
                show lvP _ _ (RelG.get (b.put (some 40) _) 40) w'
                rw [RelG.get_put b 40 _ (by rw [D.siz]; exact (by decide : 40 < 112))]
                exact ⟨u, base, rfl, h2, h3, h4⟩⟩) ?_
          refine RelG.stepsS_cons (RelG.step_val rfl fun b w' D => by
              obtain ⟨u, y, base, h1, h2, h3, h4, h5⟩ := D.rel 7 rfl
              have e1 : b.eval (.tmp 32) = .tuple #[.agg (lvS (sq :: Lo) u), y] := h1
              exact ⟨y, run_ext1 e1, by
                show RelG.frP _ _ (RelG.get (b.put (some 41) _) 41) w'
                rw [RelG.get_put b 41 _ (by rw [D.siz]; exact (by decide : 41 < 112))]
                exact h5⟩) ?_
          exact RelG.stepsS_skip trivial
        · exact RelG.storeS_skip rfl rfl fun b w' D => by
            obtain ⟨u, base, h1, h2, h3, h4⟩ := D.rel 8 rfl
            have e2 : b.eval (.tmp 40) = .agg (lvS (sq :: Lo) u) := h1
            have e1 : b.eval (.tmp 5) = .pointer (some ⟨(w2.heap.size + 1), 0, none⟩) := (D.was 5 (by kernel_rfl)).trans (by kernel_rfl)
            have hgo := (Below.block D.bel _ hGlt).trans hcell'.out
            obtain ⟨hG, hle⟩ := goodw_store (L := sq :: Lo) hgo h2 h3 h4
            refine ⟨w'.setRow (w2.heap.size + 1) (lvS (sq :: Lo) u), ?_, hG, hle⟩
            unfold execOp
            simp only [e1, e2, Instr.storeAt, Instr.sureAddr, Sem.run_bind, Sem.run_pure, Result.andThen_ok, run_storeVar_row (P := Tryz.prog) w' (w2.heap.size + 1) tV tV (lvS Lo v) (lvS (sq :: Lo) u) hgo (by rw [lvS_size]; exact info28) (by rw [lvS_size, lvS_size]) (lvS_oneV _ _ h4)]
        · intro i hi oo ho
          obtain rfl : i = 9 := by simpa using hi
          obtain rfl := Option.some.inj ho
          exact RelG.pureS_val rfl fun b w' hz hn => by
            obtain ⟨u, y, base, h1, h2, h3, h4, h5⟩ := hn 7 (List.contains_iff_mem.1 (by kernel_rfl))
            have e1 : b.eval (.tmp 32) = .tuple #[.agg (lvS (sq :: Lo) u), y] := h1
            exact ⟨y, run_ext1 e1, by
              show RelG.frP _ _ (RelG.get (b.put (some 41) _) 41) w'
              rw [RelG.get_put b 41 _ (by rw [hz]; exact (by decide : 41 < 112))]
              exact h5⟩
        intro u e w9 hg hv hle
        have hgood : Good (w2.heap.size + 1) (sq :: Lo) w9 := hv 10 (by decide)
        obtain ⟨v9, base, hb1, ho1, hc1, hv9⟩ := hgood
        have hBf := veil (goodw_below hbr'.out hle (by omega) (by omega))
        have hws9 := veil (tR_goodw hwsr'.out hle (by omega) hABlt)
        have hs9 : wr.heap.size ≤ w9.heap.size := hle.1.2.2.2
        simp only [Rel.fill, Act.put, List.setIfInBounds_toArray, List.set_cons_zero, List.set_cons_succ]
        have ho1' := veil (tR_own ho1)
        have hc1' := veil hc1
        have hv9' := veil hv9
        clear hg hv hle ho1 hc1 hv9
        go_wp2_with fail
        have kk : ((q : Int) + 1) = ((q + 1 : Nat) : Int) := by omega
        have kk' := veil kk
        clear kk
        go_roundw
        case rel => exact ⟨q + 1, v9, hlt, congrArg (Value.int .i64) kk'.out, by rw [hL.out]; exact hc1'.out, by rw [hL.out]; exact ho1'.out, hv9'.out, hws9.out, Nat.le_trans hszr hs9, hBf.out⟩
        case measure => simp [intOf]; omega
      · obtain rfl : m1 = q := by omega
        have hGl : (w2.heap.size + 1) < wr.heap.size := (Array.getElem?_eq_some_iff.1 hcell'.out).1
        have hLl := Lq_len ws m1
        have hLall : Lq ws m1 = (ws).reverse := by unfold Lq; rw [List.take_of_length_le (by rw [hnl.out]; exact Nat.le_refl _)]
        rw [hLall] at hcell' hv'
        clear hLl hLall
        obtain ⟨mo, hmo⟩ : ∃ mo, lvS (ws).reverse v = mo := ⟨_, rfl⟩
        rw [hmo] at hcell'
        have hmso : mo.size = 5 := by rw [← hmo]; exact lvS_size _ _
        have hmoe := veil hmo
        clear hmo
        obtain ⟨wa0, hwa0⟩ : ∃ W : World, W = wr.alloc (.cells #[.string ⟨#[108, 112, 117, 115, 104]⟩, .string ⟨#[107]⟩] 9) := ⟨_, rfl⟩
        have hba0 : Below wr.heap.size wr wa0 := by rw [hwa0]; exact below_alloc (Below.refl _ _) _
        have hoa0 : OR wa0 wr.heap.size (.slice (some ⟨wr.heap.size, 0, none⟩) 2 2) [⟨#[108, 112, 117, 115, 104]⟩, ⟨#[107]⟩] := ⟨rfl, .inr ⟨wr.heap.size, 2, #[.string ⟨#[108, 112, 117, 115, 104]⟩, .string ⟨#[107]⟩], rfl, Nat.le_refl _, by rw [hwa0]; exact heap_alloc_last wr _, Nat.le_refl _, by decide, rfl, rfl⟩⟩
        obtain ⟨Ax, cx, ex, hcx, _, _, hTx⟩ := (hwsr'.out.below hba0).ex
        injection ex with ex1 ex2 ex3
        subst ex1
        subst ex3
        rw [show TR _ _ ws = ReadsOf Value.string ByteArray.empty _ _ ws.length ws from rfl, hnl.out] at hTx
        clear ex2
        have hba0' := hba0
        have hsa0 := hba0.size
        rw [hwa0] at hoa0 hTx hba0' hsa0
        go_wp2_with (refine print_append_row_of (w0 := wr) Value.string ByteArray.empty wr.heap.size rfl _ _ 22 9 (.string ⟨#[]⟩) 16 rfl Tryz.underlying22 infoS rfl (by decide) (fun _ => rfl) _ [⟨#[108, 112, 117, 115, 104]⟩, ⟨#[107]⟩] ws _ m1 _ rfl rfl hoa0 hTx hba0' hsa0 (by show (2 + m1) * 16 ≤ _; omega) ?_)
        intro v1 wp0 ho4 hb4 _ _
        have ho4' : OR wp0 wr.heap.size v1 (⟨#[108, 112, 117, 115, 104]⟩ :: ⟨#[107]⟩ :: ws) := ho4
        have har := tR_own ho4'
        obtain ⟨A4, c4, rfl, _⟩ := har.ex
        have har0 := veil har
        have hsp0 := hb4.size
        have hone_1 := veil (((hb4).block _ (by omega)).trans hcell'.out)
        have hv_1 := veil (hv'.out.below (hb4))
        have hwr_1 := veil (hwsr'.out.below (hb4))
        have hB_1 := veil (two_below hbr'.out (hb4))
        clear hcell' hv' hwsr' hbr'
        clear ho4 ho4' hb4 har hba0 hba0' hoa0 hTx hsa0 hwa0
        go_wp2_with fail
        refine (do_push true 0 ⟨#[]⟩ ⟨#[108, 112, 117, 115, 104]⟩ nl nl nl [] (⟨#[108, 112, 117, 115, 104]⟩ :: ⟨#[107]⟩ :: ws) A4 c4 wp0 (.inl rfl) (tR_nil _) har0.out (by simp) rfl (by decide) low_lpush (by show 0 + (ws.length + 1 + 1) ≤ _; rw [hnl.out]; omega) (tabs_below hT'.out hB_1.out)).mono ?_
        rintro e wd0 ⟨v0, Ar0, nr0, cr0, rfl, ho5, hf5, hb5⟩
        obtain ⟨La0, hLa0⟩ : ∃ L, putL true [] (List.drop 2 (⟨#[108, 112, 117, 115, 104]⟩ :: ⟨#[107]⟩ :: ws)) = L := ⟨_, rfl⟩
        have hLe0 : Veil (ws.reverse = La0) := veil (by rw [← hLa0]; simp [putL])
        have hLl0 : Veil (La0.length = m1) := veil (by rw [← hLe0.out]; rw [List.length_reverse]; exact hnl.out)
        rw [hLa0] at ho5 hf5 ⊢
        have hsd0 := hb5.size
        have hone_2 := veil (((hb5).block _ (by omega)).trans hone_1.out)
        have hv_2 := veil (hv_1.out.below (hb5))
        have hwr_2 := veil (hwr_1.out.below (hb5))
        have hB_2 := veil (two_below hB_1.out (hb5))
        clear hone_1 hv_1 hwr_1 hB_1
        have hl_0 := veil (tR_own ho5)
        have hvo0 := or_one ho5
        rw [hLl0.out] at hf5
        have hr_0 := veil (hf5.reads (by have h1 := hf5.len; rw [line_len] at h1; have := numS_size (m1 : Nat) (by omega) (by omega); omega))
        obtain ⟨mv0, hmv0⟩ : ∃ mv, lvS La0 v0 = mv := ⟨_, rfl⟩
        rw [hmv0]
        have hms0 : mv0.size = 5 := by rw [← hmv0]; exact lvS_size _ _
        have hmo0 : mv0.all (·.oneCell') = true := by rw [← hmv0]; exact lvS_oneV _ _ hvo0
        have hmv0' := veil hmv0
        have hN := newV mv0 wd0
        clear ho5 hf5 hb5 har0 hLa0 hmv0
        obtain ⟨ws0, hw6⟩ : ∃ W : World, W = (wd0.alloc (.cells #[.int .u8 0, .string ⟨#[]⟩, .slice none 0 0, .slice none 0 0, .slice none 0 0] tV)).setRow wd0.heap.size mv0 := ⟨_, rfl⟩
        rw [← hw6] at hN
        have hs60 : wd0.heap.size < ws0.heap.size := by rw [hN.sz]; exact Nat.lt_succ_self _
        have hsz6 : Veil (ws0.heap.size = wd0.heap.size + 1) := veil hN.sz
        have hone_3 := veil (((hN.bel).block _ (by omega)).trans hone_2.out)
        have hv_3 := veil (hv_2.out.below (hN.bel))
        have hwr_3 := veil (hwr_2.out.below (hN.bel))
        have hB_3 := veil (two_below hB_2.out (hN.bel))
        have hl0_3 := veil (hl_0.out.below (hN.bel))
        have hr0_3 := veil (hr_0.out.below (hN.bel))
        clear hone_2 hv_2 hwr_2 hB_2 hl_0 hr_0
        have hc_0 := veil hN.cell
        clear hN
        obtain ⟨wa1, hwa1⟩ : ∃ W : World, W = ws0.alloc (.cells #[.string ⟨#[114, 112, 117, 115, 104]⟩, .string ⟨#[107]⟩] 9) := ⟨_, rfl⟩
        have hba1 : Below ws0.heap.size ws0 wa1 := by rw [hwa1]; exact below_alloc (Below.refl _ _) _
        have hoa1 : OR wa1 ws0.heap.size (.slice (some ⟨ws0.heap.size, 0, none⟩) 2 2) [⟨#[114, 112, 117, 115, 104]⟩, ⟨#[107]⟩] := ⟨rfl, .inr ⟨ws0.heap.size, 2, #[.string ⟨#[114, 112, 117, 115, 104]⟩, .string ⟨#[107]⟩], rfl, Nat.le_refl _, by rw [hwa1]; exact heap_alloc_last ws0 _, Nat.le_refl _, by decide, rfl, rfl⟩⟩
        obtain ⟨Ax, cx, ex, hcx, _, _, hTx⟩ := (hwr_3.out.below hba1).ex
        injection ex with ex1 ex2 ex3
        subst ex1
        subst ex3
        rw [show TR _ _ ws = ReadsOf Value.string ByteArray.empty _ _ ws.length ws from rfl, hnl.out] at hTx
        clear ex2
        have hba1' := hba1
        have hsa1 := hba1.size
        rw [hwa1] at hoa1 hTx hba1' hsa1
        rw [hsz6.out] at hoa1 hba1' hsa1
        rw [hw6] at hoa1 hTx hba1' hsa1
        have hmvk := veil hmv0'
        go_wp2_with (first | (refine wpList_store_row rfl tV _ _ rfl wd0.heap.size mv0 rfl rfl tV zS (heap_alloc_last wd0 _) (by rw [hms0]; exact info28) hms0.symm hmo0 ?_) | (refine print_append_row_of (w0 := ((wd0.alloc (.cells #[.int .u8 0, .string ⟨#[]⟩, .slice none 0 0, .slice none 0 0, .slice none 0 0] tV)).setRow wd0.heap.size mv0)) Value.string ByteArray.empty (wd0.heap.size + 1) rfl _ _ 22 9 (.string ⟨#[]⟩) 16 rfl Tryz.underlying22 infoS rfl (by decide) (fun _ => rfl) _ [⟨#[114, 112, 117, 115, 104]⟩, ⟨#[107]⟩] ws _ m1 _ rfl rfl hoa1 hTx hba1' hsa1 (by show (2 + m1) * 16 ≤ _; omega) ?_))
        intro v1 wp1 ho4 hb4 _ _
        rw [← hw6, ← hsz6.out] at hb4
        rw [← hsz6.out] at ho4
        clear hw6 hsz6
        have ho4' : OR wp1 ws0.heap.size v1 (⟨#[114, 112, 117, 115, 104]⟩ :: ⟨#[107]⟩ :: ws) := ho4
        have har := tR_own ho4'
        obtain ⟨A4, c4, rfl, _⟩ := har.ex
        have har1 := veil har
        have hsp1 := hb4.size
        have hone_4 := veil (((hb4).block _ (by omega)).trans hone_3.out)
        have hv_4 := veil (hv_3.out.below (hb4))
        have hwr_4 := veil (hwr_3.out.below (hb4))
        have hB_4 := veil (two_below hB_3.out (hb4))
        have hl0_4 := veil (hl0_3.out.below (hb4))
        have hr0_4 := veil (hr0_3.out.below (hb4))
        have hc0_4 := veil (((hb4).block _ (by omega)).trans hc_0.out)
        clear hone_3 hv_3 hwr_3 hB_3 hl0_3 hr0_3 hc_0
        clear ho4 ho4' hb4 har hba1 hba1' hoa1 hTx hsa1 hwa1
        go_wp2_with fail
        refine (do_push false 0 ⟨#[]⟩ ⟨#[114, 112, 117, 115, 104]⟩ nl nl nl [] (⟨#[114, 112, 117, 115, 104]⟩ :: ⟨#[107]⟩ :: ws) A4 c4 wp1 (.inl rfl) (tR_nil _) har1.out (by simp) rfl (by decide) low_rpush (by show 0 + (ws.length + 1 + 1) ≤ _; rw [hnl.out]; omega) (tabs_below hT'.out hB_4.out)).mono ?_
        rintro e wd1 ⟨v1, Ar1, nr1, cr1, rfl, ho5, hf5, hb5⟩
        obtain ⟨La1, hLa1⟩ : ∃ L, putL false [] (List.drop 2 (⟨#[114, 112, 117, 115, 104]⟩ :: ⟨#[107]⟩ :: ws)) = L := ⟨_, rfl⟩
        have hLe1 : Veil (ws = La1) := veil (by rw [← hLa1]; simp [putL])
        have hLl1 : Veil (La1.length = m1) := veil (by rw [← hLe1.out]; exact hnl.out)
        rw [hLa1] at ho5 hf5 ⊢
        have hsd1 := hb5.size
        have hone_5 := veil (((hb5).block _ (by omega)).trans hone_4.out)
        have hv_5 := veil (hv_4.out.below (hb5))
        have hwr_5 := veil (hwr_4.out.below (hb5))
        have hB_5 := veil (two_below hB_4.out (hb5))
        have hl0_5 := veil (hl0_4.out.below (hb5))
        have hr0_5 := veil (hr0_4.out.below (hb5))
        have hc0_5 := veil (((hb5).block _ (by omega)).trans hc0_4.out)
        clear hone_4 hv_4 hwr_4 hB_4 hl0_4 hr0_4 hc0_4
        have hl_1 := veil (tR_own ho5)
        have hvo1 := or_one ho5
        rw [hLl1.out] at hf5
        have hr_1 := veil (hf5.reads (by have h1 := hf5.len; rw [line_len] at h1; have := numS_size (m1 : Nat) (by omega) (by omega); omega))
        obtain ⟨mv1, hmv1⟩ : ∃ mv, lvS La1 v1 = mv := ⟨_, rfl⟩
        rw [hmv1]
        have hms1 : mv1.size = 5 := by rw [← hmv1]; exact lvS_size _ _
        have hmo1 : mv1.all (·.oneCell') = true := by rw [← hmv1]; exact lvS_oneV _ _ hvo1
        have hmv1' := veil hmv1
        have hN := newV mv1 wd1
        clear ho5 hf5 hb5 har1 hLa1 hmv1
        obtain ⟨ws1, hw6⟩ : ∃ W : World, W = (wd1.alloc (.cells #[.int .u8 0, .string ⟨#[]⟩, .slice none 0 0, .slice none 0 0, .slice none 0 0] tV)).setRow wd1.heap.size mv1 := ⟨_, rfl⟩
        rw [← hw6] at hN
        have hs61 : wd1.heap.size < ws1.heap.size := by rw [hN.sz]; exact Nat.lt_succ_self _
        have hsz6 : Veil (ws1.heap.size = wd1.heap.size + 1) := veil hN.sz
        have hone_6 := veil (((hN.bel).block _ (by omega)).trans hone_5.out)
        have hv_6 := veil (hv_5.out.below (hN.bel))
        have hwr_6 := veil (hwr_5.out.below (hN.bel))
        have hB_6 := veil (two_below hB_5.out (hN.bel))
        have hl0_6 := veil (hl0_5.out.below (hN.bel))
        have hr0_6 := veil (hr0_5.out.below (hN.bel))
        have hc0_6 := veil (((hN.bel).block _ (by omega)).trans hc0_5.out)
        have hl1_6 := veil (hl_1.out.below (hN.bel))
        have hr1_6 := veil (hr_1.out.below (hN.bel))
        clear hone_5 hv_5 hwr_5 hB_5 hl0_5 hr0_5 hc0_5 hl_1 hr_1
        have hc_1 := veil hN.cell
        clear hN
        have L1 := hone_6.out
        have L2 := hc0_6.out
        rw [hw6] at L1 L2
        go_wp2_with (first | (refine wpList_store_row rfl tV _ _ rfl wd1.heap.size mv1 rfl rfl tV zS (heap_alloc_last wd1 _) (by rw [hms1]; exact info28) hms1.symm hmo1 ?_) | (refine wpList_load_row rfl tV _ rfl (w2.heap.size + 1) rfl tV (mo) (0, 0) _ L1 Tryz.underlying28 rfl (by rw [hmso]; exact info28) ?_) | (refine wpList_load_row rfl tV _ rfl wd0.heap.size rfl tV (mv0) (0, 0) _ L2 Tryz.underlying28 rfl (by rw [hms0]; exact info28) ?_))
        rw [← hw6]
        clear L1 L2 hw6
        have hsame := same_any v v0 La0 ws1 (by rw [← hLe0.out]; exact hv_6.out) hl0_6.out (by rw [hLl0.out]; exact hm1) (by rw [hLl0.out]; omega)
        rw [show lvS La0 v = mo from (by rw [← hLe0.out]; exact hmoe.out), hmv0'.out] at hsame
        refine hsame.mono ?_
        rintro e wq ⟨rfl, hbq⟩
        have hsq := hbq.size
        have hone_7 := veil (((hbq).block _ (by omega)).trans hone_6.out)
        have hv_7 := veil (hv_6.out.below (hbq))
        have hwr_7 := veil (hwr_6.out.below (hbq))
        have hB_7 := veil (two_below hB_6.out (hbq))
        have hl0_7 := veil (hl0_6.out.below (hbq))
        have hr0_7 := veil (hr0_6.out.below (hbq))
        have hc0_7 := veil (((hbq).block _ (by omega)).trans hc0_6.out)
        have hl1_7 := veil (hl1_6.out.below (hbq))
        have hr1_7 := veil (hr1_6.out.below (hbq))
        have hc1_7 := veil (((hbq).block _ (by omega)).trans hc_1.out)
        clear hone_6 hv_6 hwr_6 hB_6 hl0_6 hr0_6 hc0_6 hl1_6 hr1_6 hc_1
        clear hsame hbq
        obtain ⟨bb, ob, cb, eb⟩ := tR_some hl1_7.out (by rw [hLl1.out]; exact hm1)
        obtain ⟨ba, oa, ca, ea⟩ := tR_some hl0_7.out (by rw [hLl0.out]; exact hm1)
        rw [hLl1.out] at eb
        rw [hLl0.out] at ea
        have hne0 : La0 ≠ [] := fun h => by have h2 := hLl0.out; rw [h] at h2; simp at h2; omega
        have hne1 : La1 ≠ [] := fun h => by have h2 := hLl1.out; rw [h] at h2; simp at h2; omega
        have z9 : wq.cell? ⟨wd1.heap.size, 2, none⟩ = some (.slice (some ⟨bb, ob, none⟩) m1 cb) := by rw [cell_of_row _ _ _ _ _ _ hc1_7.out, ← hmv1'.out, show lvS La1 v1 = _ from if_neg hne1, eb]; rfl
        have z7 : wq.cell? ⟨wd0.heap.size, 2, none⟩ = some (.slice (some ⟨ba, oa, none⟩) m1 ca) := by rw [cell_of_row _ _ _ _ _ _ hc0_7.out, ← hmv0'.out, show lvS La0 v0 = _ from if_neg hne0, ea]; rfl
        have st8 := str_of (c := cr0) hr0_7.out
        have st10 := str_of (c := cr1) hr1_7.out
        have z9' := veil z9
        have z7' := veil z7
        clear hne0 hne1
        go_wp2_with fail
        clear st8 st10 z9 z7
        rw [ea] at hl0_7
        rw [eb] at hl1_7
        go_loopw [12] (fun i wr => ∃ q : Nat, q ≤ m1 ∧ i = .int .i64 q ∧ Below wq.heap.size wq wr) (fun i _ => m1 - (intOf i).toNat)
        case atStart => exact ⟨0, by omega, rfl, Below.refl _ _⟩
        case round =>
          obtain ⟨q, hq, rfl, hb⟩ := hrel
          have hb' := veil hb
          by_cases hlt : q < m1
          · have q0 : (0 : Int) ≤ q := by omega
            have qN : (q : Int) < m1 := by omega
            obtain ⟨s, hs⟩ : ∃ s, ws[q]? = some s := ⟨_, List.getElem?_eq_getElem (by rw [hnl.out]; exact hlt)⟩
            obtain ⟨j, hj⟩ : ∃ j : Nat, (m1 : Int) - 1 - q = j := ⟨(m1 - 1 - q), by omega⟩
            have j0 : (0 : Int) ≤ j := by omega
            have jN : (j : Int) < m1 := by omega
            have hsa : La0[j]? = some s := by rw [← hLe0.out, List.getElem?_reverse (by rw [hnl.out]; omega), hnl.out, show m1 - 1 - j = q by omega]; exact hs
            have hsb : La1[q]? = some s := by rw [← hLe1.out]; exact hs
            have ka := tR_at (hl0_7.out.below hb) hsa
            have kb := tR_at (hl1_7.out.below hb) hsb
            have kw := tR_at (hwr_7.out.below hb) hs
            have y7 := (Below.cell hb (World.block_lt_of_cell? wq _ z7'.out)).trans z7'.out
            have y9 := (Below.cell hb (World.block_lt_of_cell? wq _ z9'.out)).trans z9'.out
            have x1 : IntKind.i64.wrap ((m1 : Int) - 1) = (m1 : Int) - 1 := iwrapE (by unfold Int64; omega)
            have x2 : IntKind.i64.wrap ((m1 : Int) - 1 - q) = j := by rw [← hj]; exact iwrapE (by unfold Int64; omega)
            have kk := veil (show ((q : Int) + 1) = ((q + 1 : Nat) : Int) by omega)
            clear hsa hsb hs hj hb
            go_wp2_with fail
            go_quiet (fail)
            go_wp2_with fail
            go_roundw
            case rel => exact ⟨q + 1, hlt, congrArg (Value.int .i64) kk.out, pw_below_drewN hb'.out _⟩
            case measure => simp [intOf]; omega
          · obtain rfl : m1 = q := by omega
            clear hb
            go_wp2_with fail
            go_ret
            exact ⟨rfl, two_below hB_7.out hb'.out⟩
  · have h1 : ¬ (m : Int) = 0 := by omega
    have h1' : ((m : Int) == 0) = false := by simp [h0]
    go_wp2_with fail
    obtain ⟨ad, rfl, _⟩ := hTR2'.out.2.2 (by rw [hlm'.out]; omega)
    obtain ⟨ab, ao, asp⟩ := ad
    obtain rfl : asp = none := hz2'.out _ rfl
    obtain ⟨w3, hw3⟩ : ∃ w3 : World, w3 = w2.alloc (.cells #[.int .u8 0, .string ⟨#[]⟩, .slice none 0 0, .slice none 0 0, .slice none 0 0] 28) := ⟨_, rfl⟩
    have hsz3 : w3.heap.size = w2.heap.size + 1 := by rw [hw3]; simp
    have hb3 : Below w2.heap.size w2 w3 := by rw [hw3]; exact below_alloc (Below.refl _ _) _
    have hg3 : Veil (w3.heap[w2.heap.size]? = some (.cells (lvS [] nl) tV (0, 0))) := veil (by
      rw [hw3]
      have := heap_alloc_last w2 (.cells #[.int .u8 0, .string ⟨#[]⟩, .slice none 0 0, .slice none 0 0, .slice none 0 0] 28)
      simpa [lvS, zS] using this)
    have hB3 := veil (two_below hB2.out hb3)
    have hws2 : tR w2 (.slice (some ⟨ab, ao, none⟩) m c2) (l.take m) := ⟨_, c2, by rw [hlm'.out], by rw [hlm'.out]; omega, by omega, hz2'.out, hTR2'.out⟩
    have hws := veil (hws2.below hb3)
    have hab : ab < w2.heap.size := by
      obtain ⟨s0, hs0⟩ : ∃ s, (l.take m)[0]? = some s := ⟨_, List.getElem?_eq_getElem (by rw [hlm'.out]; omega)⟩
      exact World.block_lt_of_cell? w2 _ (tR_at hws2 hs0)
    have hw2s : w.heap.size ≤ w2.heap.size := hB2.out.size
    rw [← hw3]
    have hnl0 := hlm'
    have hm1 : 1 ≤ m := by omega
    clear hb3 hw3 hB2 hTR2' hz2' hlm' hws2
    obtain ⟨ws, hwsd⟩ : ∃ ws : List ByteArray, l.take m = ws := ⟨_, rfl⟩
    rw [hwsd] at hws hnl0
    have hnl := hnl0
    clear hwsd hnl0
    go_loopw [6] (fun i wr => ∃ (q : Nat) (v : Value), q ≤ m ∧ i = .int .i64 q ∧ wr.heap[w2.heap.size]? = some (.cells (lvS (Lq ws q) v) tV (0, 0)) ∧ tR wr v (Lq ws q) ∧ v.oneCell' = true ∧ tR wr (.slice (some ⟨ab, ao, none⟩) m c2) ws ∧ w3.heap.size ≤ wr.heap.size ∧ Below w.heap.size w wr) (fun i _ => m - (intOf i).toNat)
    case atStart => exact ⟨0, nl, by omega, rfl, by rw [show Lq ws 0 = [] from rfl]; exact hg3.out, by rw [show Lq ws 0 = [] from rfl]; exact tR_nil _, rfl, hws.out, Nat.le_refl _, hB3.out⟩
    case round =>
      obtain ⟨q, v, hq, rfl, hcell, hv, hv1, hwsr, hszr, hbr⟩ := hrel
      have hcell' := veil hcell
      have hv' := veil hv
      have hv1' := veil hv1
      have hwsr' := veil hwsr
      have hbr' := veil hbr
      clear hcell hv hv1 hwsr hbr
      by_cases hlt : q < m
      · have q0 : (0 : Int) ≤ q := by omega
        have qN : (q : Int) < (m : Nat) := by omega
        have qM : ¬ ((m : Int) ≤ q) := by omega
        obtain ⟨sq, hsq⟩ : ∃ sq, (ws : List ByteArray)[q]? = some sq := ⟨_, List.getElem?_eq_getElem (by rw [hnl.out]; exact hlt)⟩
        have cq : Veil (wr.cell? ⟨ab, ao + q, none⟩ = some (.string sq)) := veil (by have h := tR_at hwsr'.out hsq; simpa using h)
        have hL := veil (Lq_succ ws q sq hsq)
        have hLn := Lq_len ws q
        obtain ⟨Lo, hLo⟩ : ∃ Lo, Lq ws q = Lo := ⟨_, rfl⟩
        rw [hLo] at hcell' hv' hL hLn
        have hGlt : w2.heap.size < wr.heap.size := (Array.getElem?_eq_some_iff.1 hcell'.out).1
        have hABlt : ab < wr.heap.size := World.block_lt_of_cell? wr _ cq.out
        obtain ⟨R, hR⟩ : ∃ R, lineL ⟨#[58]⟩ (numS ((sq :: Lo).length : Int)) = R := ⟨_, rfl⟩
        have hdo : Veil (∀ w' b, Below wr.heap.size wr w' → w'.heap[b]? = some (.cells #[.string ⟨#[108, 112, 117, 115, 104]⟩, .string ⟨#[107]⟩, .string sq] 9 (0, 0)) → Calls Tryz.prog 8 #[.agg (lvS Lo v), .slice (some ⟨b, 0, none⟩) 3 3] w' (Pres (sq :: Lo) R w')) :=
          veil (fun w' b h1 h2 => by rw [← hR]; exact do_pushV true ⟨#[108, 112, 117, 115, 104]⟩ v Lo [⟨#[108, 112, 117, 115, 104]⟩, ⟨#[107]⟩, sq] (some ⟨b, 0, none⟩) 3 w' (hv'.out.below h1) hv1'.out (tR_lit [⟨#[108, 112, 117, 115, 104]⟩, ⟨#[107]⟩, sq] 3 rfl h2 (by simp)) (by simp) rfl (by decide) low_lpush (by simp; omega) (tabs_below hT'.out (two_below hbr'.out h1)))
        clear hR hLo hsq
        go_wp2_with fail
        refine RelG.wp_region_relS (G := GoodW w2.heap.size (sq :: Lo)) (G1 := BelO) (n := 112) (bel_sub _ _) 10 _ [9] [RelG.is _ 33 (.agg (lvS Lo v)), RelG.is _ 34 (.slice (some ⟨ab, ao, none⟩) m c2), RelG.is _ 35 (.int .i64 q), RelG.is _ 36 (.pointer (some ⟨ab, ao + q, none⟩)), RelG.is _ 37 (.string sq), txW _ _ #[.string ⟨#[108, 112, 117, 115, 104]⟩, .string ⟨#[107]⟩, .string sq] 38, prW _ _ R 39, prW _ _ R 32, lvW _ _ 40, frW _ _ R 41, goodWR _ _] [[33], [34], [35], [36], [37], [38], [39], [32], [40], [41], []] (by kernel_rfl) rfl rfl (by kernel_rfl) rfl (by kernel_rfl) ?_ ?_ ?_ ?_
        · refine RelG.stepsS_cons (RelG.step_load (n := 112) (t := 5) (u := 33) (b := w2.heap.size) (t' := tV) (cs := lvS Lo v) (fr := (0, 0)) rfl rfl rfl rfl (by decide) (by kernel_rfl) (by kernel_rfl) Tryz.underlying28 rfl (by rw [lvS_size]; exact info28) (fun w' hle => (Below.block hle _ hGlt).trans hcell'.out) rfl) ?_
          refine RelG.stepsS_cons (RelG.step_was (n := 112) (t := 4) (u := 34) rfl rfl rfl rfl (by decide) (by kernel_rfl) (by kernel_rfl) rfl) ?_
          refine RelG.stepsS_cons (RelG.step_was (n := 112) (t := 6) (u := 35) rfl rfl rfl rfl (by decide) (by kernel_rfl) (by kernel_rfl) rfl) ?_
          refine RelG.stepsS_cons (RelG.step_run2 (n := 112) (j := 1) (t := 34) (j2 := 2) (t2 := 35) (u := 36) (v := (.slice (some ⟨ab, ao, none⟩) m c2)) (v2 := .int .i64 q) rfl rfl rfl (by decide) rfl rfl rfl rfl (fun ρ w' hle h h2 hk => by simp [execOp, h, h2, hk, go_sem, q0, qN, qM, add_off]) rfl) ?_
          refine RelG.stepsS_cons (RelG.step_run (n := 112) (j := 3) (t := 36) (u := 37) (v := .pointer (some ⟨ab, ao + q, none⟩)) rfl rfl rfl (by decide) rfl rfl (fun ρ w' hle h hk => by
              have c := (Below.cell hle (p := ⟨ab, ao + q, none⟩) hABlt).trans cq.out
              simp [execOp, h, hk, go_sem, c]) rfl) ?_
          refine RelG.stepsS_cons (RelG.step_make rfl fun b w' D => ⟨.slice (some ⟨w'.heap.size, 0, none⟩) 3 3, w'.alloc (.cells #[.string ⟨#[108, 112, 117, 115, 104]⟩, .string ⟨#[107]⟩, .string sq] 9), by
                have e2 : b.eval (.tmp 37) = .string sq := D.is 4 rfl rfl
                have hr := run_texts3 w' ⟨#[108, 112, 117, 115, 104]⟩ ⟨#[107]⟩ sq
                unfold execOp
                simp only [List.map_toArray, List.map_cons, List.map_nil, e2, show ∀ v, b.eval (.const v) = v from fun _ => rfl, Sem.run_bind]
                rw [hr]
                rfl, by
                show txP _ _ (RelG.get (b.put (some 38) _) 38) _
                rw [RelG.get_put b 38 _ (by rw [D.siz]; exact (by decide : 38 < 112))]
                exact ⟨_, rfl, heap_alloc_last w' _, by have := Below.size D.bel; omega⟩, below_alloc (Below.refl _ _) _⟩) ?_
          refine RelG.stepsS_cons (step_callA rfl Tryz.func8 (by kernel_rfl) rfl rfl (fun b w' D => by
              obtain ⟨z, h1, h2, h3⟩ := D.rel 5 rfl
              have e1 : b.eval (.tmp 33) = .agg (lvS Lo v) := D.is 0 rfl rfl
              have e2 : b.eval (.tmp 38) = .slice (some ⟨z, 0, none⟩) 3 3 := h1
              refine ⟨#[.agg (lvS Lo v), .slice (some ⟨z, 0, none⟩) 3 3], by simp only [List.map_toArray, List.map_cons, List.map_nil, e1, e2], (hdo.out w' z D.bel h2).mono fun e w'' ⟨u, A, n, c, he, ho, hf, hb⟩ => ⟨_, he, ?_, hb⟩⟩
              show prP _ _ _ (RelG.get (b.put (some 39) _) 39) w''
              rw [RelG.get_put b 39 _ (by rw [D.siz]; exact (by decide : 39 < 112))]
              have hgt : w2.heap.size < w'.heap.size := by have := Below.size D.bel; omega
              exact ⟨u, _, w'.heap.size, rfl, hgt, ho, or_one ho, ⟨A, n, c, _, rfl, hf, hgt⟩⟩)) ?_
          refine RelG.stepsS_cons (RelG.step_pass_of (n := 112) (j := 6) (t := 39) (u := 32) (p := prP w2.heap.size (sq :: Lo) R) (hp := fun x w w' h hle => prP_w x w w' h (bel_sub _ _ _ _ hle)) rfl rfl (.inl rfl) rfl (by decide) rfl rfl rfl) ?_
          refine RelG.stepsS_cons (RelG.step_val rfl fun b w' D => by
              obtain ⟨u, y, base, h1, h2, h3, h4, h5⟩ := D.rel 7 rfl
              have e1 : b.eval (.tmp 32) = .tuple #[.agg (lvS (sq :: Lo) u), y] := h1
              exact ⟨.agg (lvS (sq :: Lo) u), run_ext0 e1, by
                show lvP _ _ (RelG.get (b.put (some 40) _) 40) w'
                rw [RelG.get_put b 40 _ (by rw [D.siz]; exact (by decide : 40 < 112))]
                exact ⟨u, base, rfl, h2, h3, h4⟩⟩) ?_
          refine RelG.stepsS_cons (RelG.step_val rfl fun b w' D => by
              obtain ⟨u, y, base, h1, h2, h3, h4, h5⟩ := D.rel 7 rfl
              have e1 : b.eval (.tmp 32) = .tuple #[.agg (lvS (sq :: Lo) u), y] := h1
              exact ⟨y, run_ext1 e1, by
                show RelG.frP _ _ (RelG.get (b.put (some 41) _) 41) w'
                rw [RelG.get_put b 41 _ (by rw [D.siz]; exact (by decide : 41 < 112))]
                exact h5⟩) ?_
          exact RelG.stepsS_skip trivial
        · exact RelG.storeS_skip rfl rfl fun b w' D => by
            obtain ⟨u, base, h1, h2, h3, h4⟩ := D.rel 8 rfl
            have e2 : b.eval (.tmp 40) = .agg (lvS (sq :: Lo) u) := h1
            have e1 : b.eval (.tmp 5) = .pointer (some ⟨w2.heap.size, 0, none⟩) := (D.was 5 (by kernel_rfl)).trans (by kernel_rfl)
            have hgo := (Below.block D.bel _ hGlt).trans hcell'.out
            obtain ⟨hG, hle⟩ := goodw_store (L := sq :: Lo) hgo h2 h3 h4
            refine ⟨w'.setRow w2.heap.size (lvS (sq :: Lo) u), ?_, hG, hle⟩
            unfold execOp
            simp only [e1, e2, Instr.storeAt, Instr.sureAddr, Sem.run_bind, Sem.run_pure, Result.andThen_ok, run_storeVar_row (P := Tryz.prog) w' w2.heap.size tV tV (lvS Lo v) (lvS (sq :: Lo) u) hgo (by rw [lvS_size]; exact info28) (by rw [lvS_size, lvS_size]) (lvS_oneV _ _ h4)]
        · intro i hi oo ho
          obtain rfl : i = 9 := by simpa using hi
          obtain rfl := Option.some.inj ho
          exact RelG.pureS_val rfl fun b w' hz hn => by
            obtain ⟨u, y, base, h1, h2, h3, h4, h5⟩ := hn 7 (List.contains_iff_mem.1 (by kernel_rfl))
            have e1 : b.eval (.tmp 32) = .tuple #[.agg (lvS (sq :: Lo) u), y] := h1
            exact ⟨y, run_ext1 e1, by
              show RelG.frP _ _ (RelG.get (b.put (some 41) _) 41) w'
              rw [RelG.get_put b 41 _ (by rw [hz]; exact (by decide : 41 < 112))]
              exact h5⟩
        intro u e w9 hg hv hle
        have hgood : Good w2.heap.size (sq :: Lo) w9 := hv 10 (by decide)
        obtain ⟨v9, base, hb1, ho1, hc1, hv9⟩ := hgood
        have hBf := veil (goodw_below hbr'.out hle (by omega) (by omega))
        have hws9 := veil (tR_goodw hwsr'.out hle (by omega) hABlt)
        have hs9 : wr.heap.size ≤ w9.heap.size := hle.1.2.2.2
        simp only [Rel.fill, Act.put, List.setIfInBounds_toArray, List.set_cons_zero, List.set_cons_succ]
        have ho1' := veil (tR_own ho1)
        have hc1' := veil hc1
        have hv9' := veil hv9
        clear hg hv hle ho1 hc1 hv9
        go_wp2_with fail
        have kk : ((q : Int) + 1) = ((q + 1 : Nat) : Int) := by omega
        have kk' := veil kk
        clear kk
        go_roundw
        case rel => exact ⟨q + 1, v9, hlt, congrArg (Value.int .i64) kk'.out, by rw [hL.out]; exact hc1'.out, by rw [hL.out]; exact ho1'.out, hv9'.out, hws9.out, Nat.le_trans hszr hs9, hBf.out⟩
        case measure => simp [intOf]; omega
      · obtain rfl : m = q := by omega
        have hGl : w2.heap.size < wr.heap.size := (Array.getElem?_eq_some_iff.1 hcell'.out).1
        have hLl := Lq_len ws m
        have hLall : Lq ws m = (ws).reverse := by unfold Lq; rw [List.take_of_length_le (by rw [hnl.out]; exact Nat.le_refl _)]
        rw [hLall] at hcell' hv'
        clear hLl hLall
        obtain ⟨mo, hmo⟩ : ∃ mo, lvS (ws).reverse v = mo := ⟨_, rfl⟩
        rw [hmo] at hcell'
        have hmso : mo.size = 5 := by rw [← hmo]; exact lvS_size _ _
        have hmoe := veil hmo
        clear hmo
        obtain ⟨wa0, hwa0⟩ : ∃ W : World, W = wr.alloc (.cells #[.string ⟨#[108, 112, 117, 115, 104]⟩, .string ⟨#[107]⟩] 9) := ⟨_, rfl⟩
        have hba0 : Below wr.heap.size wr wa0 := by rw [hwa0]; exact below_alloc (Below.refl _ _) _
        have hoa0 : OR wa0 wr.heap.size (.slice (some ⟨wr.heap.size, 0, none⟩) 2 2) [⟨#[108, 112, 117, 115, 104]⟩, ⟨#[107]⟩] := ⟨rfl, .inr ⟨wr.heap.size, 2, #[.string ⟨#[108, 112, 117, 115, 104]⟩, .string ⟨#[107]⟩], rfl, Nat.le_refl _, by rw [hwa0]; exact heap_alloc_last wr _, Nat.le_refl _, by decide, rfl, rfl⟩⟩
        obtain ⟨Ax, cx, ex, hcx, _, _, hTx⟩ := (hwsr'.out.below hba0).ex
        injection ex with ex1 ex2 ex3
        subst ex1
        subst ex3
        rw [show TR _ _ ws = ReadsOf Value.string ByteArray.empty _ _ ws.length ws from rfl, hnl.out] at hTx
        clear ex2
        have hba0' := hba0
        have hsa0 := hba0.size
        rw [hwa0] at hoa0 hTx hba0' hsa0
        go_wp2_with (refine print_append_row_of (w0 := wr) Value.string ByteArray.empty wr.heap.size rfl _ _ 22 9 (.string ⟨#[]⟩) 16 rfl Tryz.underlying22 infoS rfl (by decide) (fun _ => rfl) _ [⟨#[108, 112, 117, 115, 104]⟩, ⟨#[107]⟩] ws _ m _ rfl rfl hoa0 hTx hba0' hsa0 (by show (2 + m) * 16 ≤ _; omega) ?_)
        intro v1 wp0 ho4 hb4 _ _
        have ho4' : OR wp0 wr.heap.size v1 (⟨#[108, 112, 117, 115, 104]⟩ :: ⟨#[107]⟩ :: ws) := ho4
        have har := tR_own ho4'
        obtain ⟨A4, c4, rfl, _⟩ := har.ex
        have har0 := veil har
        have hsp0 := hb4.size
        have hone_1 := veil (((hb4).block _ (by omega)).trans hcell'.out)
        have hv_1 := veil (hv'.out.below (hb4))
        have hwr_1 := veil (hwsr'.out.below (hb4))
        have hB_1 := veil (two_below hbr'.out (hb4))
        clear hcell' hv' hwsr' hbr'
        clear ho4 ho4' hb4 har hba0 hba0' hoa0 hTx hsa0 hwa0
        go_wp2_with fail
        refine (do_push true 0 ⟨#[]⟩ ⟨#[108, 112, 117, 115, 104]⟩ nl nl nl [] (⟨#[108, 112, 117, 115, 104]⟩ :: ⟨#[107]⟩ :: ws) A4 c4 wp0 (.inl rfl) (tR_nil _) har0.out (by simp) rfl (by decide) low_lpush (by show 0 + (ws.length + 1 + 1) ≤ _; rw [hnl.out]; omega) (tabs_below hT'.out hB_1.out)).mono ?_
        rintro e wd0 ⟨v0, Ar0, nr0, cr0, rfl, ho5, hf5, hb5⟩
        obtain ⟨La0, hLa0⟩ : ∃ L, putL true [] (List.drop 2 (⟨#[108, 112, 117, 115, 104]⟩ :: ⟨#[107]⟩ :: ws)) = L := ⟨_, rfl⟩
        have hLe0 : Veil (ws.reverse = La0) := veil (by rw [← hLa0]; simp [putL])
        have hLl0 : Veil (La0.length = m) := veil (by rw [← hLe0.out]; rw [List.length_reverse]; exact hnl.out)
        rw [hLa0] at ho5 hf5 ⊢
        have hsd0 := hb5.size
        have hone_2 := veil (((hb5).block _ (by omega)).trans hone_1.out)
        have hv_2 := veil (hv_1.out.below (hb5))
        have hwr_2 := veil (hwr_1.out.below (hb5))
        have hB_2 := veil (two_below hB_1.out (hb5))
        clear hone_1 hv_1 hwr_1 hB_1
        have hl_0 := veil (tR_own ho5)
        have hvo0 := or_one ho5
        rw [hLl0.out] at hf5
        have hr_0 := veil (hf5.reads (by have h1 := hf5.len; rw [line_len] at h1; have := numS_size (m : Nat) (by omega) (by omega); omega))
        obtain ⟨mv0, hmv0⟩ : ∃ mv, lvS La0 v0 = mv := ⟨_, rfl⟩
        rw [hmv0]
        have hms0 : mv0.size = 5 := by rw [← hmv0]; exact lvS_size _ _
        have hmo0 : mv0.all (·.oneCell') = true := by rw [← hmv0]; exact lvS_oneV _ _ hvo0
        have hmv0' := veil hmv0
        have hN := newV mv0 wd0
        clear ho5 hf5 hb5 har0 hLa0 hmv0
        obtain ⟨ws0, hw6⟩ : ∃ W : World, W = (wd0.alloc (.cells #[.int .u8 0, .string ⟨#[]⟩, .slice none 0 0, .slice none 0 0, .slice none 0 0] tV)).setRow wd0.heap.size mv0 := ⟨_, rfl⟩
        rw [← hw6] at hN
        have hs60 : wd0.heap.size < ws0.heap.size := by rw [hN.sz]; exact Nat.lt_succ_self _
        have hsz6 : Veil (ws0.heap.size = wd0.heap.size + 1) := veil hN.sz
        have hone_3 := veil (((hN.bel).block _ (by omega)).trans hone_2.out)
        have hv_3 := veil (hv_2.out.below (hN.bel))
        have hwr_3 := veil (hwr_2.out.below (hN.bel))
        have hB_3 := veil (two_below hB_2.out (hN.bel))
        have hl0_3 := veil (hl_0.out.below (hN.bel))
        have hr0_3 := veil (hr_0.out.below (hN.bel))
        clear hone_2 hv_2 hwr_2 hB_2 hl_0 hr_0
        have hc_0 := veil hN.cell
        clear hN
        obtain ⟨wa1, hwa1⟩ : ∃ W : World, W = ws0.alloc (.cells #[.string ⟨#[114, 112, 117, 115, 104]⟩, .string ⟨#[107]⟩] 9) := ⟨_, rfl⟩
        have hba1 : Below ws0.heap.size ws0 wa1 := by rw [hwa1]; exact below_alloc (Below.refl _ _) _
        have hoa1 : OR wa1 ws0.heap.size (.slice (some ⟨ws0.heap.size, 0, none⟩) 2 2) [⟨#[114, 112, 117, 115, 104]⟩, ⟨#[107]⟩] := ⟨rfl, .inr ⟨ws0.heap.size, 2, #[.string ⟨#[114, 112, 117, 115, 104]⟩, .string ⟨#[107]⟩], rfl, Nat.le_refl _, by rw [hwa1]; exact heap_alloc_last ws0 _, Nat.le_refl _, by decide, rfl, rfl⟩⟩
        obtain ⟨Ax, cx, ex, hcx, _, _, hTx⟩ := (hwr_3.out.below hba1).ex
        injection ex with ex1 ex2 ex3
        subst ex1
        subst ex3
        rw [show TR _ _ ws = ReadsOf Value.string ByteArray.empty _ _ ws.length ws from rfl, hnl.out] at hTx
        clear ex2
        have hba1' := hba1
        have hsa1 := hba1.size
        rw [hwa1] at hoa1 hTx hba1' hsa1
        rw [hsz6.out] at hoa1 hba1' hsa1
        rw [hw6] at hoa1 hTx hba1' hsa1
        have hmvk := veil hmv0'
        go_wp2_with (first | (refine wpList_store_row rfl tV _ _ rfl wd0.heap.size mv0 rfl rfl tV zS (heap_alloc_last wd0 _) (by rw [hms0]; exact info28) hms0.symm hmo0 ?_) | (refine print_append_row_of (w0 := ((wd0.alloc (.cells #[.int .u8 0, .string ⟨#[]⟩, .slice none 0 0, .slice none 0 0, .slice none 0 0] tV)).setRow wd0.heap.size mv0)) Value.string ByteArray.empty (wd0.heap.size + 1) rfl _ _ 22 9 (.string ⟨#[]⟩) 16 rfl Tryz.underlying22 infoS rfl (by decide) (fun _ => rfl) _ [⟨#[114, 112, 117, 115, 104]⟩, ⟨#[107]⟩] ws _ m _ rfl rfl hoa1 hTx hba1' hsa1 (by show (2 + m) * 16 ≤ _; omega) ?_))
        intro v1 wp1 ho4 hb4 _ _
        rw [← hw6, ← hsz6.out] at hb4
        rw [← hsz6.out] at ho4
        clear hw6 hsz6
        have ho4' : OR wp1 ws0.heap.size v1 (⟨#[114, 112, 117, 115, 104]⟩ :: ⟨#[107]⟩ :: ws) := ho4
        have har := tR_own ho4'
        obtain ⟨A4, c4, rfl, _⟩ := har.ex
        have har1 := veil har
        have hsp1 := hb4.size
        have hone_4 := veil (((hb4).block _ (by omega)).trans hone_3.out)
        have hv_4 := veil (hv_3.out.below (hb4))
        have hwr_4 := veil (hwr_3.out.below (hb4))
        have hB_4 := veil (two_below hB_3.out (hb4))
        have hl0_4 := veil (hl0_3.out.below (hb4))
        have hr0_4 := veil (hr0_3.out.below (hb4))
        have hc0_4 := veil (((hb4).block _ (by omega)).trans hc_0.out)
        clear hone_3 hv_3 hwr_3 hB_3 hl0_3 hr0_3 hc_0
        clear ho4 ho4' hb4 har hba1 hba1' hoa1 hTx hsa1 hwa1
        go_wp2_with fail
        refine (do_push false 0 ⟨#[]⟩ ⟨#[114, 112, 117, 115, 104]⟩ nl nl nl [] (⟨#[114, 112, 117, 115, 104]⟩ :: ⟨#[107]⟩ :: ws) A4 c4 wp1 (.inl rfl) (tR_nil _) har1.out (by simp) rfl (by decide) low_rpush (by show 0 + (ws.length + 1 + 1) ≤ _; rw [hnl.out]; omega) (tabs_below hT'.out hB_4.out)).mono ?_
        rintro e wd1 ⟨v1, Ar1, nr1, cr1, rfl, ho5, hf5, hb5⟩
        obtain ⟨La1, hLa1⟩ : ∃ L, putL false [] (List.drop 2 (⟨#[114, 112, 117, 115, 104]⟩ :: ⟨#[107]⟩ :: ws)) = L := ⟨_, rfl⟩
        have hLe1 : Veil (ws = La1) := veil (by rw [← hLa1]; simp [putL])
        have hLl1 : Veil (La1.length = m) := veil (by rw [← hLe1.out]; exact hnl.out)
        rw [hLa1] at ho5 hf5 ⊢
        have hsd1 := hb5.size
        have hone_5 := veil (((hb5).block _ (by omega)).trans hone_4.out)
        have hv_5 := veil (hv_4.out.below (hb5))
        have hwr_5 := veil (hwr_4.out.below (hb5))
        have hB_5 := veil (two_below hB_4.out (hb5))
        have hl0_5 := veil (hl0_4.out.below (hb5))
        have hr0_5 := veil (hr0_4.out.below (hb5))
        have hc0_5 := veil (((hb5).block _ (by omega)).trans hc0_4.out)
        clear hone_4 hv_4 hwr_4 hB_4 hl0_4 hr0_4 hc0_4
        have hl_1 := veil (tR_own ho5)
        have hvo1 := or_one ho5
        rw [hLl1.out] at hf5
        have hr_1 := veil (hf5.reads (by have h1 := hf5.len; rw [line_len] at h1; have := numS_size (m : Nat) (by omega) (by omega); omega))
        obtain ⟨mv1, hmv1⟩ : ∃ mv, lvS La1 v1 = mv := ⟨_, rfl⟩
        rw [hmv1]
        have hms1 : mv1.size = 5 := by rw [← hmv1]; exact lvS_size _ _
        have hmo1 : mv1.all (·.oneCell') = true := by rw [← hmv1]; exact lvS_oneV _ _ hvo1
        have hmv1' := veil hmv1
        have hN := newV mv1 wd1
        clear ho5 hf5 hb5 har1 hLa1 hmv1
        obtain ⟨ws1, hw6⟩ : ∃ W : World, W = (wd1.alloc (.cells #[.int .u8 0, .string ⟨#[]⟩, .slice none 0 0, .slice none 0 0, .slice none 0 0] tV)).setRow wd1.heap.size mv1 := ⟨_, rfl⟩
        rw [← hw6] at hN
        have hs61 : wd1.heap.size < ws1.heap.size := by rw [hN.sz]; exact Nat.lt_succ_self _
        have hsz6 : Veil (ws1.heap.size = wd1.heap.size + 1) := veil hN.sz
        have hone_6 := veil (((hN.bel).block _ (by omega)).trans hone_5.out)
        have hv_6 := veil (hv_5.out.below (hN.bel))
        have hwr_6 := veil (hwr_5.out.below (hN.bel))
        have hB_6 := veil (two_below hB_5.out (hN.bel))
        have hl0_6 := veil (hl0_5.out.below (hN.bel))
        have hr0_6 := veil (hr0_5.out.below (hN.bel))
        have hc0_6 := veil (((hN.bel).block _ (by omega)).trans hc0_5.out)
        have hl1_6 := veil (hl_1.out.below (hN.bel))
        have hr1_6 := veil (hr_1.out.below (hN.bel))
        clear hone_5 hv_5 hwr_5 hB_5 hl0_5 hr0_5 hc0_5 hl_1 hr_1
        have hc_1 := veil hN.cell
        clear hN
        have L1 := hone_6.out
        have L2 := hc0_6.out
        rw [hw6] at L1 L2
        go_wp2_with (first | (refine wpList_store_row rfl tV _ _ rfl wd1.heap.size mv1 rfl rfl tV zS (heap_alloc_last wd1 _) (by rw [hms1]; exact info28) hms1.symm hmo1 ?_) | (refine wpList_load_row rfl tV _ rfl w2.heap.size rfl tV (mo) (0, 0) _ L1 Tryz.underlying28 rfl (by rw [hmso]; exact info28) ?_) | (refine wpList_load_row rfl tV _ rfl wd0.heap.size rfl tV (mv0) (0, 0) _ L2 Tryz.underlying28 rfl (by rw [hms0]; exact info28) ?_))
        rw [← hw6]
        clear L1 L2 hw6
        have hsame := same_any v v0 La0 ws1 (by rw [← hLe0.out]; exact hv_6.out) hl0_6.out (by rw [hLl0.out]; exact hm1) (by rw [hLl0.out]; omega)
        rw [show lvS La0 v = mo from (by rw [← hLe0.out]; exact hmoe.out), hmv0'.out] at hsame
        refine hsame.mono ?_
        rintro e wq ⟨rfl, hbq⟩
        have hsq := hbq.size
        have hone_7 := veil (((hbq).block _ (by omega)).trans hone_6.out)
        have hv_7 := veil (hv_6.out.below (hbq))
        have hwr_7 := veil (hwr_6.out.below (hbq))
        have hB_7 := veil (two_below hB_6.out (hbq))
        have hl0_7 := veil (hl0_6.out.below (hbq))
        have hr0_7 := veil (hr0_6.out.below (hbq))
        have hc0_7 := veil (((hbq).block _ (by omega)).trans hc0_6.out)
        have hl1_7 := veil (hl1_6.out.below (hbq))
        have hr1_7 := veil (hr1_6.out.below (hbq))
        have hc1_7 := veil (((hbq).block _ (by omega)).trans hc_1.out)
        clear hone_6 hv_6 hwr_6 hB_6 hl0_6 hr0_6 hc0_6 hl1_6 hr1_6 hc_1
        clear hsame hbq
        obtain ⟨bb, ob, cb, eb⟩ := tR_some hl1_7.out (by rw [hLl1.out]; exact hm1)
        obtain ⟨ba, oa, ca, ea⟩ := tR_some hl0_7.out (by rw [hLl0.out]; exact hm1)
        rw [hLl1.out] at eb
        rw [hLl0.out] at ea
        have hne0 : La0 ≠ [] := fun h => by have h2 := hLl0.out; rw [h] at h2; simp at h2; omega
        have hne1 : La1 ≠ [] := fun h => by have h2 := hLl1.out; rw [h] at h2; simp at h2; omega
        have z9 : wq.cell? ⟨wd1.heap.size, 2, none⟩ = some (.slice (some ⟨bb, ob, none⟩) m cb) := by rw [cell_of_row _ _ _ _ _ _ hc1_7.out, ← hmv1'.out, show lvS La1 v1 = _ from if_neg hne1, eb]; rfl
        have z7 : wq.cell? ⟨wd0.heap.size, 2, none⟩ = some (.slice (some ⟨ba, oa, none⟩) m ca) := by rw [cell_of_row _ _ _ _ _ _ hc0_7.out, ← hmv0'.out, show lvS La0 v0 = _ from if_neg hne0, ea]; rfl
        have st8 := str_of (c := cr0) hr0_7.out
        have st10 := str_of (c := cr1) hr1_7.out
        have z9' := veil z9
        have z7' := veil z7
        clear hne0 hne1
        go_wp2_with fail
        clear st8 st10 z9 z7
        rw [ea] at hl0_7
        rw [eb] at hl1_7
        go_loopw [12] (fun i wr => ∃ q : Nat, q ≤ m ∧ i = .int .i64 q ∧ Below wq.heap.size wq wr) (fun i _ => m - (intOf i).toNat)
        case atStart => exact ⟨0, by omega, rfl, Below.refl _ _⟩
        case round =>
          obtain ⟨q, hq, rfl, hb⟩ := hrel
          have hb' := veil hb
          by_cases hlt : q < m
          · have q0 : (0 : Int) ≤ q := by omega
            have qN : (q : Int) < m := by omega
            obtain ⟨s, hs⟩ : ∃ s, ws[q]? = some s := ⟨_, List.getElem?_eq_getElem (by rw [hnl.out]; exact hlt)⟩
            obtain ⟨j, hj⟩ : ∃ j : Nat, (m : Int) - 1 - q = j := ⟨(m - 1 - q), by omega⟩
            have j0 : (0 : Int) ≤ j := by omega
            have jN : (j : Int) < m := by omega
            have hsa : La0[j]? = some s := by rw [← hLe0.out, List.getElem?_reverse (by rw [hnl.out]; omega), hnl.out, show m - 1 - j = q by omega]; exact hs
            have hsb : La1[q]? = some s := by rw [← hLe1.out]; exact hs
            have ka := tR_at (hl0_7.out.below hb) hsa
            have kb := tR_at (hl1_7.out.below hb) hsb
            have kw := tR_at (hwr_7.out.below hb) hs
            have y7 := (Below.cell hb (World.block_lt_of_cell? wq _ z7'.out)).trans z7'.out
            have y9 := (Below.cell hb (World.block_lt_of_cell? wq _ z9'.out)).trans z9'.out
            have x1 : IntKind.i64.wrap ((m : Int) - 1) = (m : Int) - 1 := iwrapE (by unfold Int64; omega)
            have x2 : IntKind.i64.wrap ((m : Int) - 1 - q) = j := by rw [← hj]; exact iwrapE (by unfold Int64; omega)
            have kk := veil (show ((q : Int) + 1) = ((q + 1 : Nat) : Int) by omega)
            clear hsa hsb hs hj hb
            go_wp2_with fail
            go_quiet (fail)
            go_wp2_with fail
            go_roundw
            case rel => exact ⟨q + 1, hlt, congrArg (Value.int .i64) kk.out, pw_below_drewN hb'.out _⟩
            case measure => simp [intOf]; omega
          · obtain rfl : m = q := by omega
            clear hb
            go_wp2_with fail
            go_ret
            exact ⟨rfl, two_below hB_7.out hb'.out⟩
theorem pushes_walk (A : Option Addr) (cap : Nat) (l : List ByteArray) (W : World) (hr : Kd.C Kd.string W A l.length l) (hc : l.length ≤ cap) (hs : ∀ s ∈ l, s.size ≤ maxLen) (hT : Tabs W) :
    Calls Tryz.prog 5 #[.slice A l.length cap] W fun e w' => e = .returned (.bool true) ∧ Below W.heap.size W w' :=
  pushes_any A cap l W (Kd.reads_of_C (enc := Value.string) (d := ByteArray.empty) (h1 := fun _ => rfl) hr) hc hT
end Go.Proofs.Tryz.Ln
