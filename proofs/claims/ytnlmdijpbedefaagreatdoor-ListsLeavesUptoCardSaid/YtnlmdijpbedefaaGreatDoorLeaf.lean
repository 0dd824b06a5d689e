import Derived.Test.YtnlmdijpbedefaaGreatDoorLs16
/- The law of what is left of a list. -/
namespace Go.Proofs.Tryz.Ln
open Go Go.RowKit Go.Proofs.Mem Go.Proofs.App
open Go.Proofs.YtnlmdijpbedefaaGreatDoorW.PrintWords Go.Proofs.YtnlmdijpbedefaaGreatDoorW.PrintMore
open Go.Proofs.Rel (dsts depsOf)
attribute [local go_sem] min2_sym min_two
set_option linter.unusedVariables false
set_option linter.unusedSimpArgs false
theorem wfu8 {x : Int} (h : (Lit.int .u8 x).wf = true) : 0 ≤ x ∧ x ≤ 255 := by
  simp [Lit.wf, go_sem] at h
  exact h
theorem zero_len {a b m d n : Nat} (hn : n = d - a) (h : m - b = d) (e : a + b = m) : n = 0 := by omega
theorem pos_len {a b m d n : Nat} (hn : n = d - a) (h : m - b = d) (hm : a + b ≤ m) (e : ¬ a + b = m) : n ≠ 0 := by omega

set_option maxRecDepth 100000 in
set_option maxHeartbeats 16000000 in
theorem leaves_any (A : Option Addr) (c : Nat) (l : List ByteArray) (x y : Int) (w : World) (hr : ReadsOf Value.string ByteArray.empty w A l.length l) (hc : l.length ≤ c) (hx : 0 ≤ x ∧ x ≤ 255) (hy : 0 ≤ y ∧ y ≤ 255) (hsum : sumS l ≤ 1048576) (hT : Tabs w) :
    Calls Tryz.prog 6 #[.slice A l.length c, .int .u8 x, .int .u8 y] w fun e w' => e = .returned (.bool true) ∧ Below w.heap.size w w' := by
  have hT' := veil hT
  have hr' := veil hr
  have hm := mn12 l.length
  obtain ⟨m, hm0⟩ : ∃ m, min l.length 12 = m := ⟨_, rfl⟩
  rw [hm0] at hm
  have hml : m ≤ l.length := by omega
  have hm12 : m ≤ 12 := by omega
  have hcut := cutH A l.length c m hml hc
  obtain ⟨hx0, hx1⟩ := hx
  obtain ⟨hy0, hy1⟩ := hy
  clear hT hr
  go_enter Tryz.func6, Tryz.ntmps6
  go_wp2_with fail
  refine (shown12_any _ hT'.out).mono ?_
  rintro e w1 ⟨rfl, hb1⟩
  have hB1 := veil hb1
  have hr0 := veil (hr'.out.take_ m hml)
  have hrw := veil ((hr'.out.below hb1).take_ m hml)
  clear hb1
  have hsz := veil (Nat.le_trans (sumS_take l m) hsum)
  have hlm : (l.take m).length = m := by rw [List.length_take]; omega
  obtain ⟨ws, hws⟩ : ∃ ws, l.take m = ws := ⟨_, rfl⟩
  rw [hws] at hr0 hrw hsz hlm
  have hnl := veil hlm
  clear hws hsum hlm hr'
  by_cases h0 : m = 0
  · subst h0
    have h1' : ((0 : Int) == 0) = true := rfl
    go_wp2_with fail
    obtain ⟨w2, hw1⟩ : ∃ W : World, W = w1.alloc (.cells #[.string ⟨#[114, 112, 111, 112]⟩, .string ⟨#[107]⟩] 9) := ⟨_, rfl⟩
    rw [← hw1]
    have hb1 : Below w1.heap.size w1 w2 := by rw [hw1]; exact below_alloc (Below.refl _ _) _
    have ha1 : tR w2 (.slice (some ⟨w1.heap.size, 0, none⟩) 2 2) [⟨#[114, 112, 111, 112]⟩, ⟨#[107]⟩] := tR_lit [⟨#[114, 112, 111, 112]⟩, ⟨#[107]⟩] 2 rfl (by rw [hw1]; exact heap_alloc_last w1 _) (by simp)
    have hs1 := hb1.size
    have hB_2 := veil (two_below hB1.out (hb1))
    clear hB1
    clear hb1 hw1
    refine (do_popnil true ⟨#[]⟩ ⟨#[114, 112, 111, 112]⟩ nl nl nl [⟨#[114, 112, 111, 112]⟩, ⟨#[107]⟩] (some ⟨w1.heap.size, 0, none⟩) 2 w2 (tR_nil _) ha1 (by decide) rfl (by decide) low_rpop rfl rfl (tabs_below hT'.out hB_2.out)).mono ?_
    rintro e w5 ⟨Ar, nr, cr, rfl, hf5, hb5⟩
    have hs5 := hb5.size
    have hB_3 := veil (two_below hB_2.out (hb5))
    clear hB_2
    have hnr := veil (hf5.reads (by rw [← hf5.len]; decide +kernel))
    clear hf5 hb5 ha1
    go_wp2_with (refine wpList_store_row rfl tV _ _ rfl w5.heap.size (#[.int .u8 0, .string ⟨#[]⟩, .slice none 0 0, .slice none 0 0, .slice none 0 0]) rfl rfl tV zS (heap_alloc_last w5 _) (info5x _ _ _ _ _) rfl (one5 0 ⟨#[]⟩ none 0 0 nl nl rfl rfl) ?_)
    obtain ⟨b4, hb4⟩ : ∃ b4 : World, b4 = (w5.alloc (.cells #[.int .u8 0, .string ⟨#[]⟩, .slice none 0 0, .slice none 0 0, .slice none 0 0] tV)).setRow w5.heap.size (#[.int .u8 0, .string ⟨#[]⟩, .slice none 0 0, .slice none 0 0, .slice none 0 0]) := ⟨_, rfl⟩
    have hN4 := newV (#[.int .u8 0, .string ⟨#[]⟩, .slice none 0 0, .slice none 0 0, .slice none 0 0]) w5
    rw [← hb4] at hN4 ⊢
    have hsN4 := hN4.sz
    have hB_5 := veil (two_below hB_3.out (hN4.bel))
    have hrd_5 := veil (hnr.out.below (hN4.bel))
    clear hB_3 hnr
    have hhc_n := veil hN4.cell
    clear hb4 hN4
    refine Rel.wp_region_rel (n := 124) [Rel.is (.bool true), Rel.is (.bool true), Rel.is (.pointer (some ⟨w5.heap.size, 0, none⟩)), Rel.is (.int .u8 0), Rel.is (.bool true), Rel.is (.bool true), Rel.is (.bool true), Rel.rd (lineL ⟨#[36]⟩ ⟨#[45, 49]⟩), Rel.is (.string (strOfNums (lineL ⟨#[36]⟩ ⟨#[45, 49]⟩))), Rel.rd (lineL ⟨#[36]⟩ ⟨#[45, 49]⟩), Rel.is (.string (strOfNums (lineL ⟨#[36]⟩ ⟨#[45, 49]⟩))), Rel.is (.bool true), Rel.is (.bool true), Rel.is (.bool true)] (by kernel_rfl) (by rfl) (by kernel_rfl) ?_ ?_
    · refine Rel.steps_cons (Rel.step_wasB (n := 124) (t := 7) rfl (.inl rfl) (.inl rfl) rfl (by kernel_rfl) rfl) ?_
      refine Rel.steps_cons (Rel.step_passB (n := 124) (j := 0) (t := 34) rfl (.inl rfl) (.inl rfl) rfl rfl rfl rfl) ?_
      refine Rel.steps_cons (Rel.step_run0 (n := 124) (t := 9) (v := .pointer (some ⟨w5.heap.size, 0, none⟩)) rfl (.inr ⟨1, 35, true, rfl, rfl, rfl, by decide, rfl⟩) rfl (by kernel_rfl) (fun ρ w' hb h1 hk => by simp [execOp, h1, hk, go_sem, Addr.add]) rfl) ?_
      refine Rel.steps_cons (Rel.step_cell (n := 124) (j := 2) (t := 36) rfl (.inr ⟨1, 35, true, rfl, rfl, rfl, by decide, rfl⟩) rfl rfl rfl rfl Tryz.underlying5 (.inr (.inr (.inl ⟨_, rfl⟩))) (by rw [cell_of_row _ _ _ _ _ _ hhc_n.out]; rfl) rfl) ?_
      refine Rel.steps_cons (Rel.step_run1 (n := 124) (j := 3) (t := 37) rfl (.inr ⟨1, 35, true, rfl, rfl, rfl, by decide, rfl⟩) rfl rfl rfl (fun ρ w' hb h1 hk => by simp [execOp, h1, hk, go_sem]) rfl) ?_
      refine Rel.steps_cons (Rel.step_run2 (n := 124) (j := 1) (t := 35) (j2 := 4) (t2 := 38) rfl (.inl rfl) rfl rfl rfl rfl rfl rfl (fun ρ w' _ h1 h2 hk => by simp [execOp, h1, h2, hk, asBool]) rfl) ?_
      refine Rel.steps_cons (Rel.step_passB (n := 124) (j := 5) (t := 39) rfl (.inl rfl) (.inl rfl) rfl rfl rfl rfl) ?_
      refine Rel.steps_cons (Rel.step_rdB (n := 124) (t := 10) (A := Ar) (m := nr) (c := cr) rfl (.inr ⟨6, 40, true, rfl, rfl, rfl, by decide, rfl⟩) rfl rfl (by kernel_rfl) hrd_5.out rfl) ?_
      refine Rel.steps_cons (Rel.step_strB (n := 124) (j := 7) (t := 41) rfl (.inr ⟨6, 40, true, rfl, rfl, rfl, by decide, rfl⟩) rfl Tryz.underlying29 Tryz.underlying5 Tryz.underlying9 rfl rfl rfl rfl) ?_
      refine Rel.steps_cons (Rel.step_callB (n := 124) rfl (.inr ⟨6, 40, true, rfl, rfl, rfl, by decide, rfl⟩) Tryz.func11 (by kernel_rfl) rfl #[] rfl (fun b w D => by simp) (fun w hb => rdB (by decide +kernel) (YNull_any w))) ?_
      refine Rel.steps_cons (Rel.step_strB (n := 124) (j := 9) (t := 43) rfl (.inr ⟨6, 40, true, rfl, rfl, rfl, by decide, rfl⟩) rfl Tryz.underlying29 Tryz.underlying5 Tryz.underlying9 rfl rfl rfl rfl) ?_
      refine Rel.steps_cons (Rel.step_texts (n := 124) (j := 8) (t := 42) (j2 := 10) (t2 := 44) rfl (.inr ⟨6, 40, true, rfl, rfl, rfl, by decide, rfl⟩) rfl Tryz.underlying9 rfl rfl rfl rfl rfl rfl (.inl ⟨rfl, (decide_eq_true rfl).symm⟩) rfl) ?_
      refine Rel.steps_cons (Rel.step_run2 (n := 124) (j := 6) (t := 40) (j2 := 11) (t2 := 45) rfl (.inl rfl) rfl rfl rfl rfl rfl rfl (fun ρ w' _ h1 h2 hk => by simp [execOp, h1, h2, hk, asBool]) rfl) ?_
      refine Rel.steps_cons (Rel.step_passB (n := 124) (j := 12) (t := 46) rfl (.inl rfl) (.inr rfl) rfl rfl rfl rfl) ?_
      exact trivial
    intro v wz hv hbz
    have ez : v 13 = .bool true := hv 13 (by decide)
    have hBz := veil (two_below hB_5.out hbz)
    simp only [Rel.fill, Act.put, List.setIfInBounds_toArray, List.set_cons_zero, List.set_cons_succ]
    rw [ez]
    clear hbz hv ez
    go_wp2_with fail
    go_ret
    exact ⟨rfl, hBz.out⟩
  · have h0' : ¬ (m : Int) = 0 := by omega
    have h1' : ((m : Int) == 0) = false := by simp [h0]
    obtain ⟨wa, hwa⟩ : ∃ W : World, W = w1.alloc (.cells #[.string ⟨#[114, 112, 117, 115, 104]⟩, .string ⟨#[107]⟩] 9) := ⟨_, rfl⟩
    have hba : Below w1.heap.size w1 wa := by rw [hwa]; exact below_alloc (Below.refl _ _) _
    have hoa : OR wa w1.heap.size (.slice (some ⟨w1.heap.size, 0, none⟩) 2 2) [⟨#[114, 112, 117, 115, 104]⟩, ⟨#[107]⟩] := ⟨rfl, .inr ⟨w1.heap.size, 2, #[.string ⟨#[114, 112, 117, 115, 104]⟩, .string ⟨#[107]⟩], rfl, Nat.le_refl _, by rw [hwa]; exact heap_alloc_last w1 _, Nat.le_refl _, by decide, rfl, rfl⟩⟩
    have hTx := hrw.out.below hba
    have hba' := hba
    have hsa := hba.size
    rw [hwa] at hoa hTx hba' hsa
    go_wp2_with (refine print_append_row_of (w0 := w1) Value.string ByteArray.empty w1.heap.size rfl _ _ 22 9 (.string ⟨#[]⟩) 16 rfl Tryz.underlying22 infoS rfl (by decide) (fun _ => rfl) _ [⟨#[114, 112, 117, 115, 104]⟩, ⟨#[107]⟩] ws A m c rfl rfl hoa hTx hba' hsa (by show (2 + m) * 16 ≤ _; omega) ?_)
    intro v1 w4 ho4 hb4 _ _
    have ho4' : OR w4 w1.heap.size v1 (⟨#[114, 112, 117, 115, 104]⟩ :: ⟨#[107]⟩ :: ws) := ho4
    have har := tR_own ho4'
    obtain ⟨A4, c4, rfl, _⟩ := har.ex
    have har' := veil har
    have hB4 := veil (two_below hB1.out hb4)
    have hs4 := hb4.size
    have hrw4 := veil (hrw.out.below hb4)
    clear ho4 ho4' hb4 har hba hba' hoa hTx hsa hwa
    go_wp2_with fail
    refine (do_push false 0 ⟨#[]⟩ ⟨#[114, 112, 117, 115, 104]⟩ nl nl nl [] (⟨#[114, 112, 117, 115, 104]⟩ :: ⟨#[107]⟩ :: ws) A4 c4 w4 (.inl rfl) (tR_nil _) har'.out (by simp) rfl (by decide) low_rpush (by show 0 + (ws.length + 1 + 1) ≤ _; rw [hnl.out]; omega) (tabs_below hT'.out hB4.out)).mono ?_
    rintro e w5 ⟨v5, Ar, nr, cr, rfl, ho5, hf5, hb5⟩
    rw [show putL false [] (List.drop 2 (⟨#[114, 112, 117, 115, 104]⟩ :: ⟨#[107]⟩ :: ws)) = ws from by simp [putL]] at ho5 ⊢
    have hs5 := hb5.size
    have hB_6 := veil (two_below hB4.out (hb5))
    clear hB4
    have hGw0 : Veil (w.heap.size ≤ w5.heap.size) := veil hB_6.out.size
    have hv5 := veil (tR_own ho5)
    have hv51 := veil (or_one ho5)
    obtain ⟨mv, hmv⟩ : ∃ mv, lvS ws v5 = mv := ⟨_, rfl⟩
    rw [hmv]
    have hms : mv.size = 5 := by rw [← hmv]; exact lvS_size _ _
    have hmo : mv.all (·.oneCell') = true := by rw [← hmv]; exact lvS_oneV _ _ hv51.out
    have hmv' := veil hmv
    clear hmv ho5 hf5 hb5 har'
    obtain ⟨a, ha⟩ : ∃ a : Nat, x % ((m : Int) + 1) = a := ⟨(x % ((m : Int) + 1)).toNat, by have := Int.emod_nonneg x (show (m : Int) + 1 ≠ 0 by omega); omega⟩
    have ham : a ≤ m := by have := Int.emod_lt_of_pos x (show (0 : Int) < (m : Int) + 1 by omega); omega
    obtain ⟨b, hb⟩ : ∃ b : Nat, y % ((m : Int) - a + 1) = b := ⟨(y % ((m : Int) - a + 1)).toNat, by have := Int.emod_nonneg y (show (m : Int) - a + 1 ≠ 0 by omega); omega⟩
    have hbm : a + b ≤ m := by have := Int.emod_lt_of_pos y (show (0 : Int) < (m : Int) - a + 1 by omega); omega
    have e2 : IntKind.i64.wrap ((m : Int) - a) = (m : Int) - a := iwrapE (by unfold Int64; omega)
    have e3 : IntKind.i64.wrap ((m : Int) - a + 1) = (m : Int) - a + 1 := iwrapE (by unfold Int64; omega)
    have e2' : wrap64 ((m : Int) - a) = (m : Int) - a := by unfold wrap64; omega
    have e3' : wrap64 ((m : Int) - a + 1) = (m : Int) - a + 1 := by unfold wrap64; omega
    have e5 : ¬ (m : Int) - a + 1 = 0 := by omega
    go_wp2_with (refine wpList_store_row rfl tV _ _ rfl w5.heap.size mv rfl rfl tV zS (heap_alloc_last w5 _) (by rw [hms]; exact info28) hms.symm hmo ?_)
    obtain ⟨b7, hb7⟩ : ∃ b7 : World, b7 = (w5.alloc (.cells #[.int .u8 0, .string ⟨#[]⟩, .slice none 0 0, .slice none 0 0, .slice none 0 0] tV)).setRow w5.heap.size (mv) := ⟨_, rfl⟩
    have hN7 := newV (mv) w5
    rw [← hb7] at hN7 ⊢
    have hsN7 := hN7.sz
    have hB_8 := veil (two_below hB_6.out (hN7.bel))
    have hv_8 := veil (hv5.out.below (hN7.bel))
    clear hB_6 hv5
    have hhc_n := veil hN7.cell
    clear hb7 hN7
    have hGw : w.heap.size ≤ w5.heap.size := hGw0.out
    rw [ha, hb]
    clear ha hb
    go_loopw [15] (fun i wr => ∃ (q : Nat) (v : Value), q ≤ a ∧ i = .int .i64 q ∧ wr.heap[w5.heap.size]? = some (.cells (lvS (ws.drop q) v) tV (0, 0)) ∧ tR wr v (ws.drop q) ∧ v.oneCell' = true ∧ b7.heap.size ≤ wr.heap.size ∧ Below w.heap.size w wr) (fun i _ => a - (intOf i).toNat)
    case atStart => exact ⟨0, v5, by omega, rfl, by rw [List.drop_zero, hmv'.out]; exact hhc_n.out, by rw [List.drop_zero]; exact hv_8.out, hv51.out, Nat.le_refl _, hB_8.out⟩
    case round =>
      obtain ⟨q, v, hq, rfl, hcell, hv, hv1, hszr, hbr⟩ := hrel
      have hcell' := veil hcell
      have hv' := veil hv
      have hv1' := veil hv1
      have hbr' := veil hbr
      clear hcell hv hv1 hbr
      by_cases hlt : q < a
      · have q0 : (0 : Int) ≤ q := by omega
        have qN : (q : Int) < (a : Nat) := by omega
        have hLn : (ws.drop q).length = m - q := by rw [List.length_drop, hnl.out]
        obtain ⟨sq, hsq⟩ : ∃ s, (ws.drop q)[popI false (ws.drop q)]? = some s := ⟨_, List.getElem?_eq_getElem (by show 0 < _; omega)⟩
        have hsx : sq.size ≤ 70368744177664 := by
          have h1 := size_le (List.mem_of_getElem? hsq)
          have h2 := sumS_drop ws q
          have h3 := hsz.out
          omega
        have her : (ws.drop q).eraseIdx (popI false (ws.drop q)) = ws.drop (q + 1) := erase0 ws q
        obtain ⟨Lo, hLo⟩ : ∃ Lo, ws.drop q = Lo := ⟨_, rfl⟩
        obtain ⟨Lx, hLx⟩ : ∃ Lx, ws.drop (q + 1) = Lx := ⟨_, rfl⟩
        rw [hLo] at hcell' hv' hsq her hLn
        rw [hLx] at her
        have hLx' := veil hLx
        clear hLo hLx
        obtain ⟨mo, hmo⟩ : ∃ mo, lvS Lo v = mo := ⟨_, rfl⟩
        rw [hmo] at hcell'
        have hmso : mo.size = 5 := by rw [← hmo]; exact lvS_size _ _
        have hmoe := veil hmo
        clear hmo
        have hGlt : w5.heap.size < wr.heap.size := (Array.getElem?_eq_some_iff.1 hcell'.out).1
        have L4 := hcell'.out
        go_wp2_with (refine wpList_load_row rfl tV _ rfl w5.heap.size rfl tV (mo) (0, 0) _ L4 Tryz.underlying28 rfl (by rw [hmso]; exact info28) ?_)
        clear L4
        obtain ⟨wt, hw9⟩ : ∃ W : World, W = wr.alloc (.cells #[.string ⟨#[108, 112, 111, 112]⟩, .string ⟨#[107]⟩] 9) := ⟨_, rfl⟩
        rw [← hw9]
        have hb9 : Below wr.heap.size wr wt := by rw [hw9]; exact below_alloc (Below.refl _ _) _
        have ha9 : tR wt (.slice (some ⟨wr.heap.size, 0, none⟩) 2 2) [⟨#[108, 112, 111, 112]⟩, ⟨#[107]⟩] := tR_lit [⟨#[108, 112, 111, 112]⟩, ⟨#[107]⟩] 2 rfl (by rw [hw9]; exact heap_alloc_last wr _) (by simp)
        have hs9 := hb9.size
        have hB_10 := veil (two_below hbr'.out (hb9))
        have hc_10 := veil (((hb9).block _ (by omega)).trans hcell'.out)
        have hv_10 := veil (hv'.out.below (hb9))
        clear hbr' hcell' hv'
        clear hb9 hw9
        have hdo := do_popV false ⟨#[108, 112, 111, 112]⟩ sq v Lo [⟨#[108, 112, 111, 112]⟩, ⟨#[107]⟩] (some ⟨wr.heap.size, 0, none⟩) 2 wt hv_10.out ha9 (by decide) rfl (by decide) low_lpop hsq (by omega) hsx (tabs_below hT'.out hB_10.out)
        rw [hmoe.out, her] at hdo
        refine hdo.mono ?_
        rintro e w7 ⟨v7, Ar7, nr7, cr7, rfl, ho7, hf7, hb7⟩
        have hs7 := hb7.size
        have hB_11 := veil (two_below hB_10.out (hb7))
        have hc_11 := veil (((hb7).block _ (by omega)).trans hc_10.out)
        clear hB_10 hc_10
        have hv71 := or_one ho7
        obtain ⟨mn7, hmn⟩ : ∃ mv, lvS Lx v7 = mv := ⟨_, rfl⟩
        rw [hmn]
        have hmns : mn7.size = 5 := by rw [← hmn]; exact lvS_size _ _
        have hmno : mn7.all (·.oneCell') = true := by rw [← hmn]; exact lvS_oneV _ _ hv71
        have hmn' := veil hmn
        have hv7 := veil (tR_own (own_setRow (mv := mn7) ho7 hc_11.out))
        have hB7 := veil (below_setRow hB_11.out w5.heap.size mn7 hGw)
        have hc7 := veil (setRow_heap w7 w5.heap.size mo mn7 tV (0, 0) hc_11.out)
        have hc70 := hc_11.out
        have hv71' := veil hv71
        clear hdo hmn ho7 hf7 hb7 ha9 her hsq hv71
        go_wp2_with (refine wpList_store_row rfl tV _ _ rfl (w5.heap.size) mn7 rfl rfl tV mo hc70 (by rw [hmns]; exact info28) (by rw [hmso, hmns]) hmno ?_)
        have kk := veil (show ((q : Int) + 1) = ((q + 1 : Nat) : Int) by omega)
        clear hc70
        go_roundw
        case rel => exact ⟨q + 1, v7, hlt, congrArg (Value.int .i64) kk.out, by rw [hLx'.out, hmn'.out]; exact hc7.out, by rw [hLx'.out]; exact hv7.out, hv71'.out, by have h := hB7.out.size; simp only [World.setRow, Array.size_modify] at h ⊢; omega, hB7.out⟩
        case measure => simp [intOf]; omega
      · obtain rfl : a = q := by omega
        go_wp2_with fail
        go_loopw [16] (fun i wr => ∃ (q : Nat) (v : Value), q ≤ b ∧ i = .int .i64 q ∧ wr.heap[w5.heap.size]? = some (.cells (lvS ((ws.drop a).take (m - a - q)) v) tV (0, 0)) ∧ tR wr v ((ws.drop a).take (m - a - q)) ∧ v.oneCell' = true ∧ b7.heap.size ≤ wr.heap.size ∧ Below w.heap.size w wr) (fun i _ => b - (intOf i).toNat)
        case atStart => exact ⟨0, v, by omega, rfl, by rw [List.take_of_length_le (by rw [List.length_drop, hnl.out]; omega)]; exact hcell'.out, by rw [List.take_of_length_le (by rw [List.length_drop, hnl.out]; omega)]; exact hv'.out, hv1'.out, hszr, hbr'.out⟩
        case round =>
          obtain ⟨q, v, hq, rfl, hcell, hv, hv1, hszr, hbr⟩ := hrel
          have hcell' := veil hcell
          have hv' := veil hv
          have hv1' := veil hv1
          have hbr' := veil hbr
          clear hcell hv hv1 hbr
          by_cases hlt : q < b
          · have q0 : (0 : Int) ≤ q := by omega
            have qN : (q : Int) < (b : Nat) := by omega
            have hLn : ((ws.drop a).take (m - a - q)).length = m - a - q := by rw [List.length_take, List.length_drop, hnl.out]; omega
            obtain ⟨sq, hsq⟩ : ∃ s, ((ws.drop a).take (m - a - q))[popI true ((ws.drop a).take (m - a - q))]? = some s := ⟨_, List.getElem?_eq_getElem (by show ((ws.drop a).take (m - a - q)).length - 1 < _; omega)⟩
            have hsx : sq.size ≤ 70368744177664 := by
              have h1 := size_le (List.mem_of_getElem? hsq)
              have h2 := Nat.le_trans (sumS_take (ws.drop a) (m - a - q)) (sumS_drop ws a)
              have h3 := hsz.out
              omega
            have her : ((ws.drop a).take (m - a - q)).eraseIdx (popI true ((ws.drop a).take (m - a - q))) = (ws.drop a).take (m - a - (q + 1)) := by
              obtain ⟨k, hk⟩ : ∃ k, m - a - q = k + 1 := ⟨m - a - q - 1, by omega⟩
              rw [show m - a - (q + 1) = k by omega, hk]
              exact take_pred _ k (by rw [List.length_drop, hnl.out]; omega)
            obtain ⟨Lo, hLo⟩ : ∃ Lo, (ws.drop a).take (m - a - q) = Lo := ⟨_, rfl⟩
            obtain ⟨Lx, hLx⟩ : ∃ Lx, (ws.drop a).take (m - a - (q + 1)) = Lx := ⟨_, rfl⟩
            rw [hLo] at hcell' hv' hsq her hLn
            rw [hLx] at her
            have hLx' := veil hLx
            clear hLo hLx
            obtain ⟨mo, hmo⟩ : ∃ mo, lvS Lo v = mo := ⟨_, rfl⟩
            rw [hmo] at hcell'
            have hmso : mo.size = 5 := by rw [← hmo]; exact lvS_size _ _
            have hmoe := veil hmo
            clear hmo
            have hGlt : w5.heap.size < wr.heap.size := (Array.getElem?_eq_some_iff.1 hcell'.out).1
            have L4 := hcell'.out
            go_wp2_with (refine wpList_load_row rfl tV _ rfl w5.heap.size rfl tV (mo) (0, 0) _ L4 Tryz.underlying28 rfl (by rw [hmso]; exact info28) ?_)
            clear L4
            obtain ⟨wt, hw12⟩ : ∃ W : World, W = wr.alloc (.cells #[.string ⟨#[114, 112, 111, 112]⟩, .string ⟨#[107]⟩] 9) := ⟨_, rfl⟩
            rw [← hw12]
            have hb12 : Below wr.heap.size wr wt := by rw [hw12]; exact below_alloc (Below.refl _ _) _
            have ha12 : tR wt (.slice (some ⟨wr.heap.size, 0, none⟩) 2 2) [⟨#[114, 112, 111, 112]⟩, ⟨#[107]⟩] := tR_lit [⟨#[114, 112, 111, 112]⟩, ⟨#[107]⟩] 2 rfl (by rw [hw12]; exact heap_alloc_last wr _) (by simp)
            have hs12 := hb12.size
            have hB_13 := veil (two_below hbr'.out (hb12))
            have hc_13 := veil (((hb12).block _ (by omega)).trans hcell'.out)
            have hv_13 := veil (hv'.out.below (hb12))
            clear hbr' hcell' hv'
            clear hb12 hw12
            have hdo := do_popV true ⟨#[114, 112, 111, 112]⟩ sq v Lo [⟨#[114, 112, 111, 112]⟩, ⟨#[107]⟩] (some ⟨wr.heap.size, 0, none⟩) 2 wt hv_13.out ha12 (by decide) rfl (by decide) low_rpop hsq (by omega) hsx (tabs_below hT'.out hB_13.out)
            rw [hmoe.out, her] at hdo
            refine hdo.mono ?_
            rintro e w7 ⟨v7, Ar7, nr7, cr7, rfl, ho7, hf7, hb7⟩
            have hs7 := hb7.size
            have hB_14 := veil (two_below hB_13.out (hb7))
            have hc_14 := veil (((hb7).block _ (by omega)).trans hc_13.out)
            clear hB_13 hc_13
            have hv71 := or_one ho7
            obtain ⟨mn7, hmn⟩ : ∃ mv, lvS Lx v7 = mv := ⟨_, rfl⟩
            rw [hmn]
            have hmns : mn7.size = 5 := by rw [← hmn]; exact lvS_size _ _
            have hmno : mn7.all (·.oneCell') = true := by rw [← hmn]; exact lvS_oneV _ _ hv71
            have hmn' := veil hmn
            have hv7 := veil (tR_own (own_setRow (mv := mn7) ho7 hc_14.out))
            have hB7 := veil (below_setRow hB_14.out w5.heap.size mn7 hGw)
            have hc7 := veil (setRow_heap w7 w5.heap.size mo mn7 tV (0, 0) hc_14.out)
            have hc70 := hc_14.out
            have hv71' := veil hv71
            clear hdo hmn ho7 hf7 hb7 ha12 her hsq hv71
            go_wp2_with (refine wpList_store_row rfl tV _ _ rfl (w5.heap.size) mn7 rfl rfl tV mo hc70 (by rw [hmns]; exact info28) (by rw [hmso, hmns]) hmno ?_)
            have kk := veil (show ((q : Int) + 1) = ((q + 1 : Nat) : Int) by omega)
            clear hc70
            go_roundw
            case rel => exact ⟨q + 1, v7, hlt, congrArg (Value.int .i64) kk.out, by rw [hLx'.out, hmn'.out]; exact hc7.out, by rw [hLx'.out]; exact hv7.out, hv71'.out, by have h := hB7.out.size; simp only [World.setRow, Array.size_modify] at h ⊢; omega, hB7.out⟩
            case measure => simp [intOf]; omega
          · obtain rfl : b = q := by omega
            obtain ⟨d, hd⟩ : ∃ d, m - b = d := ⟨_, rfl⟩
            have had : a ≤ d := by omega
            have hdm : d ≤ m := by omega
            have hmc : m ≤ c := by omega
            obtain ⟨L, hL⟩ : ∃ L, (ws.drop a).take (m - a - b) = L := ⟨_, rfl⟩
            have hLw : (ws.take d).drop a = L := by rw [← hL, List.drop_take]; congr 1; omega
            have hLn : L.length = d - a := by rw [← hLw, List.length_drop, List.length_take, hnl.out]; omega
            have hLs : sumS L ≤ 1048576 := by rw [← hLw]; exact Nat.le_trans (sumS_drop _ _) (Nat.le_trans (sumS_take _ _) hsz.out)
            rw [hL] at hcell' hv'
            obtain ⟨BL, hcr, hcrd⟩ := cutLH A m c a d had hdm hmc
            have h8 := veil (hcrd _ _ (hr0.out.below hbr'.out))
            rw [hLw] at h8
            clear hL hLw hcrd
            have hdc : d - a ≤ c - a := by omega
            have hd1 : d - a ≤ 1000 := by omega
            obtain ⟨mo, hmo⟩ : ∃ mo, lvS L v = mo := ⟨_, rfl⟩
            rw [hmo] at hcell'
            have hmso : mo.size = 5 := by rw [← hmo]; exact lvS_size _ _
            have hmoo : mo.all (·.oneCell') = true := by rw [← hmo]; exact lvS_oneV _ _ hv1'.out
            have hmoe := veil hmo
            clear hmo
            have L4 := hcell'.out
            go_wp2_with (refine wpList_load_row rfl tV _ rfl w5.heap.size rfl tV (mo) (0, 0) _ L4 Tryz.underlying28 rfl (by rw [hmso]; exact info28) ?_)
            clear L4
            obtain ⟨wu, hw15⟩ : ∃ W : World, W = wr.alloc (.cells #[.string ⟨#[108, 114, 97, 110, 103, 101]⟩, .string ⟨#[107]⟩, .string ⟨#[48]⟩, .string ⟨#[45, 49]⟩] 9) := ⟨_, rfl⟩
            rw [← hw15]
            have hb15 : Below wr.heap.size wr wu := by rw [hw15]; exact below_alloc (Below.refl _ _) _
            have ha15 : tR wu (.slice (some ⟨wr.heap.size, 0, none⟩) 4 4) [⟨#[108, 114, 97, 110, 103, 101]⟩, ⟨#[107]⟩, ⟨#[48]⟩, ⟨#[45, 49]⟩] := tR_lit [⟨#[108, 114, 97, 110, 103, 101]⟩, ⟨#[107]⟩, ⟨#[48]⟩, ⟨#[45, 49]⟩] 4 rfl (by rw [hw15]; exact heap_alloc_last wr _) (by simp)
            have hs15 := hb15.size
            have hB_16 := veil (two_below hbr'.out (hb15))
            have hc_16 := veil (((hb15).block _ (by omega)).trans hcell'.out)
            have hv_16 := veil (hv'.out.below (hb15))
            have h8_16 := veil (h8.out.below (hb15))
            clear hbr' hcell' hv' h8
            clear hb15 hw15
            have hdo := do_lrangeV 0 (-1) ⟨#[108, 114, 97, 110, 103, 101]⟩ ⟨#[48]⟩ ⟨#[45, 49]⟩ v L [⟨#[108, 114, 97, 110, 103, 101]⟩, ⟨#[107]⟩, ⟨#[48]⟩, ⟨#[45, 49]⟩] (some ⟨wr.heap.size, 0, none⟩) 4 0 L.length wu hv_16.out ha15 (by decide) rfl rfl rfl (by decide) low_lrange (by omega) parse_0 parse_m1 ⟨by decide, by decide⟩ ⟨by decide, by decide⟩ (by decide) (by decide) (part_all _).1 (part_all _).2 (Nat.zero_le _) (Nat.le_refl _) hLs (tabs_below hT'.out hB_16.out)
            rw [List.take_length, List.drop_zero, hmoe.out] at hdo
            refine hdo.mono ?_
            rintro e w8 ⟨Ar, nr, cr, rfl, hf8, hb8⟩
            have hs8 := hb8.size
            clear hdo
            have hB_17 := veil (two_below hB_16.out (hb8))
            have hc_17 := veil (((hb8).block _ (by omega)).trans hc_16.out)
            have h8_17 := veil (h8_16.out.below (hb8))
            clear hB_16 hc_16 h8_16
            have hnr := veil (hf8.reads (by rw [← hf8.len]; exact (texts_ok L hLs (by omega)).2.2.1))
            clear hf8 hb8 ha15
            go_wp2_with (refine wpList_store_row rfl tV _ _ rfl w8.heap.size mo rfl rfl tV zS (heap_alloc_last w8 _) (by rw [hmso]; exact info28) hmso.symm hmoo ?_)
            obtain ⟨b18, hb18⟩ : ∃ b18 : World, b18 = (w8.alloc (.cells #[.int .u8 0, .string ⟨#[]⟩, .slice none 0 0, .slice none 0 0, .slice none 0 0] tV)).setRow w8.heap.size (mo) := ⟨_, rfl⟩
            have hN18 := newV (mo) w8
            rw [← hb18] at hN18 ⊢
            have hsN18 := hN18.sz
            have hB_19 := veil (two_below hB_17.out (hN18.bel))
            have hc_19 := veil (((hN18.bel).block _ (by omega)).trans hc_17.out)
            have h8_19 := veil (h8_17.out.below (hN18.bel))
            have hrd_19 := veil (hnr.out.below (hN18.bel))
            clear hB_17 hc_17 h8_17 hnr
            have hhc2_n := veil hN18.cell
            clear hb18 hN18
            have e6 : IntKind.i64.wrap ((m : Int) - b) = d := by rw [iwrapE (by unfold Int64; omega)]; omega
            have e6' : wrap64 ((m : Int) - b) = d := by unfold wrap64; omega
            obtain ⟨s, hs0⟩ : ∃ s, a + b = s := ⟨_, rfl⟩
            have e7 : IntKind.i64.wrap ((a : Int) + b) = s := by rw [iwrapE (by unfold Int64; omega)]; omega
            have e7' : wrap64 ((a : Int) + b) = s := by unfold wrap64; omega
            by_cases hs : s = m
            · have hk0 : mo[0]? = some (.int .u8 0) := by
                rw [← hmoe.out, List.length_eq_zero_iff.1 (zero_len hLn hd (hs0.trans hs))]
                rfl
              refine Rel.wp_region_rel (n := 124) [Rel.is (.bool true), Rel.is (.bool true), Rel.rd (textsL L), Rel.is (.string (strOfNums (textsL L))), Rel.is (.slice A m c), Rel.is (.int .i64 a), Rel.is (.slice A m c), Rel.is (.int .i64 (m : Nat)), Rel.is (.int .i64 b), Rel.is (.int .i64 d), Rel.is (.slice BL (d - a) (c - a)), Rel.rd (textsL L), Rel.is (.string (strOfNums (textsL L))), Rel.is (.bool true), Rel.is (.bool true), Rel.is (.bool true), Rel.is (.pointer (some ⟨w5.heap.size, 0, none⟩)), Rel.is (.int .u8 0), Rel.is (.bool true), Rel.is (.int .i64 a), Rel.is (.int .i64 b), Rel.is (.int .i64 s), Rel.is (.slice A m c), Rel.is (.int .i64 (m : Nat)), Rel.is (.bool true), Rel.is (.bool true), Rel.is (.bool true), Rel.is (.bool true)] (by kernel_rfl) (by rfl) (by kernel_rfl) ?_ ?_
              · refine Rel.steps_cons (Rel.step_wasB (n := 124) (t := 7) rfl (.inl rfl) (.inl rfl) rfl (by kernel_rfl) rfl) ?_
                refine Rel.steps_cons (Rel.step_passB (n := 124) (j := 0) (t := 97) rfl (.inl rfl) (.inl rfl) rfl rfl rfl rfl) ?_
                refine Rel.steps_cons (Rel.step_rdB (n := 124) (t := 18) (A := Ar) (m := nr) (c := cr) rfl (.inr ⟨1, 98, true, rfl, rfl, rfl, by decide, rfl⟩) rfl rfl (by kernel_rfl) hrd_19.out rfl) ?_
                refine Rel.steps_cons (Rel.step_strB (n := 124) (j := 2) (t := 99) rfl (.inr ⟨1, 98, true, rfl, rfl, rfl, by decide, rfl⟩) rfl Tryz.underlying29 Tryz.underlying5 Tryz.underlying9 rfl rfl rfl rfl) ?_
                refine Rel.steps_cons (Rel.step_wasB (n := 124) (t := 8) rfl (.inr ⟨1, 98, true, rfl, rfl, rfl, by decide, rfl⟩) (.inl rfl) rfl (by kernel_rfl) rfl) ?_
                refine Rel.steps_cons (Rel.step_wasB (n := 124) (t := 13) rfl (.inr ⟨1, 98, true, rfl, rfl, rfl, by decide, rfl⟩) (.inl rfl) rfl (by kernel_rfl) rfl) ?_
                refine Rel.steps_cons (Rel.step_wasB (n := 124) (t := 8) rfl (.inr ⟨1, 98, true, rfl, rfl, rfl, by decide, rfl⟩) (.inl rfl) rfl (by kernel_rfl) rfl) ?_
                refine Rel.steps_cons (Rel.step_run1 (n := 124) (j := 6) (t := 103) rfl (.inr ⟨1, 98, true, rfl, rfl, rfl, by decide, rfl⟩) rfl rfl rfl (fun ρ w' _ h1 hk => by simp [execOp, resolve, invoke, builtin, h1, hk, go_sem, Tryz.underlying22]) rfl) ?_
                refine Rel.steps_cons (Rel.step_wasB (n := 124) (t := 14) rfl (.inr ⟨1, 98, true, rfl, rfl, rfl, by decide, rfl⟩) (.inl rfl) rfl (by kernel_rfl) rfl) ?_
                refine Rel.steps_cons (Rel.step_run2 (n := 124) (j := 7) (t := 104) (j2 := 8) (t2 := 105) rfl (.inr ⟨1, 98, true, rfl, rfl, rfl, by decide, rfl⟩) rfl rfl rfl rfl rfl rfl (fun ρ w' hb h1 h2 hk => by simp [execOp, h1, h2, hk, go_sem, e6, e6']) rfl) ?_
                refine Rel.steps_cons (Rel.step_valB (n := 124) rfl (.inr ⟨1, 98, true, rfl, rfl, rfl, by decide, rfl⟩) (fun b' w' D => ⟨_, run_cutLH rfl (D.is 4 101 rfl rfl rfl) (D.is 5 102 rfl rfl rfl) (D.is 9 106 rfl rfl rfl) (hcr w'), rfl⟩)) ?_
                refine Rel.steps_cons (Rel.step_callB (n := 124) rfl (.inr ⟨1, 98, true, rfl, rfl, rfl, by decide, rfl⟩) Tryz.func13 (by kernel_rfl) rfl #[.slice BL (d - a) (c - a)] rfl (fun b w D => by simp only [List.map_toArray, List.map_cons, List.map_nil, show b.eval (.tmp 107) = .slice BL (d - a) (c - a) from D.is 10 107 rfl rfl rfl]) (fun w' hb' => YTexts_rd BL (d - a) (c - a) L w' (h8_19.out.below hb') hLn hdc hLs hd1)) ?_
                refine Rel.steps_cons (Rel.step_strB (n := 124) (j := 11) (t := 108) rfl (.inr ⟨1, 98, true, rfl, rfl, rfl, by decide, rfl⟩) rfl Tryz.underlying29 Tryz.underlying5 Tryz.underlying9 rfl rfl rfl rfl) ?_
                refine Rel.steps_cons (Rel.step_texts (n := 124) (j := 3) (t := 100) (j2 := 12) (t2 := 109) rfl (.inr ⟨1, 98, true, rfl, rfl, rfl, by decide, rfl⟩) rfl Tryz.underlying9 rfl rfl rfl rfl rfl rfl (.inl ⟨rfl, (decide_eq_true rfl).symm⟩) rfl) ?_
                refine Rel.steps_cons (Rel.step_run2 (n := 124) (j := 1) (t := 98) (j2 := 13) (t2 := 110) rfl (.inl rfl) rfl rfl rfl rfl rfl rfl (fun ρ w' _ h1 h2 hk => by simp [execOp, h1, h2, hk, asBool]) rfl) ?_
                refine Rel.steps_cons (Rel.step_passB (n := 124) (j := 14) (t := 111) rfl (.inl rfl) (.inl rfl) rfl rfl rfl rfl) ?_
                refine Rel.steps_cons (Rel.step_run0 (n := 124) (t := 11) (v := .pointer (some ⟨w5.heap.size, 0, none⟩)) rfl (.inr ⟨15, 112, true, rfl, rfl, rfl, by decide, rfl⟩) rfl (by kernel_rfl) (fun ρ w' hb h1 hk => by simp [execOp, h1, hk, go_sem, Addr.add]) rfl) ?_
                refine Rel.steps_cons (Rel.step_cell (n := 124) (j := 16) (t := 113) rfl (.inr ⟨15, 112, true, rfl, rfl, rfl, by decide, rfl⟩) rfl rfl rfl rfl Tryz.underlying5 (.inr (.inr (.inl ⟨_, rfl⟩))) (by rw [cell_of_row _ _ _ _ _ _ hc_19.out]; exact hk0) rfl) ?_
                refine Rel.steps_cons (Rel.step_run1 (n := 124) (j := 17) (t := 114) rfl (.inr ⟨15, 112, true, rfl, rfl, rfl, by decide, rfl⟩) rfl rfl rfl (fun ρ w' hb h1 hk => by simp [execOp, h1, hk, go_sem]) rfl) ?_
                refine Rel.steps_cons (Rel.step_wasB (n := 124) (t := 13) rfl (.inr ⟨15, 112, true, rfl, rfl, rfl, by decide, rfl⟩) (.inl rfl) rfl (by kernel_rfl) rfl) ?_
                refine Rel.steps_cons (Rel.step_wasB (n := 124) (t := 14) rfl (.inr ⟨15, 112, true, rfl, rfl, rfl, by decide, rfl⟩) (.inl rfl) rfl (by kernel_rfl) rfl) ?_
                refine Rel.steps_cons (Rel.step_run2 (n := 124) (j := 19) (t := 116) (j2 := 20) (t2 := 117) rfl (.inr ⟨15, 112, true, rfl, rfl, rfl, by decide, rfl⟩) rfl rfl rfl rfl rfl rfl (fun ρ w' hb h1 h2 hk => by simp [execOp, h1, h2, hk, go_sem, e7, e7']) rfl) ?_
                refine Rel.steps_cons (Rel.step_wasB (n := 124) (t := 8) rfl (.inr ⟨15, 112, true, rfl, rfl, rfl, by decide, rfl⟩) (.inl rfl) rfl (by kernel_rfl) rfl) ?_
                refine Rel.steps_cons (Rel.step_run1 (n := 124) (j := 22) (t := 119) rfl (.inr ⟨15, 112, true, rfl, rfl, rfl, by decide, rfl⟩) rfl rfl rfl (fun ρ w' _ h1 hk => by simp [execOp, resolve, invoke, builtin, h1, hk, go_sem, Tryz.underlying22]) rfl) ?_
                refine Rel.steps_cons (Rel.step_run2 (n := 124) (j := 21) (t := 118) (j2 := 23) (t2 := 120) rfl (.inr ⟨15, 112, true, rfl, rfl, rfl, by decide, rfl⟩) rfl rfl rfl rfl rfl rfl (fun ρ w' hb h1 h2 hk => by simp [execOp, h1, h2, hk, go_sem, hs]) rfl) ?_
                refine Rel.steps_cons (Rel.step_run2 (n := 124) (j := 18) (t := 115) (j2 := 24) (t2 := 121) rfl (.inr ⟨15, 112, true, rfl, rfl, rfl, by decide, rfl⟩) rfl rfl rfl rfl rfl rfl (fun ρ w' hb h1 h2 hk => by simp [execOp, h1, h2, hk, go_sem]) rfl) ?_
                refine Rel.steps_cons (Rel.step_run2 (n := 124) (j := 15) (t := 112) (j2 := 25) (t2 := 122) rfl (.inl rfl) rfl rfl rfl rfl rfl rfl (fun ρ w' _ h1 h2 hk => by simp [execOp, h1, h2, hk, asBool]) rfl) ?_
                refine Rel.steps_cons (Rel.step_passB (n := 124) (j := 26) (t := 123) rfl (.inl rfl) (.inr rfl) rfl rfl rfl rfl) ?_
                exact trivial
              intro v9 wz hv9 hbz
              have ez : v9 27 = .bool true := hv9 27 (by decide)
              have hBz := veil (two_below hB_19.out hbz)
              simp only [Rel.fill, Act.put, List.setIfInBounds_toArray, List.set_cons_zero, List.set_cons_succ]
              rw [ez]
              clear hbz hv9 ez
              go_wp2_with fail
              go_ret
              exact ⟨rfl, hBz.out⟩
            · have hs' : ¬ (s : Int) = m := by omega
              have hsb : ((s : Int) == m) = false := beq_false_of_ne hs'
              have hk0 : mo[0]? = some (.int .u8 2) := by
                rw [← hmoe.out, lvS_ne v (fun h => pos_len hLn hd hbm (fun e => hs (hs0.symm.trans e)) (by rw [h]; rfl))]
                rfl
              refine Rel.wp_region_rel (n := 124) [Rel.is (.bool true), Rel.is (.bool true), Rel.rd (textsL L), Rel.is (.string (strOfNums (textsL L))), Rel.is (.slice A m c), Rel.is (.int .i64 a), Rel.is (.slice A m c), Rel.is (.int .i64 (m : Nat)), Rel.is (.int .i64 b), Rel.is (.int .i64 d), Rel.is (.slice BL (d - a) (c - a)), Rel.rd (textsL L), Rel.is (.string (strOfNums (textsL L))), Rel.is (.bool true), Rel.is (.bool true), Rel.is (.bool true), Rel.is (.pointer (some ⟨w5.heap.size, 0, none⟩)), Rel.is (.int .u8 2), Rel.is (.bool false), Rel.is (.int .i64 a), Rel.is (.int .i64 b), Rel.is (.int .i64 s), Rel.is (.slice A m c), Rel.is (.int .i64 (m : Nat)), Rel.is (.bool false), Rel.is (.bool true), Rel.is (.bool true), Rel.is (.bool true)] (by kernel_rfl) (by rfl) (by kernel_rfl) ?_ ?_
              · refine Rel.steps_cons (Rel.step_wasB (n := 124) (t := 7) rfl (.inl rfl) (.inl rfl) rfl (by kernel_rfl) rfl) ?_
                refine Rel.steps_cons (Rel.step_passB (n := 124) (j := 0) (t := 97) rfl (.inl rfl) (.inl rfl) rfl rfl rfl rfl) ?_
                refine Rel.steps_cons (Rel.step_rdB (n := 124) (t := 18) (A := Ar) (m := nr) (c := cr) rfl (.inr ⟨1, 98, true, rfl, rfl, rfl, by decide, rfl⟩) rfl rfl (by kernel_rfl) hrd_19.out rfl) ?_
                refine Rel.steps_cons (Rel.step_strB (n := 124) (j := 2) (t := 99) rfl (.inr ⟨1, 98, true, rfl, rfl, rfl, by decide, rfl⟩) rfl Tryz.underlying29 Tryz.underlying5 Tryz.underlying9 rfl rfl rfl rfl) ?_
                refine Rel.steps_cons (Rel.step_wasB (n := 124) (t := 8) rfl (.inr ⟨1, 98, true, rfl, rfl, rfl, by decide, rfl⟩) (.inl rfl) rfl (by kernel_rfl) rfl) ?_
                refine Rel.steps_cons (Rel.step_wasB (n := 124) (t := 13) rfl (.inr ⟨1, 98, true, rfl, rfl, rfl, by decide, rfl⟩) (.inl rfl) rfl (by kernel_rfl) rfl) ?_
                refine Rel.steps_cons (Rel.step_wasB (n := 124) (t := 8) rfl (.inr ⟨1, 98, true, rfl, rfl, rfl, by decide, rfl⟩) (.inl rfl) rfl (by kernel_rfl) rfl) ?_
                refine Rel.steps_cons (Rel.step_run1 (n := 124) (j := 6) (t := 103) rfl (.inr ⟨1, 98, true, rfl, rfl, rfl, by decide, rfl⟩) rfl rfl rfl (fun ρ w' _ h1 hk => by simp [execOp, resolve, invoke, builtin, h1, hk, go_sem, Tryz.underlying22]) rfl) ?_
                refine Rel.steps_cons (Rel.step_wasB (n := 124) (t := 14) rfl (.inr ⟨1, 98, true, rfl, rfl, rfl, by decide, rfl⟩) (.inl rfl) rfl (by kernel_rfl) rfl) ?_
                refine Rel.steps_cons (Rel.step_run2 (n := 124) (j := 7) (t := 104) (j2 := 8) (t2 := 105) rfl (.inr ⟨1, 98, true, rfl, rfl, rfl, by decide, rfl⟩) rfl rfl rfl rfl rfl rfl (fun ρ w' hb h1 h2 hk => by simp [execOp, h1, h2, hk, go_sem, e6, e6']) rfl) ?_
                refine Rel.steps_cons (Rel.step_valB (n := 124) rfl (.inr ⟨1, 98, true, rfl, rfl, rfl, by decide, rfl⟩) (fun b' w' D => ⟨_, run_cutLH rfl (D.is 4 101 rfl rfl rfl) (D.is 5 102 rfl rfl rfl) (D.is 9 106 rfl rfl rfl) (hcr w'), rfl⟩)) ?_
                refine Rel.steps_cons (Rel.step_callB (n := 124) rfl (.inr ⟨1, 98, true, rfl, rfl, rfl, by decide, rfl⟩) Tryz.func13 (by kernel_rfl) rfl #[.slice BL (d - a) (c - a)] rfl (fun b w D => by simp only [List.map_toArray, List.map_cons, List.map_nil, show b.eval (.tmp 107) = .slice BL (d - a) (c - a) from D.is 10 107 rfl rfl rfl]) (fun w' hb' => YTexts_rd BL (d - a) (c - a) L w' (h8_19.out.below hb') hLn hdc hLs hd1)) ?_
                refine Rel.steps_cons (Rel.step_strB (n := 124) (j := 11) (t := 108) rfl (.inr ⟨1, 98, true, rfl, rfl, rfl, by decide, rfl⟩) rfl Tryz.underlying29 Tryz.underlying5 Tryz.underlying9 rfl rfl rfl rfl) ?_
                refine Rel.steps_cons (Rel.step_texts (n := 124) (j := 3) (t := 100) (j2 := 12) (t2 := 109) rfl (.inr ⟨1, 98, true, rfl, rfl, rfl, by decide, rfl⟩) rfl Tryz.underlying9 rfl rfl rfl rfl rfl rfl (.inl ⟨rfl, (decide_eq_true rfl).symm⟩) rfl) ?_
                refine Rel.steps_cons (Rel.step_run2 (n := 124) (j := 1) (t := 98) (j2 := 13) (t2 := 110) rfl (.inl rfl) rfl rfl rfl rfl rfl rfl (fun ρ w' _ h1 h2 hk => by simp [execOp, h1, h2, hk, asBool]) rfl) ?_
                refine Rel.steps_cons (Rel.step_passB (n := 124) (j := 14) (t := 111) rfl (.inl rfl) (.inl rfl) rfl rfl rfl rfl) ?_
                refine Rel.steps_cons (Rel.step_run0 (n := 124) (t := 11) (v := .pointer (some ⟨w5.heap.size, 0, none⟩)) rfl (.inr ⟨15, 112, true, rfl, rfl, rfl, by decide, rfl⟩) rfl (by kernel_rfl) (fun ρ w' hb h1 hk => by simp [execOp, h1, hk, go_sem, Addr.add]) rfl) ?_
                refine Rel.steps_cons (Rel.step_cell (n := 124) (j := 16) (t := 113) rfl (.inr ⟨15, 112, true, rfl, rfl, rfl, by decide, rfl⟩) rfl rfl rfl rfl Tryz.underlying5 (.inr (.inr (.inl ⟨_, rfl⟩))) (by rw [cell_of_row _ _ _ _ _ _ hc_19.out]; exact hk0) rfl) ?_
                refine Rel.steps_cons (Rel.step_run1 (n := 124) (j := 17) (t := 114) rfl (.inr ⟨15, 112, true, rfl, rfl, rfl, by decide, rfl⟩) rfl rfl rfl (fun ρ w' hb h1 hk => by simp [execOp, h1, hk, go_sem]) rfl) ?_
                refine Rel.steps_cons (Rel.step_wasB (n := 124) (t := 13) rfl (.inr ⟨15, 112, true, rfl, rfl, rfl, by decide, rfl⟩) (.inl rfl) rfl (by kernel_rfl) rfl) ?_
                refine Rel.steps_cons (Rel.step_wasB (n := 124) (t := 14) rfl (.inr ⟨15, 112, true, rfl, rfl, rfl, by decide, rfl⟩) (.inl rfl) rfl (by kernel_rfl) rfl) ?_
                refine Rel.steps_cons (Rel.step_run2 (n := 124) (j := 19) (t := 116) (j2 := 20) (t2 := 117) rfl (.inr ⟨15, 112, true, rfl, rfl, rfl, by decide, rfl⟩) rfl rfl rfl rfl rfl rfl (fun ρ w' hb h1 h2 hk => by simp [execOp, h1, h2, hk, go_sem, e7, e7']) rfl) ?_
                refine Rel.steps_cons (Rel.step_wasB (n := 124) (t := 8) rfl (.inr ⟨15, 112, true, rfl, rfl, rfl, by decide, rfl⟩) (.inl rfl) rfl (by kernel_rfl) rfl) ?_
                refine Rel.steps_cons (Rel.step_run1 (n := 124) (j := 22) (t := 119) rfl (.inr ⟨15, 112, true, rfl, rfl, rfl, by decide, rfl⟩) rfl rfl rfl (fun ρ w' _ h1 hk => by simp [execOp, resolve, invoke, builtin, h1, hk, go_sem, Tryz.underlying22]) rfl) ?_
                refine Rel.steps_cons (Rel.step_run2 (n := 124) (j := 21) (t := 118) (j2 := 23) (t2 := 120) rfl (.inr ⟨15, 112, true, rfl, rfl, rfl, by decide, rfl⟩) rfl rfl rfl rfl rfl rfl (fun ρ w' hb h1 h2 hk => by simp [execOp, h1, h2, hk, go_sem, hs, hs', hsb]) rfl) ?_
                refine Rel.steps_cons (Rel.step_run2 (n := 124) (j := 18) (t := 115) (j2 := 24) (t2 := 121) rfl (.inr ⟨15, 112, true, rfl, rfl, rfl, by decide, rfl⟩) rfl rfl rfl rfl rfl rfl (fun ρ w' hb h1 h2 hk => by simp [execOp, h1, h2, hk, go_sem]) rfl) ?_
                refine Rel.steps_cons (Rel.step_run2 (n := 124) (j := 15) (t := 112) (j2 := 25) (t2 := 122) rfl (.inl rfl) rfl rfl rfl rfl rfl rfl (fun ρ w' _ h1 h2 hk => by simp [execOp, h1, h2, hk, asBool]) rfl) ?_
                refine Rel.steps_cons (Rel.step_passB (n := 124) (j := 26) (t := 123) rfl (.inl rfl) (.inr rfl) rfl rfl rfl rfl) ?_
                exact trivial
              intro v9 wz hv9 hbz
              have ez : v9 27 = .bool true := hv9 27 (by decide)
              have hBz := veil (two_below hB_19.out hbz)
              simp only [Rel.fill, Act.put, List.setIfInBounds_toArray, List.set_cons_zero, List.set_cons_succ]
              rw [ez]
              clear hbz hv9 ez
              go_wp2_with fail
              go_ret
              exact ⟨rfl, hBz.out⟩
theorem leaves_walk (A : Option Addr) (cap : Nat) (l : List ByteArray) (x y : Int) (W : World) (hr : Kd.C Kd.string W A l.length l) (hc : l.length ≤ cap) (hs : (l.map (·.size)).sum + l.length ≤ 1048576) (hx : (Lit.int .u8 x).wf = true) (hy : (Lit.int .u8 y).wf = true) (hT : Tabs W) :
    Calls Tryz.prog 6 #[.slice A l.length cap, .int .u8 x, .int .u8 y] W fun e w' => e = .returned (.bool true) ∧ Below W.heap.size W w' :=
  leaves_any A cap l x y W (Kd.reads_of_C (enc := Value.string) (d := ByteArray.empty) (h1 := fun _ => rfl) hr) hc (wfu8 hx) (wfu8 hy) (by show (l.map (·.size)).sum ≤ _; omega) hT
end Go.Proofs.Tryz.Ln
