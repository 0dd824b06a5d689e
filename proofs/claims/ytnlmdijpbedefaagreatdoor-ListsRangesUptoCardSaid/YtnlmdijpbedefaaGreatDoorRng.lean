import Derived.Test.YtnlmdijpbedefaaGreatDoorLsG
/- A law of lists. -/
namespace Go.Proofs.Tryz.Ln
open Go Go.RowKit Go.Proofs.Mem Go.Proofs.App
open Go.Proofs.YtnlmdijpbedefaaGreatDoorW.PrintWords Go.Proofs.YtnlmdijpbedefaaGreatDoorW.PrintMore Go.Proofs.YtnlmdijpbedefaaGreatDoorW.PrintLast
open Go.Proofs.Rel (dsts depsOf)
attribute [local go_sem] min2_sym min_two
set_option linter.unusedVariables false
set_option linter.unusedSimpArgs false

set_option maxRecDepth 100000 in
set_option maxHeartbeats 32000000 in
theorem ranges_any (A : Option Addr) (c : Nat) (l : List ByteArray) (x : Int) (w : World) (hr : ReadsOf Value.string ByteArray.empty w A l.length l) (hc : l.length ≤ c) (hx : 0 ≤ x ∧ x ≤ 255) (hsum : sumS l ≤ 1048576) (hT : Tabs w) :
    Calls Tryz.prog 4 #[.slice A l.length c, .int .u8 x] w fun e w' => e = .returned (.bool true) ∧ Below w.heap.size w w' := by
  have hT' := veil hT
  have hr' := veil hr
  obtain ⟨hx0, hx1⟩ := hx
  clear hT hr
  by_cases h12 : 12 < l.length
  obtain ⟨m, hm⟩ : ∃ m : Nat, m = 12 := ⟨_, rfl⟩
  have hml : m ≤ l.length := by omega
  have hcut : ∀ W : World, (Instr.slice 22 (.slice A l.length c) none (some (.int .i64 12)) none).run Tryz.prog W = .ok (.slice A m c) W := by rw [hm]; exact cutH A l.length c 12 (by omega) hc
  have h12i : (12 : Int) < l.length := by omega
  have hm12 : m ≤ 12 := by omega
  have hmc : m ≤ c := by omega
  have hr0 := veil (hr'.out.take_ m hml)
  have hsz := veil (Nat.le_trans (sumS_take l m) hsum)
  have hnl : Veil ((l.take m).length = m) := veil (by rw [List.length_take]; omega)
  obtain ⟨ws, hws⟩ : ∃ ws, l.take m = ws := ⟨_, rfl⟩
  rw [hws] at hr0 hsz hnl
  clear hws hsum hr' h12
  clear hm
  rotate_left
  obtain ⟨m, hm⟩ : ∃ m, l.length = m := ⟨_, rfl⟩
  have hml : m ≤ l.length := by omega
  have h12i : ¬ (12 : Int) < m := by omega
  have hm12 : m ≤ 12 := by omega
  have hmc : m ≤ c := by omega
  have hr0 := veil (hr'.out.take_ m hml)
  have hsz := veil (Nat.le_trans (sumS_take l m) hsum)
  have hnl : Veil ((l.take m).length = m) := veil (by rw [List.length_take]; omega)
  obtain ⟨ws, hws⟩ : ∃ ws, l.take m = ws := ⟨_, rfl⟩
  rw [hws] at hr0 hsz hnl
  clear hws hsum hr' h12
  rw [hm]
  clear hm
  all_goals
    have hn1 : Veil (ws.length ≤ 1000) := veil (by rw [hnl.out]; omega)
    obtain ⟨k, hk⟩ : ∃ k : Nat, x % ((m : Int) + 1) = k := ⟨(x % ((m : Int) + 1)).toNat, by have := Int.emod_nonneg x (show (m : Int) + 1 ≠ 0 by omega); omega⟩
    have hkm : k ≤ m := by have := Int.emod_lt_of_pos x (show (0 : Int) < (m : Int) + 1 by omega); omega
    have hkv := veil hk
    clear hk
    go_enter Tryz.func4, Tryz.ntmps4
    go_wp2_with fail
    refine (shown12_any _ hT'.out).mono ?_
    rintro e w1 ⟨rfl, hb1⟩
    have hB1 := veil hb1
    have hGw : w.heap.size ≤ w1.heap.size := hb1.size
    clear hb1
    by_cases h0 : m = 0
    · have hws0 : ws = [] := List.length_eq_zero_iff.1 (hnl.out.trans h0)
      have hmoe : Veil (lvS ws nl = (#[.int .u8 0, .string ⟨#[]⟩, .slice none 0 0, .slice none 0 0, .slice none 0 0])) := veil (by rw [hws0]; rfl)
      have hmoe0 : Veil (lvS [] nl = (#[.int .u8 0, .string ⟨#[]⟩, .slice none 0 0, .slice none 0 0, .slice none 0 0])) := veil rfl
      have h0i : ¬ (0 : Int) < m := by omega
      clear h0
      have hN := newV (#[.int .u8 0, .string ⟨#[]⟩, .slice none 0 0, .slice none 0 0, .slice none 0 0]) w1
      have hg := hN.cell
      clear hN
      go_wp2_with (first | (refine wpList_store_row rfl tV _ _ rfl w1.heap.size (#[.int .u8 0, .string ⟨#[]⟩, .slice none 0 0, .slice none 0 0, .slice none 0 0]) rfl rfl tV zS (heap_alloc_last w1 _) (info5x _ _ _ _ _) rfl (one5 0 ⟨#[]⟩ none 0 0 nl nl rfl rfl) ?_) | (refine wpList_load_row rfl tV _ rfl w1.heap.size rfl tV ((#[.int .u8 0, .string ⟨#[]⟩, .slice none 0 0, .slice none 0 0, .slice none 0 0])) (0, 0) _ hg Tryz.underlying28 rfl (info5x _ _ _ _ _) ?_))
      rw [hkv.out]
      clear hg
      obtain ⟨b1, hb1⟩ : ∃ b1 : World, b1 = (w1.alloc (.cells #[.int .u8 0, .string ⟨#[]⟩, .slice none 0 0, .slice none 0 0, .slice none 0 0] tV)).setRow w1.heap.size ((#[.int .u8 0, .string ⟨#[]⟩, .slice none 0 0, .slice none 0 0, .slice none 0 0])) := ⟨_, rfl⟩
      have hN1 := newV ((#[.int .u8 0, .string ⟨#[]⟩, .slice none 0 0, .slice none 0 0, .slice none 0 0])) w1
      rw [← hb1] at hN1 ⊢
      have hsN1 := hN1.sz
      have hB_2 := veil (two_below hB1.out (hN1.bel))
      clear hB1
      have hhc_n := veil hN1.cell
      clear hb1 hN1
      have hv0 : Veil (tR b1 nl ws) := veil (by rw [hws0]; exact tR_nil _)
      obtain ⟨wt, hw3⟩ : ∃ W : World, W = b1.alloc (.cells #[.string ⟨#[108, 114, 97, 110, 103, 101]⟩, .string ⟨#[107]⟩, .string ⟨#[48]⟩, .string ⟨#[45, 49]⟩] 9) := ⟨_, rfl⟩
      rw [← hw3]
      have hb3 : Below b1.heap.size b1 wt := by rw [hw3]; exact below_alloc (Below.refl _ _) _
      have ha3 : tR wt (.slice (some ⟨b1.heap.size, 0, none⟩) 4 4) [⟨#[108, 114, 97, 110, 103, 101]⟩, ⟨#[107]⟩, ⟨#[48]⟩, ⟨#[45, 49]⟩] := tR_lit [⟨#[108, 114, 97, 110, 103, 101]⟩, ⟨#[107]⟩, ⟨#[48]⟩, ⟨#[45, 49]⟩] 4 rfl (by rw [hw3]; exact heap_alloc_last b1 _) (by simp)
      have hs3 := hb3.size
      have hB_4 := veil (two_below hB_2.out (hb3))
      have hc_4 := veil (((hb3).block _ (by omega)).trans hhc_n.out)
      have hv_4 := veil (hv0.out.below (hb3))
      clear hB_2 hhc_n hv0
      clear hb3 hw3
      rw [hsN1] at ha3
      have hdo := do_lrangeV 0 (-1) ⟨#[108, 114, 97, 110, 103, 101]⟩ ⟨#[48]⟩ ⟨#[45, 49]⟩ nl ws [⟨#[108, 114, 97, 110, 103, 101]⟩, ⟨#[107]⟩, ⟨#[48]⟩, ⟨#[45, 49]⟩] (some ⟨w1.heap.size + 1, 0, none⟩) 4 0 ws.length wt hv_4.out ha3 (by decide) rfl rfl rfl (by decide) low_lrange (by rw [hnl.out]; omega) parse_0 parse_m1 ⟨by decide, by decide⟩ ⟨by decide, by decide⟩ (by decide) (by decide) (part_all _).1 (part_all _).2 (Nat.zero_le _) (Nat.le_refl _) hsz.out (tabs_below hT'.out hB_4.out)
      rw [List.take_length, List.drop_zero, hmoe.out] at hdo
      refine hdo.mono ?_
      rintro e w3 ⟨A3, n3, c3, rfl, hf3, hb3⟩
      have hs3 := hb3.size
      clear hdo
      have hB_5 := veil (two_below hB_4.out (hb3))
      have hc_5 := veil (((hb3).block _ (by omega)).trans hc_4.out)
      have hv_5 := veil (hv_4.out.below (hb3))
      clear hB_4 hc_4 hv_4
      have hrd3 := veil (hf3.reads (by rw [← hf3.len]; exact (texts_len _ hsz.out hn1.out).2))
      clear hf3 hb3 ha3
      go_wp2_with (refine wpList_store_row rfl tV _ _ rfl w3.heap.size (#[.int .u8 0, .string ⟨#[]⟩, .slice none 0 0, .slice none 0 0, .slice none 0 0]) rfl rfl tV zS (heap_alloc_last w3 _) (info5x _ _ _ _ _) rfl (one5 0 ⟨#[]⟩ none 0 0 nl nl rfl rfl) ?_)
      obtain ⟨b6, hb6⟩ : ∃ b6 : World, b6 = (w3.alloc (.cells #[.int .u8 0, .string ⟨#[]⟩, .slice none 0 0, .slice none 0 0, .slice none 0 0] tV)).setRow w3.heap.size ((#[.int .u8 0, .string ⟨#[]⟩, .slice none 0 0, .slice none 0 0, .slice none 0 0])) := ⟨_, rfl⟩
      have hN6 := newV ((#[.int .u8 0, .string ⟨#[]⟩, .slice none 0 0, .slice none 0 0, .slice none 0 0])) w3
      rw [← hb6] at hN6 ⊢
      have hsN6 := hN6.sz
      have hB_7 := veil (two_below hB_5.out (hN6.bel))
      have hc_7 := veil (((hN6.bel).block _ (by omega)).trans hc_5.out)
      have hv_7 := veil (hv_5.out.below (hN6.bel))
      have hr8_7 := veil (hrd3.out.below (hN6.bel))
      clear hB_5 hc_5 hv_5 hrd3
      have hhw_n := veil hN6.cell
      clear hb6 hN6
      have hI0 : Int64 (k : Int) := ⟨by omega, by omega⟩
      have hI1 : Int64 ((k : Int) - 1) := ⟨by omega, by omega⟩
      have hkw : k ≤ ws.length := by rw [hnl.out]; exact hkm
      have hdk : sumS (ws.drop k) ≤ 1048576 := Nat.le_trans (sumS_drop _ _) hsz.out
      have hdn : (ws.drop k).length ≤ 1000 := by rw [List.length_drop, hnl.out]; omega
      have hGlt : w1.heap.size < b6.heap.size := (Array.getElem?_eq_some_iff.1 hc_7.out).1
      have hdo : Veil (∀ w' b, Below b6.heap.size b6 w' → w'.heap[b]? = some (.cells #[.string ⟨#[108, 114, 97, 110, 103, 101]⟩, .string ⟨#[107]⟩, .string (numS (k : Int)), .string ⟨#[45, 49]⟩] 9 (0, 0)) → Calls Tryz.prog 8 #[.agg (#[.int .u8 0, .string ⟨#[]⟩, .slice none 0 0, .slice none 0 0, .slice none 0 0]), .slice (some ⟨b, 0, none⟩) 4 4] w' (Dres (#[.int .u8 0, .string ⟨#[]⟩, .slice none 0 0, .slice none 0 0, .slice none 0 0]) (textsL (ws.drop k)) w')) := veil (fun w' b h1 h2 => by
        obtain ⟨ra, rb, g1, g2, g3, g4, g5⟩ := range_from ws k hkw
        have h := do_lrangeV k (-1) ⟨#[108, 114, 97, 110, 103, 101]⟩ (numS (k : Int)) ⟨#[45, 49]⟩ nl ws [⟨#[108, 114, 97, 110, 103, 101]⟩, ⟨#[107]⟩, numS (k : Int), ⟨#[45, 49]⟩] (some ⟨b, 0, none⟩) 4 ra rb w' (hv_7.out.below h1) (tR_lit [⟨#[108, 114, 97, 110, 103, 101]⟩, ⟨#[107]⟩, numS (k : Int), ⟨#[45, 49]⟩] 4 rfl h2 (by simp)) (by simp) rfl rfl rfl (by decide) low_lrange (by rw [hnl.out]; omega) (parseN hI0) parse_m1 hI0 ⟨by decide, by decide⟩ (Nat.le_trans (numS_size _ hI0.1 hI0.2) (by decide)) (by decide) g1 g2 g3 g4 hsz.out (tabs_below hT'.out (two_below hB_7.out h1))
        rw [g5, hmoe.out] at h
        exact h)
      have hR2 : 2 ≤ ((textsL (ws.drop k)) : List Int).length := (texts_len _ hdk hdn).1
      have hR9 : ((textsL (ws.drop k)) : List Int).length ≤ 9223372036854775807 := (texts_len _ hdk hdn).2
      refine RelG.wp_region_relM (G := NewO b6.heap.size) (G1 := BelO) (n := 100) (new_sub _) 9 _ [RelG.is _ 46 (.agg (#[.int .u8 0, .string ⟨#[]⟩, .slice none 0 0, .slice none 0 0, .slice none 0 0])), RelG.is _ 47 (.int .i64 k), RelG.is _ 48 (.string (numS (k : Int))), txB w1.heap.size #[.string ⟨#[108, 114, 97, 110, 103, 101]⟩, .string ⟨#[107]⟩, .string (numS (k : Int)), .string ⟨#[45, 49]⟩] 49, cpB w1.heap.size (#[.int .u8 0, .string ⟨#[]⟩, .slice none 0 0, .slice none 0 0, .slice none 0 0]) (textsL (ws.drop k)) 50, cpB w1.heap.size (#[.int .u8 0, .string ⟨#[]⟩, .slice none 0 0, .slice none 0 0, .slice none 0 0]) (textsL (ws.drop k)) 45, RelG.is _ 51 (.agg (#[.int .u8 0, .string ⟨#[]⟩, .slice none 0 0, .slice none 0 0, .slice none 0 0])), frB w1.heap.size (textsL (ws.drop k)) 52, nzB b6.heap.size 10, noW _, no _ 11] [RelG.is _ 46 (.agg (#[.int .u8 0, .string ⟨#[]⟩, .slice none 0 0, .slice none 0 0, .slice none 0 0])), RelG.is _ 47 (.int .i64 k), RelG.is _ 48 (.string (numS (k : Int))), anyR _ 49, anyR _ 50, tyN _ w1.heap.size (textsL (ws.drop k)) hR2 45, RelG.is _ 51 (.agg (#[.int .u8 0, .string ⟨#[]⟩, .slice none 0 0, .slice none 0 0, .slice none 0 0])), frN _ w1.heap.size (textsL (ws.drop k)) hR2 52, anyR _ 10, RelG.triv _, frN _ w1.heap.size (textsL (ws.drop k)) hR2 11] [[46], [47], [48], [49], [50], [45], [51], [52], [10], [], [11]] (by kernel_rfl) rfl rfl (by kernel_rfl) rfl rfl ?_ ?_ ?_ ?_ ?_
      · intro j e w' h
        match j, h with
        | 0, h => exact h
        | 1, h => exact h
        | 2, h => exact h
        | 3, h => trivial
        | 4, h => trivial
        | 5, h => obtain ⟨y, h1, h2⟩ := h; exact ⟨_, y, h1, h2⟩
        | 6, h => exact h
        | 7, h => exact h
        | 8, h => trivial
        | 9, h => exact False.elim h
        | 10, h => exact False.elim h
        | n + 11, h => trivial
      · refine RelG.stepsF_cons (RelG.step_load (n := 100) (t := 6) (u := 46) (b := w1.heap.size) (t' := tV) (cs := (#[.int .u8 0, .string ⟨#[]⟩, .slice none 0 0, .slice none 0 0, .slice none 0 0])) (fr := (0, 0)) rfl rfl rfl rfl (by decide) (by kernel_rfl) (by kernel_rfl) Tryz.underlying28 rfl (info5x _ _ _ _ _) (fun w' hle => (Below.block hle _ hGlt).trans hc_7.out) rfl) ?_
        refine RelG.stepsF_cons (RelG.step_was (n := 100) (t := 7) (u := 47) rfl rfl rfl rfl (by decide) (by kernel_rfl) (by kernel_rfl) rfl) ?_
        refine RelG.stepsF_cons (step_callA rfl Tryz.func12 (by kernel_rfl) rfl rfl (fun b w' D => by
            have e1 : b.eval (.tmp 47) = .int .i64 k := D.is 1 rfl rfl
            exact ⟨#[.int .i64 k], by simp only [List.map_toArray, List.map_cons, List.map_nil, e1], (rtext_any _ w' hI0).mono fun e w'' ⟨he, hb⟩ => ⟨_, he, RelG.get_put b 48 _ (by rw [D.siz]; exact (by decide : 48 < 100)), hb⟩⟩)) ?_
        refine RelG.stepsF_cons (RelG.step_make rfl fun b w' D => ⟨.slice (some ⟨w'.heap.size, 0, none⟩) 4 4, w'.alloc (.cells #[.string ⟨#[108, 114, 97, 110, 103, 101]⟩, .string ⟨#[107]⟩, .string (numS (k : Int)), .string ⟨#[45, 49]⟩] 9), by
              have e2 : b.eval (.tmp 48) = .string (numS (k : Int)) := D.is 2 rfl rfl
              have hr := run_texts4 w' ⟨#[108, 114, 97, 110, 103, 101]⟩ ⟨#[107]⟩ (numS (k : Int)) ⟨#[45, 49]⟩
              unfold execOp
              simp only [List.map_toArray, List.map_cons, List.map_nil, e2, show ∀ v, b.eval (.const v) = v from fun _ => rfl, Sem.run_bind]
              rw [hr]
              rfl, by
              show txP _ _ (RelG.get (b.put (some 49) _) 49) _
              rw [RelG.get_put b 49 _ (by rw [D.siz]; exact (by decide : 49 < 100))]
              exact ⟨_, rfl, heap_alloc_last w' _, by have := Below.size D.bel; omega⟩, below_alloc (Below.refl _ _) _⟩) ?_
        refine RelG.stepsF_cons (step_callA rfl Tryz.func8 (by kernel_rfl) rfl rfl (fun b w' D => by
            obtain ⟨z, h1, h2, h3⟩ := D.rel 3 rfl
            have e1 : b.eval (.tmp 46) = .agg (#[.int .u8 0, .string ⟨#[]⟩, .slice none 0 0, .slice none 0 0, .slice none 0 0]) := D.is 0 rfl rfl
            have e2 : b.eval (.tmp 49) = .slice (some ⟨z, 0, none⟩) 4 4 := h1
            refine ⟨#[.agg (#[.int .u8 0, .string ⟨#[]⟩, .slice none 0 0, .slice none 0 0, .slice none 0 0]), .slice (some ⟨z, 0, none⟩) 4 4], by simp only [List.map_toArray, List.map_cons, List.map_nil, e1, e2], (hdo.out w' z D.bel h2).mono fun e w'' ⟨A, n, c, he, hf, hb⟩ => ⟨_, he, ?_, hb⟩⟩
            show cpP _ _ _ (RelG.get (b.put (some 50) _) 50) w''
            rw [RelG.get_put b 50 _ (by rw [D.siz]; exact (by decide : 50 < 100))]
            have hgt : w1.heap.size < w'.heap.size := by have := Below.size D.bel; omega
            exact ⟨_, rfl, ⟨A, n, c, _, rfl, hf, hgt⟩⟩)) ?_
        refine RelG.stepsF_cons (RelG.step_pass_of (n := 100) (j := 4) (t := 50) (u := 45) (p := cpP w1.heap.size (#[.int .u8 0, .string ⟨#[]⟩, .slice none 0 0, .slice none 0 0, .slice none 0 0]) (textsL (ws.drop k))) (hp := fun x w w' ⟨y, h1, h2⟩ hle => ⟨y, h1, fr_goodw (L := []) h2 (bel_sub _ _ _ _ hle)⟩) rfl rfl (.inl rfl) rfl (by decide) rfl rfl rfl) ?_
        refine RelG.stepsF_cons (RelG.step_val rfl fun b w' D => by
            obtain ⟨y, h1, h5⟩ := D.rel 5 rfl
            have e1 : b.eval (.tmp 45) = .tuple #[.agg (#[.int .u8 0, .string ⟨#[]⟩, .slice none 0 0, .slice none 0 0, .slice none 0 0]), y] := h1
            exact ⟨.agg (#[.int .u8 0, .string ⟨#[]⟩, .slice none 0 0, .slice none 0 0, .slice none 0 0]), run_ext0 e1, RelG.get_put b 51 _ (by rw [D.siz]; exact (by decide : 51 < 100))⟩) ?_
        refine RelG.stepsF_cons (RelG.step_val rfl fun b w' D => by
            obtain ⟨y, h1, h5⟩ := D.rel 5 rfl
            have e1 : b.eval (.tmp 45) = .tuple #[.agg (#[.int .u8 0, .string ⟨#[]⟩, .slice none 0 0, .slice none 0 0, .slice none 0 0]), y] := h1
            exact ⟨y, run_ext1 e1, by
              show RelG.frP _ _ (RelG.get (b.put (some 52) _) 52) w'
              rw [RelG.get_put b 52 _ (by rw [D.siz]; exact (by decide : 52 < 100))]
              exact h5⟩) ?_
        refine RelG.stepsF_cons (RelG.step_make rfl fun b w' D => ⟨.pointer (some ⟨w'.heap.size, 0, none⟩), w'.alloc (.cells zS tV), run_alloc _ _ _ rfl, by
            show nzP _ (RelG.get (b.put (some 10) _) 10) _
            rw [RelG.get_put b 10 _ (by rw [D.siz]; exact (by decide : 10 < 100))]
            exact ⟨_, rfl, Below.size D.bel, heap_alloc_last w' _⟩, below_alloc (Below.refl _ _) _⟩) ?_
        refine RelG.stepsF_skip (by kernel_rfl) ?_
        refine RelG.stepsF_skip (by kernel_rfl) ?_
        exact trivial
      · exact RelG.storeS_skip rfl rfl fun b w' D => by
          obtain ⟨p, h6, h7, h8⟩ := D.rel 8 rfl
          have e2 : b.eval (.tmp 51) = .agg (#[.int .u8 0, .string ⟨#[]⟩, .slice none 0 0, .slice none 0 0, .slice none 0 0]) := D.is 6 rfl rfl
          have e1 : b.eval (.tmp 10) = .pointer (some ⟨p, 0, none⟩) := h6
          refine ⟨w'.setRow p (#[.int .u8 0, .string ⟨#[]⟩, .slice none 0 0, .slice none 0 0, .slice none 0 0]), ?_, trivial, new_set _ h7 h8⟩
          unfold execOp
          simp only [e1, e2, Instr.storeAt, Instr.sureAddr, Sem.run_bind, Sem.run_pure, Result.andThen_ok, run_storeVar_row (P := Tryz.prog) w' p tV tV zS (#[.int .u8 0, .string ⟨#[]⟩, .slice none 0 0, .slice none 0 0, .slice none 0 0]) h8 (info5x _ _ _ _ _) rfl (one5 0 ⟨#[]⟩ none 0 0 nl nl rfl rfl)]
      · refine RelG.stepsF_skip (by kernel_rfl) ?_
        refine RelG.stepsF_skip (by kernel_rfl) ?_
        refine RelG.stepsF_skip (by kernel_rfl) ?_
        refine RelG.stepsF_skip (by kernel_rfl) ?_
        refine RelG.stepsF_skip (by kernel_rfl) ?_
        refine RelG.stepsF_skip (by kernel_rfl) ?_
        refine RelG.stepsF_skip (by kernel_rfl) ?_
        refine RelG.stepsF_cons (RelG.step_val rfl fun b w' D => by
            obtain ⟨u, y, h1, h5⟩ := D.rel 5 rfl
            have e1 : b.eval (.tmp 45) = .tuple #[u, y] := h1
            exact ⟨y, run_ext1 e1, by
              show RelG.frP _ _ (RelG.get (b.put (some 52) _) 52) w'
              rw [RelG.get_put b 52 _ (by rw [D.siz]; exact (by decide : 52 < 100))]
              exact h5⟩) ?_
        refine RelG.stepsF_skip (by kernel_rfl) ?_
        refine RelG.stepsF_skip (by kernel_rfl) ?_
        refine RelG.stepsF_cons (RelG.step_pass_of (n := 100) (j := 7) (t := 52) (u := 11) (p := RelG.frP w1.heap.size (textsL (ws.drop k))) (hp := fun x w w' h hle => fr_new hR2 h hle) rfl rfl (.inr rfl) rfl (by decide) rfl rfl rfl) ?_
        exact trivial
      intro u9 e x9 hg hv hle
      have kk : e 11 = u9 10 := hg 10 11 rfl
      have hfr : RelG.frP w1.heap.size (textsL (ws.drop k)) (e 11) x9 := hv 10 (by decide)
      rw [kk] at hfr
      obtain ⟨Ar9, nr9, cr9, base2, er, hf9, _⟩ := hfr
      have hb9 := new_below (Below.refl _ _) hle (Nat.le_refl _)
      have hsz9 := hb9.size
      have hB_8 := veil (two_below hB_7.out (hb9))
      have hc_8 := veil (((hb9).block _ (by omega)).trans hc_7.out)
      have hv_8 := veil (hv_7.out.below (hb9))
      have hr8_8 := veil (hr8_7.out.below (hb9))
      have hw_8 := veil (((hb9).block _ (by omega)).trans hhw_n.out)
      clear hB_7 hc_7 hv_7 hr8_7 hhw_n
      simp only [Rel.fill, Act.put, List.setIfInBounds_toArray, List.set_cons_zero, List.set_cons_succ]
      rw [er]
      have hrd9 := veil (hf9.reads (by rw [← hf9.len]; exact hR9))
      clear hg hv hle kk er hf9 hb9 hdo hR2 hR9
      obtain ⟨kb, q1, q2, q3, q4⟩ := range_to ws k hkw
      have htk : sumS (ws.take kb) ≤ 1048576 := Nat.le_trans (sumS_take _ _) hsz.out
      have htn : (ws.take kb).length ≤ 1000 := by rw [List.length_take, hnl.out]; omega
      go_wp2_with fail
      have eSv : Veil (wrap64 ((k : Int) - 1) = (k : Int) - 1) := veil (by unfold wrap64; omega)
      have eS : IntKind.i64.wrap ((k : Int) - 1) = (k : Int) - 1 := iwrapE hI1
      have eS' := eSv.out
      have hGlt : w1.heap.size < x9.heap.size := (Array.getElem?_eq_some_iff.1 hc_8.out).1
      have hdo : Veil (∀ w' b, Below x9.heap.size x9 w' → w'.heap[b]? = some (.cells #[.string ⟨#[108, 114, 97, 110, 103, 101]⟩, .string ⟨#[107]⟩, .string ⟨#[48]⟩, .string (numS ((k : Int) - 1))] 9 (0, 0)) → Calls Tryz.prog 8 #[.agg (#[.int .u8 0, .string ⟨#[]⟩, .slice none 0 0, .slice none 0 0, .slice none 0 0]), .slice (some ⟨b, 0, none⟩) 4 4] w' (Dres (#[.int .u8 0, .string ⟨#[]⟩, .slice none 0 0, .slice none 0 0, .slice none 0 0]) (textsL (ws.take kb)) w')) := veil (fun w' b h1 h2 => by
        have h := do_lrangeV 0 ((k : Int) - 1) ⟨#[108, 114, 97, 110, 103, 101]⟩ ⟨#[48]⟩ (numS ((k : Int) - 1)) nl ws [⟨#[108, 114, 97, 110, 103, 101]⟩, ⟨#[107]⟩, ⟨#[48]⟩, numS ((k : Int) - 1)] (some ⟨b, 0, none⟩) 4 0 kb w' (hv_8.out.below h1) (tR_lit [⟨#[108, 114, 97, 110, 103, 101]⟩, ⟨#[107]⟩, ⟨#[48]⟩, numS ((k : Int) - 1)] 4 rfl h2 (by simp)) (by simp) rfl rfl rfl (by decide) low_lrange (by rw [hnl.out]; omega) parse_0 (parseN hI1) ⟨by decide, by decide⟩ hI1 (by decide) (Nat.le_trans (numS_size _ hI1.1 hI1.2) (by decide)) q1 q2 (Nat.zero_le _) q3 hsz.out (tabs_below hT'.out (two_below hB_8.out h1))
        rw [List.drop_zero, hmoe.out] at h
        exact h)
      have hR2 : 2 ≤ ((textsL (ws.take kb)) : List Int).length := (texts_len _ htk htn).1
      have hR9 : ((textsL (ws.take kb)) : List Int).length ≤ 9223372036854775807 := (texts_len _ htk htn).2
      refine RelG.wp_region_relM (G := NewO x9.heap.size) (G1 := BelO) (n := 100) (new_sub _) 10 _ [RelG.is _ 54 (.agg (#[.int .u8 0, .string ⟨#[]⟩, .slice none 0 0, .slice none 0 0, .slice none 0 0])), RelG.is _ 55 (.int .i64 k), RelG.is _ 56 (.int .i64 ((k : Int) - 1)), RelG.is _ 57 (.string (numS ((k : Int) - 1))), txB w1.heap.size #[.string ⟨#[108, 114, 97, 110, 103, 101]⟩, .string ⟨#[107]⟩, .string ⟨#[48]⟩, .string (numS ((k : Int) - 1))] 58, cpB w1.heap.size (#[.int .u8 0, .string ⟨#[]⟩, .slice none 0 0, .slice none 0 0, .slice none 0 0]) (textsL (ws.take kb)) 59, cpB w1.heap.size (#[.int .u8 0, .string ⟨#[]⟩, .slice none 0 0, .slice none 0 0, .slice none 0 0]) (textsL (ws.take kb)) 53, RelG.is _ 60 (.agg (#[.int .u8 0, .string ⟨#[]⟩, .slice none 0 0, .slice none 0 0, .slice none 0 0])), frB w1.heap.size (textsL (ws.take kb)) 61, nzB x9.heap.size 12, noW _, no _ 13] [RelG.is _ 54 (.agg (#[.int .u8 0, .string ⟨#[]⟩, .slice none 0 0, .slice none 0 0, .slice none 0 0])), RelG.is _ 55 (.int .i64 k), RelG.is _ 56 (.int .i64 ((k : Int) - 1)), RelG.is _ 57 (.string (numS ((k : Int) - 1))), anyR _ 58, anyR _ 59, tyN _ w1.heap.size (textsL (ws.take kb)) hR2 53, RelG.is _ 60 (.agg (#[.int .u8 0, .string ⟨#[]⟩, .slice none 0 0, .slice none 0 0, .slice none 0 0])), frN _ w1.heap.size (textsL (ws.take kb)) hR2 61, anyR _ 12, RelG.triv _, frN _ w1.heap.size (textsL (ws.take kb)) hR2 13] [[54], [55], [56], [57], [58], [59], [53], [60], [61], [12], [], [13]] (by kernel_rfl) rfl rfl (by kernel_rfl) rfl rfl ?_ ?_ ?_ ?_ ?_
      · intro j e w' h
        match j, h with
        | 0, h => exact h
        | 1, h => exact h
        | 2, h => exact h
        | 3, h => exact h
        | 4, h => trivial
        | 5, h => trivial
        | 6, h => obtain ⟨y, h1, h2⟩ := h; exact ⟨_, y, h1, h2⟩
        | 7, h => exact h
        | 8, h => exact h
        | 9, h => trivial
        | 10, h => exact False.elim h
        | 11, h => exact False.elim h
        | n + 12, h => trivial
      · refine RelG.stepsF_cons (RelG.step_load (n := 100) (t := 6) (u := 54) (b := w1.heap.size) (t' := tV) (cs := (#[.int .u8 0, .string ⟨#[]⟩, .slice none 0 0, .slice none 0 0, .slice none 0 0])) (fr := (0, 0)) rfl rfl rfl rfl (by decide) (by kernel_rfl) (by kernel_rfl) Tryz.underlying28 rfl (info5x _ _ _ _ _) (fun w' hle => (Below.block hle _ hGlt).trans hc_8.out) rfl) ?_
        refine RelG.stepsF_cons (RelG.step_was (n := 100) (t := 7) (u := 55) rfl rfl rfl rfl (by decide) (by kernel_rfl) (by kernel_rfl) rfl) ?_
        refine RelG.stepsF_cons (RelG.step_run (n := 100) (j := 1) (t := 55) (u := 56) (v := .int .i64 k) rfl rfl rfl (by decide) rfl rfl (fun ρ w' hle h hk => by simp [execOp, h, hk, go_sem, eS, eS']) rfl) ?_
        refine RelG.stepsF_cons (step_callA rfl Tryz.func12 (by kernel_rfl) rfl rfl (fun b w' D => by
            have e1 : b.eval (.tmp 56) = .int .i64 ((k : Int) - 1) := D.is 2 rfl rfl
            exact ⟨#[.int .i64 ((k : Int) - 1)], by simp only [List.map_toArray, List.map_cons, List.map_nil, e1], (rtext_any _ w' hI1).mono fun e w'' ⟨he, hb⟩ => ⟨_, he, RelG.get_put b 57 _ (by rw [D.siz]; exact (by decide : 57 < 100)), hb⟩⟩)) ?_
        refine RelG.stepsF_cons (RelG.step_make rfl fun b w' D => ⟨.slice (some ⟨w'.heap.size, 0, none⟩) 4 4, w'.alloc (.cells #[.string ⟨#[108, 114, 97, 110, 103, 101]⟩, .string ⟨#[107]⟩, .string ⟨#[48]⟩, .string (numS ((k : Int) - 1))] 9), by
              have e2 : b.eval (.tmp 57) = .string (numS ((k : Int) - 1)) := D.is 3 rfl rfl
              have hr := run_texts4 w' ⟨#[108, 114, 97, 110, 103, 101]⟩ ⟨#[107]⟩ ⟨#[48]⟩ (numS ((k : Int) - 1))
              unfold execOp
              simp only [List.map_toArray, List.map_cons, List.map_nil, e2, show ∀ v, b.eval (.const v) = v from fun _ => rfl, Sem.run_bind]
              rw [hr]
              rfl, by
              show txP _ _ (RelG.get (b.put (some 58) _) 58) _
              rw [RelG.get_put b 58 _ (by rw [D.siz]; exact (by decide : 58 < 100))]
              exact ⟨_, rfl, heap_alloc_last w' _, by have := Below.size D.bel; omega⟩, below_alloc (Below.refl _ _) _⟩) ?_
        refine RelG.stepsF_cons (step_callA rfl Tryz.func8 (by kernel_rfl) rfl rfl (fun b w' D => by
            obtain ⟨z, h1, h2, h3⟩ := D.rel 4 rfl
            have e1 : b.eval (.tmp 54) = .agg (#[.int .u8 0, .string ⟨#[]⟩, .slice none 0 0, .slice none 0 0, .slice none 0 0]) := D.is 0 rfl rfl
            have e2 : b.eval (.tmp 58) = .slice (some ⟨z, 0, none⟩) 4 4 := h1
            refine ⟨#[.agg (#[.int .u8 0, .string ⟨#[]⟩, .slice none 0 0, .slice none 0 0, .slice none 0 0]), .slice (some ⟨z, 0, none⟩) 4 4], by simp only [List.map_toArray, List.map_cons, List.map_nil, e1, e2], (hdo.out w' z D.bel h2).mono fun e w'' ⟨A, n, c, he, hf, hb⟩ => ⟨_, he, ?_, hb⟩⟩
            show cpP _ _ _ (RelG.get (b.put (some 59) _) 59) w''
            rw [RelG.get_put b 59 _ (by rw [D.siz]; exact (by decide : 59 < 100))]
            have hgt : w1.heap.size < w'.heap.size := by have := Below.size D.bel; omega
            exact ⟨_, rfl, ⟨A, n, c, _, rfl, hf, hgt⟩⟩)) ?_
        refine RelG.stepsF_cons (RelG.step_pass_of (n := 100) (j := 5) (t := 59) (u := 53) (p := cpP w1.heap.size (#[.int .u8 0, .string ⟨#[]⟩, .slice none 0 0, .slice none 0 0, .slice none 0 0]) (textsL (ws.take kb))) (hp := fun x w w' ⟨y, h1, h2⟩ hle => ⟨y, h1, fr_goodw (L := []) h2 (bel_sub _ _ _ _ hle)⟩) rfl rfl (.inl rfl) rfl (by decide) rfl rfl rfl) ?_
        refine RelG.stepsF_cons (RelG.step_val rfl fun b w' D => by
            obtain ⟨y, h1, h5⟩ := D.rel 6 rfl
            have e1 : b.eval (.tmp 53) = .tuple #[.agg (#[.int .u8 0, .string ⟨#[]⟩, .slice none 0 0, .slice none 0 0, .slice none 0 0]), y] := h1
            exact ⟨.agg (#[.int .u8 0, .string ⟨#[]⟩, .slice none 0 0, .slice none 0 0, .slice none 0 0]), run_ext0 e1, RelG.get_put b 60 _ (by rw [D.siz]; exact (by decide : 60 < 100))⟩) ?_
        refine RelG.stepsF_cons (RelG.step_val rfl fun b w' D => by
            obtain ⟨y, h1, h5⟩ := D.rel 6 rfl
            have e1 : b.eval (.tmp 53) = .tuple #[.agg (#[.int .u8 0, .string ⟨#[]⟩, .slice none 0 0, .slice none 0 0, .slice none 0 0]), y] := h1
            exact ⟨y, run_ext1 e1, by
              show RelG.frP _ _ (RelG.get (b.put (some 61) _) 61) w'
              rw [RelG.get_put b 61 _ (by rw [D.siz]; exact (by decide : 61 < 100))]
              exact h5⟩) ?_
        refine RelG.stepsF_cons (RelG.step_make rfl fun b w' D => ⟨.pointer (some ⟨w'.heap.size, 0, none⟩), w'.alloc (.cells zS tV), run_alloc _ _ _ rfl, by
            show nzP _ (RelG.get (b.put (some 12) _) 12) _
            rw [RelG.get_put b 12 _ (by rw [D.siz]; exact (by decide : 12 < 100))]
            exact ⟨_, rfl, Below.size D.bel, heap_alloc_last w' _⟩, below_alloc (Below.refl _ _) _⟩) ?_
        refine RelG.stepsF_skip (by kernel_rfl) ?_
        refine RelG.stepsF_skip (by kernel_rfl) ?_
        exact trivial
      · exact RelG.storeS_skip rfl rfl fun b w' D => by
          obtain ⟨p, h6, h7, h8⟩ := D.rel 9 rfl
          have e2 : b.eval (.tmp 60) = .agg (#[.int .u8 0, .string ⟨#[]⟩, .slice none 0 0, .slice none 0 0, .slice none 0 0]) := D.is 7 rfl rfl
          have e1 : b.eval (.tmp 12) = .pointer (some ⟨p, 0, none⟩) := h6
          refine ⟨w'.setRow p (#[.int .u8 0, .string ⟨#[]⟩, .slice none 0 0, .slice none 0 0, .slice none 0 0]), ?_, trivial, new_set _ h7 h8⟩
          unfold execOp
          simp only [e1, e2, Instr.storeAt, Instr.sureAddr, Sem.run_bind, Sem.run_pure, Result.andThen_ok, run_storeVar_row (P := Tryz.prog) w' p tV tV zS (#[.int .u8 0, .string ⟨#[]⟩, .slice none 0 0, .slice none 0 0, .slice none 0 0]) h8 (info5x _ _ _ _ _) rfl (one5 0 ⟨#[]⟩ none 0 0 nl nl rfl rfl)]
      · refine RelG.stepsF_skip (by kernel_rfl) ?_
        refine RelG.stepsF_skip (by kernel_rfl) ?_
        refine RelG.stepsF_skip (by kernel_rfl) ?_
        refine RelG.stepsF_skip (by kernel_rfl) ?_
        refine RelG.stepsF_skip (by kernel_rfl) ?_
        refine RelG.stepsF_skip (by kernel_rfl) ?_
        refine RelG.stepsF_skip (by kernel_rfl) ?_
        refine RelG.stepsF_skip (by kernel_rfl) ?_
        refine RelG.stepsF_cons (RelG.step_val rfl fun b w' D => by
            obtain ⟨u, y, h1, h5⟩ := D.rel 6 rfl
            have e1 : b.eval (.tmp 53) = .tuple #[u, y] := h1
            exact ⟨y, run_ext1 e1, by
              show RelG.frP _ _ (RelG.get (b.put (some 61) _) 61) w'
              rw [RelG.get_put b 61 _ (by rw [D.siz]; exact (by decide : 61 < 100))]
              exact h5⟩) ?_
        refine RelG.stepsF_skip (by kernel_rfl) ?_
        refine RelG.stepsF_skip (by kernel_rfl) ?_
        refine RelG.stepsF_cons (RelG.step_pass_of (n := 100) (j := 8) (t := 61) (u := 13) (p := RelG.frP w1.heap.size (textsL (ws.take kb))) (hp := fun x w w' h hle => fr_new hR2 h hle) rfl rfl (.inr rfl) rfl (by decide) rfl rfl rfl) ?_
        exact trivial
      intro u10 e x10 hg hv hle
      have kk : e 13 = u10 11 := hg 11 13 rfl
      have hfr : RelG.frP w1.heap.size (textsL (ws.take kb)) (e 13) x10 := hv 11 (by decide)
      rw [kk] at hfr
      obtain ⟨Ar10, nr10, cr10, base2, er, hf9, _⟩ := hfr
      have hb9 := new_below (Below.refl _ _) hle (Nat.le_refl _)
      have hsz10 := hb9.size
      have hB_9 := veil (two_below hB_8.out (hb9))
      have hc_9 := veil (((hb9).block _ (by omega)).trans hc_8.out)
      have hv_9 := veil (hv_8.out.below (hb9))
      have hr8_9 := veil (hr8_8.out.below (hb9))
      have hw_9 := veil (((hb9).block _ (by omega)).trans hw_8.out)
      have hr9_9 := veil (hrd9.out.below (hb9))
      clear hB_8 hc_8 hv_8 hr8_8 hw_8 hrd9
      simp only [Rel.fill, Act.put, List.setIfInBounds_toArray, List.set_cons_zero, List.set_cons_succ]
      rw [er]
      have hrd10 := veil (hf9.reads (by rw [← hf9.len]; exact hR9))
      clear hg hv hle kk er hf9 hb9 hdo hR2 hR9
      clear eS eS'
      obtain ⟨BL, hcl, hclr⟩ := cutL_ A m c k hkm hmc
      have hch := cutH A m c k hkm hmc
      by_cases hk0 : k = 0
      · subst hk0
        have hk1 : ((0 : Int) == 0) = true := rfl
        go_wp2_with fail
        refine (Y_Texts none 0 [] (textsL []) _ (Kd.C_of_reads (enc := Value.string) (d := ByteArray.empty) (h1 := fun _ => rfl) ⟨rfl, by decide, fun h => absurd h (by decide)⟩) (Nat.le_refl _) rfl).mono ?_
        rintro e w5 ⟨v5, rfl, hV5, hb5⟩
        obtain ⟨A5, c5, rfl⟩ := Kd.V_slice hV5
        have hr5 := veil (reads_C (Kd.V_reads' hV5).2.2)
        have hs5 := hb5.size
        clear hV5
        have hB_10 := veil (two_below hB_9.out (hb5))
        have hc_10 := veil (((hb5).block _ (by omega)).trans hc_9.out)
        have hv_10 := veil (hv_9.out.below (hb5))
        have hr8_10 := veil (hr8_9.out.below (hb5))
        have hw_10 := veil (((hb5).block _ (by omega)).trans hw_9.out)
        have hr9_10 := veil (hr9_9.out.below (hb5))
        have hr10_10 := veil (hrd10.out.below (hb5))
        clear hB_9 hc_9 hv_9 hr8_9 hw_9 hr9_9 hrd10
        clear hb5
        have L1 := hc_10.out
        have L2 := hw_10.out
        go_wp2_with (first | (refine wpList_load_row rfl tV _ rfl w1.heap.size rfl tV ((#[.int .u8 0, .string ⟨#[]⟩, .slice none 0 0, .slice none 0 0, .slice none 0 0])) (0, 0) _ L1 Tryz.underlying28 rfl (info5x _ _ _ _ _) ?_) | (refine wpList_load_row rfl tV _ rfl w3.heap.size rfl tV ((#[.int .u8 0, .string ⟨#[]⟩, .slice none 0 0, .slice none 0 0, .slice none 0 0])) (0, 0) _ L2 Tryz.underlying28 rfl (info5x _ _ _ _ _) ?_))
        clear L1 L2
        have hsame := same_zero w5
        rw [hmoe0.out] at hsame
        refine hsame.mono ?_
        rintro e w6 ⟨rfl, hb6⟩
        have hs6 := hb6.size
        clear hsame
        have hB_11 := veil (two_below hB_10.out (hb6))
        have hc_11 := veil (((hb6).block _ (by omega)).trans hc_10.out)
        have hv_11 := veil (hv_10.out.below (hb6))
        have hr8_11 := veil (hr8_10.out.below (hb6))
        have hw_11 := veil (((hb6).block _ (by omega)).trans hw_10.out)
        have hr9_11 := veil (hr9_10.out.below (hb6))
        have hr10_11 := veil (hr10_10.out.below (hb6))
        have hr13_11 := veil (hr5.out.below (hb6))
        clear hB_10 hc_10 hv_10 hr8_10 hw_10 hr9_10 hr10_10 hr5
        clear hb6
        have hr0c := hr0.out.below hB_11.out
        have hlo := hclr _ _ hr0c
        have hhi := hr0c.take_ 0 (Nat.zero_le _)
        go_wp2_with fail
        refine Rel.wp_region_rel (n := 100) [Rel.is (.bool true), Rel.is (.bool true), Rel.is (.bool true), Rel.is (.bool true), Rel.is (.bool true), Rel.rd (textsL ws), Rel.is (.string (strOfNums (textsL ws))), Rel.is (.slice A m c), Rel.rd (textsL ws), Rel.is (.string (strOfNums (textsL ws))), Rel.is (.bool true), Rel.is (.bool true), Rel.is (.bool true), Rel.rd (textsL (ws.drop 0)), Rel.is (.string (strOfNums (textsL (ws.drop 0)))), Rel.is (.slice A m c), Rel.is (.int .i64 0), Rel.is (.slice BL (m - 0) (c - 0)), Rel.rd (textsL (ws.drop 0)), Rel.is (.string (strOfNums (textsL (ws.drop 0)))), Rel.is (.bool true), Rel.is (.bool true), Rel.is (.bool true), Rel.rd (textsL []), Rel.is (.string (strOfNums (textsL []))), Rel.is (.slice A m c), Rel.is (.int .i64 0), Rel.is (.slice A 0 c), Rel.rd (textsL []), Rel.is (.string (strOfNums (textsL []))), Rel.is (.bool true), Rel.is (.bool true), Rel.is (.bool true)] (by kernel_rfl) (by rfl) (by kernel_rfl) ?_ ?_
        · refine Rel.steps_cons (Rel.step_wasB (n := 100) (t := 5) rfl (.inl rfl) (.inl rfl) rfl (by kernel_rfl) rfl) ?_
          refine Rel.steps_cons (Rel.step_passB (n := 100) (j := 0) (t := 68) rfl (.inl rfl) (.inl rfl) rfl rfl rfl rfl) ?_
          refine Rel.steps_cons (Rel.step_wasB (n := 100) (t := 14) rfl (.inr ⟨1, 69, true, rfl, rfl, rfl, by decide, rfl⟩) (.inl rfl) rfl (by kernel_rfl) rfl) ?_
          refine Rel.steps_cons (Rel.step_run2 (n := 100) (j := 1) (t := 69) (j2 := 2) (t2 := 70) rfl (.inl rfl) rfl rfl rfl rfl rfl rfl (fun ρ w' _ h1 h2 hk => by simp [execOp, h1, h2, hk, asBool]) rfl) ?_
          refine Rel.steps_cons (Rel.step_passB (n := 100) (j := 3) (t := 71) rfl (.inl rfl) (.inl rfl) rfl rfl rfl rfl) ?_
          refine Rel.steps_cons (Rel.step_rdB (n := 100) (t := 9) (A := A3) (m := n3) (c := c3) rfl (.inr ⟨4, 72, true, rfl, rfl, rfl, by decide, rfl⟩) rfl rfl (by kernel_rfl) hr8_11.out rfl) ?_
          refine Rel.steps_cons (Rel.step_strB (n := 100) (j := 5) (t := 73) rfl (.inr ⟨4, 72, true, rfl, rfl, rfl, by decide, rfl⟩) rfl Tryz.underlying29 Tryz.underlying5 Tryz.underlying9 rfl rfl rfl rfl) ?_
          refine Rel.steps_cons (Rel.step_wasB (n := 100) (t := 0) rfl (.inr ⟨4, 72, true, rfl, rfl, rfl, by decide, rfl⟩) (.inl rfl) rfl (by kernel_rfl) rfl) ?_
          refine Rel.steps_cons (Rel.step_callB (n := 100) rfl (.inr ⟨4, 72, true, rfl, rfl, rfl, by decide, rfl⟩) Tryz.func13 (by kernel_rfl) rfl #[.slice A m c] rfl (fun b w D => by simp only [List.map_toArray, List.map_cons, List.map_nil, show b.eval (.tmp 75) = .slice A m c from D.is 7 75 rfl rfl rfl]) (fun w' hb' => YTexts_rd _ m c ws w' (hr0c.below hb') hnl.out hmc hsz.out (by omega))) ?_
          refine Rel.steps_cons (Rel.step_strB (n := 100) (j := 8) (t := 76) rfl (.inr ⟨4, 72, true, rfl, rfl, rfl, by decide, rfl⟩) rfl Tryz.underlying29 Tryz.underlying5 Tryz.underlying9 rfl rfl rfl rfl) ?_
          refine Rel.steps_cons (Rel.step_texts (n := 100) (j := 6) (t := 74) (j2 := 9) (t2 := 77) rfl (.inr ⟨4, 72, true, rfl, rfl, rfl, by decide, rfl⟩) rfl Tryz.underlying9 rfl rfl rfl rfl rfl rfl (.inl ⟨rfl, (decide_eq_true rfl).symm⟩) rfl) ?_
          refine Rel.steps_cons (Rel.step_run2 (n := 100) (j := 4) (t := 72) (j2 := 10) (t2 := 78) rfl (.inl rfl) rfl rfl rfl rfl rfl rfl (fun ρ w' _ h1 h2 hk => by simp [execOp, h1, h2, hk, asBool]) rfl) ?_
          refine Rel.steps_cons (Rel.step_passB (n := 100) (j := 11) (t := 79) rfl (.inl rfl) (.inl rfl) rfl rfl rfl rfl) ?_
          refine Rel.steps_cons (Rel.step_rdB (n := 100) (t := 11) (A := Ar9) (m := nr9) (c := cr9) rfl (.inr ⟨12, 80, true, rfl, rfl, rfl, by decide, rfl⟩) rfl rfl (by kernel_rfl) hr9_11.out rfl) ?_
          refine Rel.steps_cons (Rel.step_strB (n := 100) (j := 13) (t := 81) rfl (.inr ⟨12, 80, true, rfl, rfl, rfl, by decide, rfl⟩) rfl Tryz.underlying29 Tryz.underlying5 Tryz.underlying9 rfl rfl rfl rfl) ?_
          refine Rel.steps_cons (Rel.step_wasB (n := 100) (t := 0) rfl (.inr ⟨12, 80, true, rfl, rfl, rfl, by decide, rfl⟩) (.inl rfl) rfl (by kernel_rfl) rfl) ?_
          refine Rel.steps_cons (Rel.step_wasB (n := 100) (t := 7) rfl (.inr ⟨12, 80, true, rfl, rfl, rfl, by decide, rfl⟩) (.inl rfl) rfl (by kernel_rfl) rfl) ?_
          refine Rel.steps_cons (Rel.step_valB (n := 100) rfl (.inr ⟨12, 80, true, rfl, rfl, rfl, by decide, rfl⟩) (fun b' w' D => ⟨_, run_cutL rfl (D.is 15 83 rfl rfl rfl) (D.is 16 84 rfl rfl rfl) (hcl w'), rfl⟩)) ?_
          refine Rel.steps_cons (Rel.step_callB (n := 100) rfl (.inr ⟨12, 80, true, rfl, rfl, rfl, by decide, rfl⟩) Tryz.func13 (by kernel_rfl) rfl #[.slice BL (m - 0) (c - 0)] rfl (fun b w D => by simp only [List.map_toArray, List.map_cons, List.map_nil, show b.eval (.tmp 85) = .slice BL (m - 0) (c - 0) from D.is 17 85 rfl rfl rfl]) (fun w' hb' => YTexts_rd BL (m - 0) (c - 0) (ws.drop 0) w' (hlo.below hb') (by rw [List.length_drop, hnl.out]) (Nat.sub_le_sub_right hmc _) hdk (by omega))) ?_
          refine Rel.steps_cons (Rel.step_strB (n := 100) (j := 18) (t := 86) rfl (.inr ⟨12, 80, true, rfl, rfl, rfl, by decide, rfl⟩) rfl Tryz.underlying29 Tryz.underlying5 Tryz.underlying9 rfl rfl rfl rfl) ?_
          refine Rel.steps_cons (Rel.step_texts (n := 100) (j := 14) (t := 82) (j2 := 19) (t2 := 87) rfl (.inr ⟨12, 80, true, rfl, rfl, rfl, by decide, rfl⟩) rfl Tryz.underlying9 rfl rfl rfl rfl rfl rfl (.inl ⟨rfl, (decide_eq_true rfl).symm⟩) rfl) ?_
          refine Rel.steps_cons (Rel.step_run2 (n := 100) (j := 12) (t := 80) (j2 := 20) (t2 := 88) rfl (.inl rfl) rfl rfl rfl rfl rfl rfl (fun ρ w' _ h1 h2 hk => by simp [execOp, h1, h2, hk, asBool]) rfl) ?_
          refine Rel.steps_cons (Rel.step_passB (n := 100) (j := 21) (t := 89) rfl (.inl rfl) (.inl rfl) rfl rfl rfl rfl) ?_
          refine Rel.steps_cons (Rel.step_rdB (n := 100) (t := 13) (A := A5) (m := _) (c := c5) rfl (.inr ⟨22, 90, true, rfl, rfl, rfl, by decide, rfl⟩) rfl rfl (by kernel_rfl) hr13_11.out rfl) ?_
          refine Rel.steps_cons (Rel.step_strB (n := 100) (j := 23) (t := 91) rfl (.inr ⟨22, 90, true, rfl, rfl, rfl, by decide, rfl⟩) rfl Tryz.underlying29 Tryz.underlying5 Tryz.underlying9 rfl rfl rfl rfl) ?_
          refine Rel.steps_cons (Rel.step_wasB (n := 100) (t := 0) rfl (.inr ⟨22, 90, true, rfl, rfl, rfl, by decide, rfl⟩) (.inl rfl) rfl (by kernel_rfl) rfl) ?_
          refine Rel.steps_cons (Rel.step_wasB (n := 100) (t := 7) rfl (.inr ⟨22, 90, true, rfl, rfl, rfl, by decide, rfl⟩) (.inl rfl) rfl (by kernel_rfl) rfl) ?_
          refine Rel.steps_cons (Rel.step_valB (n := 100) rfl (.inr ⟨22, 90, true, rfl, rfl, rfl, by decide, rfl⟩) (fun b' w' D => ⟨_, run_cutH rfl (D.is 25 93 rfl rfl rfl) (D.is 26 94 rfl rfl rfl) (hch w'), rfl⟩)) ?_
          refine Rel.steps_cons (Rel.step_callB (n := 100) rfl (.inr ⟨22, 90, true, rfl, rfl, rfl, by decide, rfl⟩) Tryz.func13 (by kernel_rfl) rfl #[.slice A 0 c] rfl (fun b w D => by simp only [List.map_toArray, List.map_cons, List.map_nil, show b.eval (.tmp 95) = .slice A 0 c from D.is 27 95 rfl rfl rfl]) (fun w' hb' => YTexts_rd _ 0 c [] w' (hhi.below hb') rfl (Nat.le_trans hkm hmc) (by decide) (by omega))) ?_
          refine Rel.steps_cons (Rel.step_strB (n := 100) (j := 28) (t := 96) rfl (.inr ⟨22, 90, true, rfl, rfl, rfl, by decide, rfl⟩) rfl Tryz.underlying29 Tryz.underlying5 Tryz.underlying9 rfl rfl rfl rfl) ?_
          refine Rel.steps_cons (Rel.step_texts (n := 100) (j := 24) (t := 92) (j2 := 29) (t2 := 97) rfl (.inr ⟨22, 90, true, rfl, rfl, rfl, by decide, rfl⟩) rfl Tryz.underlying9 rfl rfl rfl rfl rfl rfl (.inl ⟨rfl, (decide_eq_true rfl).symm⟩) rfl) ?_
          refine Rel.steps_cons (Rel.step_run2 (n := 100) (j := 22) (t := 90) (j2 := 30) (t2 := 98) rfl (.inl rfl) rfl rfl rfl rfl rfl rfl (fun ρ w' _ h1 h2 hk => by simp [execOp, h1, h2, hk, asBool]) rfl) ?_
          refine Rel.steps_cons (Rel.step_passB (n := 100) (j := 31) (t := 99) rfl (.inl rfl) (.inr rfl) rfl rfl rfl rfl) ?_
          exact trivial
        intro v9 wz hv9 hbz
        have ez : v9 32 = .bool true := hv9 32 (by decide)
        have hBz := veil (two_below hB_11.out hbz)
        simp only [Rel.fill, Act.put, List.setIfInBounds_toArray, List.set_cons_zero, List.set_cons_succ]
        rw [ez]
        clear hbz hv9 ez
        go_wp2_with fail
        go_ret
        exact ⟨rfl, hBz.out⟩
      · have hk1 : ((k : Int) == 0) = false := beq_false_of_ne (by omega)
        have hk2 : ¬ (k : Int) = 0 := by omega
        obtain rfl : k = kb := (q4 hk0).symm
        have L1 := hc_9.out
        have L2 := hw_9.out
        go_wp2_with (first | (refine wpList_load_row rfl tV _ rfl w1.heap.size rfl tV ((#[.int .u8 0, .string ⟨#[]⟩, .slice none 0 0, .slice none 0 0, .slice none 0 0])) (0, 0) _ L1 Tryz.underlying28 rfl (info5x _ _ _ _ _) ?_) | (refine wpList_load_row rfl tV _ rfl w3.heap.size rfl tV ((#[.int .u8 0, .string ⟨#[]⟩, .slice none 0 0, .slice none 0 0, .slice none 0 0])) (0, 0) _ L2 Tryz.underlying28 rfl (info5x _ _ _ _ _) ?_))
        clear L1 L2
        have hsame := same_zero x10
        rw [hmoe0.out] at hsame
        refine hsame.mono ?_
        rintro e w6 ⟨rfl, hb6⟩
        have hs6 := hb6.size
        clear hsame
        have hB_12 := veil (two_below hB_9.out (hb6))
        have hc_12 := veil (((hb6).block _ (by omega)).trans hc_9.out)
        have hv_12 := veil (hv_9.out.below (hb6))
        have hr8_12 := veil (hr8_9.out.below (hb6))
        have hw_12 := veil (((hb6).block _ (by omega)).trans hw_9.out)
        have hr9_12 := veil (hr9_9.out.below (hb6))
        have hr13_12 := veil (hrd10.out.below (hb6))
        clear hB_9 hc_9 hv_9 hr8_9 hw_9 hr9_9 hrd10
        clear hb6
        have hr0c := hr0.out.below hB_12.out
        have hlo := hclr _ _ hr0c
        have hhi := hr0c.take_ k hkm
        go_wp2_with fail
        refine Rel.wp_region_rel (n := 100) [Rel.is (.bool true), Rel.is (.bool true), Rel.is (.bool true), Rel.is (.bool true), Rel.is (.bool true), Rel.rd (textsL ws), Rel.is (.string (strOfNums (textsL ws))), Rel.is (.slice A m c), Rel.rd (textsL ws), Rel.is (.string (strOfNums (textsL ws))), Rel.is (.bool true), Rel.is (.bool true), Rel.is (.bool true), Rel.rd (textsL (ws.drop k)), Rel.is (.string (strOfNums (textsL (ws.drop k)))), Rel.is (.slice A m c), Rel.is (.int .i64 k), Rel.is (.slice BL (m - k) (c - k)), Rel.rd (textsL (ws.drop k)), Rel.is (.string (strOfNums (textsL (ws.drop k)))), Rel.is (.bool true), Rel.is (.bool true), Rel.is (.bool true), Rel.rd (textsL (ws.take k)), Rel.is (.string (strOfNums (textsL (ws.take k)))), Rel.is (.slice A m c), Rel.is (.int .i64 k), Rel.is (.slice A k c), Rel.rd (textsL (ws.take k)), Rel.is (.string (strOfNums (textsL (ws.take k)))), Rel.is (.bool true), Rel.is (.bool true), Rel.is (.bool true)] (by kernel_rfl) (by rfl) (by kernel_rfl) ?_ ?_
        · refine Rel.steps_cons (Rel.step_wasB (n := 100) (t := 5) rfl (.inl rfl) (.inl rfl) rfl (by kernel_rfl) rfl) ?_
          refine Rel.steps_cons (Rel.step_passB (n := 100) (j := 0) (t := 68) rfl (.inl rfl) (.inl rfl) rfl rfl rfl rfl) ?_
          refine Rel.steps_cons (Rel.step_wasB (n := 100) (t := 14) rfl (.inr ⟨1, 69, true, rfl, rfl, rfl, by decide, rfl⟩) (.inl rfl) rfl (by kernel_rfl) rfl) ?_
          refine Rel.steps_cons (Rel.step_run2 (n := 100) (j := 1) (t := 69) (j2 := 2) (t2 := 70) rfl (.inl rfl) rfl rfl rfl rfl rfl rfl (fun ρ w' _ h1 h2 hk => by simp [execOp, h1, h2, hk, asBool]) rfl) ?_
          refine Rel.steps_cons (Rel.step_passB (n := 100) (j := 3) (t := 71) rfl (.inl rfl) (.inl rfl) rfl rfl rfl rfl) ?_
          refine Rel.steps_cons (Rel.step_rdB (n := 100) (t := 9) (A := A3) (m := n3) (c := c3) rfl (.inr ⟨4, 72, true, rfl, rfl, rfl, by decide, rfl⟩) rfl rfl (by kernel_rfl) hr8_12.out rfl) ?_
          refine Rel.steps_cons (Rel.step_strB (n := 100) (j := 5) (t := 73) rfl (.inr ⟨4, 72, true, rfl, rfl, rfl, by decide, rfl⟩) rfl Tryz.underlying29 Tryz.underlying5 Tryz.underlying9 rfl rfl rfl rfl) ?_
          refine Rel.steps_cons (Rel.step_wasB (n := 100) (t := 0) rfl (.inr ⟨4, 72, true, rfl, rfl, rfl, by decide, rfl⟩) (.inl rfl) rfl (by kernel_rfl) rfl) ?_
          refine Rel.steps_cons (Rel.step_callB (n := 100) rfl (.inr ⟨4, 72, true, rfl, rfl, rfl, by decide, rfl⟩) Tryz.func13 (by kernel_rfl) rfl #[.slice A m c] rfl (fun b w D => by simp only [List.map_toArray, List.map_cons, List.map_nil, show b.eval (.tmp 75) = .slice A m c from D.is 7 75 rfl rfl rfl]) (fun w' hb' => YTexts_rd _ m c ws w' (hr0c.below hb') hnl.out hmc hsz.out (by omega))) ?_
          refine Rel.steps_cons (Rel.step_strB (n := 100) (j := 8) (t := 76) rfl (.inr ⟨4, 72, true, rfl, rfl, rfl, by decide, rfl⟩) rfl Tryz.underlying29 Tryz.underlying5 Tryz.underlying9 rfl rfl rfl rfl) ?_
          refine Rel.steps_cons (Rel.step_texts (n := 100) (j := 6) (t := 74) (j2 := 9) (t2 := 77) rfl (.inr ⟨4, 72, true, rfl, rfl, rfl, by decide, rfl⟩) rfl Tryz.underlying9 rfl rfl rfl rfl rfl rfl (.inl ⟨rfl, (decide_eq_true rfl).symm⟩) rfl) ?_
          refine Rel.steps_cons (Rel.step_run2 (n := 100) (j := 4) (t := 72) (j2 := 10) (t2 := 78) rfl (.inl rfl) rfl rfl rfl rfl rfl rfl (fun ρ w' _ h1 h2 hk => by simp [execOp, h1, h2, hk, asBool]) rfl) ?_
          refine Rel.steps_cons (Rel.step_passB (n := 100) (j := 11) (t := 79) rfl (.inl rfl) (.inl rfl) rfl rfl rfl rfl) ?_
          refine Rel.steps_cons (Rel.step_rdB (n := 100) (t := 11) (A := Ar9) (m := nr9) (c := cr9) rfl (.inr ⟨12, 80, true, rfl, rfl, rfl, by decide, rfl⟩) rfl rfl (by kernel_rfl) hr9_12.out rfl) ?_
          refine Rel.steps_cons (Rel.step_strB (n := 100) (j := 13) (t := 81) rfl (.inr ⟨12, 80, true, rfl, rfl, rfl, by decide, rfl⟩) rfl Tryz.underlying29 Tryz.underlying5 Tryz.underlying9 rfl rfl rfl rfl) ?_
          refine Rel.steps_cons (Rel.step_wasB (n := 100) (t := 0) rfl (.inr ⟨12, 80, true, rfl, rfl, rfl, by decide, rfl⟩) (.inl rfl) rfl (by kernel_rfl) rfl) ?_
          refine Rel.steps_cons (Rel.step_wasB (n := 100) (t := 7) rfl (.inr ⟨12, 80, true, rfl, rfl, rfl, by decide, rfl⟩) (.inl rfl) rfl (by kernel_rfl) rfl) ?_
          refine Rel.steps_cons (Rel.step_valB (n := 100) rfl (.inr ⟨12, 80, true, rfl, rfl, rfl, by decide, rfl⟩) (fun b' w' D => ⟨_, run_cutL rfl (D.is 15 83 rfl rfl rfl) (D.is 16 84 rfl rfl rfl) (hcl w'), rfl⟩)) ?_
          refine Rel.steps_cons (Rel.step_callB (n := 100) rfl (.inr ⟨12, 80, true, rfl, rfl, rfl, by decide, rfl⟩) Tryz.func13 (by kernel_rfl) rfl #[.slice BL (m - k) (c - k)] rfl (fun b w D => by simp only [List.map_toArray, List.map_cons, List.map_nil, show b.eval (.tmp 85) = .slice BL (m - k) (c - k) from D.is 17 85 rfl rfl rfl]) (fun w' hb' => YTexts_rd BL (m - k) (c - k) (ws.drop k) w' (hlo.below hb') (by rw [List.length_drop, hnl.out]) (Nat.sub_le_sub_right hmc _) hdk (by omega))) ?_
          refine Rel.steps_cons (Rel.step_strB (n := 100) (j := 18) (t := 86) rfl (.inr ⟨12, 80, true, rfl, rfl, rfl, by decide, rfl⟩) rfl Tryz.underlying29 Tryz.underlying5 Tryz.underlying9 rfl rfl rfl rfl) ?_
          refine Rel.steps_cons (Rel.step_texts (n := 100) (j := 14) (t := 82) (j2 := 19) (t2 := 87) rfl (.inr ⟨12, 80, true, rfl, rfl, rfl, by decide, rfl⟩) rfl Tryz.underlying9 rfl rfl rfl rfl rfl rfl (.inl ⟨rfl, (decide_eq_true rfl).symm⟩) rfl) ?_
          refine Rel.steps_cons (Rel.step_run2 (n := 100) (j := 12) (t := 80) (j2 := 20) (t2 := 88) rfl (.inl rfl) rfl rfl rfl rfl rfl rfl (fun ρ w' _ h1 h2 hk => by simp [execOp, h1, h2, hk, asBool]) rfl) ?_
          refine Rel.steps_cons (Rel.step_passB (n := 100) (j := 21) (t := 89) rfl (.inl rfl) (.inl rfl) rfl rfl rfl rfl) ?_
          refine Rel.steps_cons (Rel.step_rdB (n := 100) (t := 13) (A := Ar10) (m := nr10) (c := cr10) rfl (.inr ⟨22, 90, true, rfl, rfl, rfl, by decide, rfl⟩) rfl rfl (by kernel_rfl) hr13_12.out rfl) ?_
          refine Rel.steps_cons (Rel.step_strB (n := 100) (j := 23) (t := 91) rfl (.inr ⟨22, 90, true, rfl, rfl, rfl, by decide, rfl⟩) rfl Tryz.underlying29 Tryz.underlying5 Tryz.underlying9 rfl rfl rfl rfl) ?_
          refine Rel.steps_cons (Rel.step_wasB (n := 100) (t := 0) rfl (.inr ⟨22, 90, true, rfl, rfl, rfl, by decide, rfl⟩) (.inl rfl) rfl (by kernel_rfl) rfl) ?_
          refine Rel.steps_cons (Rel.step_wasB (n := 100) (t := 7) rfl (.inr ⟨22, 90, true, rfl, rfl, rfl, by decide, rfl⟩) (.inl rfl) rfl (by kernel_rfl) rfl) ?_
          refine Rel.steps_cons (Rel.step_valB (n := 100) rfl (.inr ⟨22, 90, true, rfl, rfl, rfl, by decide, rfl⟩) (fun b' w' D => ⟨_, run_cutH rfl (D.is 25 93 rfl rfl rfl) (D.is 26 94 rfl rfl rfl) (hch w'), rfl⟩)) ?_
          refine Rel.steps_cons (Rel.step_callB (n := 100) rfl (.inr ⟨22, 90, true, rfl, rfl, rfl, by decide, rfl⟩) Tryz.func13 (by kernel_rfl) rfl #[.slice A k c] rfl (fun b w D => by simp only [List.map_toArray, List.map_cons, List.map_nil, show b.eval (.tmp 95) = .slice A k c from D.is 27 95 rfl rfl rfl]) (fun w' hb' => YTexts_rd _ k c (ws.take k) w' (hhi.below hb') (by rw [List.length_take, hnl.out]; omega) (Nat.le_trans hkm hmc) htk (by omega))) ?_
          refine Rel.steps_cons (Rel.step_strB (n := 100) (j := 28) (t := 96) rfl (.inr ⟨22, 90, true, rfl, rfl, rfl, by decide, rfl⟩) rfl Tryz.underlying29 Tryz.underlying5 Tryz.underlying9 rfl rfl rfl rfl) ?_
          refine Rel.steps_cons (Rel.step_texts (n := 100) (j := 24) (t := 92) (j2 := 29) (t2 := 97) rfl (.inr ⟨22, 90, true, rfl, rfl, rfl, by decide, rfl⟩) rfl Tryz.underlying9 rfl rfl rfl rfl rfl rfl (.inl ⟨rfl, (decide_eq_true rfl).symm⟩) rfl) ?_
          refine Rel.steps_cons (Rel.step_run2 (n := 100) (j := 22) (t := 90) (j2 := 30) (t2 := 98) rfl (.inl rfl) rfl rfl rfl rfl rfl rfl (fun ρ w' _ h1 h2 hk => by simp [execOp, h1, h2, hk, asBool]) rfl) ?_
          refine Rel.steps_cons (Rel.step_passB (n := 100) (j := 31) (t := 99) rfl (.inl rfl) (.inr rfl) rfl rfl rfl rfl) ?_
          exact trivial
        intro v9 wz hv9 hbz
        have ez : v9 32 = .bool true := hv9 32 (by decide)
        have hBz := veil (two_below hB_12.out hbz)
        simp only [Rel.fill, Act.put, List.setIfInBounds_toArray, List.set_cons_zero, List.set_cons_succ]
        rw [ez]
        clear hbz hv9 ez
        go_wp2_with fail
        go_ret
        exact ⟨rfl, hBz.out⟩
    · have h0i : (0 : Int) < m := by omega
      go_wp2_with (refine wpList_store_row rfl tV _ _ rfl w1.heap.size (#[.int .u8 0, .string ⟨#[]⟩, .slice none 0 0, .slice none 0 0, .slice none 0 0]) rfl rfl tV zS (heap_alloc_last w1 _) (info5x _ _ _ _ _) rfl (one5 0 ⟨#[]⟩ none 0 0 nl nl rfl rfl) ?_)
      obtain ⟨b13, hb13⟩ : ∃ b13 : World, b13 = (w1.alloc (.cells #[.int .u8 0, .string ⟨#[]⟩, .slice none 0 0, .slice none 0 0, .slice none 0 0] tV)).setRow w1.heap.size ((#[.int .u8 0, .string ⟨#[]⟩, .slice none 0 0, .slice none 0 0, .slice none 0 0])) := ⟨_, rfl⟩
      have hN13 := newV ((#[.int .u8 0, .string ⟨#[]⟩, .slice none 0 0, .slice none 0 0, .slice none 0 0])) w1
      rw [← hb13] at hN13 ⊢
      have hsN13 := hN13.sz
      have hB_14 := veil (two_below hB1.out (hN13.bel))
      clear hB1
      have hhc_n := veil hN13.cell
      clear hb13 hN13
      obtain ⟨s0, hs0⟩ : ∃ s, ws[0]? = some s := ⟨_, List.getElem?_eq_getElem (by rw [hnl.out]; omega)⟩
      obtain ⟨ad, hA, _⟩ := reads_at hr0.out hs0
      subst hA
      have hAr := veil (hr0.out.below hB_14.out)
      have hGlt : w1.heap.size < b13.heap.size := (Array.getElem?_eq_some_iff.1 hhc_n.out).1
      have hm0 : 0 < m := by omega
      obtain ⟨R0, hR0⟩ : ∃ R, lineL ⟨#[58]⟩ (numS (ws.length : Int)) = R := ⟨_, rfl⟩
      have hdo : Veil (∀ w' v1 base, Below b13.heap.size b13 w' → OR w' base v1 (⟨#[114, 112, 117, 115, 104]⟩ :: ⟨#[107]⟩ :: ws) → Calls Tryz.prog 8 #[.agg (#[.int .u8 0, .string ⟨#[]⟩, .slice none 0 0, .slice none 0 0, .slice none 0 0]), v1] w' (Pres ws R0 w')) := veil (fun w' v1 base h1 h2 => by
        have h3 := tR_own h2
        obtain ⟨A4, c4, rfl, _⟩ := h3.ex
        have h := do_push false 0 ⟨#[]⟩ ⟨#[114, 112, 117, 115, 104]⟩ nl nl nl [] (⟨#[114, 112, 117, 115, 104]⟩ :: ⟨#[107]⟩ :: ws) A4 c4 w' (.inl rfl) (tR_nil _) h3 (by simp) rfl (by decide) low_rpush (by show 0 + (ws.length + 1 + 1) ≤ _; rw [hnl.out]; omega) (tabs_below hT'.out (two_below hB_14.out h1))
        rw [show putL false [] (List.drop 2 (⟨#[114, 112, 117, 115, 104]⟩ :: ⟨#[107]⟩ :: ws)) = ws from by simp [putL], hR0] at h
        exact h)
      clear hR0 hs0
      refine RelG.wp_region_relS (G := GoodW w1.heap.size ws) (G1 := BelO) (n := 100) (bel_sub _ _) 8 _ [7] [RelG.is _ 26 (.agg (#[.int .u8 0, .string ⟨#[]⟩, .slice none 0 0, .slice none 0 0, .slice none 0 0])), txW _ _ #[.string ⟨#[114, 112, 117, 115, 104]⟩, .string ⟨#[107]⟩] 27, RelG.is _ 28 (.slice (some ad) m c), owW _ _ (⟨#[114, 112, 117, 115, 104]⟩ :: ⟨#[107]⟩ :: ws) 29, prW _ _ R0 30, prW _ _ R0 25, lvW _ _ 31, frW _ _ R0 32, goodWR _ _] [[26], [27], [28], [29], [30], [25], [31], [32], []] (by kernel_rfl) rfl rfl (by kernel_rfl) rfl (by kernel_rfl) ?_ ?_ ?_ ?_
      · refine RelG.stepsS_cons (RelG.step_load (n := 100) (t := 6) (u := 26) (b := w1.heap.size) (t' := tV) (cs := (#[.int .u8 0, .string ⟨#[]⟩, .slice none 0 0, .slice none 0 0, .slice none 0 0])) (fr := (0, 0)) rfl rfl rfl rfl (by decide) (by kernel_rfl) (by kernel_rfl) Tryz.underlying28 rfl (info5x _ _ _ _ _) (fun w' hle => (Below.block hle _ hGlt).trans hhc_n.out) rfl) ?_
        refine RelG.stepsS_cons (RelG.step_make rfl fun b w' D => ⟨.slice (some ⟨w'.heap.size, 0, none⟩) 2 2, w'.alloc (.cells #[.string ⟨#[114, 112, 117, 115, 104]⟩, .string ⟨#[107]⟩] 9), by
              have hr := run_texts2 w' ⟨#[114, 112, 117, 115, 104]⟩ ⟨#[107]⟩
              unfold execOp
              simp only [List.map_toArray, List.map_cons, List.map_nil, show ∀ v, b.eval (.const v) = v from fun _ => rfl, Sem.run_bind]
              rw [hr]
              rfl, by
              show txP _ _ (RelG.get (b.put (some 27) _) 27) _
              rw [RelG.get_put b 27 _ (by rw [D.siz]; exact (by decide : 27 < 100))]
              exact ⟨_, rfl, heap_alloc_last w' _, by have := Below.size D.bel; omega⟩, below_alloc (Below.refl _ _) _⟩) ?_
        refine RelG.stepsS_cons (RelG.step_was (n := 100) (t := 0) (u := 28) rfl rfl rfl rfl (by decide) (by kernel_rfl) (by kernel_rfl) rfl) ?_
        refine RelG.stepsS_cons (RelG.step_make rfl fun b w' D => by
            obtain ⟨z, h1, h2, h3⟩ := D.rel 1 rfl
            have e1 : b.eval (.tmp 27) = .slice (some ⟨z, 0, none⟩) 2 2 := h1
            have e2 : b.eval (.tmp 28) = .slice (some ad) m c := D.is 2 rfl rfl
            obtain ⟨v1, w1', hr1, ho1, hb1⟩ := append2 w' z ⟨#[114, 112, 117, 115, 104]⟩ ⟨#[107]⟩ ad m c ws h2 (hAr.out.below D.bel) hm0 (by omega) 22
            refine ⟨v1, w1', ?_, ?_, hb1⟩
            · unfold execOp
              simp only [resolve, invoke, builtin, Sem.run_bind, Sem.run_pure, Result.andThen_ok, List.map_toArray, List.map_cons, List.map_nil, e1, e2, hr1]
            · show owP _ _ (RelG.get (b.put (some 29) _) 29) _
              rw [RelG.get_put b 29 _ (by rw [D.siz]; exact (by decide : 29 < 100))]
              exact ⟨_, by have := Below.size D.bel; omega, ho1⟩) ?_
        refine RelG.stepsS_cons (step_callA rfl Tryz.func8 (by kernel_rfl) rfl rfl (fun b w' D => by
            obtain ⟨base, h1, h2⟩ := D.rel 3 rfl
            generalize e0 : RelG.get b 29 = xv at h2
            have e2 : b.eval (.tmp 29) = xv := e0
            have e1 : b.eval (.tmp 26) = .agg (#[.int .u8 0, .string ⟨#[]⟩, .slice none 0 0, .slice none 0 0, .slice none 0 0]) := D.is 0 rfl rfl
            refine ⟨#[.agg (#[.int .u8 0, .string ⟨#[]⟩, .slice none 0 0, .slice none 0 0, .slice none 0 0]), xv], by simp only [List.map_toArray, List.map_cons, List.map_nil, e1, e2], (hdo.out w' xv base D.bel h2).mono fun e w'' ⟨u, A, n, c, he, ho, hf, hb⟩ => ⟨_, he, ?_, hb⟩⟩
            show prP _ _ _ (RelG.get (b.put (some 30) _) 30) w''
            rw [RelG.get_put b 30 _ (by rw [D.siz]; exact (by decide : 30 < 100))]
            have hgt : w1.heap.size < w'.heap.size := by have := Below.size D.bel; omega
            exact ⟨u, _, w'.heap.size, rfl, hgt, ho, or_one ho, ⟨A, n, c, _, rfl, hf, hgt⟩⟩)) ?_
        refine RelG.stepsS_cons (RelG.step_pass_of (n := 100) (j := 4) (t := 30) (u := 25) (p := prP w1.heap.size ws R0) (hp := fun x w w' h hle => prP_w x w w' h (bel_sub _ _ _ _ hle)) rfl rfl (.inl rfl) rfl (by decide) rfl rfl rfl) ?_
        refine RelG.stepsS_cons (RelG.step_val rfl fun b w' D => by
            obtain ⟨u, y, base, h1, h2, h3, h4, h5⟩ := D.rel 5 rfl
            have e1 : b.eval (.tmp 25) = .tuple #[.agg (lvS ws u), y] := h1
            exact ⟨.agg (lvS ws u), run_ext0 e1, by
              show lvP _ _ (RelG.get (b.put (some 31) _) 31) w'
              rw [RelG.get_put b 31 _ (by rw [D.siz]; exact (by decide : 31 < 100))]
              exact ⟨u, base, rfl, h2, h3, h4⟩⟩) ?_
        refine RelG.stepsS_cons (RelG.step_val rfl fun b w' D => by
            obtain ⟨u, y, base, h1, h2, h3, h4, h5⟩ := D.rel 5 rfl
            have e1 : b.eval (.tmp 25) = .tuple #[.agg (lvS ws u), y] := h1
            exact ⟨y, run_ext1 e1, by
              show RelG.frP _ _ (RelG.get (b.put (some 32) _) 32) w'
              rw [RelG.get_put b 32 _ (by rw [D.siz]; exact (by decide : 32 < 100))]
              exact h5⟩) ?_
        exact RelG.stepsS_skip trivial
      · exact RelG.storeS_skip rfl rfl fun b w' D => by
          obtain ⟨u, base, h1, h2, h3, h4⟩ := D.rel 6 rfl
          have e2 : b.eval (.tmp 31) = .agg (lvS ws u) := h1
          have e1 : b.eval (.tmp 6) = .pointer (some ⟨w1.heap.size, 0, none⟩) := (D.was 6 (by kernel_rfl)).trans (by kernel_rfl)
          have hgo := (Below.block D.bel _ hGlt).trans hhc_n.out
          obtain ⟨hG, hle⟩ := goodw_store (L := ws) hgo h2 h3 h4
          refine ⟨w'.setRow w1.heap.size (lvS ws u), ?_, hG, hle⟩
          unfold execOp
          simp only [e1, e2, Instr.storeAt, Instr.sureAddr, Sem.run_bind, Sem.run_pure, Result.andThen_ok, run_storeVar_row (P := Tryz.prog) w' w1.heap.size tV tV (#[.int .u8 0, .string ⟨#[]⟩, .slice none 0 0, .slice none 0 0, .slice none 0 0]) (lvS ws u) hgo (by rw [lvS_size]; exact info28) (by rw [lvS_size]; rfl) (lvS_oneV _ _ h4)]
      · intro i hi oo ho
        obtain rfl : i = 7 := by simpa using hi
        obtain rfl := Option.some.inj ho
        exact RelG.pureS_val rfl fun b w' hz hn => by
          obtain ⟨u, y, base, h1, h2, h3, h4, h5⟩ := hn 5 (List.contains_iff_mem.1 (by kernel_rfl))
          have e1 : b.eval (.tmp 25) = .tuple #[.agg (lvS ws u), y] := h1
          exact ⟨y, run_ext1 e1, by
            show RelG.frP _ _ (RelG.get (b.put (some 32) _) 32) w'
            rw [RelG.get_put b 32 _ (by rw [hz]; exact (by decide : 32 < 100))]
            exact h5⟩
      intro u6 e w9 hg hv hle
      have hgood : Good w1.heap.size ws w9 := hv 8 (by decide)
      obtain ⟨v9, base, hb1, ho1, hc1, hv9⟩ := hgood
      have hBf := veil (goodw_below hB_14.out hle (by omega) (by omega))
      have hs9 : b13.heap.size ≤ w9.heap.size := hle.1.2.2.2
      simp only [Rel.fill, Act.put, List.setIfInBounds_toArray, List.set_cons_zero, List.set_cons_succ]
      obtain ⟨mo, hmo⟩ : ∃ mo, lvS ws v9 = mo := ⟨_, rfl⟩
      have hms : mo.size = 5 := by rw [← hmo]; exact lvS_size _ _
      have hmoo : mo.all (·.oneCell') = true := by rw [← hmo]; exact lvS_oneV _ _ hv9
      rw [hmo] at hc1
      have hmoe := veil hmo
      have ho1' := veil (tR_own ho1)
      have hc1' := veil hc1
      clear hg hv hle ho1 hc1 hmo hdo hb1
      have L4 := hc1'.out
      go_wp2_with (refine wpList_load_row rfl tV _ rfl w1.heap.size rfl tV (mo) (0, 0) _ L4 Tryz.underlying28 rfl (by rw [hms]; exact info28) ?_)
      rw [hkv.out]
      clear L4
      obtain ⟨wt, hw15⟩ : ∃ W : World, W = w9.alloc (.cells #[.string ⟨#[108, 114, 97, 110, 103, 101]⟩, .string ⟨#[107]⟩, .string ⟨#[48]⟩, .string ⟨#[45, 49]⟩] 9) := ⟨_, rfl⟩
      rw [← hw15]
      have hb15 : Below w9.heap.size w9 wt := by rw [hw15]; exact below_alloc (Below.refl _ _) _
      have ha15 : tR wt (.slice (some ⟨w9.heap.size, 0, none⟩) 4 4) [⟨#[108, 114, 97, 110, 103, 101]⟩, ⟨#[107]⟩, ⟨#[48]⟩, ⟨#[45, 49]⟩] := tR_lit [⟨#[108, 114, 97, 110, 103, 101]⟩, ⟨#[107]⟩, ⟨#[48]⟩, ⟨#[45, 49]⟩] 4 rfl (by rw [hw15]; exact heap_alloc_last w9 _) (by simp)
      have hs15 := hb15.size
      have hB_16 := veil (two_below hBf.out (hb15))
      have hc_16 := veil (((hb15).block _ (by omega)).trans hc1'.out)
      have hv_16 := veil (ho1'.out.below (hb15))
      clear hBf hc1' ho1'
      clear hb15 hw15
      have hdo := do_lrangeV 0 (-1) ⟨#[108, 114, 97, 110, 103, 101]⟩ ⟨#[48]⟩ ⟨#[45, 49]⟩ v9 ws [⟨#[108, 114, 97, 110, 103, 101]⟩, ⟨#[107]⟩, ⟨#[48]⟩, ⟨#[45, 49]⟩] (some ⟨w9.heap.size, 0, none⟩) 4 0 ws.length wt hv_16.out ha15 (by decide) rfl rfl rfl (by decide) low_lrange (by rw [hnl.out]; omega) parse_0 parse_m1 ⟨by decide, by decide⟩ ⟨by decide, by decide⟩ (by decide) (by decide) (part_all _).1 (part_all _).2 (Nat.zero_le _) (Nat.le_refl _) hsz.out (tabs_below hT'.out hB_16.out)
      rw [List.take_length, List.drop_zero, hmoe.out] at hdo
      refine hdo.mono ?_
      rintro e w3 ⟨A3, n3, c3, rfl, hf3, hb3⟩
      have hs3 := hb3.size
      clear hdo
      have hB_17 := veil (two_below hB_16.out (hb3))
      have hc_17 := veil (((hb3).block _ (by omega)).trans hc_16.out)
      have hv_17 := veil (hv_16.out.below (hb3))
      clear hB_16 hc_16 hv_16
      have hrd3 := veil (hf3.reads (by rw [← hf3.len]; exact (texts_len _ hsz.out hn1.out).2))
      clear hf3 hb3 ha15
      go_wp2_with (refine wpList_store_row rfl tV _ _ rfl w3.heap.size mo rfl rfl tV zS (heap_alloc_last w3 _) (by rw [hms]; exact info28) hms.symm hmoo ?_)
      obtain ⟨b18, hb18⟩ : ∃ b18 : World, b18 = (w3.alloc (.cells #[.int .u8 0, .string ⟨#[]⟩, .slice none 0 0, .slice none 0 0, .slice none 0 0] tV)).setRow w3.heap.size (mo) := ⟨_, rfl⟩
      have hN18 := newV (mo) w3
      rw [← hb18] at hN18 ⊢
      have hsN18 := hN18.sz
      have hB_19 := veil (two_below hB_17.out (hN18.bel))
      have hc_19 := veil (((hN18.bel).block _ (by omega)).trans hc_17.out)
      have hv_19 := veil (hv_17.out.below (hN18.bel))
      have hr8_19 := veil (hrd3.out.below (hN18.bel))
      clear hB_17 hc_17 hv_17 hrd3
      have hhw_n := veil hN18.cell
      clear hb18 hN18
      have hI0 : Int64 (k : Int) := ⟨by omega, by omega⟩
      have hI1 : Int64 ((k : Int) - 1) := ⟨by omega, by omega⟩
      have hkw : k ≤ ws.length := by rw [hnl.out]; exact hkm
      have hdk : sumS (ws.drop k) ≤ 1048576 := Nat.le_trans (sumS_drop _ _) hsz.out
      have hdn : (ws.drop k).length ≤ 1000 := by rw [List.length_drop, hnl.out]; omega
      have hGlt : w1.heap.size < b18.heap.size := (Array.getElem?_eq_some_iff.1 hc_19.out).1
      have hdo : Veil (∀ w' b, Below b18.heap.size b18 w' → w'.heap[b]? = some (.cells #[.string ⟨#[108, 114, 97, 110, 103, 101]⟩, .string ⟨#[107]⟩, .string (numS (k : Int)), .string ⟨#[45, 49]⟩] 9 (0, 0)) → Calls Tryz.prog 8 #[.agg mo, .slice (some ⟨b, 0, none⟩) 4 4] w' (Dres mo (textsL (ws.drop k)) w')) := veil (fun w' b h1 h2 => by
        obtain ⟨ra, rb, g1, g2, g3, g4, g5⟩ := range_from ws k hkw
        have h := do_lrangeV k (-1) ⟨#[108, 114, 97, 110, 103, 101]⟩ (numS (k : Int)) ⟨#[45, 49]⟩ v9 ws [⟨#[108, 114, 97, 110, 103, 101]⟩, ⟨#[107]⟩, numS (k : Int), ⟨#[45, 49]⟩] (some ⟨b, 0, none⟩) 4 ra rb w' (hv_19.out.below h1) (tR_lit [⟨#[108, 114, 97, 110, 103, 101]⟩, ⟨#[107]⟩, numS (k : Int), ⟨#[45, 49]⟩] 4 rfl h2 (by simp)) (by simp) rfl rfl rfl (by decide) low_lrange (by rw [hnl.out]; omega) (parseN hI0) parse_m1 hI0 ⟨by decide, by decide⟩ (Nat.le_trans (numS_size _ hI0.1 hI0.2) (by decide)) (by decide) g1 g2 g3 g4 hsz.out (tabs_below hT'.out (two_below hB_19.out h1))
        rw [g5, hmoe.out] at h
        exact h)
      have hR2 : 2 ≤ ((textsL (ws.drop k)) : List Int).length := (texts_len _ hdk hdn).1
      have hR9 : ((textsL (ws.drop k)) : List Int).length ≤ 9223372036854775807 := (texts_len _ hdk hdn).2
      refine RelG.wp_region_relM (G := NewO b18.heap.size) (G1 := BelO) (n := 100) (new_sub _) 9 _ [RelG.is _ 46 (.agg mo), RelG.is _ 47 (.int .i64 k), RelG.is _ 48 (.string (numS (k : Int))), txB w1.heap.size #[.string ⟨#[108, 114, 97, 110, 103, 101]⟩, .string ⟨#[107]⟩, .string (numS (k : Int)), .string ⟨#[45, 49]⟩] 49, cpB w1.heap.size mo (textsL (ws.drop k)) 50, cpB w1.heap.size mo (textsL (ws.drop k)) 45, RelG.is _ 51 (.agg mo), frB w1.heap.size (textsL (ws.drop k)) 52, nzB b18.heap.size 10, noW _, no _ 11] [RelG.is _ 46 (.agg mo), RelG.is _ 47 (.int .i64 k), RelG.is _ 48 (.string (numS (k : Int))), anyR _ 49, anyR _ 50, tyN _ w1.heap.size (textsL (ws.drop k)) hR2 45, RelG.is _ 51 (.agg mo), frN _ w1.heap.size (textsL (ws.drop k)) hR2 52, anyR _ 10, RelG.triv _, frN _ w1.heap.size (textsL (ws.drop k)) hR2 11] [[46], [47], [48], [49], [50], [45], [51], [52], [10], [], [11]] (by kernel_rfl) rfl rfl (by kernel_rfl) rfl rfl ?_ ?_ ?_ ?_ ?_
      · intro j e w' h
        match j, h with
        | 0, h => exact h
        | 1, h => exact h
        | 2, h => exact h
        | 3, h => trivial
        | 4, h => trivial
        | 5, h => obtain ⟨y, h1, h2⟩ := h; exact ⟨_, y, h1, h2⟩
        | 6, h => exact h
        | 7, h => exact h
        | 8, h => trivial
        | 9, h => exact False.elim h
        | 10, h => exact False.elim h
        | n + 11, h => trivial
      · refine RelG.stepsF_cons (RelG.step_load (n := 100) (t := 6) (u := 46) (b := w1.heap.size) (t' := tV) (cs := mo) (fr := (0, 0)) rfl rfl rfl rfl (by decide) (by kernel_rfl) (by kernel_rfl) Tryz.underlying28 rfl (by rw [hms]; exact info28) (fun w' hle => (Below.block hle _ hGlt).trans hc_19.out) rfl) ?_
        refine RelG.stepsF_cons (RelG.step_was (n := 100) (t := 7) (u := 47) rfl rfl rfl rfl (by decide) (by kernel_rfl) (by kernel_rfl) rfl) ?_
        refine RelG.stepsF_cons (step_callA rfl Tryz.func12 (by kernel_rfl) rfl rfl (fun b w' D => by
            have e1 : b.eval (.tmp 47) = .int .i64 k := D.is 1 rfl rfl
            exact ⟨#[.int .i64 k], by simp only [List.map_toArray, List.map_cons, List.map_nil, e1], (rtext_any _ w' hI0).mono fun e w'' ⟨he, hb⟩ => ⟨_, he, RelG.get_put b 48 _ (by rw [D.siz]; exact (by decide : 48 < 100)), hb⟩⟩)) ?_
        refine RelG.stepsF_cons (RelG.step_make rfl fun b w' D => ⟨.slice (some ⟨w'.heap.size, 0, none⟩) 4 4, w'.alloc (.cells #[.string ⟨#[108, 114, 97, 110, 103, 101]⟩, .string ⟨#[107]⟩, .string (numS (k : Int)), .string ⟨#[45, 49]⟩] 9), by
              have e2 : b.eval (.tmp 48) = .string (numS (k : Int)) := D.is 2 rfl rfl
              have hr := run_texts4 w' ⟨#[108, 114, 97, 110, 103, 101]⟩ ⟨#[107]⟩ (numS (k : Int)) ⟨#[45, 49]⟩
              unfold execOp
              simp only [List.map_toArray, List.map_cons, List.map_nil, e2, show ∀ v, b.eval (.const v) = v from fun _ => rfl, Sem.run_bind]
              rw [hr]
              rfl, by
              show txP _ _ (RelG.get (b.put (some 49) _) 49) _
              rw [RelG.get_put b 49 _ (by rw [D.siz]; exact (by decide : 49 < 100))]
              exact ⟨_, rfl, heap_alloc_last w' _, by have := Below.size D.bel; omega⟩, below_alloc (Below.refl _ _) _⟩) ?_
        refine RelG.stepsF_cons (step_callA rfl Tryz.func8 (by kernel_rfl) rfl rfl (fun b w' D => by
            obtain ⟨z, h1, h2, h3⟩ := D.rel 3 rfl
            have e1 : b.eval (.tmp 46) = .agg mo := D.is 0 rfl rfl
            have e2 : b.eval (.tmp 49) = .slice (some ⟨z, 0, none⟩) 4 4 := h1
            refine ⟨#[.agg mo, .slice (some ⟨z, 0, none⟩) 4 4], by simp only [List.map_toArray, List.map_cons, List.map_nil, e1, e2], (hdo.out w' z D.bel h2).mono fun e w'' ⟨A, n, c, he, hf, hb⟩ => ⟨_, he, ?_, hb⟩⟩
            show cpP _ _ _ (RelG.get (b.put (some 50) _) 50) w''
            rw [RelG.get_put b 50 _ (by rw [D.siz]; exact (by decide : 50 < 100))]
            have hgt : w1.heap.size < w'.heap.size := by have := Below.size D.bel; omega
            exact ⟨_, rfl, ⟨A, n, c, _, rfl, hf, hgt⟩⟩)) ?_
        refine RelG.stepsF_cons (RelG.step_pass_of (n := 100) (j := 4) (t := 50) (u := 45) (p := cpP w1.heap.size mo (textsL (ws.drop k))) (hp := fun x w w' ⟨y, h1, h2⟩ hle => ⟨y, h1, fr_goodw (L := []) h2 (bel_sub _ _ _ _ hle)⟩) rfl rfl (.inl rfl) rfl (by decide) rfl rfl rfl) ?_
        refine RelG.stepsF_cons (RelG.step_val rfl fun b w' D => by
            obtain ⟨y, h1, h5⟩ := D.rel 5 rfl
            have e1 : b.eval (.tmp 45) = .tuple #[.agg mo, y] := h1
            exact ⟨.agg mo, run_ext0 e1, RelG.get_put b 51 _ (by rw [D.siz]; exact (by decide : 51 < 100))⟩) ?_
        refine RelG.stepsF_cons (RelG.step_val rfl fun b w' D => by
            obtain ⟨y, h1, h5⟩ := D.rel 5 rfl
            have e1 : b.eval (.tmp 45) = .tuple #[.agg mo, y] := h1
            exact ⟨y, run_ext1 e1, by
              show RelG.frP _ _ (RelG.get (b.put (some 52) _) 52) w'
              rw [RelG.get_put b 52 _ (by rw [D.siz]; exact (by decide : 52 < 100))]
              exact h5⟩) ?_
        refine RelG.stepsF_cons (RelG.step_make rfl fun b w' D => ⟨.pointer (some ⟨w'.heap.size, 0, none⟩), w'.alloc (.cells zS tV), run_alloc _ _ _ rfl, by
            show nzP _ (RelG.get (b.put (some 10) _) 10) _
            rw [RelG.get_put b 10 _ (by rw [D.siz]; exact (by decide : 10 < 100))]
            exact ⟨_, rfl, Below.size D.bel, heap_alloc_last w' _⟩, below_alloc (Below.refl _ _) _⟩) ?_
        refine RelG.stepsF_skip (by kernel_rfl) ?_
        refine RelG.stepsF_skip (by kernel_rfl) ?_
        exact trivial
      · exact RelG.storeS_skip rfl rfl fun b w' D => by
          obtain ⟨p, h6, h7, h8⟩ := D.rel 8 rfl
          have e2 : b.eval (.tmp 51) = .agg mo := D.is 6 rfl rfl
          have e1 : b.eval (.tmp 10) = .pointer (some ⟨p, 0, none⟩) := h6
          refine ⟨w'.setRow p mo, ?_, trivial, new_set _ h7 h8⟩
          unfold execOp
          simp only [e1, e2, Instr.storeAt, Instr.sureAddr, Sem.run_bind, Sem.run_pure, Result.andThen_ok, run_storeVar_row (P := Tryz.prog) w' p tV tV zS mo h8 (by rw [hms]; exact info28) hms.symm hmoo]
      · refine RelG.stepsF_skip (by kernel_rfl) ?_
        refine RelG.stepsF_skip (by kernel_rfl) ?_
        refine RelG.stepsF_skip (by kernel_rfl) ?_
        refine RelG.stepsF_skip (by kernel_rfl) ?_
        refine RelG.stepsF_skip (by kernel_rfl) ?_
        refine RelG.stepsF_skip (by kernel_rfl) ?_
        refine RelG.stepsF_skip (by kernel_rfl) ?_
        refine RelG.stepsF_cons (RelG.step_val rfl fun b w' D => by
            obtain ⟨u, y, h1, h5⟩ := D.rel 5 rfl
            have e1 : b.eval (.tmp 45) = .tuple #[u, y] := h1
            exact ⟨y, run_ext1 e1, by
              show RelG.frP _ _ (RelG.get (b.put (some 52) _) 52) w'
              rw [RelG.get_put b 52 _ (by rw [D.siz]; exact (by decide : 52 < 100))]
              exact h5⟩) ?_
        refine RelG.stepsF_skip (by kernel_rfl) ?_
        refine RelG.stepsF_skip (by kernel_rfl) ?_
        refine RelG.stepsF_cons (RelG.step_pass_of (n := 100) (j := 7) (t := 52) (u := 11) (p := RelG.frP w1.heap.size (textsL (ws.drop k))) (hp := fun x w w' h hle => fr_new hR2 h hle) rfl rfl (.inr rfl) rfl (by decide) rfl rfl rfl) ?_
        exact trivial
      intro u9 e x9 hg hv hle
      have kk : e 11 = u9 10 := hg 10 11 rfl
      have hfr : RelG.frP w1.heap.size (textsL (ws.drop k)) (e 11) x9 := hv 10 (by decide)
      rw [kk] at hfr
      obtain ⟨Ar9, nr9, cr9, base2, er, hf9, _⟩ := hfr
      have hb9 := new_below (Below.refl _ _) hle (Nat.le_refl _)
      have hsz9 := hb9.size
      have hB_20 := veil (two_below hB_19.out (hb9))
      have hc_20 := veil (((hb9).block _ (by omega)).trans hc_19.out)
      have hv_20 := veil (hv_19.out.below (hb9))
      have hr8_20 := veil (hr8_19.out.below (hb9))
      have hw_20 := veil (((hb9).block _ (by omega)).trans hhw_n.out)
      clear hB_19 hc_19 hv_19 hr8_19 hhw_n
      simp only [Rel.fill, Act.put, List.setIfInBounds_toArray, List.set_cons_zero, List.set_cons_succ]
      rw [er]
      have hrd9 := veil (hf9.reads (by rw [← hf9.len]; exact hR9))
      clear hg hv hle kk er hf9 hb9 hdo hR2 hR9
      obtain ⟨kb, q1, q2, q3, q4⟩ := range_to ws k hkw
      have htk : sumS (ws.take kb) ≤ 1048576 := Nat.le_trans (sumS_take _ _) hsz.out
      have htn : (ws.take kb).length ≤ 1000 := by rw [List.length_take, hnl.out]; omega
      go_wp2_with fail
      have eSv : Veil (wrap64 ((k : Int) - 1) = (k : Int) - 1) := veil (by unfold wrap64; omega)
      have eS : IntKind.i64.wrap ((k : Int) - 1) = (k : Int) - 1 := iwrapE hI1
      have eS' := eSv.out
      have hGlt : w1.heap.size < x9.heap.size := (Array.getElem?_eq_some_iff.1 hc_20.out).1
      have hdo : Veil (∀ w' b, Below x9.heap.size x9 w' → w'.heap[b]? = some (.cells #[.string ⟨#[108, 114, 97, 110, 103, 101]⟩, .string ⟨#[107]⟩, .string ⟨#[48]⟩, .string (numS ((k : Int) - 1))] 9 (0, 0)) → Calls Tryz.prog 8 #[.agg mo, .slice (some ⟨b, 0, none⟩) 4 4] w' (Dres mo (textsL (ws.take kb)) w')) := veil (fun w' b h1 h2 => by
        have h := do_lrangeV 0 ((k : Int) - 1) ⟨#[108, 114, 97, 110, 103, 101]⟩ ⟨#[48]⟩ (numS ((k : Int) - 1)) v9 ws [⟨#[108, 114, 97, 110, 103, 101]⟩, ⟨#[107]⟩, ⟨#[48]⟩, numS ((k : Int) - 1)] (some ⟨b, 0, none⟩) 4 0 kb w' (hv_20.out.below h1) (tR_lit [⟨#[108, 114, 97, 110, 103, 101]⟩, ⟨#[107]⟩, ⟨#[48]⟩, numS ((k : Int) - 1)] 4 rfl h2 (by simp)) (by simp) rfl rfl rfl (by decide) low_lrange (by rw [hnl.out]; omega) parse_0 (parseN hI1) ⟨by decide, by decide⟩ hI1 (by decide) (Nat.le_trans (numS_size _ hI1.1 hI1.2) (by decide)) q1 q2 (Nat.zero_le _) q3 hsz.out (tabs_below hT'.out (two_below hB_20.out h1))
        rw [List.drop_zero, hmoe.out] at h
        exact h)
      have hR2 : 2 ≤ ((textsL (ws.take kb)) : List Int).length := (texts_len _ htk htn).1
      have hR9 : ((textsL (ws.take kb)) : List Int).length ≤ 9223372036854775807 := (texts_len _ htk htn).2
      refine RelG.wp_region_relM (G := NewO x9.heap.size) (G1 := BelO) (n := 100) (new_sub _) 10 _ [RelG.is _ 54 (.agg mo), RelG.is _ 55 (.int .i64 k), RelG.is _ 56 (.int .i64 ((k : Int) - 1)), RelG.is _ 57 (.string (numS ((k : Int) - 1))), txB w1.heap.size #[.string ⟨#[108, 114, 97, 110, 103, 101]⟩, .string ⟨#[107]⟩, .string ⟨#[48]⟩, .string (numS ((k : Int) - 1))] 58, cpB w1.heap.size mo (textsL (ws.take kb)) 59, cpB w1.heap.size mo (textsL (ws.take kb)) 53, RelG.is _ 60 (.agg mo), frB w1.heap.size (textsL (ws.take kb)) 61, nzB x9.heap.size 12, noW _, no _ 13] [RelG.is _ 54 (.agg mo), RelG.is _ 55 (.int .i64 k), RelG.is _ 56 (.int .i64 ((k : Int) - 1)), RelG.is _ 57 (.string (numS ((k : Int) - 1))), anyR _ 58, anyR _ 59, tyN _ w1.heap.size (textsL (ws.take kb)) hR2 53, RelG.is _ 60 (.agg mo), frN _ w1.heap.size (textsL (ws.take kb)) hR2 61, anyR _ 12, RelG.triv _, frN _ w1.heap.size (textsL (ws.take kb)) hR2 13] [[54], [55], [56], [57], [58], [59], [53], [60], [61], [12], [], [13]] (by kernel_rfl) rfl rfl (by kernel_rfl) rfl rfl ?_ ?_ ?_ ?_ ?_
      · intro j e w' h
        match j, h with
        | 0, h => exact h
        | 1, h => exact h
        | 2, h => exact h
        | 3, h => exact h
        | 4, h => trivial
        | 5, h => trivial
        | 6, h => obtain ⟨y, h1, h2⟩ := h; exact ⟨_, y, h1, h2⟩
        | 7, h => exact h
        | 8, h => exact h
        | 9, h => trivial
        | 10, h => exact False.elim h
        | 11, h => exact False.elim h
        | n + 12, h => trivial
      · refine RelG.stepsF_cons (RelG.step_load (n := 100) (t := 6) (u := 54) (b := w1.heap.size) (t' := tV) (cs := mo) (fr := (0, 0)) rfl rfl rfl rfl (by decide) (by kernel_rfl) (by kernel_rfl) Tryz.underlying28 rfl (by rw [hms]; exact info28) (fun w' hle => (Below.block hle _ hGlt).trans hc_20.out) rfl) ?_
        refine RelG.stepsF_cons (RelG.step_was (n := 100) (t := 7) (u := 55) rfl rfl rfl rfl (by decide) (by kernel_rfl) (by kernel_rfl) rfl) ?_
        refine RelG.stepsF_cons (RelG.step_run (n := 100) (j := 1) (t := 55) (u := 56) (v := .int .i64 k) rfl rfl rfl (by decide) rfl rfl (fun ρ w' hle h hk => by simp [execOp, h, hk, go_sem, eS, eS']) rfl) ?_
        refine RelG.stepsF_cons (step_callA rfl Tryz.func12 (by kernel_rfl) rfl rfl (fun b w' D => by
            have e1 : b.eval (.tmp 56) = .int .i64 ((k : Int) - 1) := D.is 2 rfl rfl
            exact ⟨#[.int .i64 ((k : Int) - 1)], by simp only [List.map_toArray, List.map_cons, List.map_nil, e1], (rtext_any _ w' hI1).mono fun e w'' ⟨he, hb⟩ => ⟨_, he, RelG.get_put b 57 _ (by rw [D.siz]; exact (by decide : 57 < 100)), hb⟩⟩)) ?_
        refine RelG.stepsF_cons (RelG.step_make rfl fun b w' D => ⟨.slice (some ⟨w'.heap.size, 0, none⟩) 4 4, w'.alloc (.cells #[.string ⟨#[108, 114, 97, 110, 103, 101]⟩, .string ⟨#[107]⟩, .string ⟨#[48]⟩, .string (numS ((k : Int) - 1))] 9), by
              have e2 : b.eval (.tmp 57) = .string (numS ((k : Int) - 1)) := D.is 3 rfl rfl
              have hr := run_texts4 w' ⟨#[108, 114, 97, 110, 103, 101]⟩ ⟨#[107]⟩ ⟨#[48]⟩ (numS ((k : Int) - 1))
              unfold execOp
              simp only [List.map_toArray, List.map_cons, List.map_nil, e2, show ∀ v, b.eval (.const v) = v from fun _ => rfl, Sem.run_bind]
              rw [hr]
              rfl, by
              show txP _ _ (RelG.get (b.put (some 58) _) 58) _
              rw [RelG.get_put b 58 _ (by rw [D.siz]; exact (by decide : 58 < 100))]
              exact ⟨_, rfl, heap_alloc_last w' _, by have := Below.size D.bel; omega⟩, below_alloc (Below.refl _ _) _⟩) ?_
        refine RelG.stepsF_cons (step_callA rfl Tryz.func8 (by kernel_rfl) rfl rfl (fun b w' D => by
            obtain ⟨z, h1, h2, h3⟩ := D.rel 4 rfl
            have e1 : b.eval (.tmp 54) = .agg mo := D.is 0 rfl rfl
            have e2 : b.eval (.tmp 58) = .slice (some ⟨z, 0, none⟩) 4 4 := h1
            refine ⟨#[.agg mo, .slice (some ⟨z, 0, none⟩) 4 4], by simp only [List.map_toArray, List.map_cons, List.map_nil, e1, e2], (hdo.out w' z D.bel h2).mono fun e w'' ⟨A, n, c, he, hf, hb⟩ => ⟨_, he, ?_, hb⟩⟩
            show cpP _ _ _ (RelG.get (b.put (some 59) _) 59) w''
            rw [RelG.get_put b 59 _ (by rw [D.siz]; exact (by decide : 59 < 100))]
            have hgt : w1.heap.size < w'.heap.size := by have := Below.size D.bel; omega
            exact ⟨_, rfl, ⟨A, n, c, _, rfl, hf, hgt⟩⟩)) ?_
        refine RelG.stepsF_cons (RelG.step_pass_of (n := 100) (j := 5) (t := 59) (u := 53) (p := cpP w1.heap.size mo (textsL (ws.take kb))) (hp := fun x w w' ⟨y, h1, h2⟩ hle => ⟨y, h1, fr_goodw (L := []) h2 (bel_sub _ _ _ _ hle)⟩) rfl rfl (.inl rfl) rfl (by decide) rfl rfl rfl) ?_
        refine RelG.stepsF_cons (RelG.step_val rfl fun b w' D => by
            obtain ⟨y, h1, h5⟩ := D.rel 6 rfl
            have e1 : b.eval (.tmp 53) = .tuple #[.agg mo, y] := h1
            exact ⟨.agg mo, run_ext0 e1, RelG.get_put b 60 _ (by rw [D.siz]; exact (by decide : 60 < 100))⟩) ?_
        refine RelG.stepsF_cons (RelG.step_val rfl fun b w' D => by
            obtain ⟨y, h1, h5⟩ := D.rel 6 rfl
            have e1 : b.eval (.tmp 53) = .tuple #[.agg mo, y] := h1
            exact ⟨y, run_ext1 e1, by
              show RelG.frP _ _ (RelG.get (b.put (some 61) _) 61) w'
              rw [RelG.get_put b 61 _ (by rw [D.siz]; exact (by decide : 61 < 100))]
              exact h5⟩) ?_
        refine RelG.stepsF_cons (RelG.step_make rfl fun b w' D => ⟨.pointer (some ⟨w'.heap.size, 0, none⟩), w'.alloc (.cells zS tV), run_alloc _ _ _ rfl, by
            show nzP _ (RelG.get (b.put (some 12) _) 12) _
            rw [RelG.get_put b 12 _ (by rw [D.siz]; exact (by decide : 12 < 100))]
            exact ⟨_, rfl, Below.size D.bel, heap_alloc_last w' _⟩, below_alloc (Below.refl _ _) _⟩) ?_
        refine RelG.stepsF_skip (by kernel_rfl) ?_
        refine RelG.stepsF_skip (by kernel_rfl) ?_
        exact trivial
      · exact RelG.storeS_skip rfl rfl fun b w' D => by
          obtain ⟨p, h6, h7, h8⟩ := D.rel 9 rfl
          have e2 : b.eval (.tmp 60) = .agg mo := D.is 7 rfl rfl
          have e1 : b.eval (.tmp 12) = .pointer (some ⟨p, 0, none⟩) := h6
          refine ⟨w'.setRow p mo, ?_, trivial, new_set _ h7 h8⟩
          unfold execOp
          simp only [e1, e2, Instr.storeAt, Instr.sureAddr, Sem.run_bind, Sem.run_pure, Result.andThen_ok, run_storeVar_row (P := Tryz.prog) w' p tV tV zS mo h8 (by rw [hms]; exact info28) hms.symm hmoo]
      · refine RelG.stepsF_skip (by kernel_rfl) ?_
        refine RelG.stepsF_skip (by kernel_rfl) ?_
        refine RelG.stepsF_skip (by kernel_rfl) ?_
        refine RelG.stepsF_skip (by kernel_rfl) ?_
        refine RelG.stepsF_skip (by kernel_rfl) ?_
        refine RelG.stepsF_skip (by kernel_rfl) ?_
        refine RelG.stepsF_skip (by kernel_rfl) ?_
        refine RelG.stepsF_skip (by kernel_rfl) ?_
        refine RelG.stepsF_cons (RelG.step_val rfl fun b w' D => by
            obtain ⟨u, y, h1, h5⟩ := D.rel 6 rfl
            have e1 : b.eval (.tmp 53) = .tuple #[u, y] := h1
            exact ⟨y, run_ext1 e1, by
              show RelG.frP _ _ (RelG.get (b.put (some 61) _) 61) w'
              rw [RelG.get_put b 61 _ (by rw [D.siz]; exact (by decide : 61 < 100))]
              exact h5⟩) ?_
        refine RelG.stepsF_skip (by kernel_rfl) ?_
        refine RelG.stepsF_skip (by kernel_rfl) ?_
        refine RelG.stepsF_cons (RelG.step_pass_of (n := 100) (j := 8) (t := 61) (u := 13) (p := RelG.frP w1.heap.size (textsL (ws.take kb))) (hp := fun x w w' h hle => fr_new hR2 h hle) rfl rfl (.inr rfl) rfl (by decide) rfl rfl rfl) ?_
        exact trivial
      intro u10 e x10 hg hv hle
      have kk : e 13 = u10 11 := hg 11 13 rfl
      have hfr : RelG.frP w1.heap.size (textsL (ws.take kb)) (e 13) x10 := hv 11 (by decide)
      rw [kk] at hfr
      obtain ⟨Ar10, nr10, cr10, base2, er, hf9, _⟩ := hfr
      have hb9 := new_below (Below.refl _ _) hle (Nat.le_refl _)
      have hsz10 := hb9.size
      have hB_21 := veil (two_below hB_20.out (hb9))
      have hc_21 := veil (((hb9).block _ (by omega)).trans hc_20.out)
      have hv_21 := veil (hv_20.out.below (hb9))
      have hr8_21 := veil (hr8_20.out.below (hb9))
      have hw_21 := veil (((hb9).block _ (by omega)).trans hw_20.out)
      have hr9_21 := veil (hrd9.out.below (hb9))
      clear hB_20 hc_20 hv_20 hr8_20 hw_20 hrd9
      simp only [Rel.fill, Act.put, List.setIfInBounds_toArray, List.set_cons_zero, List.set_cons_succ]
      rw [er]
      have hrd10 := veil (hf9.reads (by rw [← hf9.len]; exact hR9))
      clear hg hv hle kk er hf9 hb9 hdo hR2 hR9
      clear eS eS'
      obtain ⟨BL, hcl, hclr⟩ := cutL_ (some ad) m c k hkm hmc
      have hch := cutH (some ad) m c k hkm hmc
      by_cases hk0 : k = 0
      · subst hk0
        have hk1 : ((0 : Int) == 0) = true := rfl
        go_wp2_with fail
        refine (Y_Texts none 0 [] (textsL []) _ (Kd.C_of_reads (enc := Value.string) (d := ByteArray.empty) (h1 := fun _ => rfl) ⟨rfl, by decide, fun h => absurd h (by decide)⟩) (Nat.le_refl _) rfl).mono ?_
        rintro e w5 ⟨v5, rfl, hV5, hb5⟩
        obtain ⟨A5, c5, rfl⟩ := Kd.V_slice hV5
        have hr5 := veil (reads_C (Kd.V_reads' hV5).2.2)
        have hs5 := hb5.size
        clear hV5
        have hB_22 := veil (two_below hB_21.out (hb5))
        have hc_22 := veil (((hb5).block _ (by omega)).trans hc_21.out)
        have hv_22 := veil (hv_21.out.below (hb5))
        have hr8_22 := veil (hr8_21.out.below (hb5))
        have hw_22 := veil (((hb5).block _ (by omega)).trans hw_21.out)
        have hr9_22 := veil (hr9_21.out.below (hb5))
        have hr10_22 := veil (hrd10.out.below (hb5))
        clear hB_21 hc_21 hv_21 hr8_21 hw_21 hr9_21 hrd10
        clear hb5
        have L1 := hc_22.out
        have L2 := hw_22.out
        go_wp2_with (first | (refine wpList_load_row rfl tV _ rfl w1.heap.size rfl tV (mo) (0, 0) _ L1 Tryz.underlying28 rfl (by rw [hms]; exact info28) ?_) | (refine wpList_load_row rfl tV _ rfl w3.heap.size rfl tV (mo) (0, 0) _ L2 Tryz.underlying28 rfl (by rw [hms]; exact info28) ?_))
        clear L1 L2
        have hsame := same_any v9 v9 ws w5 hv_22.out hv_22.out (by rw [hnl.out]; omega) (by rw [hnl.out]; omega)
        rw [hmoe.out] at hsame
        refine hsame.mono ?_
        rintro e w6 ⟨rfl, hb6⟩
        have hs6 := hb6.size
        clear hsame
        have hB_23 := veil (two_below hB_22.out (hb6))
        have hc_23 := veil (((hb6).block _ (by omega)).trans hc_22.out)
        have hv_23 := veil (hv_22.out.below (hb6))
        have hr8_23 := veil (hr8_22.out.below (hb6))
        have hw_23 := veil (((hb6).block _ (by omega)).trans hw_22.out)
        have hr9_23 := veil (hr9_22.out.below (hb6))
        have hr10_23 := veil (hr10_22.out.below (hb6))
        have hr13_23 := veil (hr5.out.below (hb6))
        clear hB_22 hc_22 hv_22 hr8_22 hw_22 hr9_22 hr10_22 hr5
        clear hb6
        have hr0c := hr0.out.below hB_23.out
        have hlo := hclr _ _ hr0c
        have hhi := hr0c.take_ 0 (Nat.zero_le _)
        go_wp2_with fail
        refine Rel.wp_region_rel (n := 100) [Rel.is (.bool true), Rel.is (.bool true), Rel.is (.bool true), Rel.is (.bool true), Rel.is (.bool true), Rel.rd (textsL ws), Rel.is (.string (strOfNums (textsL ws))), Rel.is (.slice (some ad) m c), Rel.rd (textsL ws), Rel.is (.string (strOfNums (textsL ws))), Rel.is (.bool true), Rel.is (.bool true), Rel.is (.bool true), Rel.rd (textsL (ws.drop 0)), Rel.is (.string (strOfNums (textsL (ws.drop 0)))), Rel.is (.slice (some ad) m c), Rel.is (.int .i64 0), Rel.is (.slice BL (m - 0) (c - 0)), Rel.rd (textsL (ws.drop 0)), Rel.is (.string (strOfNums (textsL (ws.drop 0)))), Rel.is (.bool true), Rel.is (.bool true), Rel.is (.bool true), Rel.rd (textsL []), Rel.is (.string (strOfNums (textsL []))), Rel.is (.slice (some ad) m c), Rel.is (.int .i64 0), Rel.is (.slice (some ad) 0 c), Rel.rd (textsL []), Rel.is (.string (strOfNums (textsL []))), Rel.is (.bool true), Rel.is (.bool true), Rel.is (.bool true)] (by kernel_rfl) (by rfl) (by kernel_rfl) ?_ ?_
        · refine Rel.steps_cons (Rel.step_wasB (n := 100) (t := 5) rfl (.inl rfl) (.inl rfl) rfl (by kernel_rfl) rfl) ?_
          refine Rel.steps_cons (Rel.step_passB (n := 100) (j := 0) (t := 68) rfl (.inl rfl) (.inl rfl) rfl rfl rfl rfl) ?_
          refine Rel.steps_cons (Rel.step_wasB (n := 100) (t := 14) rfl (.inr ⟨1, 69, true, rfl, rfl, rfl, by decide, rfl⟩) (.inl rfl) rfl (by kernel_rfl) rfl) ?_
          refine Rel.steps_cons (Rel.step_run2 (n := 100) (j := 1) (t := 69) (j2 := 2) (t2 := 70) rfl (.inl rfl) rfl rfl rfl rfl rfl rfl (fun ρ w' _ h1 h2 hk => by simp [execOp, h1, h2, hk, asBool]) rfl) ?_
          refine Rel.steps_cons (Rel.step_passB (n := 100) (j := 3) (t := 71) rfl (.inl rfl) (.inl rfl) rfl rfl rfl rfl) ?_
          refine Rel.steps_cons (Rel.step_rdB (n := 100) (t := 9) (A := A3) (m := n3) (c := c3) rfl (.inr ⟨4, 72, true, rfl, rfl, rfl, by decide, rfl⟩) rfl rfl (by kernel_rfl) hr8_23.out rfl) ?_
          refine Rel.steps_cons (Rel.step_strB (n := 100) (j := 5) (t := 73) rfl (.inr ⟨4, 72, true, rfl, rfl, rfl, by decide, rfl⟩) rfl Tryz.underlying29 Tryz.underlying5 Tryz.underlying9 rfl rfl rfl rfl) ?_
          refine Rel.steps_cons (Rel.step_wasB (n := 100) (t := 0) rfl (.inr ⟨4, 72, true, rfl, rfl, rfl, by decide, rfl⟩) (.inl rfl) rfl (by kernel_rfl) rfl) ?_
          refine Rel.steps_cons (Rel.step_callB (n := 100) rfl (.inr ⟨4, 72, true, rfl, rfl, rfl, by decide, rfl⟩) Tryz.func13 (by kernel_rfl) rfl #[.slice (some ad) m c] rfl (fun b w D => by simp only [List.map_toArray, List.map_cons, List.map_nil, show b.eval (.tmp 75) = .slice (some ad) m c from D.is 7 75 rfl rfl rfl]) (fun w' hb' => YTexts_rd _ m c ws w' (hr0c.below hb') hnl.out hmc hsz.out (by omega))) ?_
          refine Rel.steps_cons (Rel.step_strB (n := 100) (j := 8) (t := 76) rfl (.inr ⟨4, 72, true, rfl, rfl, rfl, by decide, rfl⟩) rfl Tryz.underlying29 Tryz.underlying5 Tryz.underlying9 rfl rfl rfl rfl) ?_
          refine Rel.steps_cons (Rel.step_texts (n := 100) (j := 6) (t := 74) (j2 := 9) (t2 := 77) rfl (.inr ⟨4, 72, true, rfl, rfl, rfl, by decide, rfl⟩) rfl Tryz.underlying9 rfl rfl rfl rfl rfl rfl (.inl ⟨rfl, (decide_eq_true rfl).symm⟩) rfl) ?_
          refine Rel.steps_cons (Rel.step_run2 (n := 100) (j := 4) (t := 72) (j2 := 10) (t2 := 78) rfl (.inl rfl) rfl rfl rfl rfl rfl rfl (fun ρ w' _ h1 h2 hk => by simp [execOp, h1, h2, hk, asBool]) rfl) ?_
          refine Rel.steps_cons (Rel.step_passB (n := 100) (j := 11) (t := 79) rfl (.inl rfl) (.inl rfl) rfl rfl rfl rfl) ?_
          refine Rel.steps_cons (Rel.step_rdB (n := 100) (t := 11) (A := Ar9) (m := nr9) (c := cr9) rfl (.inr ⟨12, 80, true, rfl, rfl, rfl, by decide, rfl⟩) rfl rfl (by kernel_rfl) hr9_23.out rfl) ?_
          refine Rel.steps_cons (Rel.step_strB (n := 100) (j := 13) (t := 81) rfl (.inr ⟨12, 80, true, rfl, rfl, rfl, by decide, rfl⟩) rfl Tryz.underlying29 Tryz.underlying5 Tryz.underlying9 rfl rfl rfl rfl) ?_
          refine Rel.steps_cons (Rel.step_wasB (n := 100) (t := 0) rfl (.inr ⟨12, 80, true, rfl, rfl, rfl, by decide, rfl⟩) (.inl rfl) rfl (by kernel_rfl) rfl) ?_
          refine Rel.steps_cons (Rel.step_wasB (n := 100) (t := 7) rfl (.inr ⟨12, 80, true, rfl, rfl, rfl, by decide, rfl⟩) (.inl rfl) rfl (by kernel_rfl) rfl) ?_
          refine Rel.steps_cons (Rel.step_valB (n := 100) rfl (.inr ⟨12, 80, true, rfl, rfl, rfl, by decide, rfl⟩) (fun b' w' D => ⟨_, run_cutL rfl (D.is 15 83 rfl rfl rfl) (D.is 16 84 rfl rfl rfl) (hcl w'), rfl⟩)) ?_
          refine Rel.steps_cons (Rel.step_callB (n := 100) rfl (.inr ⟨12, 80, true, rfl, rfl, rfl, by decide, rfl⟩) Tryz.func13 (by kernel_rfl) rfl #[.slice BL (m - 0) (c - 0)] rfl (fun b w D => by simp only [List.map_toArray, List.map_cons, List.map_nil, show b.eval (.tmp 85) = .slice BL (m - 0) (c - 0) from D.is 17 85 rfl rfl rfl]) (fun w' hb' => YTexts_rd BL (m - 0) (c - 0) (ws.drop 0) w' (hlo.below hb') (by rw [List.length_drop, hnl.out]) (Nat.sub_le_sub_right hmc _) hdk (by omega))) ?_
          refine Rel.steps_cons (Rel.step_strB (n := 100) (j := 18) (t := 86) rfl (.inr ⟨12, 80, true, rfl, rfl, rfl, by decide, rfl⟩) rfl Tryz.underlying29 Tryz.underlying5 Tryz.underlying9 rfl rfl rfl rfl) ?_
          refine Rel.steps_cons (Rel.step_texts (n := 100) (j := 14) (t := 82) (j2 := 19) (t2 := 87) rfl (.inr ⟨12, 80, true, rfl, rfl, rfl, by decide, rfl⟩) rfl Tryz.underlying9 rfl rfl rfl rfl rfl rfl (.inl ⟨rfl, (decide_eq_true rfl).symm⟩) rfl) ?_
          refine Rel.steps_cons (Rel.step_run2 (n := 100) (j := 12) (t := 80) (j2 := 20) (t2 := 88) rfl (.inl rfl) rfl rfl rfl rfl rfl rfl (fun ρ w' _ h1 h2 hk => by simp [execOp, h1, h2, hk, asBool]) rfl) ?_
          refine Rel.steps_cons (Rel.step_passB (n := 100) (j := 21) (t := 89) rfl (.inl rfl) (.inl rfl) rfl rfl rfl rfl) ?_
          refine Rel.steps_cons (Rel.step_rdB (n := 100) (t := 13) (A := A5) (m := _) (c := c5) rfl (.inr ⟨22, 90, true, rfl, rfl, rfl, by decide, rfl⟩) rfl rfl (by kernel_rfl) hr13_23.out rfl) ?_
          refine Rel.steps_cons (Rel.step_strB (n := 100) (j := 23) (t := 91) rfl (.inr ⟨22, 90, true, rfl, rfl, rfl, by decide, rfl⟩) rfl Tryz.underlying29 Tryz.underlying5 Tryz.underlying9 rfl rfl rfl rfl) ?_
          refine Rel.steps_cons (Rel.step_wasB (n := 100) (t := 0) rfl (.inr ⟨22, 90, true, rfl, rfl, rfl, by decide, rfl⟩) (.inl rfl) rfl (by kernel_rfl) rfl) ?_
          refine Rel.steps_cons (Rel.step_wasB (n := 100) (t := 7) rfl (.inr ⟨22, 90, true, rfl, rfl, rfl, by decide, rfl⟩) (.inl rfl) rfl (by kernel_rfl) rfl) ?_
          refine Rel.steps_cons (Rel.step_valB (n := 100) rfl (.inr ⟨22, 90, true, rfl, rfl, rfl, by decide, rfl⟩) (fun b' w' D => ⟨_, run_cutH rfl (D.is 25 93 rfl rfl rfl) (D.is 26 94 rfl rfl rfl) (hch w'), rfl⟩)) ?_
          refine Rel.steps_cons (Rel.step_callB (n := 100) rfl (.inr ⟨22, 90, true, rfl, rfl, rfl, by decide, rfl⟩) Tryz.func13 (by kernel_rfl) rfl #[.slice (some ad) 0 c] rfl (fun b w D => by simp only [List.map_toArray, List.map_cons, List.map_nil, show b.eval (.tmp 95) = .slice (some ad) 0 c from D.is 27 95 rfl rfl rfl]) (fun w' hb' => YTexts_rd _ 0 c [] w' (hhi.below hb') rfl (Nat.le_trans hkm hmc) (by decide) (by omega))) ?_
          refine Rel.steps_cons (Rel.step_strB (n := 100) (j := 28) (t := 96) rfl (.inr ⟨22, 90, true, rfl, rfl, rfl, by decide, rfl⟩) rfl Tryz.underlying29 Tryz.underlying5 Tryz.underlying9 rfl rfl rfl rfl) ?_
          refine Rel.steps_cons (Rel.step_texts (n := 100) (j := 24) (t := 92) (j2 := 29) (t2 := 97) rfl (.inr ⟨22, 90, true, rfl, rfl, rfl, by decide, rfl⟩) rfl Tryz.underlying9 rfl rfl rfl rfl rfl rfl (.inl ⟨rfl, (decide_eq_true rfl).symm⟩) rfl) ?_
          refine Rel.steps_cons (Rel.step_run2 (n := 100) (j := 22) (t := 90) (j2 := 30) (t2 := 98) rfl (.inl rfl) rfl rfl rfl rfl rfl rfl (fun ρ w' _ h1 h2 hk => by simp [execOp, h1, h2, hk, asBool]) rfl) ?_
          refine Rel.steps_cons (Rel.step_passB (n := 100) (j := 31) (t := 99) rfl (.inl rfl) (.inr rfl) rfl rfl rfl rfl) ?_
          exact trivial
        intro v9 wz hv9 hbz
        have ez : v9 32 = .bool true := hv9 32 (by decide)
        have hBz := veil (two_below hB_23.out hbz)
        simp only [Rel.fill, Act.put, List.setIfInBounds_toArray, List.set_cons_zero, List.set_cons_succ]
        rw [ez]
        clear hbz hv9 ez
        go_wp2_with fail
        go_ret
        exact ⟨rfl, hBz.out⟩
      · have hk1 : ((k : Int) == 0) = false := beq_false_of_ne (by omega)
        have hk2 : ¬ (k : Int) = 0 := by omega
        obtain rfl : k = kb := (q4 hk0).symm
        have L1 := hc_21.out
        have L2 := hw_21.out
        go_wp2_with (first | (refine wpList_load_row rfl tV _ rfl w1.heap.size rfl tV (mo) (0, 0) _ L1 Tryz.underlying28 rfl (by rw [hms]; exact info28) ?_) | (refine wpList_load_row rfl tV _ rfl w3.heap.size rfl tV (mo) (0, 0) _ L2 Tryz.underlying28 rfl (by rw [hms]; exact info28) ?_))
        clear L1 L2
        have hsame := same_any v9 v9 ws x10 hv_21.out hv_21.out (by rw [hnl.out]; omega) (by rw [hnl.out]; omega)
        rw [hmoe.out] at hsame
        refine hsame.mono ?_
        rintro e w6 ⟨rfl, hb6⟩
        have hs6 := hb6.size
        clear hsame
        have hB_24 := veil (two_below hB_21.out (hb6))
        have hc_24 := veil (((hb6).block _ (by omega)).trans hc_21.out)
        have hv_24 := veil (hv_21.out.below (hb6))
        have hr8_24 := veil (hr8_21.out.below (hb6))
        have hw_24 := veil (((hb6).block _ (by omega)).trans hw_21.out)
        have hr9_24 := veil (hr9_21.out.below (hb6))
        have hr13_24 := veil (hrd10.out.below (hb6))
        clear hB_21 hc_21 hv_21 hr8_21 hw_21 hr9_21 hrd10
        clear hb6
        have hr0c := hr0.out.below hB_24.out
        have hlo := hclr _ _ hr0c
        have hhi := hr0c.take_ k hkm
        go_wp2_with fail
        refine Rel.wp_region_rel (n := 100) [Rel.is (.bool true), Rel.is (.bool true), Rel.is (.bool true), Rel.is (.bool true), Rel.is (.bool true), Rel.rd (textsL ws), Rel.is (.string (strOfNums (textsL ws))), Rel.is (.slice (some ad) m c), Rel.rd (textsL ws), Rel.is (.string (strOfNums (textsL ws))), Rel.is (.bool true), Rel.is (.bool true), Rel.is (.bool true), Rel.rd (textsL (ws.drop k)), Rel.is (.string (strOfNums (textsL (ws.drop k)))), Rel.is (.slice (some ad) m c), Rel.is (.int .i64 k), Rel.is (.slice BL (m - k) (c - k)), Rel.rd (textsL (ws.drop k)), Rel.is (.string (strOfNums (textsL (ws.drop k)))), Rel.is (.bool true), Rel.is (.bool true), Rel.is (.bool true), Rel.rd (textsL (ws.take k)), Rel.is (.string (strOfNums (textsL (ws.take k)))), Rel.is (.slice (some ad) m c), Rel.is (.int .i64 k), Rel.is (.slice (some ad) k c), Rel.rd (textsL (ws.take k)), Rel.is (.string (strOfNums (textsL (ws.take k)))), Rel.is (.bool true), Rel.is (.bool true), Rel.is (.bool true)] (by kernel_rfl) (by rfl) (by kernel_rfl) ?_ ?_
        · refine Rel.steps_cons (Rel.step_wasB (n := 100) (t := 5) rfl (.inl rfl) (.inl rfl) rfl (by kernel_rfl) rfl) ?_
          refine Rel.steps_cons (Rel.step_passB (n := 100) (j := 0) (t := 68) rfl (.inl rfl) (.inl rfl) rfl rfl rfl rfl) ?_
          refine Rel.steps_cons (Rel.step_wasB (n := 100) (t := 14) rfl (.inr ⟨1, 69, true, rfl, rfl, rfl, by decide, rfl⟩) (.inl rfl) rfl (by kernel_rfl) rfl) ?_
          refine Rel.steps_cons (Rel.step_run2 (n := 100) (j := 1) (t := 69) (j2 := 2) (t2 := 70) rfl (.inl rfl) rfl rfl rfl rfl rfl rfl (fun ρ w' _ h1 h2 hk => by simp [execOp, h1, h2, hk, asBool]) rfl) ?_
          refine Rel.steps_cons (Rel.step_passB (n := 100) (j := 3) (t := 71) rfl (.inl rfl) (.inl rfl) rfl rfl rfl rfl) ?_
          refine Rel.steps_cons (Rel.step_rdB (n := 100) (t := 9) (A := A3) (m := n3) (c := c3) rfl (.inr ⟨4, 72, true, rfl, rfl, rfl, by decide, rfl⟩) rfl rfl (by kernel_rfl) hr8_24.out rfl) ?_
          refine Rel.steps_cons (Rel.step_strB (n := 100) (j := 5) (t := 73) rfl (.inr ⟨4, 72, true, rfl, rfl, rfl, by decide, rfl⟩) rfl Tryz.underlying29 Tryz.underlying5 Tryz.underlying9 rfl rfl rfl rfl) ?_
          refine Rel.steps_cons (Rel.step_wasB (n := 100) (t := 0) rfl (.inr ⟨4, 72, true, rfl, rfl, rfl, by decide, rfl⟩) (.inl rfl) rfl (by kernel_rfl) rfl) ?_
          refine Rel.steps_cons (Rel.step_callB (n := 100) rfl (.inr ⟨4, 72, true, rfl, rfl, rfl, by decide, rfl⟩) Tryz.func13 (by kernel_rfl) rfl #[.slice (some ad) m c] rfl (fun b w D => by simp only [List.map_toArray, List.map_cons, List.map_nil, show b.eval (.tmp 75) = .slice (some ad) m c from D.is 7 75 rfl rfl rfl]) (fun w' hb' => YTexts_rd _ m c ws w' (hr0c.below hb') hnl.out hmc hsz.out (by omega))) ?_
          refine Rel.steps_cons (Rel.step_strB (n := 100) (j := 8) (t := 76) rfl (.inr ⟨4, 72, true, rfl, rfl, rfl, by decide, rfl⟩) rfl Tryz.underlying29 Tryz.underlying5 Tryz.underlying9 rfl rfl rfl rfl) ?_
          refine Rel.steps_cons (Rel.step_texts (n := 100) (j := 6) (t := 74) (j2 := 9) (t2 := 77) rfl (.inr ⟨4, 72, true, rfl, rfl, rfl, by decide, rfl⟩) rfl Tryz.underlying9 rfl rfl rfl rfl rfl rfl (.inl ⟨rfl, (decide_eq_true rfl).symm⟩) rfl) ?_
          refine Rel.steps_cons (Rel.step_run2 (n := 100) (j := 4) (t := 72) (j2 := 10) (t2 := 78) rfl (.inl rfl) rfl rfl rfl rfl rfl rfl (fun ρ w' _ h1 h2 hk => by simp [execOp, h1, h2, hk, asBool]) rfl) ?_
          refine Rel.steps_cons (Rel.step_passB (n := 100) (j := 11) (t := 79) rfl (.inl rfl) (.inl rfl) rfl rfl rfl rfl) ?_
          refine Rel.steps_cons (Rel.step_rdB (n := 100) (t := 11) (A := Ar9) (m := nr9) (c := cr9) rfl (.inr ⟨12, 80, true, rfl, rfl, rfl, by decide, rfl⟩) rfl rfl (by kernel_rfl) hr9_24.out rfl) ?_
          refine Rel.steps_cons (Rel.step_strB (n := 100) (j := 13) (t := 81) rfl (.inr ⟨12, 80, true, rfl, rfl, rfl, by decide, rfl⟩) rfl Tryz.underlying29 Tryz.underlying5 Tryz.underlying9 rfl rfl rfl rfl) ?_
          refine Rel.steps_cons (Rel.step_wasB (n := 100) (t := 0) rfl (.inr ⟨12, 80, true, rfl, rfl, rfl, by decide, rfl⟩) (.inl rfl) rfl (by kernel_rfl) rfl) ?_
          refine Rel.steps_cons (Rel.step_wasB (n := 100) (t := 7) rfl (.inr ⟨12, 80, true, rfl, rfl, rfl, by decide, rfl⟩) (.inl rfl) rfl (by kernel_rfl) rfl) ?_
          refine Rel.steps_cons (Rel.step_valB (n := 100) rfl (.inr ⟨12, 80, true, rfl, rfl, rfl, by decide, rfl⟩) (fun b' w' D => ⟨_, run_cutL rfl (D.is 15 83 rfl rfl rfl) (D.is 16 84 rfl rfl rfl) (hcl w'), rfl⟩)) ?_
          refine Rel.steps_cons (Rel.step_callB (n := 100) rfl (.inr ⟨12, 80, true, rfl, rfl, rfl, by decide, rfl⟩) Tryz.func13 (by kernel_rfl) rfl #[.slice BL (m - k) (c - k)] rfl (fun b w D => by simp only [List.map_toArray, List.map_cons, List.map_nil, show b.eval (.tmp 85) = .slice BL (m - k) (c - k) from D.is 17 85 rfl rfl rfl]) (fun w' hb' => YTexts_rd BL (m - k) (c - k) (ws.drop k) w' (hlo.below hb') (by rw [List.length_drop, hnl.out]) (Nat.sub_le_sub_right hmc _) hdk (by omega))) ?_
          refine Rel.steps_cons (Rel.step_strB (n := 100) (j := 18) (t := 86) rfl (.inr ⟨12, 80, true, rfl, rfl, rfl, by decide, rfl⟩) rfl Tryz.underlying29 Tryz.underlying5 Tryz.underlying9 rfl rfl rfl rfl) ?_
          refine Rel.steps_cons (Rel.step_texts (n := 100) (j := 14) (t := 82) (j2 := 19) (t2 := 87) rfl (.inr ⟨12, 80, true, rfl, rfl, rfl, by decide, rfl⟩) rfl Tryz.underlying9 rfl rfl rfl rfl rfl rfl (.inl ⟨rfl, (decide_eq_true rfl).symm⟩) rfl) ?_
          refine Rel.steps_cons (Rel.step_run2 (n := 100) (j := 12) (t := 80) (j2 := 20) (t2 := 88) rfl (.inl rfl) rfl rfl rfl rfl rfl rfl (fun ρ w' _ h1 h2 hk => by simp [execOp, h1, h2, hk, asBool]) rfl) ?_
          refine Rel.steps_cons (Rel.step_passB (n := 100) (j := 21) (t := 89) rfl (.inl rfl) (.inl rfl) rfl rfl rfl rfl) ?_
          refine Rel.steps_cons (Rel.step_rdB (n := 100) (t := 13) (A := Ar10) (m := nr10) (c := cr10) rfl (.inr ⟨22, 90, true, rfl, rfl, rfl, by decide, rfl⟩) rfl rfl (by kernel_rfl) hr13_24.out rfl) ?_
          refine Rel.steps_cons (Rel.step_strB (n := 100) (j := 23) (t := 91) rfl (.inr ⟨22, 90, true, rfl, rfl, rfl, by decide, rfl⟩) rfl Tryz.underlying29 Tryz.underlying5 Tryz.underlying9 rfl rfl rfl rfl) ?_
          refine Rel.steps_cons (Rel.step_wasB (n := 100) (t := 0) rfl (.inr ⟨22, 90, true, rfl, rfl, rfl, by decide, rfl⟩) (.inl rfl) rfl (by kernel_rfl) rfl) ?_
          refine Rel.steps_cons (Rel.step_wasB (n := 100) (t := 7) rfl (.inr ⟨22, 90, true, rfl, rfl, rfl, by decide, rfl⟩) (.inl rfl) rfl (by kernel_rfl) rfl) ?_
          refine Rel.steps_cons (Rel.step_valB (n := 100) rfl (.inr ⟨22, 90, true, rfl, rfl, rfl, by decide, rfl⟩) (fun b' w' D => ⟨_, run_cutH rfl (D.is 25 93 rfl rfl rfl) (D.is 26 94 rfl rfl rfl) (hch w'), rfl⟩)) ?_
          refine Rel.steps_cons (Rel.step_callB (n := 100) rfl (.inr ⟨22, 90, true, rfl, rfl, rfl, by decide, rfl⟩) Tryz.func13 (by kernel_rfl) rfl #[.slice (some ad) k c] rfl (fun b w D => by simp only [List.map_toArray, List.map_cons, List.map_nil, show b.eval (.tmp 95) = .slice (some ad) k c from D.is 27 95 rfl rfl rfl]) (fun w' hb' => YTexts_rd _ k c (ws.take k) w' (hhi.below hb') (by rw [List.length_take, hnl.out]; omega) (Nat.le_trans hkm hmc) htk (by omega))) ?_
          refine Rel.steps_cons (Rel.step_strB (n := 100) (j := 28) (t := 96) rfl (.inr ⟨22, 90, true, rfl, rfl, rfl, by decide, rfl⟩) rfl Tryz.underlying29 Tryz.underlying5 Tryz.underlying9 rfl rfl rfl rfl) ?_
          refine Rel.steps_cons (Rel.step_texts (n := 100) (j := 24) (t := 92) (j2 := 29) (t2 := 97) rfl (.inr ⟨22, 90, true, rfl, rfl, rfl, by decide, rfl⟩) rfl Tryz.underlying9 rfl rfl rfl rfl rfl rfl (.inl ⟨rfl, (decide_eq_true rfl).symm⟩) rfl) ?_
          refine Rel.steps_cons (Rel.step_run2 (n := 100) (j := 22) (t := 90) (j2 := 30) (t2 := 98) rfl (.inl rfl) rfl rfl rfl rfl rfl rfl (fun ρ w' _ h1 h2 hk => by simp [execOp, h1, h2, hk, asBool]) rfl) ?_
          refine Rel.steps_cons (Rel.step_passB (n := 100) (j := 31) (t := 99) rfl (.inl rfl) (.inr rfl) rfl rfl rfl rfl) ?_
          exact trivial
        intro v9 wz hv9 hbz
        have ez : v9 32 = .bool true := hv9 32 (by decide)
        have hBz := veil (two_below hB_24.out hbz)
        simp only [Rel.fill, Act.put, List.setIfInBounds_toArray, List.set_cons_zero, List.set_cons_succ]
        rw [ez]
        clear hbz hv9 ez
        go_wp2_with fail
        go_ret
        exact ⟨rfl, hBz.out⟩
theorem ranges_walk (A : Option Addr) (cap : Nat) (l : List ByteArray) (x : Int) (W : World) (hr : Kd.C Kd.string W A l.length l) (hc : l.length ≤ cap) (hs : (l.map (·.size)).sum + l.length ≤ 1048576) (hx : (Lit.int .u8 x).wf = true) (hT : Tabs W) :
    Calls Tryz.prog 4 #[.slice A l.length cap, .int .u8 x] W fun e w' => e = .returned (.bool true) ∧ Below W.heap.size W w' :=
  ranges_any A cap l x W (Kd.reads_of_C (enc := Value.string) (d := ByteArray.empty) (h1 := fun _ => rfl) hr) hc (wfu8 hx) (by show (l.map (·.size)).sum ≤ _; omega) hT
end Go.Proofs.Tryz.Ln
