import Derived.Test.YtmfjpdhhcgkjaaaGreatDoorLawU
/- The law of what is got back. -/
namespace Go.Proofs.Tryz.Ln
open Go Go.RowKit Go.Proofs.Mem Go.Proofs.App
open Go.Proofs.YtmfjpdhhcgkjaaaGreatDoorW.PrintWords Go.Proofs.YtmfjpdhhcgkjaaaGreatDoorW.PrintMore
attribute [local go_sem] min2_sym min_two   -- for this text's walks alone
set_option linter.unusedVariables false
set_option linter.unusedSimpArgs false
set_option maxRecDepth 100000 in
set_option maxHeartbeats 16000000 in
theorem back_any (s0 s1 : ByteArray) (k : Int) (w : World) (hk : Int64 k) (hT : Tabs w) :
    Calls Tryz.prog 4 #[.agg #[.string s0, .string s1], .int .i64 k] w fun e w' => e = .returned (.bool true) ∧ Below w.heap.size w w' := by
  have hT' := veil hT
  have hb0 := veil (below_alloc (Below.refl w.heap.size w) (.cells #[.string s0, .string s1] 36))
  have hbx := veil (heap_alloc_last w (.cells #[.string s0, .string s1] 36))
  clear hT
  go_enter Tryz.func4, Tryz.ntmps4
  go_wp2_with fail
  refine (shown11_any _ (tabs_below hT'.out hb0.out)).mono ?_
  rintro e w1 ⟨rfl, hb1⟩
  have hs1 := hb1.size
  have hB_0 := veil (two_below hb0.out hb1)
  have hx1 := veil ((hb1.block w.heap.size (by simp)).trans hbx.out)
  have g0 : w1.cell? ⟨w.heap.size, 0, none⟩ = some (.string s0) := by rw [cell_of_row _ _ _ _ _ _ hx1.out]; rfl
  have g1 : w1.cell? ⟨w.heap.size, 1, none⟩ = some (.string s1) := by rw [cell_of_row _ _ _ _ _ _ hx1.out]; rfl
  obtain ⟨m0, m1, m2⟩ := mn_le (x := s0.size) (y := 40) (by omega) (by omega)
  obtain ⟨n0, n1, n2⟩ := mn_le (x := s1.size) (y := 40) (by omega) (by omega)
  have hza := cutM_size s0 40 (by omega)
  have hzb := cutM_size s1 40 (by omega)
  unfold cutM at hza hzb
  have hwb : w.heap.size ≤ w1.heap.size := by simp at hs1; omega
  have hzk := numS_size k hk.1 hk.2
  clear hb1 hb0 hbx hx1
  go_wp2_with fail
  obtain ⟨sa, ha⟩ : ∃ a, s0.extract 0 (mn (↑s0.size) 40).toNat = a := ⟨_, rfl⟩
  obtain ⟨sb, hb⟩ : ∃ b, s1.extract 0 (mn (↑s1.size) 40).toNat = b := ⟨_, rfl⟩
  rw [ha] at hza ⊢
  rw [hb] at hzb ⊢
  clear ha hb m0 m1 m2 n0 n1 n2 g0 g1
  have hab : (sa ++ sb).size = sa.size + sb.size := ByteArray.size_append
  have habs : sa.size + sb.size ≤ 9223372036854775807 := by omega
  have habw : Int64 ((sa.size : Int) + (sb.size : Int)) := by unfold Int64; omega
  have hzab := numS_size ((sa ++ sb).size : Int) (by omega) (by omega)
  obtain ⟨c1, hc1⟩ : ∃ c1 : World, c1 = w1.alloc (.cells #[.string ⟨#[97, 112, 112, 101, 110, 100]⟩, .string ⟨#[107]⟩, .string sa] 9) := ⟨_, rfl⟩
  have hT1 := newT #[.string ⟨#[97, 112, 112, 101, 110, 100]⟩, .string ⟨#[107]⟩, .string sa] w1
  rw [← hc1] at hT1 ⊢
  have hs1 := hT1.sz
  have hB_2 := veil (two_below hB_0.out (hT1.bel))
  clear hc1 hB_0
  have h3 := do_append 0 ⟨#[]⟩ ⟨#[97, 112, 112, 101, 110, 100]⟩ sa nl nl nl ⟨w1.heap.size, 0, none⟩ 3 3 c1 (.inl rfl) (by decide) (by decide) low_append' (by decide) (by decide) (by rw [cell_of_row _ _ _ _ _ _ hT1.cell]; rfl) (by omega) (by show c1.cell? ⟨w1.heap.size, 2, none⟩ = _; rw [cell_of_row _ _ _ _ _ _ hT1.cell]; rfl) (by simp [vS, Value.oneCell']) (tabs_below hT'.out hB_2.out)
  rw [show (⟨#[]⟩ : ByteArray) ++ sa = sa from ByteArray.empty_append] at h3
  refine h3.mono ?_
  rintro e a3 ⟨A3, n3, c3, rfl, hf3, hb3⟩
  have hs3 := hb3.size
  have hB_4 := veil (two_below hB_2.out (hb3))
  have hq3 := hf3.len
  clear h3 hb3 hT1 hB_2
  clear hf3 hq3
  have hN := newV (tS sa) a3
  have hg := hN.cell
  clear hN
  go_wp2_with (first | (refine wpList_store_row rfl 26 _ _ rfl a3.heap.size (tS sa) rfl rfl 26 zS (heap_alloc_last a3 _) (by kernel_rfl) rfl (tS_one sa) ?_) | (refine wpList_load_row rfl 26 _ rfl a3.heap.size rfl 26 (tS sa) (0, 0) _ hg Tryz.underlying26 rfl (by kernel_rfl) ?_))
  clear hg
  obtain ⟨b5, hb5⟩ : ∃ b5 : World, b5 = (a3.alloc (.cells #[.int .u8 0, .string ⟨#[]⟩, .slice none 0 0, .slice none 0 0, .slice none 0 0] 26)).setRow a3.heap.size (tS sa) := ⟨_, rfl⟩
  have hN5 := newV (tS sa) a3
  rw [← hb5] at hN5 ⊢
  have hs5 := hN5.sz
  have hB_6 := veil (two_below hB_4.out (hN5.bel))
  have fv_5 := veil hN5.cell
  clear hb5 hN5 hB_4
  obtain ⟨c7, hc7⟩ : ∃ c7 : World, c7 = b5.alloc (.cells #[.string ⟨#[97, 112, 112, 101, 110, 100]⟩, .string ⟨#[107]⟩, .string sb] 9) := ⟨_, rfl⟩
  have hT7 := newT #[.string ⟨#[97, 112, 112, 101, 110, 100]⟩, .string ⟨#[107]⟩, .string sb] b5
  rw [← hc7] at hT7 ⊢
  have hs7 := hT7.sz
  have hB_8 := veil (two_below hB_6.out (hT7.bel))
  have fv_8 := veil (((hT7.bel).block _ (by omega)).trans fv_5.out)
  clear hc7 hB_6 fv_5
  have h9 := do_append 1 sa ⟨#[97, 112, 112, 101, 110, 100]⟩ sb nl nl nl ⟨b5.heap.size, 0, none⟩ 3 3 c7 (.inr rfl) (by omega) (by decide) low_append' (by decide) (by decide) (by rw [cell_of_row _ _ _ _ _ _ hT7.cell]; rfl) (by omega) (by show c7.cell? ⟨b5.heap.size, 2, none⟩ = _; rw [cell_of_row _ _ _ _ _ _ hT7.cell]; rfl) (by simp [vS, Value.oneCell']) (tabs_below hT'.out hB_8.out)
  rw [hs5] at h9
  refine h9.mono ?_
  rintro e a9 ⟨A9, n9, c9, rfl, hf9, hb9⟩
  have hs9 := hb9.size
  have hB_10 := veil (two_below hB_8.out (hb9))
  have fv_10 := veil (((hb9).block _ (by omega)).trans fv_8.out)
  have hq9 := hf9.len
  clear h9 hb9 hT7 hB_8 fv_8
  have hfr := reads_set (v := tS (sa ++ sb)) hf9 (g := a3.heap.size) (by omega) (by rw [← hq9, line_len]; have := numS_size ((sa ++ sb).size : Int) (by omega) (by omega); omega)
  have hg := setRow_heap a9 a3.heap.size (tS sa) (tS (sa ++ sb)) 26 (0, 0) fv_10.out
  go_wp2_with (first | (refine wpList_store_row rfl 26 _ _ rfl a3.heap.size (tS (sa ++ sb)) rfl rfl 26 (tS sa) fv_10.out (by kernel_rfl) rfl (tS_one _) ?_) | (refine wpList_load_row rfl 26 _ rfl a3.heap.size rfl 26 (tS (sa ++ sb)) (0, 0) _ hg Tryz.underlying26 rfl (by kernel_rfl) ?_))
  obtain ⟨b11, hb11⟩ : ∃ b11 : World, b11 = a9.setRow (a3.heap.size) (tS (sa ++ sb)) := ⟨_, rfl⟩
  rw [← hb11] at hfr hg ⊢
  have hs11 : b11.heap.size = a9.heap.size := by rw [hb11]; simp [World.setRow]
  have hB_11 : Veil (Below w.heap.size w b11) := veil (by rw [hb11]; exact below_set hB_10.out _ (by omega) _)
  have fv_11 := veil hg
  have fr_11 := veil hfr
  clear hb11 hg hfr hf9 hB_10 fv_10
  obtain ⟨c12, hc12⟩ : ∃ c12 : World, c12 = b11.alloc (.cells #[.string ⟨#[103, 101, 116]⟩, .string ⟨#[107]⟩] 9) := ⟨_, rfl⟩
  have hT12 := newT #[.string ⟨#[103, 101, 116]⟩, .string ⟨#[107]⟩] b11
  rw [← hc12] at hT12 ⊢
  have hs12 := hT12.sz
  have hB_13 := veil (two_below hB_11.out (hT12.bel))
  have fv_13 := veil (((hT12.bel).block _ (by omega)).trans fv_11.out)
  have fr_13 := veil (fr_11.out.below (hT12.bel))
  clear hc12 hB_11 fv_11 fr_11
  have h14 := do_get 1 (sa ++ sb) ⟨#[103, 101, 116]⟩ nl nl nl ⟨b11.heap.size, 0, none⟩ 2 2 c12 (.inr rfl) (by omega) (by decide) low_get (by decide) (by decide) (by rw [cell_of_row _ _ _ _ _ _ hT12.cell]; rfl) (by simp [vS, Value.oneCell']) (tabs_below hT'.out hB_13.out)
  rw [hs11] at h14
  rw [show gotL 1 (sa ++ sb) = bulkL (sa ++ sb) from rfl] at h14
  refine h14.mono ?_
  rintro e a14 ⟨A14, n14, c14, rfl, hf14, hb14⟩
  have hs14 := hb14.size
  have hB_15 := veil (two_below hB_13.out (hb14))
  have fv_15 := veil (((hb14).block _ (by omega)).trans fv_13.out)
  have fr_15 := veil (fr_13.out.below (hb14))
  have hq14 := hf14.len
  clear h14 hb14 hT12 hB_13 fv_13 fr_13
  have fgot_14 := veil (hf14.reads (by rw [← hq14]; have h1 := bulkL_len (sa ++ sb) (by omega); omega))
  clear hf14
  have hN := newV (vS 1 (sa ++ sb) nl nl nl) a14
  have hg0 := (hN.bel.block _ (by omega)).trans fv_15.out
  clear hN
  go_wp2_with (first | (refine wpList_store_row rfl 26 _ _ rfl a14.heap.size (vS 1 (sa ++ sb) nl nl nl) rfl rfl 26 zS (heap_alloc_last a14 _) (by kernel_rfl) rfl (by simp [vS, tS, zS, Value.oneCell']) ?_) | (refine wpList_load_row rfl 26 _ rfl a3.heap.size rfl 26 (tS (sa ++ sb)) (0, 0) _ hg0 Tryz.underlying26 rfl (by kernel_rfl) ?_))
  clear hg0
  obtain ⟨b16, hb16⟩ : ∃ b16 : World, b16 = (a14.alloc (.cells #[.int .u8 0, .string ⟨#[]⟩, .slice none 0 0, .slice none 0 0, .slice none 0 0] 26)).setRow a14.heap.size (vS 1 (sa ++ sb) nl nl nl) := ⟨_, rfl⟩
  have hN16 := newV (vS 1 (sa ++ sb) nl nl nl) a14
  rw [← hb16] at hN16 ⊢
  have hs16 := hN16.sz
  have hB_17 := veil (two_below hB_15.out (hN16.bel))
  have fv_17 := veil (((hN16.bel).block _ (by omega)).trans fv_15.out)
  have fr_17 := veil (fr_15.out.below (hN16.bel))
  have fgot_17 := veil (fgot_14.out.below (hN16.bel))
  have fx11_16 := veil hN16.cell
  clear hb16 hN16 hB_15 fv_15 fr_15 fgot_14
  obtain ⟨c18, hc18⟩ : ∃ c18 : World, c18 = b16.alloc (.cells #[.string ⟨#[115, 116, 114, 108, 101, 110]⟩, .string ⟨#[107]⟩] 9) := ⟨_, rfl⟩
  have hT18 := newT #[.string ⟨#[115, 116, 114, 108, 101, 110]⟩, .string ⟨#[107]⟩] b16
  rw [← hc18] at hT18 ⊢
  have hs18 := hT18.sz
  have hB_19 := veil (two_below hB_17.out (hT18.bel))
  have fv_19 := veil (((hT18.bel).block _ (by omega)).trans fv_17.out)
  have fx11_19 := veil (((hT18.bel).block _ (by omega)).trans fx11_16.out)
  have fr_19 := veil (fr_17.out.below (hT18.bel))
  have fgot_19 := veil (fgot_17.out.below (hT18.bel))
  clear hc18 hB_17 fv_17 fx11_16 fr_17 fgot_17
  have h20 := do_strlen 1 (sa ++ sb) ⟨#[115, 116, 114, 108, 101, 110]⟩ nl nl nl ⟨b16.heap.size, 0, none⟩ 2 2 c18 (.inr rfl) (by omega) (by decide) low_strlen (by decide) (by decide) (by rw [cell_of_row _ _ _ _ _ _ hT18.cell]; rfl) (by simp [vS, Value.oneCell']) (tabs_below hT'.out hB_19.out)
  rw [hs16] at h20
  refine h20.mono ?_
  rintro e a20 ⟨A20, n20, c20, rfl, hf20, hb20⟩
  have hs20 := hb20.size
  have hB_21 := veil (two_below hB_19.out (hb20))
  have fv_21 := veil (((hb20).block _ (by omega)).trans fv_19.out)
  have fx11_21 := veil (((hb20).block _ (by omega)).trans fx11_19.out)
  have fr_21 := veil (fr_19.out.below (hb20))
  have fgot_21 := veil (fgot_19.out.below (hb20))
  have hq20 := hf20.len
  clear h20 hb20 hT18 hB_19 fv_19 fx11_19 fr_19 fgot_19
  have fsize_20 := veil (hf20.reads (by rw [← hq20]; rw [line_len]; have := numS_size ((sa ++ sb).size : Int) (by omega) (by omega); omega))
  clear hf20
  have hN := newV (vS 1 (sa ++ sb) nl nl nl) a20
  have hg0 := (hN.bel.block _ (by omega)).trans fv_21.out
  clear hN
  go_wp2_with (first | (refine wpList_store_row rfl 26 _ _ rfl a20.heap.size (vS 1 (sa ++ sb) nl nl nl) rfl rfl 26 zS (heap_alloc_last a20 _) (by kernel_rfl) rfl (by simp [vS, tS, zS, Value.oneCell']) ?_) | (refine wpList_load_row rfl 26 _ rfl a3.heap.size rfl 26 (tS (sa ++ sb)) (0, 0) _ hg0 Tryz.underlying26 rfl (by kernel_rfl) ?_))
  clear hg0
  obtain ⟨b22, hb22⟩ : ∃ b22 : World, b22 = (a20.alloc (.cells #[.int .u8 0, .string ⟨#[]⟩, .slice none 0 0, .slice none 0 0, .slice none 0 0] 26)).setRow a20.heap.size (vS 1 (sa ++ sb) nl nl nl) := ⟨_, rfl⟩
  have hN22 := newV (vS 1 (sa ++ sb) nl nl nl) a20
  rw [← hb22] at hN22 ⊢
  have hs22 := hN22.sz
  have hB_23 := veil (two_below hB_21.out (hN22.bel))
  have fv_23 := veil (((hN22.bel).block _ (by omega)).trans fv_21.out)
  have fx11_23 := veil (((hN22.bel).block _ (by omega)).trans fx11_21.out)
  have fr_23 := veil (fr_21.out.below (hN22.bel))
  have fgot_23 := veil (fgot_21.out.below (hN22.bel))
  have fsize_23 := veil (fsize_20.out.below (hN22.bel))
  have fx13_22 := veil hN22.cell
  clear hb22 hN22 hB_21 fv_21 fx11_21 fr_21 fgot_21 fsize_20
  obtain ⟨c24, hc24⟩ : ∃ c24 : World, c24 = b22.alloc (.cells #[.string ⟨#[103, 101, 116, 100, 101, 108]⟩, .string ⟨#[107]⟩] 9) := ⟨_, rfl⟩
  have hT24 := newT #[.string ⟨#[103, 101, 116, 100, 101, 108]⟩, .string ⟨#[107]⟩] b22
  rw [← hc24] at hT24 ⊢
  have hs24 := hT24.sz
  have hB_25 := veil (two_below hB_23.out (hT24.bel))
  have fv_25 := veil (((hT24.bel).block _ (by omega)).trans fv_23.out)
  have fx11_25 := veil (((hT24.bel).block _ (by omega)).trans fx11_23.out)
  have fx13_25 := veil (((hT24.bel).block _ (by omega)).trans fx13_22.out)
  have fr_25 := veil (fr_23.out.below (hT24.bel))
  have fgot_25 := veil (fgot_23.out.below (hT24.bel))
  have fsize_25 := veil (fsize_23.out.below (hT24.bel))
  clear hc24 hB_23 fv_23 fx11_23 fx13_22 fr_23 fgot_23 fsize_23
  have h26 := do_getdel 1 (sa ++ sb) ⟨#[103, 101, 116, 100, 101, 108]⟩ nl nl nl ⟨b22.heap.size, 0, none⟩ 2 2 c24 (.inr rfl) (by omega) (by decide) low_getdel (by decide) (by decide) (by rw [cell_of_row _ _ _ _ _ _ hT24.cell]; rfl) (by simp [vS, Value.oneCell']) (tabs_below hT'.out hB_25.out)
  rw [hs22] at h26
  rw [show gotL 1 (sa ++ sb) = bulkL (sa ++ sb) from rfl] at h26
  refine h26.mono ?_
  rintro e a26 ⟨A26, n26, c26, rfl, hf26, hb26⟩
  have hs26 := hb26.size
  have hB_27 := veil (two_below hB_25.out (hb26))
  have fv_27 := veil (((hb26).block _ (by omega)).trans fv_25.out)
  have fx11_27 := veil (((hb26).block _ (by omega)).trans fx11_25.out)
  have fx13_27 := veil (((hb26).block _ (by omega)).trans fx13_25.out)
  have fr_27 := veil (fr_25.out.below (hb26))
  have fgot_27 := veil (fgot_25.out.below (hb26))
  have fsize_27 := veil (fsize_25.out.below (hb26))
  have hq26 := hf26.len
  clear h26 hb26 hT24 hB_25 fv_25 fx11_25 fx13_25 fr_25 fgot_25 fsize_25
  have flast_26 := veil (hf26.reads (by rw [← hq26]; have h1 := bulkL_len (sa ++ sb) (by omega); omega))
  clear hf26
  have hN := newV (zS) a26
  have hg0 := hN.cell
  clear hN
  go_wp2_with (first | (refine wpList_store_row rfl 26 _ _ rfl a26.heap.size (zS) rfl rfl 26 zS (heap_alloc_last a26 _) (by kernel_rfl) rfl zS_one ?_) | (refine wpList_load_row rfl 26 _ rfl a26.heap.size rfl 26 (zS) (0, 0) _ hg0 Tryz.underlying26 rfl (by kernel_rfl) ?_))
  clear hg0
  obtain ⟨b28, hb28⟩ : ∃ b28 : World, b28 = (a26.alloc (.cells #[.int .u8 0, .string ⟨#[]⟩, .slice none 0 0, .slice none 0 0, .slice none 0 0] 26)).setRow a26.heap.size (zS) := ⟨_, rfl⟩
  have hN28 := newV (zS) a26
  rw [← hb28] at hN28 ⊢
  have hs28 := hN28.sz
  have hB_29 := veil (two_below hB_27.out (hN28.bel))
  have fv_29 := veil (((hN28.bel).block _ (by omega)).trans fv_27.out)
  have fx11_29 := veil (((hN28.bel).block _ (by omega)).trans fx11_27.out)
  have fx13_29 := veil (((hN28.bel).block _ (by omega)).trans fx13_27.out)
  have fr_29 := veil (fr_27.out.below (hN28.bel))
  have fgot_29 := veil (fgot_27.out.below (hN28.bel))
  have fsize_29 := veil (fsize_27.out.below (hN28.bel))
  have flast_29 := veil (flast_26.out.below (hN28.bel))
  have fnone_28 := veil hN28.cell
  clear hb28 hN28 hB_27 fv_27 fx11_27 fx13_27 fr_27 fgot_27 fsize_27 flast_26
  obtain ⟨c30, hc30⟩ : ∃ c30 : World, c30 = b28.alloc (.cells #[.string ⟨#[103, 101, 116]⟩, .string ⟨#[107]⟩] 9) := ⟨_, rfl⟩
  have hT30 := newT #[.string ⟨#[103, 101, 116]⟩, .string ⟨#[107]⟩] b28
  rw [← hc30] at hT30 ⊢
  have hs30 := hT30.sz
  have hB_31 := veil (two_below hB_29.out (hT30.bel))
  have fv_31 := veil (((hT30.bel).block _ (by omega)).trans fv_29.out)
  have fx11_31 := veil (((hT30.bel).block _ (by omega)).trans fx11_29.out)
  have fx13_31 := veil (((hT30.bel).block _ (by omega)).trans fx13_29.out)
  have fnone_31 := veil (((hT30.bel).block _ (by omega)).trans fnone_28.out)
  have fr_31 := veil (fr_29.out.below (hT30.bel))
  have fgot_31 := veil (fgot_29.out.below (hT30.bel))
  have fsize_31 := veil (fsize_29.out.below (hT30.bel))
  have flast_31 := veil (flast_29.out.below (hT30.bel))
  clear hc30 hB_29 fv_29 fx11_29 fx13_29 fnone_28 fr_29 fgot_29 fsize_29 flast_29
  have h32 := do_get 0 ⟨#[]⟩ ⟨#[103, 101, 116]⟩ nl nl nl ⟨b28.heap.size, 0, none⟩ 2 2 c30 (.inl rfl) (by decide) (by decide) low_get (by decide) (by decide) (by rw [cell_of_row _ _ _ _ _ _ hT30.cell]; rfl) (by simp [vS, Value.oneCell']) (tabs_below hT'.out hB_31.out)
  rw [hs28] at h32
  rw [show gotL 0 ⟨#[]⟩ = lineL ⟨#[36]⟩ ⟨#[45, 49]⟩ from rfl] at h32
  refine h32.mono ?_
  rintro e a32 ⟨A32, n32, c32, rfl, hf32, hb32⟩
  have hs32 := hb32.size
  have hB_33 := veil (two_below hB_31.out (hb32))
  have fv_33 := veil (((hb32).block _ (by omega)).trans fv_31.out)
  have fx11_33 := veil (((hb32).block _ (by omega)).trans fx11_31.out)
  have fx13_33 := veil (((hb32).block _ (by omega)).trans fx13_31.out)
  have fnone_33 := veil (((hb32).block _ (by omega)).trans fnone_31.out)
  have fr_33 := veil (fr_31.out.below (hb32))
  have fgot_33 := veil (fgot_31.out.below (hb32))
  have fsize_33 := veil (fsize_31.out.below (hb32))
  have flast_33 := veil (flast_31.out.below (hb32))
  have hq32 := hf32.len
  clear h32 hb32 hT30 hB_31 fv_31 fx11_31 fx13_31 fnone_31 fr_31 fgot_31 fsize_31 flast_31
  have fgone_32 := veil (hf32.reads (by rw [← hq32]; decide))
  clear hf32
  have hN := newV (vS 0 ⟨#[]⟩ nl nl nl) a32
  clear hN
  go_wp2_with (first | (refine wpList_store_row rfl 26 _ _ rfl a32.heap.size (vS 0 ⟨#[]⟩ nl nl nl) rfl rfl 26 zS (heap_alloc_last a32 _) (by kernel_rfl) rfl (by simp [vS, tS, zS, Value.oneCell']) ?_))
  obtain ⟨b34, hb34⟩ : ∃ b34 : World, b34 = (a32.alloc (.cells #[.int .u8 0, .string ⟨#[]⟩, .slice none 0 0, .slice none 0 0, .slice none 0 0] 26)).setRow a32.heap.size (vS 0 ⟨#[]⟩ nl nl nl) := ⟨_, rfl⟩
  have hN34 := newV (vS 0 ⟨#[]⟩ nl nl nl) a32
  rw [← hb34] at hN34 ⊢
  have hs34 := hN34.sz
  have hB_35 := veil (two_below hB_33.out (hN34.bel))
  have fv_35 := veil (((hN34.bel).block _ (by omega)).trans fv_33.out)
  have fx11_35 := veil (((hN34.bel).block _ (by omega)).trans fx11_33.out)
  have fx13_35 := veil (((hN34.bel).block _ (by omega)).trans fx13_33.out)
  have fnone_35 := veil (((hN34.bel).block _ (by omega)).trans fnone_33.out)
  have fr_35 := veil (fr_33.out.below (hN34.bel))
  have fgot_35 := veil (fgot_33.out.below (hN34.bel))
  have fsize_35 := veil (fsize_33.out.below (hN34.bel))
  have flast_35 := veil (flast_33.out.below (hN34.bel))
  have fgone_35 := veil (fgone_32.out.below (hN34.bel))
  have fx17_34 := veil hN34.cell
  clear hb34 hN34 hB_33 fv_33 fx11_33 fx13_33 fnone_33 fr_33 fgot_33 fsize_33 flast_33 fgone_32
  refine (rtext_any k _ hk).mono ?_
  rintro e wt ⟨rfl, hbt⟩
  have hst := hbt.size
  have hB_36 := veil (two_below hB_35.out (hbt))
  have fv_36 := veil (((hbt).block _ (by omega)).trans fv_35.out)
  have fx11_36 := veil (((hbt).block _ (by omega)).trans fx11_35.out)
  have fx13_36 := veil (((hbt).block _ (by omega)).trans fx13_35.out)
  have fnone_36 := veil (((hbt).block _ (by omega)).trans fnone_35.out)
  have fx17_36 := veil (((hbt).block _ (by omega)).trans fx17_34.out)
  have fr_36 := veil (fr_35.out.below (hbt))
  have fgot_36 := veil (fgot_35.out.below (hbt))
  have fsize_36 := veil (fsize_35.out.below (hbt))
  have flast_36 := veil (flast_35.out.below (hbt))
  have fgone_36 := veil (fgone_35.out.below (hbt))
  clear hbt hB_35 fv_35 fx11_35 fx13_35 fnone_35 fx17_34 fr_35 fgot_35 fsize_35 flast_35 fgone_35
  go_wp2_with fail
  obtain ⟨c37, hc37⟩ : ∃ c37 : World, c37 = wt.alloc (.cells #[.string ⟨#[105, 110, 99, 114, 98, 121]⟩, .string ⟨#[107]⟩, .string (numS k)] 9) := ⟨_, rfl⟩
  have hT37 := newT #[.string ⟨#[105, 110, 99, 114, 98, 121]⟩, .string ⟨#[107]⟩, .string (numS k)] wt
  rw [← hc37] at hT37 ⊢
  have hs37 := hT37.sz
  have hB_38 := veil (two_below hB_36.out (hT37.bel))
  have fv_38 := veil (((hT37.bel).block _ (by omega)).trans fv_36.out)
  have fx11_38 := veil (((hT37.bel).block _ (by omega)).trans fx11_36.out)
  have fx13_38 := veil (((hT37.bel).block _ (by omega)).trans fx13_36.out)
  have fnone_38 := veil (((hT37.bel).block _ (by omega)).trans fnone_36.out)
  have fx17_38 := veil (((hT37.bel).block _ (by omega)).trans fx17_36.out)
  have fr_38 := veil (fr_36.out.below (hT37.bel))
  have fgot_38 := veil (fgot_36.out.below (hT37.bel))
  have fsize_38 := veil (fsize_36.out.below (hT37.bel))
  have flast_38 := veil (flast_36.out.below (hT37.bel))
  have fgone_38 := veil (fgone_36.out.below (hT37.bel))
  clear hc37 hB_36 fv_36 fx11_36 fx13_36 fnone_36 fx17_36 fr_36 fgot_36 fsize_36 flast_36 fgone_36
  have h39 := do_incrby 0 ⟨#[]⟩ ⟨#[105, 110, 99, 114, 98, 121]⟩ (numS k) nl nl nl ⟨wt.heap.size, 0, none⟩ 3 3 c37 (.inl rfl) (by decide) (by decide) low_incrby (by decide) (by decide) (by rw [cell_of_row _ _ _ _ _ _ hT37.cell]; rfl) (by omega) (by show c37.cell? ⟨wt.heap.size, 2, none⟩ = _; rw [cell_of_row _ _ _ _ _ _ hT37.cell]; rfl) (by simp [vS, Value.oneCell']) (tabs_below hT'.out hB_38.out)
  rw [more_new k hk] at h39
  refine h39.mono ?_
  rintro e a39 ⟨A39, n39, c39, rfl, hf39, hb39⟩
  have hs39 := hb39.size
  have hB_40 := veil (two_below hB_38.out (hb39))
  have fv_40 := veil (((hb39).block _ (by omega)).trans fv_38.out)
  have fx11_40 := veil (((hb39).block _ (by omega)).trans fx11_38.out)
  have fx13_40 := veil (((hb39).block _ (by omega)).trans fx13_38.out)
  have fnone_40 := veil (((hb39).block _ (by omega)).trans fnone_38.out)
  have fx17_40 := veil (((hb39).block _ (by omega)).trans fx17_38.out)
  have fr_40 := veil (fr_38.out.below (hb39))
  have fgot_40 := veil (fgot_38.out.below (hb39))
  have fsize_40 := veil (fsize_38.out.below (hb39))
  have flast_40 := veil (flast_38.out.below (hb39))
  have fgone_40 := veil (fgone_38.out.below (hb39))
  have hq39 := hf39.len
  clear h39 hb39 hT37 hB_38 fv_38 fx11_38 fx13_38 fnone_38 fx17_38 fr_38 fgot_38 fsize_38 flast_38 fgone_38
  have fp_39 := veil (hf39.reads (by rw [← hq39]; rw [line_len]; omega))
  clear hf39
  have hN := newV (tS (numS k)) a39
  have hg0 := hN.cell
  clear hN
  go_wp2_with (first | (refine wpList_store_row rfl 26 _ _ rfl a39.heap.size (tS (numS k)) rfl rfl 26 zS (heap_alloc_last a39 _) (by kernel_rfl) rfl (tS_one _) ?_) | (refine wpList_load_row rfl 26 _ rfl a39.heap.size rfl 26 (tS (numS k)) (0, 0) _ hg0 Tryz.underlying26 rfl (by kernel_rfl) ?_))
  clear hg0
  obtain ⟨b41, hb41⟩ : ∃ b41 : World, b41 = (a39.alloc (.cells #[.int .u8 0, .string ⟨#[]⟩, .slice none 0 0, .slice none 0 0, .slice none 0 0] 26)).setRow a39.heap.size (tS (numS k)) := ⟨_, rfl⟩
  have hN41 := newV (tS (numS k)) a39
  rw [← hb41] at hN41 ⊢
  have hs41 := hN41.sz
  have hB_42 := veil (two_below hB_40.out (hN41.bel))
  have fv_42 := veil (((hN41.bel).block _ (by omega)).trans fv_40.out)
  have fx11_42 := veil (((hN41.bel).block _ (by omega)).trans fx11_40.out)
  have fx13_42 := veil (((hN41.bel).block _ (by omega)).trans fx13_40.out)
  have fnone_42 := veil (((hN41.bel).block _ (by omega)).trans fnone_40.out)
  have fx17_42 := veil (((hN41.bel).block _ (by omega)).trans fx17_40.out)
  have fr_42 := veil (fr_40.out.below (hN41.bel))
  have fgot_42 := veil (fgot_40.out.below (hN41.bel))
  have fsize_42 := veil (fsize_40.out.below (hN41.bel))
  have flast_42 := veil (flast_40.out.below (hN41.bel))
  have fgone_42 := veil (fgone_40.out.below (hN41.bel))
  have fp_42 := veil (fp_39.out.below (hN41.bel))
  have fone_41 := veil hN41.cell
  clear hb41 hN41 hB_40 fv_40 fx11_40 fx13_40 fnone_40 fx17_40 fr_40 fgot_40 fsize_40 flast_40 fgone_40 fp_39
  by_cases hkm : k = 9223372036854775807
  · have hov : ¬ Int64 (k + 1) := by unfold Int64; omega
    have hkv := veil hkm
    clear hkm
    obtain ⟨c43, hc43⟩ : ∃ c43 : World, c43 = b41.alloc (.cells #[.string ⟨#[105, 110, 99, 114]⟩, .string ⟨#[107]⟩] 9) := ⟨_, rfl⟩
    have hT43 := newT #[.string ⟨#[105, 110, 99, 114]⟩, .string ⟨#[107]⟩] b41
    rw [← hc43] at hT43 ⊢
    have hs43 := hT43.sz
    have hB_44 := veil (two_below hB_42.out (hT43.bel))
    have fv_44 := veil (((hT43.bel).block _ (by omega)).trans fv_42.out)
    have fx11_44 := veil (((hT43.bel).block _ (by omega)).trans fx11_42.out)
    have fx13_44 := veil (((hT43.bel).block _ (by omega)).trans fx13_42.out)
    have fnone_44 := veil (((hT43.bel).block _ (by omega)).trans fnone_42.out)
    have fx17_44 := veil (((hT43.bel).block _ (by omega)).trans fx17_42.out)
    have fone_44 := veil (((hT43.bel).block _ (by omega)).trans fone_41.out)
    have fr_44 := veil (fr_42.out.below (hT43.bel))
    have fgot_44 := veil (fgot_42.out.below (hT43.bel))
    have fsize_44 := veil (fsize_42.out.below (hT43.bel))
    have flast_44 := veil (flast_42.out.below (hT43.bel))
    have fgone_44 := veil (fgone_42.out.below (hT43.bel))
    have fp_44 := veil (fp_42.out.below (hT43.bel))
    clear hc43 hB_42 fv_42 fx11_42 fx13_42 fnone_42 fx17_42 fone_41 fr_42 fgot_42 fsize_42 flast_42 fgone_42 fp_42
    have h45 := do_incr 1 (numS k) ⟨#[105, 110, 99, 114]⟩ nl nl nl ⟨b41.heap.size, 0, none⟩ 2 2 c43 (.inr rfl) (by omega) (by decide) low_incr (by decide) (by decide) (by rw [cell_of_row _ _ _ _ _ _ hT43.cell]; rfl) (by simp [vS, Value.oneCell']) (tabs_below hT'.out hB_44.out)
    rw [hs41] at h45
    rw [more_over (vS 1 (numS k) nl nl nl) k 1 hk (by unfold Int64; omega) hov] at h45
    refine h45.mono ?_
    rintro e a45 ⟨A45, n45, c45, rfl, hf45, hb45⟩
    have hs45 := hb45.size
    have hB_46 := veil (two_below hB_44.out (hb45))
    have fv_46 := veil (((hb45).block _ (by omega)).trans fv_44.out)
    have fx11_46 := veil (((hb45).block _ (by omega)).trans fx11_44.out)
    have fx13_46 := veil (((hb45).block _ (by omega)).trans fx13_44.out)
    have fnone_46 := veil (((hb45).block _ (by omega)).trans fnone_44.out)
    have fx17_46 := veil (((hb45).block _ (by omega)).trans fx17_44.out)
    have fone_46 := veil (((hb45).block _ (by omega)).trans fone_44.out)
    have fr_46 := veil (fr_44.out.below (hb45))
    have fgot_46 := veil (fgot_44.out.below (hb45))
    have fsize_46 := veil (fsize_44.out.below (hb45))
    have flast_46 := veil (flast_44.out.below (hb45))
    have fgone_46 := veil (fgone_44.out.below (hb45))
    have fp_46 := veil (fp_44.out.below (hb45))
    have hq45 := hf45.len
    clear h45 hb45 hT43 hB_44 fv_44 fx11_44 fx13_44 fnone_44 fx17_44 fone_44 fr_44 fgot_44 fsize_44 flast_44 fgone_44 fp_44
    have fq_45 := veil (hf45.reads (by rw [← hq45]; show (lineL ⟨#[45]⟩ Overflow).length ≤ _; decide))
    clear hf45
    have hN := newV (vS 1 (numS k) nl nl nl) a45
    clear hN
    go_wp2_with (first | (refine wpList_store_row rfl 26 _ _ rfl a45.heap.size (vS 1 (numS k) nl nl nl) rfl rfl 26 zS (heap_alloc_last a45 _) (by kernel_rfl) rfl (by simp [vS, tS, zS, Value.oneCell']) ?_))
    obtain ⟨b47, hb47⟩ : ∃ b47 : World, b47 = (a45.alloc (.cells #[.int .u8 0, .string ⟨#[]⟩, .slice none 0 0, .slice none 0 0, .slice none 0 0] 26)).setRow a45.heap.size (vS 1 (numS k) nl nl nl) := ⟨_, rfl⟩
    have hN47 := newV (vS 1 (numS k) nl nl nl) a45
    rw [← hb47] at hN47 ⊢
    have hs47 := hN47.sz
    have hB_48 := veil (two_below hB_46.out (hN47.bel))
    have fv_48 := veil (((hN47.bel).block _ (by omega)).trans fv_46.out)
    have fx11_48 := veil (((hN47.bel).block _ (by omega)).trans fx11_46.out)
    have fx13_48 := veil (((hN47.bel).block _ (by omega)).trans fx13_46.out)
    have fnone_48 := veil (((hN47.bel).block _ (by omega)).trans fnone_46.out)
    have fx17_48 := veil (((hN47.bel).block _ (by omega)).trans fx17_46.out)
    have fone_48 := veil (((hN47.bel).block _ (by omega)).trans fone_46.out)
    have fr_48 := veil (fr_46.out.below (hN47.bel))
    have fgot_48 := veil (fgot_46.out.below (hN47.bel))
    have fsize_48 := veil (fsize_46.out.below (hN47.bel))
    have flast_48 := veil (flast_46.out.below (hN47.bel))
    have fgone_48 := veil (fgone_46.out.below (hN47.bel))
    have fp_48 := veil (fp_46.out.below (hN47.bel))
    have fq_48 := veil (fq_45.out.below (hN47.bel))
    have ftwo_47 := veil hN47.cell
    clear hb47 hN47 hB_46 fv_46 fx11_46 fx13_46 fnone_46 fx17_46 fone_46 fr_46 fgot_46 fsize_46 flast_46 fgone_46 fp_46 fq_45
    refine Rel.wp_region_rel (n := 191) [Rel.rd (bulkL (sa ++ sb)), Rel.is (.string (strOfNums (bulkL (sa ++ sb)))), Rel.is (.string sa), Rel.is (.string sb), Rel.is (.string (sa ++ sb)), Rel.rd (bulkL (sa ++ sb)), Rel.is (.string (strOfNums (bulkL (sa ++ sb)))), Rel.is (.bool false), Rel.is (.bool false), Rel.rd (bulkL (sa ++ sb)), Rel.is (.string (strOfNums (bulkL (sa ++ sb)))), Rel.rd (bulkL (sa ++ sb)), Rel.is (.string (strOfNums (bulkL (sa ++ sb)))), Rel.is (.bool false), Rel.is (.bool false), Rel.is (.bool false), Rel.rd (lineL ⟨#[58]⟩ (numS ((sa ++ sb).size : Nat))), Rel.is (.string (strOfNums (lineL ⟨#[58]⟩ (numS ((sa ++ sb).size : Nat))))), Rel.rd (lineL ⟨#[58]⟩ (numS ((sa ++ sb).size : Nat))), Rel.is (.string (strOfNums (lineL ⟨#[58]⟩ (numS ((sa ++ sb).size : Nat))))), Rel.is (.bool false), Rel.is (.bool false), Rel.is (.bool false), Rel.rd (lineL ⟨#[58]⟩ (numS ((sa ++ sb).size : Nat))), Rel.is (.string (strOfNums (lineL ⟨#[58]⟩ (numS ((sa ++ sb).size : Nat))))), Rel.is (.string sa), Rel.is (.int .i64 ((sa).size : Nat)), Rel.is (.string sb), Rel.is (.int .i64 ((sb).size : Nat)), Rel.is (.int .i64 ((sa ++ sb).size : Nat)), Rel.rd (lineL ⟨#[58]⟩ (numS ((sa ++ sb).size : Nat))), Rel.is (.string (strOfNums (lineL ⟨#[58]⟩ (numS ((sa ++ sb).size : Nat))))), Rel.is (.bool false), Rel.is (.bool false), Rel.is (.bool false), Rel.rd (lineL ⟨#[36]⟩ ⟨#[45, 49]⟩), Rel.is (.string (strOfNums (lineL ⟨#[36]⟩ ⟨#[45, 49]⟩))), Rel.rd (lineL ⟨#[36]⟩ ⟨#[45, 49]⟩), Rel.is (.string (strOfNums (lineL ⟨#[36]⟩ ⟨#[45, 49]⟩))), Rel.is (.bool false), Rel.is (.bool false), Rel.is (.bool false), Rel.is (.pointer (some ⟨a26.heap.size, 0, none⟩)), Rel.is (.int .u8 0), Rel.is (.bool false), Rel.is (.bool false)] (by kernel_rfl) (by rfl) (by kernel_rfl) ?_ ?_
    · refine Rel.steps_cons (Rel.step_rdB (n := 191) (t := 12) (A := A14) (m := n14) (c := c14) rfl (.inl rfl) rfl rfl (by kernel_rfl) fgot_48.out rfl) ?_
      refine Rel.steps_cons (Rel.step_strB (n := 191) (j := 0) (t := 90) rfl (.inl rfl) rfl Tryz.underlying29 Tryz.underlying5 Tryz.underlying9 rfl rfl rfl rfl) ?_
      refine Rel.steps_cons (Rel.step_wasB (n := 191) (t := 6) rfl (.inl rfl) (.inl rfl) rfl (by kernel_rfl) rfl) ?_
      refine Rel.steps_cons (Rel.step_wasB (n := 191) (t := 7) rfl (.inl rfl) (.inl rfl) rfl (by kernel_rfl) rfl) ?_
      refine Rel.steps_cons (Rel.step_run2 (n := 191) (j := 2) (t := 92) (j2 := 3) (t2 := 93) rfl (.inl rfl) rfl rfl rfl rfl rfl rfl (fun ρ w' hb h1 h2 hk => by simp [execOp, h1, h2, hk, go_sem, habs]) rfl) ?_
      refine Rel.steps_cons (Rel.step_callB (n := 191) rfl (.inl rfl) Tryz.func14 (by kernel_rfl) rfl #[.string (sa ++ sb)] rfl (fun b w D => by simp only [List.map_toArray, List.map_cons, List.map_nil, show b.eval (.tmp 94) = .string (sa ++ sb) from D.is 4 94 rfl rfl rfl]) (fun w hb => rdB (bulkL_len _ (by omega)) (YBulk_any _ w (by omega)))) ?_
      refine Rel.steps_cons (Rel.step_strB (n := 191) (j := 5) (t := 95) rfl (.inl rfl) rfl Tryz.underlying29 Tryz.underlying5 Tryz.underlying9 rfl rfl rfl rfl) ?_
      refine Rel.steps_cons (Rel.step_texts (n := 191) (j := 1) (t := 91) (j2 := 6) (t2 := 96) rfl (.inl rfl) rfl Tryz.underlying9 rfl rfl rfl rfl rfl rfl (.inr ⟨rfl, (by rw [decide_eq_true rfl]; rfl)⟩) rfl) ?_
      refine Rel.steps_cons (Rel.step_passB (n := 191) (j := 7) (t := 97) rfl (.inl rfl) (.inl rfl) rfl rfl rfl rfl) ?_
      refine Rel.steps_cons (Rel.step_rdB (n := 191) (t := 16) (A := A26) (m := n26) (c := c26) rfl (.inr ⟨8, 98, false, rfl, rfl, rfl, by decide, rfl⟩) rfl rfl (by kernel_rfl) flast_48.out rfl) ?_
      refine Rel.steps_cons (Rel.step_strB (n := 191) (j := 9) (t := 99) rfl (.inr ⟨8, 98, false, rfl, rfl, rfl, by decide, rfl⟩) rfl Tryz.underlying29 Tryz.underlying5 Tryz.underlying9 rfl rfl rfl rfl) ?_
      refine Rel.steps_cons (Rel.step_rdB (n := 191) (t := 12) (A := A14) (m := n14) (c := c14) rfl (.inr ⟨8, 98, false, rfl, rfl, rfl, by decide, rfl⟩) rfl rfl (by kernel_rfl) fgot_48.out rfl) ?_
      refine Rel.steps_cons (Rel.step_strB (n := 191) (j := 11) (t := 101) rfl (.inr ⟨8, 98, false, rfl, rfl, rfl, by decide, rfl⟩) rfl Tryz.underlying29 Tryz.underlying5 Tryz.underlying9 rfl rfl rfl rfl) ?_
      refine Rel.steps_cons (Rel.step_texts (n := 191) (j := 10) (t := 100) (j2 := 12) (t2 := 102) rfl (.inr ⟨8, 98, false, rfl, rfl, rfl, by decide, rfl⟩) rfl Tryz.underlying9 rfl rfl rfl rfl rfl rfl (.inr ⟨rfl, (by rw [decide_eq_true rfl]; rfl)⟩) rfl) ?_
      refine Rel.steps_cons (Rel.step_run2 (n := 191) (j := 8) (t := 98) (j2 := 13) (t2 := 103) rfl (.inl rfl) rfl rfl rfl rfl rfl rfl (fun ρ w' _ h1 h2 hk => by simp [execOp, h1, h2, hk, asBool]) rfl) ?_
      refine Rel.steps_cons (Rel.step_passB (n := 191) (j := 14) (t := 104) rfl (.inl rfl) (.inl rfl) rfl rfl rfl rfl) ?_
      refine Rel.steps_cons (Rel.step_rdB (n := 191) (t := 14) (A := A20) (m := n20) (c := c20) rfl (.inr ⟨15, 105, false, rfl, rfl, rfl, by decide, rfl⟩) rfl rfl (by kernel_rfl) fsize_48.out rfl) ?_
      refine Rel.steps_cons (Rel.step_strB (n := 191) (j := 16) (t := 106) rfl (.inr ⟨15, 105, false, rfl, rfl, rfl, by decide, rfl⟩) rfl Tryz.underlying29 Tryz.underlying5 Tryz.underlying9 rfl rfl rfl rfl) ?_
      refine Rel.steps_cons (Rel.step_rdB (n := 191) (t := 10) (A := A9) (m := n9) (c := c9) rfl (.inr ⟨15, 105, false, rfl, rfl, rfl, by decide, rfl⟩) rfl rfl (by kernel_rfl) fr_48.out rfl) ?_
      refine Rel.steps_cons (Rel.step_strB (n := 191) (j := 18) (t := 108) rfl (.inr ⟨15, 105, false, rfl, rfl, rfl, by decide, rfl⟩) rfl Tryz.underlying29 Tryz.underlying5 Tryz.underlying9 rfl rfl rfl rfl) ?_
      refine Rel.steps_cons (Rel.step_texts (n := 191) (j := 17) (t := 107) (j2 := 19) (t2 := 109) rfl (.inr ⟨15, 105, false, rfl, rfl, rfl, by decide, rfl⟩) rfl Tryz.underlying9 rfl rfl rfl rfl rfl rfl (.inr ⟨rfl, (by rw [decide_eq_true rfl]; rfl)⟩) rfl) ?_
      refine Rel.steps_cons (Rel.step_run2 (n := 191) (j := 15) (t := 105) (j2 := 20) (t2 := 110) rfl (.inl rfl) rfl rfl rfl rfl rfl rfl (fun ρ w' _ h1 h2 hk => by simp [execOp, h1, h2, hk, asBool]) rfl) ?_
      refine Rel.steps_cons (Rel.step_passB (n := 191) (j := 21) (t := 111) rfl (.inl rfl) (.inl rfl) rfl rfl rfl rfl) ?_
      refine Rel.steps_cons (Rel.step_rdB (n := 191) (t := 10) (A := A9) (m := n9) (c := c9) rfl (.inr ⟨22, 112, false, rfl, rfl, rfl, by decide, rfl⟩) rfl rfl (by kernel_rfl) fr_48.out rfl) ?_
      refine Rel.steps_cons (Rel.step_strB (n := 191) (j := 23) (t := 113) rfl (.inr ⟨22, 112, false, rfl, rfl, rfl, by decide, rfl⟩) rfl Tryz.underlying29 Tryz.underlying5 Tryz.underlying9 rfl rfl rfl rfl) ?_
      refine Rel.steps_cons (Rel.step_wasB (n := 191) (t := 6) rfl (.inr ⟨22, 112, false, rfl, rfl, rfl, by decide, rfl⟩) (.inl rfl) rfl (by kernel_rfl) rfl) ?_
      refine Rel.steps_cons (Rel.step_run1 (n := 191) (j := 25) (t := 115) rfl (.inr ⟨22, 112, false, rfl, rfl, rfl, by decide, rfl⟩) rfl rfl rfl (fun ρ w' _ h1 hk => by simp [execOp, resolve, invoke, builtin, h1, hk, go_sem, Tryz.underlying9]) rfl) ?_
      refine Rel.steps_cons (Rel.step_wasB (n := 191) (t := 7) rfl (.inr ⟨22, 112, false, rfl, rfl, rfl, by decide, rfl⟩) (.inl rfl) rfl (by kernel_rfl) rfl) ?_
      refine Rel.steps_cons (Rel.step_run1 (n := 191) (j := 27) (t := 117) rfl (.inr ⟨22, 112, false, rfl, rfl, rfl, by decide, rfl⟩) rfl rfl rfl (fun ρ w' _ h1 hk => by simp [execOp, resolve, invoke, builtin, h1, hk, go_sem, Tryz.underlying9]) rfl) ?_
      refine Rel.steps_cons (Rel.step_run2 (n := 191) (j := 26) (t := 116) (j2 := 28) (t2 := 118) rfl (.inr ⟨22, 112, false, rfl, rfl, rfl, by decide, rfl⟩) rfl rfl rfl rfl rfl rfl (fun ρ w' hb h1 h2 hk => by simp [execOp, h1, h2, hk, go_sem, iwrapE habw]) rfl) ?_
      refine Rel.steps_cons (Rel.step_callB (n := 191) rfl (.inr ⟨22, 112, false, rfl, rfl, rfl, by decide, rfl⟩) Tryz.func15 (by kernel_rfl) rfl #[.int .i64 ((sa ++ sb).size : Nat)] rfl (fun b w D => by simp only [List.map_toArray, List.map_cons, List.map_nil, show b.eval (.tmp 119) = .int .i64 ((sa ++ sb).size : Nat) from D.is 29 119 rfl rfl rfl]) (fun w hb => rdB (by rw [line_len]; omega) (YInt_any _ w (by unfold Int64; omega)))) ?_
      refine Rel.steps_cons (Rel.step_strB (n := 191) (j := 30) (t := 120) rfl (.inr ⟨22, 112, false, rfl, rfl, rfl, by decide, rfl⟩) rfl Tryz.underlying29 Tryz.underlying5 Tryz.underlying9 rfl rfl rfl rfl) ?_
      refine Rel.steps_cons (Rel.step_texts (n := 191) (j := 24) (t := 114) (j2 := 31) (t2 := 121) rfl (.inr ⟨22, 112, false, rfl, rfl, rfl, by decide, rfl⟩) rfl Tryz.underlying9 rfl rfl rfl rfl rfl rfl (.inr ⟨rfl, (by rw [decide_eq_true rfl]; rfl)⟩) rfl) ?_
      refine Rel.steps_cons (Rel.step_run2 (n := 191) (j := 22) (t := 112) (j2 := 32) (t2 := 122) rfl (.inl rfl) rfl rfl rfl rfl rfl rfl (fun ρ w' _ h1 h2 hk => by simp [execOp, h1, h2, hk, asBool]) rfl) ?_
      refine Rel.steps_cons (Rel.step_passB (n := 191) (j := 33) (t := 123) rfl (.inl rfl) (.inl rfl) rfl rfl rfl rfl) ?_
      refine Rel.steps_cons (Rel.step_rdB (n := 191) (t := 18) (A := A32) (m := n32) (c := c32) rfl (.inr ⟨34, 124, false, rfl, rfl, rfl, by decide, rfl⟩) rfl rfl (by kernel_rfl) fgone_48.out rfl) ?_
      refine Rel.steps_cons (Rel.step_strB (n := 191) (j := 35) (t := 125) rfl (.inr ⟨34, 124, false, rfl, rfl, rfl, by decide, rfl⟩) rfl Tryz.underlying29 Tryz.underlying5 Tryz.underlying9 rfl rfl rfl rfl) ?_
      refine Rel.steps_cons (Rel.step_callB (n := 191) rfl (.inr ⟨34, 124, false, rfl, rfl, rfl, by decide, rfl⟩) Tryz.func16 (by kernel_rfl) rfl #[] rfl (fun b w D => by simp) (fun w hb => rdB (by decide) (YNull_any w))) ?_
      refine Rel.steps_cons (Rel.step_strB (n := 191) (j := 37) (t := 127) rfl (.inr ⟨34, 124, false, rfl, rfl, rfl, by decide, rfl⟩) rfl Tryz.underlying29 Tryz.underlying5 Tryz.underlying9 rfl rfl rfl rfl) ?_
      refine Rel.steps_cons (Rel.step_texts (n := 191) (j := 36) (t := 126) (j2 := 38) (t2 := 128) rfl (.inr ⟨34, 124, false, rfl, rfl, rfl, by decide, rfl⟩) rfl Tryz.underlying9 rfl rfl rfl rfl rfl rfl (.inr ⟨rfl, (by rw [decide_eq_true rfl]; rfl)⟩) rfl) ?_
      refine Rel.steps_cons (Rel.step_run2 (n := 191) (j := 34) (t := 124) (j2 := 39) (t2 := 129) rfl (.inl rfl) rfl rfl rfl rfl rfl rfl (fun ρ w' _ h1 h2 hk => by simp [execOp, h1, h2, hk, asBool]) rfl) ?_
      refine Rel.steps_cons (Rel.step_passB (n := 191) (j := 40) (t := 130) rfl (.inl rfl) (.inl rfl) rfl rfl rfl rfl) ?_
      refine Rel.steps_cons (Rel.step_run0 (n := 191) (t := 15) (v := .pointer (some ⟨a26.heap.size, 0, none⟩)) rfl (.inr ⟨41, 131, false, rfl, rfl, rfl, by decide, rfl⟩) rfl (by kernel_rfl) (fun ρ w' hb h1 hk => by simp [execOp, h1, hk, go_sem, Addr.add]) rfl) ?_
      refine Rel.steps_cons (Rel.step_cell (n := 191) (j := 42) (t := 132) rfl (.inr ⟨41, 131, false, rfl, rfl, rfl, by decide, rfl⟩) rfl rfl rfl rfl Tryz.underlying5 (.inr (.inr (.inl ⟨_, rfl⟩))) (by rw [cell_of_row _ _ _ _ _ _ fnone_48.out]; rfl) rfl) ?_
      refine Rel.steps_cons (Rel.step_run1 (n := 191) (j := 43) (t := 133) rfl (.inr ⟨41, 131, false, rfl, rfl, rfl, by decide, rfl⟩) rfl rfl rfl (fun ρ w' hb h1 hk => by simp [execOp, h1, hk, go_sem]) rfl) ?_
      refine Rel.steps_cons (Rel.step_run2 (n := 191) (j := 41) (t := 131) (j2 := 44) (t2 := 134) rfl (.inl rfl) rfl rfl rfl rfl rfl rfl (fun ρ w' _ h1 h2 hk => by simp [execOp, h1, h2, hk, asBool]) rfl) ?_
      exact trivial
    intro v b49 hv hb49
    have e49 : v 45 = .bool false := hv 45 (by decide)
    have hs49 := hb49.size
    have hB_50 := veil (two_below hB_48.out (hb49))
    have fv_50 := veil (((hb49).block _ (by omega)).trans fv_48.out)
    have fx11_50 := veil (((hb49).block _ (by omega)).trans fx11_48.out)
    have fx13_50 := veil (((hb49).block _ (by omega)).trans fx13_48.out)
    have fnone_50 := veil (((hb49).block _ (by omega)).trans fnone_48.out)
    have fx17_50 := veil (((hb49).block _ (by omega)).trans fx17_48.out)
    have fone_50 := veil (((hb49).block _ (by omega)).trans fone_48.out)
    have ftwo_50 := veil (((hb49).block _ (by omega)).trans ftwo_47.out)
    have fr_50 := veil (fr_48.out.below (hb49))
    have fgot_50 := veil (fgot_48.out.below (hb49))
    have fsize_50 := veil (fsize_48.out.below (hb49))
    have flast_50 := veil (flast_48.out.below (hb49))
    have fgone_50 := veil (fgone_48.out.below (hb49))
    have fp_50 := veil (fp_48.out.below (hb49))
    have fq_50 := veil (fq_48.out.below (hb49))
    simp only [Rel.fill, Act.put, List.setIfInBounds_toArray, List.set_cons_zero, List.set_cons_succ]
    rw [e49]
    clear hb49 hv e49 hB_48 fv_48 fx11_48 fx13_48 fnone_48 fx17_48 fone_48 ftwo_47 fr_48 fgot_48 fsize_48 flast_48 fgone_48 fp_48 fq_48
    have hkm := hkv.out
    go_wp2_with fail
    refine Rel.wp_region_rel (n := 191) [Rel.is (.bool true), Rel.is (.bool true), Rel.is (.pointer (some ⟨a39.heap.size, 1, none⟩)), Rel.is (.string (numS k)), Rel.is (.int .i64 k), Rel.is (.string (numS k)), Rel.is (.bool true), Rel.is (.bool true), Rel.is (.bool true), Rel.is (.pointer (some ⟨a45.heap.size, 1, none⟩)), Rel.is (.string (numS k)), Rel.is (.pointer (some ⟨a39.heap.size, 1, none⟩)), Rel.is (.string (numS k)), Rel.is (.bool true), Rel.is (.bool true), Rel.is (.bool true), Rel.rd (lineL ⟨#[45]⟩ Overflow), Rel.is (.string (strOfNums (lineL ⟨#[45]⟩ Overflow))), Rel.is (.bool true), Rel.is (.bool true), Rel.is (.bool true)] (by kernel_rfl) (by rfl) (by kernel_rfl) ?_ ?_
    · refine Rel.steps_cons (Rel.step_wasB (n := 191) (t := 5) rfl (.inl rfl) (.inl rfl) rfl (by kernel_rfl) rfl) ?_
      refine Rel.steps_cons (Rel.step_passB (n := 191) (j := 0) (t := 138) rfl (.inl rfl) (.inl rfl) rfl rfl rfl rfl) ?_
      refine Rel.steps_cons (Rel.step_run0 (n := 191) (t := 19) (v := .pointer (some ⟨a39.heap.size, 0, none⟩)) rfl (.inr ⟨1, 139, true, rfl, rfl, rfl, by decide, rfl⟩) rfl (by kernel_rfl) (fun ρ w' hb h1 hk => by simp [execOp, h1, hk, go_sem, Addr.add]) rfl) ?_
      refine Rel.steps_cons (Rel.step_cell (n := 191) (j := 2) (t := 140) rfl (.inr ⟨1, 139, true, rfl, rfl, rfl, by decide, rfl⟩) rfl rfl rfl rfl Tryz.underlying9 (.inl rfl) (by rw [cell_of_row _ _ _ _ _ _ fone_50.out]; rfl) rfl) ?_
      refine Rel.steps_cons (Rel.step_wasB (n := 191) (t := 1) rfl (.inr ⟨1, 139, true, rfl, rfl, rfl, by decide, rfl⟩) (.inl rfl) rfl (by kernel_rfl) rfl) ?_
      refine Rel.steps_cons (Rel.step_callB (n := 191) rfl (.inr ⟨1, 139, true, rfl, rfl, rfl, by decide, rfl⟩) Tryz.func13 (by kernel_rfl) rfl #[.int .i64 k] rfl (fun b w D => by simp only [List.map_toArray, List.map_cons, List.map_nil, show b.eval (.tmp 142) = .int .i64 k from D.is 4 142 rfl rfl rfl]) (fun w hb => (rtext_any _ w hk).mono fun e w' h => ⟨_, h.1, rfl, h.2⟩)) ?_
      refine Rel.steps_cons (Rel.step_texts (n := 191) (j := 3) (t := 141) (j2 := 5) (t2 := 143) rfl (.inr ⟨1, 139, true, rfl, rfl, rfl, by decide, rfl⟩) rfl Tryz.underlying9 rfl rfl rfl rfl rfl rfl (.inl ⟨rfl, (decide_eq_true rfl).symm⟩) rfl) ?_
      refine Rel.steps_cons (Rel.step_run2 (n := 191) (j := 1) (t := 139) (j2 := 6) (t2 := 144) rfl (.inl rfl) rfl rfl rfl rfl rfl rfl (fun ρ w' _ h1 h2 hk => by simp [execOp, h1, h2, hk, asBool]) rfl) ?_
      refine Rel.steps_cons (Rel.step_passB (n := 191) (j := 7) (t := 145) rfl (.inl rfl) (.inl rfl) rfl rfl rfl rfl) ?_
      refine Rel.steps_cons (Rel.step_run0 (n := 191) (t := 21) (v := .pointer (some ⟨a45.heap.size, 0, none⟩)) rfl (.inr ⟨8, 146, true, rfl, rfl, rfl, by decide, rfl⟩) rfl (by kernel_rfl) (fun ρ w' hb h1 hk => by simp [execOp, h1, hk, go_sem, Addr.add]) rfl) ?_
      refine Rel.steps_cons (Rel.step_cell (n := 191) (j := 9) (t := 147) rfl (.inr ⟨8, 146, true, rfl, rfl, rfl, by decide, rfl⟩) rfl rfl rfl rfl Tryz.underlying9 (.inl rfl) (by rw [cell_of_row _ _ _ _ _ _ ftwo_50.out]; rfl) rfl) ?_
      refine Rel.steps_cons (Rel.step_run0 (n := 191) (t := 19) (v := .pointer (some ⟨a39.heap.size, 0, none⟩)) rfl (.inr ⟨8, 146, true, rfl, rfl, rfl, by decide, rfl⟩) rfl (by kernel_rfl) (fun ρ w' hb h1 hk => by simp [execOp, h1, hk, go_sem, Addr.add]) rfl) ?_
      refine Rel.steps_cons (Rel.step_cell (n := 191) (j := 11) (t := 149) rfl (.inr ⟨8, 146, true, rfl, rfl, rfl, by decide, rfl⟩) rfl rfl rfl rfl Tryz.underlying9 (.inl rfl) (by rw [cell_of_row _ _ _ _ _ _ fone_50.out]; rfl) rfl) ?_
      refine Rel.steps_cons (Rel.step_texts (n := 191) (j := 10) (t := 148) (j2 := 12) (t2 := 150) rfl (.inr ⟨8, 146, true, rfl, rfl, rfl, by decide, rfl⟩) rfl Tryz.underlying9 rfl rfl rfl rfl rfl rfl (.inl ⟨rfl, (decide_eq_true rfl).symm⟩) rfl) ?_
      refine Rel.steps_cons (Rel.step_run2 (n := 191) (j := 8) (t := 146) (j2 := 13) (t2 := 151) rfl (.inl rfl) rfl rfl rfl rfl rfl rfl (fun ρ w' _ h1 h2 hk => by simp [execOp, h1, h2, hk, asBool]) rfl) ?_
      refine Rel.steps_cons (Rel.step_passB (n := 191) (j := 14) (t := 152) rfl (.inl rfl) (.inl rfl) rfl rfl rfl rfl) ?_
      refine Rel.steps_cons (Rel.step_rdB (n := 191) (t := 22) (A := A45) (m := n45) (c := c45) rfl (.inr ⟨15, 153, true, rfl, rfl, rfl, by decide, rfl⟩) rfl rfl (by kernel_rfl) fq_50.out rfl) ?_
      refine Rel.steps_cons (Rel.step_strB (n := 191) (j := 16) (t := 154) rfl (.inr ⟨15, 153, true, rfl, rfl, rfl, by decide, rfl⟩) rfl Tryz.underlying29 Tryz.underlying5 Tryz.underlying9 rfl rfl rfl rfl) ?_
      refine Rel.steps_cons (Rel.step_run1 (n := 191) (j := 17) (t := 155) rfl (.inr ⟨15, 153, true, rfl, rfl, rfl, by decide, rfl⟩) rfl rfl rfl (fun ρ w' hb h1 hk => by simp [execOp, h1, hk, go_sem, over_line]) rfl) ?_
      refine Rel.steps_cons (Rel.step_run2 (n := 191) (j := 15) (t := 153) (j2 := 18) (t2 := 156) rfl (.inl rfl) rfl rfl rfl rfl rfl rfl (fun ρ w' _ h1 h2 hk => by simp [execOp, h1, h2, hk, asBool]) rfl) ?_
      refine Rel.steps_cons (Rel.step_passB (n := 191) (j := 19) (t := 157) rfl (.inl rfl) (.inr rfl) rfl rfl rfl rfl) ?_
      exact trivial
    intro v b51 hv hb51
    have e51 : v 20 = .bool true := hv 20 (by decide)
    have hs51 := hb51.size
    have hB_52 := veil (two_below hB_50.out (hb51))
    have fv_52 := veil (((hb51).block _ (by omega)).trans fv_50.out)
    have fx11_52 := veil (((hb51).block _ (by omega)).trans fx11_50.out)
    have fx13_52 := veil (((hb51).block _ (by omega)).trans fx13_50.out)
    have fnone_52 := veil (((hb51).block _ (by omega)).trans fnone_50.out)
    have fx17_52 := veil (((hb51).block _ (by omega)).trans fx17_50.out)
    have fone_52 := veil (((hb51).block _ (by omega)).trans fone_50.out)
    have ftwo_52 := veil (((hb51).block _ (by omega)).trans ftwo_50.out)
    have fr_52 := veil (fr_50.out.below (hb51))
    have fgot_52 := veil (fgot_50.out.below (hb51))
    have fsize_52 := veil (fsize_50.out.below (hb51))
    have flast_52 := veil (flast_50.out.below (hb51))
    have fgone_52 := veil (fgone_50.out.below (hb51))
    have fp_52 := veil (fp_50.out.below (hb51))
    have fq_52 := veil (fq_50.out.below (hb51))
    simp only [Rel.fill, Act.put, List.setIfInBounds_toArray, List.set_cons_zero, List.set_cons_succ]
    rw [e51]
    clear hb51 hv e51 hB_50 fv_50 fx11_50 fx13_50 fnone_50 fx17_50 fone_50 ftwo_50 fr_50 fgot_50 fsize_50 flast_50 fgone_50 fp_50 fq_50
    go_wp2_with fail
    go_ret
    exact ⟨rfl, hB_52.out⟩
  · have hk1 : Int64 (k + 1) := by have h1 := hk.1; have h2 := hk.2; unfold Int64; omega
    have hzk1 := numS_size (k + 1) hk1.1 hk1.2
    obtain ⟨c43, hc43⟩ : ∃ c43 : World, c43 = b41.alloc (.cells #[.string ⟨#[105, 110, 99, 114]⟩, .string ⟨#[107]⟩] 9) := ⟨_, rfl⟩
    have hT43 := newT #[.string ⟨#[105, 110, 99, 114]⟩, .string ⟨#[107]⟩] b41
    rw [← hc43] at hT43 ⊢
    have hs43 := hT43.sz
    have hB_44 := veil (two_below hB_42.out (hT43.bel))
    have fv_44 := veil (((hT43.bel).block _ (by omega)).trans fv_42.out)
    have fx11_44 := veil (((hT43.bel).block _ (by omega)).trans fx11_42.out)
    have fx13_44 := veil (((hT43.bel).block _ (by omega)).trans fx13_42.out)
    have fnone_44 := veil (((hT43.bel).block _ (by omega)).trans fnone_42.out)
    have fx17_44 := veil (((hT43.bel).block _ (by omega)).trans fx17_42.out)
    have fone_44 := veil (((hT43.bel).block _ (by omega)).trans fone_41.out)
    have fr_44 := veil (fr_42.out.below (hT43.bel))
    have fgot_44 := veil (fgot_42.out.below (hT43.bel))
    have fsize_44 := veil (fsize_42.out.below (hT43.bel))
    have flast_44 := veil (flast_42.out.below (hT43.bel))
    have fgone_44 := veil (fgone_42.out.below (hT43.bel))
    have fp_44 := veil (fp_42.out.below (hT43.bel))
    clear hc43 hB_42 fv_42 fx11_42 fx13_42 fnone_42 fx17_42 fone_41 fr_42 fgot_42 fsize_42 flast_42 fgone_42 fp_42
    have h45 := do_incr 1 (numS k) ⟨#[105, 110, 99, 114]⟩ nl nl nl ⟨b41.heap.size, 0, none⟩ 2 2 c43 (.inr rfl) (by omega) (by decide) low_incr (by decide) (by decide) (by rw [cell_of_row _ _ _ _ _ _ hT43.cell]; rfl) (by simp [vS, Value.oneCell']) (tabs_below hT'.out hB_44.out)
    rw [hs41] at h45
    rw [more_num (vS 1 (numS k) nl nl nl) k 1 hk (by unfold Int64; omega) hk1] at h45
    refine h45.mono ?_
    rintro e a45 ⟨A45, n45, c45, rfl, hf45, hb45⟩
    have hs45 := hb45.size
    have hB_46 := veil (two_below hB_44.out (hb45))
    have fv_46 := veil (((hb45).block _ (by omega)).trans fv_44.out)
    have fx11_46 := veil (((hb45).block _ (by omega)).trans fx11_44.out)
    have fx13_46 := veil (((hb45).block _ (by omega)).trans fx13_44.out)
    have fnone_46 := veil (((hb45).block _ (by omega)).trans fnone_44.out)
    have fx17_46 := veil (((hb45).block _ (by omega)).trans fx17_44.out)
    have fone_46 := veil (((hb45).block _ (by omega)).trans fone_44.out)
    have fr_46 := veil (fr_44.out.below (hb45))
    have fgot_46 := veil (fgot_44.out.below (hb45))
    have fsize_46 := veil (fsize_44.out.below (hb45))
    have flast_46 := veil (flast_44.out.below (hb45))
    have fgone_46 := veil (fgone_44.out.below (hb45))
    have fp_46 := veil (fp_44.out.below (hb45))
    have hq45 := hf45.len
    clear h45 hb45 hT43 hB_44 fv_44 fx11_44 fx13_44 fnone_44 fx17_44 fone_44 fr_44 fgot_44 fsize_44 flast_44 fgone_44 fp_44
    have fq_45 := veil (hf45.reads (by rw [← hq45]; rw [line_len]; omega))
    clear hf45
    have hN := newV (tS (numS (k + 1))) a45
    clear hN
    go_wp2_with (first | (refine wpList_store_row rfl 26 _ _ rfl a45.heap.size (tS (numS (k + 1))) rfl rfl 26 zS (heap_alloc_last a45 _) (by kernel_rfl) rfl (by simp [vS, tS, zS, Value.oneCell']) ?_))
    obtain ⟨b47, hb47⟩ : ∃ b47 : World, b47 = (a45.alloc (.cells #[.int .u8 0, .string ⟨#[]⟩, .slice none 0 0, .slice none 0 0, .slice none 0 0] 26)).setRow a45.heap.size (tS (numS (k + 1))) := ⟨_, rfl⟩
    have hN47 := newV (tS (numS (k + 1))) a45
    rw [← hb47] at hN47 ⊢
    have hs47 := hN47.sz
    have hB_48 := veil (two_below hB_46.out (hN47.bel))
    have fv_48 := veil (((hN47.bel).block _ (by omega)).trans fv_46.out)
    have fx11_48 := veil (((hN47.bel).block _ (by omega)).trans fx11_46.out)
    have fx13_48 := veil (((hN47.bel).block _ (by omega)).trans fx13_46.out)
    have fnone_48 := veil (((hN47.bel).block _ (by omega)).trans fnone_46.out)
    have fx17_48 := veil (((hN47.bel).block _ (by omega)).trans fx17_46.out)
    have fone_48 := veil (((hN47.bel).block _ (by omega)).trans fone_46.out)
    have fr_48 := veil (fr_46.out.below (hN47.bel))
    have fgot_48 := veil (fgot_46.out.below (hN47.bel))
    have fsize_48 := veil (fsize_46.out.below (hN47.bel))
    have flast_48 := veil (flast_46.out.below (hN47.bel))
    have fgone_48 := veil (fgone_46.out.below (hN47.bel))
    have fp_48 := veil (fp_46.out.below (hN47.bel))
    have fq_48 := veil (fq_45.out.below (hN47.bel))
    have ftwo_47 := veil hN47.cell
    clear hb47 hN47 hB_46 fv_46 fx11_46 fx13_46 fnone_46 fx17_46 fone_46 fr_46 fgot_46 fsize_46 flast_46 fgone_46 fp_46 fq_45
    refine Rel.wp_region_rel (n := 191) [Rel.rd (bulkL (sa ++ sb)), Rel.is (.string (strOfNums (bulkL (sa ++ sb)))), Rel.is (.string sa), Rel.is (.string sb), Rel.is (.string (sa ++ sb)), Rel.rd (bulkL (sa ++ sb)), Rel.is (.string (strOfNums (bulkL (sa ++ sb)))), Rel.is (.bool false), Rel.is (.bool false), Rel.rd (bulkL (sa ++ sb)), Rel.is (.string (strOfNums (bulkL (sa ++ sb)))), Rel.rd (bulkL (sa ++ sb)), Rel.is (.string (strOfNums (bulkL (sa ++ sb)))), Rel.is (.bool false), Rel.is (.bool false), Rel.is (.bool false), Rel.rd (lineL ⟨#[58]⟩ (numS ((sa ++ sb).size : Nat))), Rel.is (.string (strOfNums (lineL ⟨#[58]⟩ (numS ((sa ++ sb).size : Nat))))), Rel.rd (lineL ⟨#[58]⟩ (numS ((sa ++ sb).size : Nat))), Rel.is (.string (strOfNums (lineL ⟨#[58]⟩ (numS ((sa ++ sb).size : Nat))))), Rel.is (.bool false), Rel.is (.bool false), Rel.is (.bool false), Rel.rd (lineL ⟨#[58]⟩ (numS ((sa ++ sb).size : Nat))), Rel.is (.string (strOfNums (lineL ⟨#[58]⟩ (numS ((sa ++ sb).size : Nat))))), Rel.is (.string sa), Rel.is (.int .i64 ((sa).size : Nat)), Rel.is (.string sb), Rel.is (.int .i64 ((sb).size : Nat)), Rel.is (.int .i64 ((sa ++ sb).size : Nat)), Rel.rd (lineL ⟨#[58]⟩ (numS ((sa ++ sb).size : Nat))), Rel.is (.string (strOfNums (lineL ⟨#[58]⟩ (numS ((sa ++ sb).size : Nat))))), Rel.is (.bool false), Rel.is (.bool false), Rel.is (.bool false), Rel.rd (lineL ⟨#[36]⟩ ⟨#[45, 49]⟩), Rel.is (.string (strOfNums (lineL ⟨#[36]⟩ ⟨#[45, 49]⟩))), Rel.rd (lineL ⟨#[36]⟩ ⟨#[45, 49]⟩), Rel.is (.string (strOfNums (lineL ⟨#[36]⟩ ⟨#[45, 49]⟩))), Rel.is (.bool false), Rel.is (.bool false), Rel.is (.bool false), Rel.is (.pointer (some ⟨a26.heap.size, 0, none⟩)), Rel.is (.int .u8 0), Rel.is (.bool false), Rel.is (.bool false)] (by kernel_rfl) (by rfl) (by kernel_rfl) ?_ ?_
    · refine Rel.steps_cons (Rel.step_rdB (n := 191) (t := 12) (A := A14) (m := n14) (c := c14) rfl (.inl rfl) rfl rfl (by kernel_rfl) fgot_48.out rfl) ?_
      refine Rel.steps_cons (Rel.step_strB (n := 191) (j := 0) (t := 90) rfl (.inl rfl) rfl Tryz.underlying29 Tryz.underlying5 Tryz.underlying9 rfl rfl rfl rfl) ?_
      refine Rel.steps_cons (Rel.step_wasB (n := 191) (t := 6) rfl (.inl rfl) (.inl rfl) rfl (by kernel_rfl) rfl) ?_
      refine Rel.steps_cons (Rel.step_wasB (n := 191) (t := 7) rfl (.inl rfl) (.inl rfl) rfl (by kernel_rfl) rfl) ?_
      refine Rel.steps_cons (Rel.step_run2 (n := 191) (j := 2) (t := 92) (j2 := 3) (t2 := 93) rfl (.inl rfl) rfl rfl rfl rfl rfl rfl (fun ρ w' hb h1 h2 hk => by simp [execOp, h1, h2, hk, go_sem, habs]) rfl) ?_
      refine Rel.steps_cons (Rel.step_callB (n := 191) rfl (.inl rfl) Tryz.func14 (by kernel_rfl) rfl #[.string (sa ++ sb)] rfl (fun b w D => by simp only [List.map_toArray, List.map_cons, List.map_nil, show b.eval (.tmp 94) = .string (sa ++ sb) from D.is 4 94 rfl rfl rfl]) (fun w hb => rdB (bulkL_len _ (by omega)) (YBulk_any _ w (by omega)))) ?_
      refine Rel.steps_cons (Rel.step_strB (n := 191) (j := 5) (t := 95) rfl (.inl rfl) rfl Tryz.underlying29 Tryz.underlying5 Tryz.underlying9 rfl rfl rfl rfl) ?_
      refine Rel.steps_cons (Rel.step_texts (n := 191) (j := 1) (t := 91) (j2 := 6) (t2 := 96) rfl (.inl rfl) rfl Tryz.underlying9 rfl rfl rfl rfl rfl rfl (.inr ⟨rfl, (by rw [decide_eq_true rfl]; rfl)⟩) rfl) ?_
      refine Rel.steps_cons (Rel.step_passB (n := 191) (j := 7) (t := 97) rfl (.inl rfl) (.inl rfl) rfl rfl rfl rfl) ?_
      refine Rel.steps_cons (Rel.step_rdB (n := 191) (t := 16) (A := A26) (m := n26) (c := c26) rfl (.inr ⟨8, 98, false, rfl, rfl, rfl, by decide, rfl⟩) rfl rfl (by kernel_rfl) flast_48.out rfl) ?_
      refine Rel.steps_cons (Rel.step_strB (n := 191) (j := 9) (t := 99) rfl (.inr ⟨8, 98, false, rfl, rfl, rfl, by decide, rfl⟩) rfl Tryz.underlying29 Tryz.underlying5 Tryz.underlying9 rfl rfl rfl rfl) ?_
      refine Rel.steps_cons (Rel.step_rdB (n := 191) (t := 12) (A := A14) (m := n14) (c := c14) rfl (.inr ⟨8, 98, false, rfl, rfl, rfl, by decide, rfl⟩) rfl rfl (by kernel_rfl) fgot_48.out rfl) ?_
      refine Rel.steps_cons (Rel.step_strB (n := 191) (j := 11) (t := 101) rfl (.inr ⟨8, 98, false, rfl, rfl, rfl, by decide, rfl⟩) rfl Tryz.underlying29 Tryz.underlying5 Tryz.underlying9 rfl rfl rfl rfl) ?_
      refine Rel.steps_cons (Rel.step_texts (n := 191) (j := 10) (t := 100) (j2 := 12) (t2 := 102) rfl (.inr ⟨8, 98, false, rfl, rfl, rfl, by decide, rfl⟩) rfl Tryz.underlying9 rfl rfl rfl rfl rfl rfl (.inr ⟨rfl, (by rw [decide_eq_true rfl]; rfl)⟩) rfl) ?_
      refine Rel.steps_cons (Rel.step_run2 (n := 191) (j := 8) (t := 98) (j2 := 13) (t2 := 103) rfl (.inl rfl) rfl rfl rfl rfl rfl rfl (fun ρ w' _ h1 h2 hk => by simp [execOp, h1, h2, hk, asBool]) rfl) ?_
      refine Rel.steps_cons (Rel.step_passB (n := 191) (j := 14) (t := 104) rfl (.inl rfl) (.inl rfl) rfl rfl rfl rfl) ?_
      refine Rel.steps_cons (Rel.step_rdB (n := 191) (t := 14) (A := A20) (m := n20) (c := c20) rfl (.inr ⟨15, 105, false, rfl, rfl, rfl, by decide, rfl⟩) rfl rfl (by kernel_rfl) fsize_48.out rfl) ?_
      refine Rel.steps_cons (Rel.step_strB (n := 191) (j := 16) (t := 106) rfl (.inr ⟨15, 105, false, rfl, rfl, rfl, by decide, rfl⟩) rfl Tryz.underlying29 Tryz.underlying5 Tryz.underlying9 rfl rfl rfl rfl) ?_
      refine Rel.steps_cons (Rel.step_rdB (n := 191) (t := 10) (A := A9) (m := n9) (c := c9) rfl (.inr ⟨15, 105, false, rfl, rfl, rfl, by decide, rfl⟩) rfl rfl (by kernel_rfl) fr_48.out rfl) ?_
      refine Rel.steps_cons (Rel.step_strB (n := 191) (j := 18) (t := 108) rfl (.inr ⟨15, 105, false, rfl, rfl, rfl, by decide, rfl⟩) rfl Tryz.underlying29 Tryz.underlying5 Tryz.underlying9 rfl rfl rfl rfl) ?_
      refine Rel.steps_cons (Rel.step_texts (n := 191) (j := 17) (t := 107) (j2 := 19) (t2 := 109) rfl (.inr ⟨15, 105, false, rfl, rfl, rfl, by decide, rfl⟩) rfl Tryz.underlying9 rfl rfl rfl rfl rfl rfl (.inr ⟨rfl, (by rw [decide_eq_true rfl]; rfl)⟩) rfl) ?_
      refine Rel.steps_cons (Rel.step_run2 (n := 191) (j := 15) (t := 105) (j2 := 20) (t2 := 110) rfl (.inl rfl) rfl rfl rfl rfl rfl rfl (fun ρ w' _ h1 h2 hk => by simp [execOp, h1, h2, hk, asBool]) rfl) ?_
      refine Rel.steps_cons (Rel.step_passB (n := 191) (j := 21) (t := 111) rfl (.inl rfl) (.inl rfl) rfl rfl rfl rfl) ?_
      refine Rel.steps_cons (Rel.step_rdB (n := 191) (t := 10) (A := A9) (m := n9) (c := c9) rfl (.inr ⟨22, 112, false, rfl, rfl, rfl, by decide, rfl⟩) rfl rfl (by kernel_rfl) fr_48.out rfl) ?_
      refine Rel.steps_cons (Rel.step_strB (n := 191) (j := 23) (t := 113) rfl (.inr ⟨22, 112, false, rfl, rfl, rfl, by decide, rfl⟩) rfl Tryz.underlying29 Tryz.underlying5 Tryz.underlying9 rfl rfl rfl rfl) ?_
      refine Rel.steps_cons (Rel.step_wasB (n := 191) (t := 6) rfl (.inr ⟨22, 112, false, rfl, rfl, rfl, by decide, rfl⟩) (.inl rfl) rfl (by kernel_rfl) rfl) ?_
      refine Rel.steps_cons (Rel.step_run1 (n := 191) (j := 25) (t := 115) rfl (.inr ⟨22, 112, false, rfl, rfl, rfl, by decide, rfl⟩) rfl rfl rfl (fun ρ w' _ h1 hk => by simp [execOp, resolve, invoke, builtin, h1, hk, go_sem, Tryz.underlying9]) rfl) ?_
      refine Rel.steps_cons (Rel.step_wasB (n := 191) (t := 7) rfl (.inr ⟨22, 112, false, rfl, rfl, rfl, by decide, rfl⟩) (.inl rfl) rfl (by kernel_rfl) rfl) ?_
      refine Rel.steps_cons (Rel.step_run1 (n := 191) (j := 27) (t := 117) rfl (.inr ⟨22, 112, false, rfl, rfl, rfl, by decide, rfl⟩) rfl rfl rfl (fun ρ w' _ h1 hk => by simp [execOp, resolve, invoke, builtin, h1, hk, go_sem, Tryz.underlying9]) rfl) ?_
      refine Rel.steps_cons (Rel.step_run2 (n := 191) (j := 26) (t := 116) (j2 := 28) (t2 := 118) rfl (.inr ⟨22, 112, false, rfl, rfl, rfl, by decide, rfl⟩) rfl rfl rfl rfl rfl rfl (fun ρ w' hb h1 h2 hk => by simp [execOp, h1, h2, hk, go_sem, iwrapE habw]) rfl) ?_
      refine Rel.steps_cons (Rel.step_callB (n := 191) rfl (.inr ⟨22, 112, false, rfl, rfl, rfl, by decide, rfl⟩) Tryz.func15 (by kernel_rfl) rfl #[.int .i64 ((sa ++ sb).size : Nat)] rfl (fun b w D => by simp only [List.map_toArray, List.map_cons, List.map_nil, show b.eval (.tmp 119) = .int .i64 ((sa ++ sb).size : Nat) from D.is 29 119 rfl rfl rfl]) (fun w hb => rdB (by rw [line_len]; omega) (YInt_any _ w (by unfold Int64; omega)))) ?_
      refine Rel.steps_cons (Rel.step_strB (n := 191) (j := 30) (t := 120) rfl (.inr ⟨22, 112, false, rfl, rfl, rfl, by decide, rfl⟩) rfl Tryz.underlying29 Tryz.underlying5 Tryz.underlying9 rfl rfl rfl rfl) ?_
      refine Rel.steps_cons (Rel.step_texts (n := 191) (j := 24) (t := 114) (j2 := 31) (t2 := 121) rfl (.inr ⟨22, 112, false, rfl, rfl, rfl, by decide, rfl⟩) rfl Tryz.underlying9 rfl rfl rfl rfl rfl rfl (.inr ⟨rfl, (by rw [decide_eq_true rfl]; rfl)⟩) rfl) ?_
      refine Rel.steps_cons (Rel.step_run2 (n := 191) (j := 22) (t := 112) (j2 := 32) (t2 := 122) rfl (.inl rfl) rfl rfl rfl rfl rfl rfl (fun ρ w' _ h1 h2 hk => by simp [execOp, h1, h2, hk, asBool]) rfl) ?_
      refine Rel.steps_cons (Rel.step_passB (n := 191) (j := 33) (t := 123) rfl (.inl rfl) (.inl rfl) rfl rfl rfl rfl) ?_
      refine Rel.steps_cons (Rel.step_rdB (n := 191) (t := 18) (A := A32) (m := n32) (c := c32) rfl (.inr ⟨34, 124, false, rfl, rfl, rfl, by decide, rfl⟩) rfl rfl (by kernel_rfl) fgone_48.out rfl) ?_
      refine Rel.steps_cons (Rel.step_strB (n := 191) (j := 35) (t := 125) rfl (.inr ⟨34, 124, false, rfl, rfl, rfl, by decide, rfl⟩) rfl Tryz.underlying29 Tryz.underlying5 Tryz.underlying9 rfl rfl rfl rfl) ?_
      refine Rel.steps_cons (Rel.step_callB (n := 191) rfl (.inr ⟨34, 124, false, rfl, rfl, rfl, by decide, rfl⟩) Tryz.func16 (by kernel_rfl) rfl #[] rfl (fun b w D => by simp) (fun w hb => rdB (by decide) (YNull_any w))) ?_
      refine Rel.steps_cons (Rel.step_strB (n := 191) (j := 37) (t := 127) rfl (.inr ⟨34, 124, false, rfl, rfl, rfl, by decide, rfl⟩) rfl Tryz.underlying29 Tryz.underlying5 Tryz.underlying9 rfl rfl rfl rfl) ?_
      refine Rel.steps_cons (Rel.step_texts (n := 191) (j := 36) (t := 126) (j2 := 38) (t2 := 128) rfl (.inr ⟨34, 124, false, rfl, rfl, rfl, by decide, rfl⟩) rfl Tryz.underlying9 rfl rfl rfl rfl rfl rfl (.inr ⟨rfl, (by rw [decide_eq_true rfl]; rfl)⟩) rfl) ?_
      refine Rel.steps_cons (Rel.step_run2 (n := 191) (j := 34) (t := 124) (j2 := 39) (t2 := 129) rfl (.inl rfl) rfl rfl rfl rfl rfl rfl (fun ρ w' _ h1 h2 hk => by simp [execOp, h1, h2, hk, asBool]) rfl) ?_
      refine Rel.steps_cons (Rel.step_passB (n := 191) (j := 40) (t := 130) rfl (.inl rfl) (.inl rfl) rfl rfl rfl rfl) ?_
      refine Rel.steps_cons (Rel.step_run0 (n := 191) (t := 15) (v := .pointer (some ⟨a26.heap.size, 0, none⟩)) rfl (.inr ⟨41, 131, false, rfl, rfl, rfl, by decide, rfl⟩) rfl (by kernel_rfl) (fun ρ w' hb h1 hk => by simp [execOp, h1, hk, go_sem, Addr.add]) rfl) ?_
      refine Rel.steps_cons (Rel.step_cell (n := 191) (j := 42) (t := 132) rfl (.inr ⟨41, 131, false, rfl, rfl, rfl, by decide, rfl⟩) rfl rfl rfl rfl Tryz.underlying5 (.inr (.inr (.inl ⟨_, rfl⟩))) (by rw [cell_of_row _ _ _ _ _ _ fnone_48.out]; rfl) rfl) ?_
      refine Rel.steps_cons (Rel.step_run1 (n := 191) (j := 43) (t := 133) rfl (.inr ⟨41, 131, false, rfl, rfl, rfl, by decide, rfl⟩) rfl rfl rfl (fun ρ w' hb h1 hk => by simp [execOp, h1, hk, go_sem]) rfl) ?_
      refine Rel.steps_cons (Rel.step_run2 (n := 191) (j := 41) (t := 131) (j2 := 44) (t2 := 134) rfl (.inl rfl) rfl rfl rfl rfl rfl rfl (fun ρ w' _ h1 h2 hk => by simp [execOp, h1, h2, hk, asBool]) rfl) ?_
      exact trivial
    intro v b49 hv hb49
    have e49 : v 45 = .bool false := hv 45 (by decide)
    have hs49 := hb49.size
    have hB_50 := veil (two_below hB_48.out (hb49))
    have fv_50 := veil (((hb49).block _ (by omega)).trans fv_48.out)
    have fx11_50 := veil (((hb49).block _ (by omega)).trans fx11_48.out)
    have fx13_50 := veil (((hb49).block _ (by omega)).trans fx13_48.out)
    have fnone_50 := veil (((hb49).block _ (by omega)).trans fnone_48.out)
    have fx17_50 := veil (((hb49).block _ (by omega)).trans fx17_48.out)
    have fone_50 := veil (((hb49).block _ (by omega)).trans fone_48.out)
    have ftwo_50 := veil (((hb49).block _ (by omega)).trans ftwo_47.out)
    have fr_50 := veil (fr_48.out.below (hb49))
    have fgot_50 := veil (fgot_48.out.below (hb49))
    have fsize_50 := veil (fsize_48.out.below (hb49))
    have flast_50 := veil (flast_48.out.below (hb49))
    have fgone_50 := veil (fgone_48.out.below (hb49))
    have fp_50 := veil (fp_48.out.below (hb49))
    have fq_50 := veil (fq_48.out.below (hb49))
    simp only [Rel.fill, Act.put, List.setIfInBounds_toArray, List.set_cons_zero, List.set_cons_succ]
    rw [e49]
    clear hb49 hv e49 hB_48 fv_48 fx11_48 fx13_48 fnone_48 fx17_48 fone_48 ftwo_47 fr_48 fgot_48 fsize_48 flast_48 fgone_48 fp_48 fq_48
    go_wp2_with fail
    refine Rel.wp_region_rel (n := 191) [Rel.is (.bool true), Rel.is (.bool true), Rel.is (.pointer (some ⟨a39.heap.size, 1, none⟩)), Rel.is (.string (numS k)), Rel.is (.int .i64 k), Rel.is (.string (numS k)), Rel.is (.bool true), Rel.is (.bool true), Rel.is (.bool true), Rel.is (.pointer (some ⟨a45.heap.size, 1, none⟩)), Rel.is (.string (numS (k + 1))), Rel.is (.int .i64 k), Rel.is (.int .i64 (k + 1)), Rel.is (.string (numS (k + 1))), Rel.is (.bool true), Rel.is (.bool true), Rel.is (.bool true), Rel.rd (lineL ⟨#[58]⟩ (numS k)), Rel.is (.string (strOfNums (lineL ⟨#[58]⟩ (numS k)))), Rel.is (.int .i64 k), Rel.rd (lineL ⟨#[58]⟩ (numS k)), Rel.is (.string (strOfNums (lineL ⟨#[58]⟩ (numS k)))), Rel.is (.bool true), Rel.is (.bool true), Rel.is (.bool true), Rel.rd (lineL ⟨#[58]⟩ (numS (k + 1))), Rel.is (.string (strOfNums (lineL ⟨#[58]⟩ (numS (k + 1))))), Rel.is (.int .i64 k), Rel.is (.int .i64 (k + 1)), Rel.rd (lineL ⟨#[58]⟩ (numS (k + 1))), Rel.is (.string (strOfNums (lineL ⟨#[58]⟩ (numS (k + 1))))), Rel.is (.bool true), Rel.is (.bool true), Rel.is (.bool true)] (by kernel_rfl) (by rfl) (by kernel_rfl) ?_ ?_
    · refine Rel.steps_cons (Rel.step_wasB (n := 191) (t := 5) rfl (.inl rfl) (.inl rfl) rfl (by kernel_rfl) rfl) ?_
      refine Rel.steps_cons (Rel.step_passB (n := 191) (j := 0) (t := 158) rfl (.inl rfl) (.inl rfl) rfl rfl rfl rfl) ?_
      refine Rel.steps_cons (Rel.step_run0 (n := 191) (t := 19) (v := .pointer (some ⟨a39.heap.size, 0, none⟩)) rfl (.inr ⟨1, 159, true, rfl, rfl, rfl, by decide, rfl⟩) rfl (by kernel_rfl) (fun ρ w' hb h1 hk => by simp [execOp, h1, hk, go_sem, Addr.add]) rfl) ?_
      refine Rel.steps_cons (Rel.step_cell (n := 191) (j := 2) (t := 160) rfl (.inr ⟨1, 159, true, rfl, rfl, rfl, by decide, rfl⟩) rfl rfl rfl rfl Tryz.underlying9 (.inl rfl) (by rw [cell_of_row _ _ _ _ _ _ fone_50.out]; rfl) rfl) ?_
      refine Rel.steps_cons (Rel.step_wasB (n := 191) (t := 1) rfl (.inr ⟨1, 159, true, rfl, rfl, rfl, by decide, rfl⟩) (.inl rfl) rfl (by kernel_rfl) rfl) ?_
      refine Rel.steps_cons (Rel.step_callB (n := 191) rfl (.inr ⟨1, 159, true, rfl, rfl, rfl, by decide, rfl⟩) Tryz.func13 (by kernel_rfl) rfl #[.int .i64 k] rfl (fun b w D => by simp only [List.map_toArray, List.map_cons, List.map_nil, show b.eval (.tmp 162) = .int .i64 k from D.is 4 162 rfl rfl rfl]) (fun w hb => (rtext_any _ w hk).mono fun e w' h => ⟨_, h.1, rfl, h.2⟩)) ?_
      refine Rel.steps_cons (Rel.step_texts (n := 191) (j := 3) (t := 161) (j2 := 5) (t2 := 163) rfl (.inr ⟨1, 159, true, rfl, rfl, rfl, by decide, rfl⟩) rfl Tryz.underlying9 rfl rfl rfl rfl rfl rfl (.inl ⟨rfl, (decide_eq_true rfl).symm⟩) rfl) ?_
      refine Rel.steps_cons (Rel.step_run2 (n := 191) (j := 1) (t := 159) (j2 := 6) (t2 := 164) rfl (.inl rfl) rfl rfl rfl rfl rfl rfl (fun ρ w' _ h1 h2 hk => by simp [execOp, h1, h2, hk, asBool]) rfl) ?_
      refine Rel.steps_cons (Rel.step_passB (n := 191) (j := 7) (t := 165) rfl (.inl rfl) (.inl rfl) rfl rfl rfl rfl) ?_
      refine Rel.steps_cons (Rel.step_run0 (n := 191) (t := 21) (v := .pointer (some ⟨a45.heap.size, 0, none⟩)) rfl (.inr ⟨8, 166, true, rfl, rfl, rfl, by decide, rfl⟩) rfl (by kernel_rfl) (fun ρ w' hb h1 hk => by simp [execOp, h1, hk, go_sem, Addr.add]) rfl) ?_
      refine Rel.steps_cons (Rel.step_cell (n := 191) (j := 9) (t := 167) rfl (.inr ⟨8, 166, true, rfl, rfl, rfl, by decide, rfl⟩) rfl rfl rfl rfl Tryz.underlying9 (.inl rfl) (by rw [cell_of_row _ _ _ _ _ _ ftwo_50.out]; rfl) rfl) ?_
      refine Rel.steps_cons (Rel.step_wasB (n := 191) (t := 1) rfl (.inr ⟨8, 166, true, rfl, rfl, rfl, by decide, rfl⟩) (.inl rfl) rfl (by kernel_rfl) rfl) ?_
      refine Rel.steps_cons (Rel.step_run1 (n := 191) (j := 11) (t := 169) rfl (.inr ⟨8, 166, true, rfl, rfl, rfl, by decide, rfl⟩) rfl rfl rfl (fun ρ w' hb h1 hk => by simp [execOp, h1, hk, go_sem, iwrapE hk1]) rfl) ?_
      refine Rel.steps_cons (Rel.step_callB (n := 191) rfl (.inr ⟨8, 166, true, rfl, rfl, rfl, by decide, rfl⟩) Tryz.func13 (by kernel_rfl) rfl #[.int .i64 (k + 1)] rfl (fun b w D => by simp only [List.map_toArray, List.map_cons, List.map_nil, show b.eval (.tmp 170) = .int .i64 (k + 1) from D.is 12 170 rfl rfl rfl]) (fun w hb => (rtext_any _ w hk1).mono fun e w' h => ⟨_, h.1, rfl, h.2⟩)) ?_
      refine Rel.steps_cons (Rel.step_texts (n := 191) (j := 10) (t := 168) (j2 := 13) (t2 := 171) rfl (.inr ⟨8, 166, true, rfl, rfl, rfl, by decide, rfl⟩) rfl Tryz.underlying9 rfl rfl rfl rfl rfl rfl (.inl ⟨rfl, (decide_eq_true rfl).symm⟩) rfl) ?_
      refine Rel.steps_cons (Rel.step_run2 (n := 191) (j := 8) (t := 166) (j2 := 14) (t2 := 172) rfl (.inl rfl) rfl rfl rfl rfl rfl rfl (fun ρ w' _ h1 h2 hk => by simp [execOp, h1, h2, hk, asBool]) rfl) ?_
      refine Rel.steps_cons (Rel.step_passB (n := 191) (j := 15) (t := 173) rfl (.inl rfl) (.inl rfl) rfl rfl rfl rfl) ?_
      refine Rel.steps_cons (Rel.step_rdB (n := 191) (t := 20) (A := A39) (m := n39) (c := c39) rfl (.inr ⟨16, 174, true, rfl, rfl, rfl, by decide, rfl⟩) rfl rfl (by kernel_rfl) fp_50.out rfl) ?_
      refine Rel.steps_cons (Rel.step_strB (n := 191) (j := 17) (t := 175) rfl (.inr ⟨16, 174, true, rfl, rfl, rfl, by decide, rfl⟩) rfl Tryz.underlying29 Tryz.underlying5 Tryz.underlying9 rfl rfl rfl rfl) ?_
      refine Rel.steps_cons (Rel.step_wasB (n := 191) (t := 1) rfl (.inr ⟨16, 174, true, rfl, rfl, rfl, by decide, rfl⟩) (.inl rfl) rfl (by kernel_rfl) rfl) ?_
      refine Rel.steps_cons (Rel.step_callB (n := 191) rfl (.inr ⟨16, 174, true, rfl, rfl, rfl, by decide, rfl⟩) Tryz.func15 (by kernel_rfl) rfl #[.int .i64 k] rfl (fun b w D => by simp only [List.map_toArray, List.map_cons, List.map_nil, show b.eval (.tmp 177) = .int .i64 k from D.is 19 177 rfl rfl rfl]) (fun w hb => rdB (by rw [line_len]; omega) (YInt_any _ w hk))) ?_
      refine Rel.steps_cons (Rel.step_strB (n := 191) (j := 20) (t := 178) rfl (.inr ⟨16, 174, true, rfl, rfl, rfl, by decide, rfl⟩) rfl Tryz.underlying29 Tryz.underlying5 Tryz.underlying9 rfl rfl rfl rfl) ?_
      refine Rel.steps_cons (Rel.step_texts (n := 191) (j := 18) (t := 176) (j2 := 21) (t2 := 179) rfl (.inr ⟨16, 174, true, rfl, rfl, rfl, by decide, rfl⟩) rfl Tryz.underlying9 rfl rfl rfl rfl rfl rfl (.inl ⟨rfl, (decide_eq_true rfl).symm⟩) rfl) ?_
      refine Rel.steps_cons (Rel.step_run2 (n := 191) (j := 16) (t := 174) (j2 := 22) (t2 := 180) rfl (.inl rfl) rfl rfl rfl rfl rfl rfl (fun ρ w' _ h1 h2 hk => by simp [execOp, h1, h2, hk, asBool]) rfl) ?_
      refine Rel.steps_cons (Rel.step_passB (n := 191) (j := 23) (t := 181) rfl (.inl rfl) (.inl rfl) rfl rfl rfl rfl) ?_
      refine Rel.steps_cons (Rel.step_rdB (n := 191) (t := 22) (A := A45) (m := n45) (c := c45) rfl (.inr ⟨24, 182, true, rfl, rfl, rfl, by decide, rfl⟩) rfl rfl (by kernel_rfl) fq_50.out rfl) ?_
      refine Rel.steps_cons (Rel.step_strB (n := 191) (j := 25) (t := 183) rfl (.inr ⟨24, 182, true, rfl, rfl, rfl, by decide, rfl⟩) rfl Tryz.underlying29 Tryz.underlying5 Tryz.underlying9 rfl rfl rfl rfl) ?_
      refine Rel.steps_cons (Rel.step_wasB (n := 191) (t := 1) rfl (.inr ⟨24, 182, true, rfl, rfl, rfl, by decide, rfl⟩) (.inl rfl) rfl (by kernel_rfl) rfl) ?_
      refine Rel.steps_cons (Rel.step_run1 (n := 191) (j := 27) (t := 185) rfl (.inr ⟨24, 182, true, rfl, rfl, rfl, by decide, rfl⟩) rfl rfl rfl (fun ρ w' hb h1 hk => by simp [execOp, h1, hk, go_sem, iwrapE hk1]) rfl) ?_
      refine Rel.steps_cons (Rel.step_callB (n := 191) rfl (.inr ⟨24, 182, true, rfl, rfl, rfl, by decide, rfl⟩) Tryz.func15 (by kernel_rfl) rfl #[.int .i64 (k + 1)] rfl (fun b w D => by simp only [List.map_toArray, List.map_cons, List.map_nil, show b.eval (.tmp 186) = .int .i64 (k + 1) from D.is 28 186 rfl rfl rfl]) (fun w hb => rdB (by rw [line_len]; omega) (YInt_any _ w hk1))) ?_
      refine Rel.steps_cons (Rel.step_strB (n := 191) (j := 29) (t := 187) rfl (.inr ⟨24, 182, true, rfl, rfl, rfl, by decide, rfl⟩) rfl Tryz.underlying29 Tryz.underlying5 Tryz.underlying9 rfl rfl rfl rfl) ?_
      refine Rel.steps_cons (Rel.step_texts (n := 191) (j := 26) (t := 184) (j2 := 30) (t2 := 188) rfl (.inr ⟨24, 182, true, rfl, rfl, rfl, by decide, rfl⟩) rfl Tryz.underlying9 rfl rfl rfl rfl rfl rfl (.inl ⟨rfl, (decide_eq_true rfl).symm⟩) rfl) ?_
      refine Rel.steps_cons (Rel.step_run2 (n := 191) (j := 24) (t := 182) (j2 := 31) (t2 := 189) rfl (.inl rfl) rfl rfl rfl rfl rfl rfl (fun ρ w' _ h1 h2 hk => by simp [execOp, h1, h2, hk, asBool]) rfl) ?_
      refine Rel.steps_cons (Rel.step_passB (n := 191) (j := 32) (t := 190) rfl (.inl rfl) (.inr rfl) rfl rfl rfl rfl) ?_
      exact trivial
    intro v b51 hv hb51
    have e51 : v 33 = .bool true := hv 33 (by decide)
    have hs51 := hb51.size
    have hB_52 := veil (two_below hB_50.out (hb51))
    have fv_52 := veil (((hb51).block _ (by omega)).trans fv_50.out)
    have fx11_52 := veil (((hb51).block _ (by omega)).trans fx11_50.out)
    have fx13_52 := veil (((hb51).block _ (by omega)).trans fx13_50.out)
    have fnone_52 := veil (((hb51).block _ (by omega)).trans fnone_50.out)
    have fx17_52 := veil (((hb51).block _ (by omega)).trans fx17_50.out)
    have fone_52 := veil (((hb51).block _ (by omega)).trans fone_50.out)
    have ftwo_52 := veil (((hb51).block _ (by omega)).trans ftwo_50.out)
    have fr_52 := veil (fr_50.out.below (hb51))
    have fgot_52 := veil (fgot_50.out.below (hb51))
    have fsize_52 := veil (fsize_50.out.below (hb51))
    have flast_52 := veil (flast_50.out.below (hb51))
    have fgone_52 := veil (fgone_50.out.below (hb51))
    have fp_52 := veil (fp_50.out.below (hb51))
    have fq_52 := veil (fq_50.out.below (hb51))
    simp only [Rel.fill, Act.put, List.setIfInBounds_toArray, List.set_cons_zero, List.set_cons_succ]
    rw [e51]
    clear hb51 hv e51 hB_50 fv_50 fx11_50 fx13_50 fnone_50 fx17_50 fone_50 ftwo_50 fr_50 fgot_50 fsize_50 flast_50 fgone_50 fp_50 fq_50
    go_wp2_with fail
    go_ret
    exact ⟨rfl, hB_52.out⟩
theorem back_walk (a b : ByteArray) (k : Int) (W : World) (wk : (Lit.int .i64 k).wf = true) (hT : Tabs W) :
    Calls Tryz.prog 4 #[.agg #[.string a, .string b], .int .i64 k] W fun e w' => e = .returned (.bool true) ∧ Below W.heap.size W w' :=
  back_any a b k W (show -9223372036854775808 ≤ k ∧ k ≤ 9223372036854775807 by simpa [Lit.wf, IntKind.min, IntKind.max, IntKind.signed, IntKind.bits] using wk) hT
end Go.Proofs.Tryz.Ln
