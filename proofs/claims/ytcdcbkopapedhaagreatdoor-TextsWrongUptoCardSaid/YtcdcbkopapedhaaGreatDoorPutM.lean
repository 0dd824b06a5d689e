import Derived.Test.YtcdcbkopapedhaaGreatDoorPut
/- The document's sorted sets with one more. -/
namespace Go.Proofs.Tryz.Vl
open Go Go.RowKit Go.Proofs.Mem
open Go.Proofs.YtcdcbkopapedhaaGreatDoorW.PrintWords
set_option linter.unusedVariables false
set_option linter.unusedSimpArgs false
theorem one_mk (p : MK) : ∀ u ∈ ([.string p.1, .int .i64 p.2] : List Value), u.oneCell' = true := by
  intro u hu
  simp only [List.mem_cons, List.not_mem_nil, or_false] at hu
  rcases hu with rfl | rfl <;> rfl
set_option maxRecDepth 100000 in
set_option maxHeartbeats 8000000 in
theorem PutMark_any (x : Value) (l : List MK) (s : MK) (w : World) (hx : gR w x l.length (mcs l)) (hn : l.length ≤ 1000000) :
    Calls Tryz.prog 12 #[x, .agg #[.string s.1, .int .i64 s.2]] w fun e w' => ∃ v, e = .returned v ∧ w'.ownsRow w.heap.size 43 2 v (putM s l).length (mcs (putM s l)) ∧ Below w.heap.size w w' := by
  obtain ⟨A, c, rfl, hc⟩ := hx.slice
  obtain ⟨n, hln⟩ : ∃ n, l.length = n := ⟨_, rfl⟩
  rw [hln] at hx hn ⊢
  obtain ⟨wB, hwB⟩ : ∃ wB : World, wB = w.alloc (.cells #[.string s.1, .int .i64 s.2] 43) := ⟨_, rfl⟩
  have hsB : wB.heap.size = w.heap.size + 1 := by rw [hwB]; simp
  have hcB : wB.heap[w.heap.size]? = some (.cells #[.string s.1, .int .i64 s.2] 43 (0, 0)) := by rw [hwB]; exact heap_alloc_new w _
  have hbB : Below w.heap.size w wB := by rw [hwB]; exact below_alloc (Below.refl _ _) _
  have hbox : Veil (∀ W, Below wB.heap.size wB W → W.cell? ⟨w.heap.size, 0, none⟩ = some (.string s.1) ∧ W.cell? ⟨w.heap.size, 1, none⟩ = some (.int .i64 s.2) ∧ W.heap[w.heap.size]? = some (.cells #[.string s.1, .int .i64 s.2] 43 (0, 0))) := veil (fun W hW => by
    have h := (hW.block _ (by omega)).trans hcB
    exact ⟨by rw [cell_of_row _ _ _ _ _ _ h]; rfl, by rw [cell_of_row _ _ _ _ _ _ h]; rfl, h⟩)
  have hx' := veil (hx.below hbB)
  have hbB' := veil hbB
  have hwB' := veil hwB
  have hsB' := veil hsB
  have hln' := veil hln
  clear hx hln hc hcB hbB hwB
  obtain ⟨wE, hwE⟩ : ∃ wE : World, wE = wB.alloc (.cells #[] 43) := ⟨_, rfl⟩
  have hO : Veil (wE.ownsRow wB.heap.size 43 2 (.slice (some ⟨w.heap.size + 1, 0, none⟩) 0 0) ([] : List MK).length (mcs [])) := veil (by rw [← hsB, hwE]; exact ownNew _ _ _ (Nat.le_refl _))
  have hbE : Veil (Below wB.heap.size wB wE) := veil (by rw [hwE]; exact below_alloc (Below.refl _ _) _)
  have hwE' := veil hwE
  clear hwE hsB
  go_enter Tryz.func12, Tryz.ntmps12
  go_wp2_with fail
  rw [← hwB'.out, ← hwE'.out]
  go_loopw [5, 6, 7] (fun o p i wr => ∃ (q : Nat) (L : List MK) (pb : Bool), q ≤ n ∧ i = .int .i64 q ∧ p = .bool pb ∧ Veil (foldM s (l.take q) = (L, pb)) ∧ wr.ownsRow wB.heap.size 43 2 o L.length (mcs L) ∧ Below wB.heap.size wB wr) (fun _ _ i _ => n - (intOf i).toNat)
  case atStart => exact ⟨0, [], false, by omega, rfl, rfl, veil rfl, hO.out, hbE.out⟩
  case round =>
    obtain ⟨q, L, pb, hq, rfl, rfl, hst, ho, hb⟩ := hrel
    have ho' := veil ho
    have hb' := veil hb
    clear ho hb
    by_cases hlt : q < n
    · have q0 : (0 : Int) ≤ q := by omega
      have qN : (q : Int) < n := by omega
      obtain ⟨b, o', c', e, _, hcell⟩ := hx'.out.there (by omega)
      injection e with e1 _ e2
      subst e1
      subst e2
      obtain ⟨y, hy⟩ : ∃ y, l[q]? = some y := ⟨_, List.getElem?_eq_getElem (by rw [hln'.out]; exact hlt)⟩
      have hs1 := foldM_succ s y l q hy
      rw [hst.out] at hs1
      have hyc := mcs_at l q y hy
      have hcellAt : ∀ W, Below wB.heap.size wB W → W.cell? ⟨b, o' + q * 2, none⟩ = some (.string y.1) ∧ W.cell? ⟨b, o' + q * 2 + 1, none⟩ = some (.int .i64 y.2) := fun W hW => ⟨(hx'.out.below hW).cells (by omega) _ _ hyc.1, (hx'.out.below hW).cells (by omega) _ _ hyc.2⟩
      have hAt := veil hcellAt
      have hL : L.length ≤ 2 * q := by
        have h := foldM_len s (l.take q)
        rw [hst.out, List.length_take] at h
        simp only at h
        omega
      have hS1 := veil hs1
      have kk := veil (show ((q : Int) + 1) = ((q + 1 : Nat) : Int) by omega)
      clear hcell hs1 hyc hcellAt hst
      cases hys : decide (y.1 = s.1)
      · have hne : (y.1.toList == s.1.toList) = false := by rw [tl_dec]; exact hys
        have hys' := of_decide_eq_false hys
        have hsz : wB.heap.size ≤ wr.heap.size := hb'.out.size
        obtain ⟨k1, k2⟩ := hAt.out wr hb'.out
        obtain ⟨b1, b2, b3⟩ := hbox.out wr hb'.out
        clear hys
        go_wp2_with fail
        go_quiet (fail)
        obtain ⟨wp, hwq⟩ : ∃ WW : World, WW = wr.drewN nq := ⟨_, rfl⟩
        have hoP : Veil (wp.ownsRow wB.heap.size 43 2 u5 L.length (mcs L)) := veil (by rw [hwq]; exact ho'.out)
        have hbP : Veil (Below wB.heap.size wB wp) := veil (by rw [hwq]; exact pw_below_drewN hb'.out _)
        rw [← hwq]
        clear hwq ho' hb'
        clear hsz k1 k2 b1 b2 b3
        clear hne
        cases pb
        · rcases Int.lt_trichotomy s.2 y.2 with hn1 | hn1 | hn1
          · have hg1 : (decide (s.2 < y.2)) = true := decide_eq_true hn1
            have hS2 : Veil (foldM s (l.take (q + 1)) = ((L ++ [s]) ++ [y], true)) := veil (by rw [hS1.out]; unfold stepM; rw [if_neg hys']; simp [ahead, hn1])
            clear hS1 hys'
            have hsz : wB.heap.size ≤ wp.heap.size := hbP.out.size
            obtain ⟨k1, k2⟩ := hAt.out wp hbP.out
            obtain ⟨b1, b2, b3⟩ := hbox.out wp hbP.out
            go_wp2_with fail
            go_quiet (fail)
            obtain ⟨wq, hwq⟩ : ∃ WW : World, WW = wp.drewN nq := ⟨_, rfl⟩
            have hoQ : Veil (wq.ownsRow wB.heap.size 43 2 u5 L.length (mcs L)) := veil (by rw [hwq]; exact hoP.out)
            have hbQ : Veil (Below wB.heap.size wB wq) := veil (by rw [hwq]; exact pw_below_drewN hbP.out _)
            rw [← hwq]
            clear hwq hoP hbP
            clear hg1 hn1
            clear hsz k1 k2 b1 b2 b3
            have hsz : wB.heap.size ≤ wq.heap.size := hbQ.out.size
            obtain ⟨k1, k2⟩ := hAt.out wq hbQ.out
            obtain ⟨b1, b2, b3⟩ := hbox.out wq hbQ.out
            go_wp2_with (refine print_append_cells (w0 := wB) wB.heap.size rfl (.tmp 55) (.tmp 57) 24 43 (.agg #[.string ⟨#[]⟩, .int .i64 0]) 2 24 rfl Tryz.underlying24 infoMk rfl (by decide) (by decide) _ L.length (mcs L) [.string s.1, .int .i64 s.2] rfl rfl rfl (one_mk s) hoQ.out hbQ.out hsz (by omega) ?_)
            intro v1 w1 ho1 hb1 _ _
            have hoX : Veil (w1.ownsRow wB.heap.size 43 2 v1 (L ++ [s]).length (mcs (L ++ [s]))) := veil (by rw [mcs_snoc, List.length_append]; exact ho1)
            have hbX := veil hb1
            have hLX : (L ++ [s]).length ≤ 2 * n + 1 := by rw [List.length_append, List.length_singleton]; omega
            clear ho1 hb1 hoQ hbQ hL
            clear hsz k1 k2 b1 b2 b3
            generalize L ++ [s] = M at hS2 hoX hLX
            have hsz : wB.heap.size ≤ w1.heap.size := hbX.out.size
            obtain ⟨k1, k2⟩ := hAt.out w1 hbX.out
            obtain ⟨b1, b2, b3⟩ := hbox.out w1 hbX.out
            go_wp2_with (refine print_append_cells (w0 := wB) wB.heap.size rfl (.tmp 59) (.tmp 64) 24 43 (.agg #[.string ⟨#[]⟩, .int .i64 0]) 2 24 rfl Tryz.underlying24 infoMk rfl (by decide) (by decide) _ M.length (mcs M) [.string y.1, .int .i64 y.2] rfl rfl rfl (one_mk y) hoX.out hbX.out hsz (by omega) ?_)
            intro v2 w2 ho2 hb2 _ _
            have ho2' := veil ho2
            have hb2' := veil hb2
            clear ho2 hb2
            clear hsz k1 k2 b1 b2 b3
            go_wp2_with fail
            go_roundw
            case rel => exact ⟨q + 1, M ++ [y], true, hlt, congrArg (Value.int .i64) kk.out, rfl, hS2, by rw [mcs_snoc, List.length_append]; exact ho2'.out, hb2'.out⟩
            case measure => simp [intOf]; omega
          · have hg1 : (decide (s.2 < y.2)) = false := by simp; omega
            have hg2 : (y.2 == s.2) = true := by simp [hn1]
            cases hge : Op.bytesLess s.1.toList y.1.toList
            · have hg := fun W => Go.Proofs.Tryz.Cmp.gtr_texts (P := Tryz.prog) y.1 s.1 9 _ hge W
              have hS2 : Veil (foldM s (l.take (q + 1)) = (L ++ [y], false)) := veil (by rw [hS1.out]; unfold stepM; rw [if_neg hys']; simp [ahead, hn1, hge])
              clear hS1 hys' hge
              have hsz : wB.heap.size ≤ wp.heap.size := hbP.out.size
              obtain ⟨k1, k2⟩ := hAt.out wp hbP.out
              obtain ⟨b1, b2, b3⟩ := hbox.out wp hbP.out
              clear hn1
              go_wp2_with fail
              go_quiet (fail)
              obtain ⟨wq, hwq⟩ : ∃ WW : World, WW = wp.drewN nq := ⟨_, rfl⟩
              have hoX : Veil (wq.ownsRow wB.heap.size 43 2 u5 L.length (mcs L)) := veil (by rw [hwq]; exact hoP.out)
              have hbX : Veil (Below wB.heap.size wB wq) := veil (by rw [hwq]; exact pw_below_drewN hbP.out _)
              rw [← hwq]
              clear hwq hoP hbP
              clear hg1 hg2 hg
              clear hsz k1 k2 b1 b2 b3
              generalize L = M at hS2 hoX hL
              have hsz : wB.heap.size ≤ wq.heap.size := hbX.out.size
              obtain ⟨k1, k2⟩ := hAt.out wq hbX.out
              obtain ⟨b1, b2, b3⟩ := hbox.out wq hbX.out
              go_wp2_with (refine print_append_cells (w0 := wB) wB.heap.size rfl (.tmp 59) (.tmp 64) 24 43 (.agg #[.string ⟨#[]⟩, .int .i64 0]) 2 24 rfl Tryz.underlying24 infoMk rfl (by decide) (by decide) _ M.length (mcs M) [.string y.1, .int .i64 y.2] rfl rfl rfl (one_mk y) hoX.out hbX.out hsz (by omega) ?_)
              intro v2 w2 ho2 hb2 _ _
              have ho2' := veil ho2
              have hb2' := veil hb2
              clear ho2 hb2
              clear hsz k1 k2 b1 b2 b3
              go_wp2_with fail
              go_roundw
              case rel => exact ⟨q + 1, M ++ [y], false, hlt, congrArg (Value.int .i64) kk.out, rfl, hS2, by rw [mcs_snoc, List.length_append]; exact ho2'.out, hb2'.out⟩
              case measure => simp [intOf]; omega
            · have hg := fun W => Go.Proofs.Tryz.Cmp.gtr_texts (P := Tryz.prog) y.1 s.1 9 _ hge W
              have hS2 : Veil (foldM s (l.take (q + 1)) = ((L ++ [s]) ++ [y], true)) := veil (by rw [hS1.out]; unfold stepM; rw [if_neg hys']; simp [ahead, hn1, hge])
              clear hS1 hys' hge
              have hsz : wB.heap.size ≤ wp.heap.size := hbP.out.size
              obtain ⟨k1, k2⟩ := hAt.out wp hbP.out
              obtain ⟨b1, b2, b3⟩ := hbox.out wp hbP.out
              clear hn1
              go_wp2_with fail
              go_quiet (fail)
              obtain ⟨wq, hwq⟩ : ∃ WW : World, WW = wp.drewN nq := ⟨_, rfl⟩
              have hoQ : Veil (wq.ownsRow wB.heap.size 43 2 u5 L.length (mcs L)) := veil (by rw [hwq]; exact hoP.out)
              have hbQ : Veil (Below wB.heap.size wB wq) := veil (by rw [hwq]; exact pw_below_drewN hbP.out _)
              rw [← hwq]
              clear hwq hoP hbP
              clear hg1 hg2 hg
              clear hsz k1 k2 b1 b2 b3
              have hsz : wB.heap.size ≤ wq.heap.size := hbQ.out.size
              obtain ⟨k1, k2⟩ := hAt.out wq hbQ.out
              obtain ⟨b1, b2, b3⟩ := hbox.out wq hbQ.out
              go_wp2_with (refine print_append_cells (w0 := wB) wB.heap.size rfl (.tmp 55) (.tmp 57) 24 43 (.agg #[.string ⟨#[]⟩, .int .i64 0]) 2 24 rfl Tryz.underlying24 infoMk rfl (by decide) (by decide) _ L.length (mcs L) [.string s.1, .int .i64 s.2] rfl rfl rfl (one_mk s) hoQ.out hbQ.out hsz (by omega) ?_)
              intro v1 w1 ho1 hb1 _ _
              have hoX : Veil (w1.ownsRow wB.heap.size 43 2 v1 (L ++ [s]).length (mcs (L ++ [s]))) := veil (by rw [mcs_snoc, List.length_append]; exact ho1)
              have hbX := veil hb1
              have hLX : (L ++ [s]).length ≤ 2 * n + 1 := by rw [List.length_append, List.length_singleton]; omega
              clear ho1 hb1 hoQ hbQ hL
              clear hsz k1 k2 b1 b2 b3
              generalize L ++ [s] = M at hS2 hoX hLX
              have hsz : wB.heap.size ≤ w1.heap.size := hbX.out.size
              obtain ⟨k1, k2⟩ := hAt.out w1 hbX.out
              obtain ⟨b1, b2, b3⟩ := hbox.out w1 hbX.out
              go_wp2_with (refine print_append_cells (w0 := wB) wB.heap.size rfl (.tmp 59) (.tmp 64) 24 43 (.agg #[.string ⟨#[]⟩, .int .i64 0]) 2 24 rfl Tryz.underlying24 infoMk rfl (by decide) (by decide) _ M.length (mcs M) [.string y.1, .int .i64 y.2] rfl rfl rfl (one_mk y) hoX.out hbX.out hsz (by omega) ?_)
              intro v2 w2 ho2 hb2 _ _
              have ho2' := veil ho2
              have hb2' := veil hb2
              clear ho2 hb2
              clear hsz k1 k2 b1 b2 b3
              go_wp2_with fail
              go_roundw
              case rel => exact ⟨q + 1, M ++ [y], true, hlt, congrArg (Value.int .i64) kk.out, rfl, hS2, by rw [mcs_snoc, List.length_append]; exact ho2'.out, hb2'.out⟩
              case measure => simp [intOf]; omega
          · have hg1 : (decide (s.2 < y.2)) = false := by simp; omega
            have hg2 : (y.2 == s.2) = false := by simp; omega
            have h1 : ¬ s.2 < y.2 := by omega
            have h2 : ¬ y.2 = s.2 := by omega
            have hS2 : Veil (foldM s (l.take (q + 1)) = (L ++ [y], false)) := veil (by rw [hS1.out]; unfold stepM; rw [if_neg hys']; simp [ahead, h1, h2])
            clear h1 h2
            clear hS1 hys'
            have hsz : wB.heap.size ≤ wp.heap.size := hbP.out.size
            obtain ⟨k1, k2⟩ := hAt.out wp hbP.out
            obtain ⟨b1, b2, b3⟩ := hbox.out wp hbP.out
            clear hn1
            go_wp2_with fail
            go_quiet (fail)
            obtain ⟨wq, hwq⟩ : ∃ WW : World, WW = wp.drewN nq := ⟨_, rfl⟩
            have hoX : Veil (wq.ownsRow wB.heap.size 43 2 u5 L.length (mcs L)) := veil (by rw [hwq]; exact hoP.out)
            have hbX : Veil (Below wB.heap.size wB wq) := veil (by rw [hwq]; exact pw_below_drewN hbP.out _)
            rw [← hwq]
            clear hwq hoP hbP
            clear hg1 hg2
            clear hsz k1 k2 b1 b2 b3
            generalize L = M at hS2 hoX hL
            have hsz : wB.heap.size ≤ wq.heap.size := hbX.out.size
            obtain ⟨k1, k2⟩ := hAt.out wq hbX.out
            obtain ⟨b1, b2, b3⟩ := hbox.out wq hbX.out
            go_wp2_with (refine print_append_cells (w0 := wB) wB.heap.size rfl (.tmp 59) (.tmp 64) 24 43 (.agg #[.string ⟨#[]⟩, .int .i64 0]) 2 24 rfl Tryz.underlying24 infoMk rfl (by decide) (by decide) _ M.length (mcs M) [.string y.1, .int .i64 y.2] rfl rfl rfl (one_mk y) hoX.out hbX.out hsz (by omega) ?_)
            intro v2 w2 ho2 hb2 _ _
            have ho2' := veil ho2
            have hb2' := veil hb2
            clear ho2 hb2
            clear hsz k1 k2 b1 b2 b3
            go_wp2_with fail
            go_roundw
            case rel => exact ⟨q + 1, M ++ [y], false, hlt, congrArg (Value.int .i64) kk.out, rfl, hS2, by rw [mcs_snoc, List.length_append]; exact ho2'.out, hb2'.out⟩
            case measure => simp [intOf]; omega
        · have hS2 : Veil (foldM s (l.take (q + 1)) = (L ++ [y], true)) := veil (by rw [hS1.out]; unfold stepM; rw [if_neg hys']; simp)
          clear hS1 hys'
          have hsz : wB.heap.size ≤ wp.heap.size := hbP.out.size
          obtain ⟨k1, k2⟩ := hAt.out wp hbP.out
          obtain ⟨b1, b2, b3⟩ := hbox.out wp hbP.out
          go_wp2_with fail
          go_quiet (fail)
          obtain ⟨wq, hwq⟩ : ∃ WW : World, WW = wp.drewN nq := ⟨_, rfl⟩
          have hoX : Veil (wq.ownsRow wB.heap.size 43 2 u5 L.length (mcs L)) := veil (by rw [hwq]; exact hoP.out)
          have hbX : Veil (Below wB.heap.size wB wq) := veil (by rw [hwq]; exact pw_below_drewN hbP.out _)
          rw [← hwq]
          clear hwq hoP hbP
          clear hsz k1 k2 b1 b2 b3
          generalize L = M at hS2 hoX hL
          have hsz : wB.heap.size ≤ wq.heap.size := hbX.out.size
          obtain ⟨k1, k2⟩ := hAt.out wq hbX.out
          obtain ⟨b1, b2, b3⟩ := hbox.out wq hbX.out
          go_wp2_with (refine print_append_cells (w0 := wB) wB.heap.size rfl (.tmp 59) (.tmp 64) 24 43 (.agg #[.string ⟨#[]⟩, .int .i64 0]) 2 24 rfl Tryz.underlying24 infoMk rfl (by decide) (by decide) _ M.length (mcs M) [.string y.1, .int .i64 y.2] rfl rfl rfl (one_mk y) hoX.out hbX.out hsz (by omega) ?_)
          intro v2 w2 ho2 hb2 _ _
          have ho2' := veil ho2
          have hb2' := veil hb2
          clear ho2 hb2
          clear hsz k1 k2 b1 b2 b3
          go_wp2_with fail
          go_roundw
          case rel => exact ⟨q + 1, M ++ [y], true, hlt, congrArg (Value.int .i64) kk.out, rfl, hS2, by rw [mcs_snoc, List.length_append]; exact ho2'.out, hb2'.out⟩
          case measure => simp [intOf]; omega
      · have hne : (y.1.toList == s.1.toList) = true := by rw [tl_dec]; exact hys
        have hS2 : Veil (foldM s (l.take (q + 1)) = (L, pb)) := veil (by rw [hS1.out]; unfold stepM; rw [if_pos (of_decide_eq_true hys)])
        clear hS1 hys
        have hsz : wB.heap.size ≤ wr.heap.size := hb'.out.size
        obtain ⟨k1, k2⟩ := hAt.out wr hb'.out
        obtain ⟨b1, b2, b3⟩ := hbox.out wr hb'.out
        go_wp2_with fail
        go_quiet (fail)
        obtain ⟨wz, hwq⟩ : ∃ WW : World, WW = wr.drewN nq := ⟨_, rfl⟩
        have hoZ : Veil (wz.ownsRow wB.heap.size 43 2 u5 L.length (mcs L)) := veil (by rw [hwq]; exact ho'.out)
        have hbZ : Veil (Below wB.heap.size wB wz) := veil (by rw [hwq]; exact pw_below_drewN hb'.out _)
        rw [← hwq]
        clear hwq ho' hb'
        clear hsz k1 k2 b1 b2 b3
        go_wp2_with fail
        go_roundw
        case rel => exact ⟨q + 1, L, pb, hlt, congrArg (Value.int .i64) kk.out, rfl, hS2, hoZ.out, hbZ.out⟩
        case measure => simp [intOf]; omega
    · obtain rfl : n = q := by omega
      have hst1 : foldM s l = (L, pb) := by
        have h := hst.out
        rwa [List.take_of_length_le (by rw [hln'.out]; exact Nat.le_refl _)] at h
      have hL : L.length ≤ 2 * n := by
        have h := foldM_len s l
        rw [hst1, hln'.out] at h
        exact h
      cases pb
      · have hR := veil (show putM s l = L ++ [s] by unfold putM; rw [hst1]; rfl)
        clear hst1 hst
        have hsz : wB.heap.size ≤ wr.heap.size := hb'.out.size
        obtain ⟨b1, b2, b3⟩ := hbox.out wr hb'.out
        go_wp2_with (refine print_append_cells (w0 := wB) wB.heap.size rfl (.tmp 68) (.tmp 70) 24 43 (.agg #[.string ⟨#[]⟩, .int .i64 0]) 2 24 rfl Tryz.underlying24 infoMk rfl (by decide) (by decide) _ L.length (mcs L) [.string s.1, .int .i64 s.2] rfl rfl rfl (one_mk s) ho'.out hb'.out hsz (by omega) ?_)
        intro v2 w2 ho2 hb2 _ _
        have ho2' := veil ho2
        have hb2' := veil hb2
        clear ho2 hb2
        clear hsz b1 b2 b3
        go_wp2_with fail
        go_ret
        exact ⟨_, rfl, by rw [hR.out, mcs_snoc, List.length_append]; exact own_weaken ho2'.out (by have := hsB'.out; omega), two_below hbB'.out hb2'.out⟩
      · have hR := veil (show putM s l = L by unfold putM; rw [hst1]; rfl)
        clear hst1 hst
        go_wp2_with fail
        go_ret
        exact ⟨_, rfl, by rw [hR.out]; exact own_weaken ho'.out (by have := hsB'.out; omega), two_below hbB'.out hb'.out⟩
end Go.Proofs.Tryz.Vl
