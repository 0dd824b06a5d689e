import Derived.Test.YtcdcbkopapedhaaGreatDoorFt
import Derived.Test.YtcdcbkopapedhaaGreatDoorWEqStruct
/- ref09.Same: values that read the same are the same. -/
namespace Go.Proofs.Tryz.Vl
open Go Go.RowKit Go.Proofs.Mem Go.Proofs.App
open Go.Proofs.YtcdcbkopapedhaaGreatDoorW.PrintWords Go.Proofs.YtcdcbkopapedhaaGreatDoorW.PrintLast Go.Proofs.YtcdcbkopapedhaaGreatDoorW.PrintMore
set_option linter.unusedVariables false
set_option linter.unusedSimpArgs false
theorem eqPr (d : Nat) (w : World) (x0 y0 : ByteArray) (x1 y1 : ByteArray) :
    (Op.equalIn (d + 2) 40 (.agg #[.string x0, .string x1]) (.agg #[.string y0, .string y1])).run Tryz.prog w = .ok (x0.toList == y0.toList && (x1.toList == y1.toList)) w := by
  refine eqA_of Tryz.underlying40 (by kernel_rfl) ?_
  refine eqf_cons (by rfl) (by go_simp; rfl) (by go_simp; rfl) (by go_simp) ?_
  exact eqf_last (by rfl) (by go_simp; rfl) (by go_simp; rfl) (by go_simp)
theorem neqPr (x0 : ByteArray) (x1 : ByteArray) : ∀ w : World, (Op.equalIn 10000 40 (.agg #[.string x0, .string x1]) (.agg #[.string x0, .string x1])).run Tryz.prog w = .ok true w := by
  intro w
  rw [eqPr 9998]
  simp
theorem eqMk (d : Nat) (w : World) (x0 y0 : ByteArray) (x1 y1 : Int) :
    (Op.equalIn (d + 2) 43 (.agg #[.string x0, .int .i64 x1]) (.agg #[.string y0, .int .i64 y1])).run Tryz.prog w = .ok (x0.toList == y0.toList && (x1 == y1)) w := by
  refine eqA_of Tryz.underlying43 (by kernel_rfl) ?_
  refine eqf_cons (by rfl) (by go_simp; rfl) (by go_simp; rfl) (by go_simp) ?_
  exact eqf_last (by rfl) (by go_simp; rfl) (by go_simp; rfl) (by go_simp)
theorem neqMk (x0 : ByteArray) (x1 : Int) : ∀ w : World, (Op.equalIn 10000 43 (.agg #[.string x0, .int .i64 x1]) (.agg #[.string x0, .int .i64 x1])).run Tryz.prog w = .ok true w := by
  intro w
  rw [eqMk 9998]
  simp
attribute [local go_sem] eqPr eqMk
set_option maxRecDepth 100000 in
set_option maxHeartbeats 8000000 in
theorem Texts2_any (x y : Value) (l : List BA) (w : World) (hx : gR w x l.length (scs l)) (hy : gR w y l.length (scs l)) (h2 : l.length ≤ 1000000) : Calls Tryz.prog 15 #[x, y] w fun e w' => e = .returned (.bool true) ∧ Below w.heap.size w w' := by
  obtain ⟨A1, c1, rfl, _⟩ := hx.slice
  obtain ⟨A2, c2, rfl, _⟩ := hy.slice
  obtain ⟨n, hn⟩ : ∃ n, l.length = n := ⟨_, rfl⟩
  rw [hn] at hx hy h2 ⊢
  have hx' := veil hx
  have hy' := veil hy
  have hn' := veil hn
  clear hx hy hn
  go_enter Tryz.func15, Tryz.ntmps15
  go_wp2_with fail
  go_loopw [5] (fun i wr => ∃ q : Nat, q ≤ n ∧ i = .int .i64 q ∧ Below w.heap.size w wr) (fun i _ => n - (intOf i).toNat)
  case atStart => exact ⟨0, by omega, rfl, Below.refl _ _⟩
  case round =>
    obtain ⟨q, hq, rfl, hb⟩ := hrel
    have hb' := veil hb
    clear hb
    by_cases hlt : q < n
    · have q0 : (0 : Int) ≤ q := by omega
      have qN : (q : Int) < n := by omega
      obtain ⟨s, hs⟩ : ∃ s, l[q]? = some s := ⟨_, List.getElem?_eq_getElem (by rw [hn'.out]; exact hlt)⟩
      have hyc := scs_at l q s hs
      obtain ⟨b1, o1, c1', e1, _, _⟩ := hx'.out.there (by omega)
      obtain ⟨b2, o2, c2', e2, _, _⟩ := hy'.out.there (by omega)
      injection e1 with e1 _ e1c
      injection e2 with e2 _ e2c
      subst e1
      subst e1c
      subst e2
      subst e2c
      have k1 := (hx'.out.below hb'.out).cells (by omega) _ _ hyc
      have k2 := (hy'.out.below hb'.out).cells (by omega) _ _ hyc
      have kk := veil (show ((q : Int) + 1) = ((q + 1 : Nat) : Int) by omega)
      clear hs hyc
      go_wp2_with fail
      go_quiet (fail)
      go_wp2_with fail
      go_roundw
      case rel => exact ⟨q + 1, hlt, congrArg (Value.int .i64) kk.out, pw_below_drewN hb'.out _⟩
      case measure => simp [intOf]; omega
    · obtain rfl : n = q := by omega
      go_wp2_with fail
      go_ret
      exact ⟨rfl, hb'.out⟩
set_option maxRecDepth 100000 in
set_option maxHeartbeats 8000000 in
theorem Same_any (k : Int) (s : BA) (x1 y1 z1 x2 y2 z2 : Value) (l : List BA) (h : List PR) (z : List MK) (w : World)
    (hx1 : gR w x1 l.length (scs l)) (hx2 : gR w x2 l.length (scs l)) (hy1 : gR w y1 h.length (pcs h)) (hy2 : gR w y2 h.length (pcs h)) (hz1 : gR w z1 z.length (mcs z)) (hz2 : gR w z2 z.length (mcs z)) (hl : l.length ≤ 1000000) (hh : h.length ≤ 1000000) (hz : z.length ≤ 1000000) :
    Calls Tryz.prog 8 #[.agg #[.int .u8 k, .string s, x1, y1, z1], .agg #[.int .u8 k, .string s, x2, y2, z2]] w fun e w' => e = .returned (.bool true) ∧ Below w.heap.size w w' := by
  obtain ⟨a1, a1c, rfl, _⟩ := hx1.slice
  obtain ⟨a2, a2c, rfl, _⟩ := hx2.slice
  obtain ⟨b1, b1c, rfl, _⟩ := hy1.slice
  obtain ⟨b2, b2c, rfl, _⟩ := hy2.slice
  obtain ⟨d1, d1c, rfl, _⟩ := hz1.slice
  obtain ⟨d2, d2c, rfl, _⟩ := hz2.slice
  obtain ⟨m, hm⟩ : ∃ m, h.length = m := ⟨_, rfl⟩
  obtain ⟨p, hp⟩ : ∃ p, z.length = p := ⟨_, rfl⟩
  obtain ⟨w2, hw2⟩ : ∃ w2 : World, w2 = (w.alloc (.cells #[.int .u8 k, .string s, .slice a1 l.length a1c, .slice b1 h.length b1c, .slice d1 z.length d1c] vT)).alloc (.cells #[.int .u8 k, .string s, .slice a2 l.length a2c, .slice b2 h.length b2c, .slice d2 z.length d2c] vT) := ⟨_, rfl⟩
  have hb2 : Below w.heap.size w w2 := by rw [hw2]; exact (below_alloc (Below.refl _ _) _).alloc (by simp) _
  have hs2 : w2.heap.size = w.heap.size + 2 := by rw [hw2]; simp
  have hu : w2.heap[w.heap.size]? = some (.cells #[.int .u8 k, .string s, .slice a1 l.length a1c, .slice b1 h.length b1c, .slice d1 z.length d1c] vT (0, 0)) := by rw [hw2]; exact heap_alloc2_old w _ _
  have hv : w2.heap[w.heap.size + 1]? = some (.cells #[.int .u8 k, .string s, .slice a2 l.length a2c, .slice b2 h.length b2c, .slice d2 z.length d2c] vT (0, 0)) := by
    rw [hw2]
    have h := heap_alloc_last (w.alloc (.cells #[.int .u8 k, .string s, .slice a1 l.length a1c, .slice b1 h.length b1c, .slice d1 z.length d1c] vT)) (.cells #[.int .u8 k, .string s, .slice a2 l.length a2c, .slice b2 h.length b2c, .slice d2 z.length d2c] vT)
    simpa using h
  have hcall := veil (Texts2_any _ _ l w2 (hx1.below hb2) (hx2.below hb2) hl)
  rw [hm] at hy1 hy2 hu hv hw2 hh ⊢
  rw [hp] at hz1 hz2 hu hv hw2 hz ⊢
  have hB2 := veil hb2
  have hU := veil hu
  have hV := veil hv
  have hs2' := veil hs2
  have hw2' := veil hw2
  have hy1' := veil hy1
  have hy2' := veil hy2
  have hz1' := veil hz1
  have hz2' := veil hz2
  have hm' := veil hm
  have hp' := veil hp
  clear hx1 hx2 hy1 hy2 hz1 hz2 hw2 hb2 hu hv hs2 hm hp
  go_enter Tryz.func8, Tryz.ntmps8
  go_wp2_with fail
  rw [← hw2'.out]
  refine hcall.out.mono ?_
  rintro e w3 ⟨rfl, hb3⟩
  have hB3 := veil (two_below hB2.out hb3)
  have hB23 := veil hb3
  have hcel : Veil (∀ W, Below w2.heap.size w2 W → W.cell? ⟨w.heap.size, 0, none⟩ = some (.int .u8 k) ∧ W.cell? ⟨w.heap.size, 1, none⟩ = some (.string s) ∧ W.cell? ⟨w.heap.size, 3, none⟩ = some (.slice b1 m b1c) ∧ W.cell? ⟨w.heap.size, 4, none⟩ = some (.slice d1 p d1c) ∧
      W.cell? ⟨w.heap.size + 1, 0, none⟩ = some (.int .u8 k) ∧ W.cell? ⟨w.heap.size + 1, 1, none⟩ = some (.string s) ∧ W.cell? ⟨w.heap.size + 1, 3, none⟩ = some (.slice b2 m b2c) ∧ W.cell? ⟨w.heap.size + 1, 4, none⟩ = some (.slice d2 p d2c)) := veil (fun W hW => by
    have u := (hW.block w.heap.size (by have := hs2'.out; omega)).trans hU.out
    have v := (hW.block (w.heap.size + 1) (by have := hs2'.out; omega)).trans hV.out
    refine ⟨?_, ?_, ?_, ?_, ?_, ?_, ?_, ?_⟩
    all_goals first | (rw [cell_of_row _ _ _ _ _ _ u]; rfl) | (rw [cell_of_row _ _ _ _ _ _ v]; rfl))
  obtain ⟨u0, u1, u3, u4, v0, v1, v3, v4⟩ := hcel.out w3 hb3
  clear hb3
  go_wp2_with fail
  clear u0 u1 u3 u4 v0 v1 v3 v4
  go_loopw [6] (fun i wr => ∃ q : Nat, q ≤ m ∧ i = .int .i64 q ∧ Below w2.heap.size w2 wr) (fun i _ => m - (intOf i).toNat)
  case atStart => exact ⟨0, by omega, rfl, hB23.out⟩
  case round =>
    obtain ⟨q, hq, rfl, hb⟩ := hrel
    have hb' := veil hb
    clear hb
    obtain ⟨u0, u1, u3, u4, v0, v1, v3, v4⟩ := hcel.out wr hb'.out
    have hbw := veil (two_below hB2.out hb'.out)
    by_cases hlt : q < m
    · have q0 : (0 : Int) ≤ q := by omega
      have qN : (q : Int) < m := by omega
      obtain ⟨y, hy⟩ : ∃ y, h[q]? = some y := ⟨_, List.getElem?_eq_getElem (by rw [hm'.out]; exact hlt)⟩
      have hyc := pcs_at h q y hy
      obtain ⟨e1, o1, c1', e1e, _, _⟩ := hy1'.out.there (by omega)
      obtain ⟨e2, o2, c2', e2e, _, _⟩ := hy2'.out.there (by omega)
      injection e1e with e1a _ e1c
      injection e2e with e2a _ e2c
      subst e1a
      subst e1c
      subst e2a
      subst e2c
      have k1 := (hy1'.out.below hbw.out).cells (by omega) _ _ hyc.1
      have k2 : wr.cell? ⟨e1, o1 + q * 2 + 1, none⟩ = some (.string y.2) := (hy1'.out.below hbw.out).cells (by omega) _ _ hyc.2
      have k3 := (hy2'.out.below hbw.out).cells (by omega) _ _ hyc.1
      have k4 : wr.cell? ⟨e2, o2 + q * 2 + 1, none⟩ = some (.string y.2) := (hy2'.out.below hbw.out).cells (by omega) _ _ hyc.2
      have kk := veil (show ((q : Int) + 1) = ((q + 1 : Nat) : Int) by omega)
      clear hy hyc
      go_wp2_with fail
      go_quiet (fail)
      go_wp2_with fail
      go_roundw
      case rel => exact ⟨q + 1, hlt, congrArg (Value.int .i64) kk.out, pw_below_drewN hb'.out _⟩
      case measure => simp [intOf]; omega
    · obtain rfl : m = q := by omega
      have hB4 := veil (two_below hB2.out hb'.out)
      go_wp2_with fail
      clear u0 u1 u3 u4 v0 v1 v3 v4
      go_loopw [7] (fun i wr => ∃ q : Nat, q ≤ p ∧ i = .int .i64 q ∧ Below w2.heap.size w2 wr) (fun i _ => p - (intOf i).toNat)
      case atStart => exact ⟨0, by omega, rfl, hb'.out⟩
      case round =>
        clear hb' hbw hB4
        obtain ⟨q, hq, rfl, hb⟩ := hrel
        have hb' := veil hb
        clear hb
        obtain ⟨u0, u1, u3, u4, v0, v1, v3, v4⟩ := hcel.out wr hb'.out
        have hbw := veil (two_below hB2.out hb'.out)
        by_cases hlt : q < p
        · have q0 : (0 : Int) ≤ q := by omega
          have qN : (q : Int) < p := by omega
          obtain ⟨y, hy⟩ : ∃ y, z[q]? = some y := ⟨_, List.getElem?_eq_getElem (by rw [hp'.out]; exact hlt)⟩
          have hyc := mcs_at z q y hy
          obtain ⟨e1, o1, c1', e1e, _, _⟩ := hz1'.out.there (by omega)
          obtain ⟨e2, o2, c2', e2e, _, _⟩ := hz2'.out.there (by omega)
          injection e1e with e1a _ e1c
          injection e2e with e2a _ e2c
          subst e1a
          subst e1c
          subst e2a
          subst e2c
          have k1 := (hz1'.out.below hbw.out).cells (by omega) _ _ hyc.1
          have k2 : wr.cell? ⟨e1, o1 + q * 2 + 1, none⟩ = some (.int .i64 y.2) := (hz1'.out.below hbw.out).cells (by omega) _ _ hyc.2
          have k3 := (hz2'.out.below hbw.out).cells (by omega) _ _ hyc.1
          have k4 : wr.cell? ⟨e2, o2 + q * 2 + 1, none⟩ = some (.int .i64 y.2) := (hz2'.out.below hbw.out).cells (by omega) _ _ hyc.2
          have kk := veil (show ((q : Int) + 1) = ((q + 1 : Nat) : Int) by omega)
          clear hy hyc
          go_wp2_with fail
          go_quiet (fail)
          go_wp2_with fail
          go_roundw
          case rel => exact ⟨q + 1, hlt, congrArg (Value.int .i64) kk.out, pw_below_drewN hb'.out _⟩
          case measure => simp [intOf]; omega
        · obtain rfl : p = q := by omega
          go_wp2_with fail
          go_ret
          exact ⟨rfl, hbw.out⟩
end Go.Proofs.Tryz.Vl
/- ref09.Same of any two values: it answers. -/
namespace Go.Proofs.Tryz.Vl
open Go Go.RowKit Go.Proofs.Mem Go.Proofs.App
open Go.Proofs.YtcdcbkopapedhaaGreatDoorW.PrintWords Go.Proofs.YtcdcbkopapedhaaGreatDoorW.PrintLast Go.Proofs.YtcdcbkopapedhaaGreatDoorW.PrintMore
set_option linter.unusedVariables false
set_option linter.unusedSimpArgs false
attribute [local go_sem] eqPr eqMk
theorem prd_f (y y2 : PR) (h : (y.1.toList == y2.1.toList && (y.2.toList == y2.2.toList)) = false) : (y.1.toList == y2.1.toList) = false ∨ ((y.1.toList == y2.1.toList) = true ∧ (y.2.toList == y2.2.toList) = false) := by
  cases h1 : (y.1.toList == y2.1.toList)
  · exact .inl rfl
  · rw [h1] at h; exact .inr ⟨rfl, by simpa using h⟩
theorem prd_t (y y2 : PR) (h : (y.1.toList == y2.1.toList && (y.2.toList == y2.2.toList)) = true) : (y.1.toList == y2.1.toList) = true ∧ (y.2.toList == y2.2.toList) = true := by simpa only [Bool.and_eq_true] using h
theorem mkd_f (y y2 : MK) (h : (y.1.toList == y2.1.toList && (y.2 == y2.2)) = false) : (y.1.toList == y2.1.toList) = false ∨ ((y.1.toList == y2.1.toList) = true ∧ (y.2 == y2.2) = false) := by
  cases h1 : (y.1.toList == y2.1.toList)
  · exact .inl rfl
  · rw [h1] at h; exact .inr ⟨rfl, by simpa using h⟩
theorem mkd_t (y y2 : MK) (h : (y.1.toList == y2.1.toList && (y.2 == y2.2)) = true) : (y.1.toList == y2.1.toList) = true ∧ (y.2 == y2.2) = true := by simpa only [Bool.and_eq_true] using h
set_option maxRecDepth 100000 in
set_option maxHeartbeats 8000000 in
theorem Texts_tot (x y : Value) (l l2 : List BA) (w : World) (hx : gR w x l.length (scs l)) (hy : gR w y l2.length (scs l2)) (h2 : l.length ≤ 1000000) : Calls Tryz.prog 15 #[x, y] w fun e w' => (∃ r, e = .returned (.bool r)) ∧ Below w.heap.size w w' := by
  obtain ⟨A1, c1, rfl, _⟩ := hx.slice
  obtain ⟨A2, c2, rfl, _⟩ := hy.slice
  obtain ⟨n, hn⟩ : ∃ n, l.length = n := ⟨_, rfl⟩
  obtain ⟨m, hm⟩ : ∃ m, l2.length = m := ⟨_, rfl⟩
  rw [hn] at hx h2 ⊢
  rw [hm] at hy ⊢
  have hm' := veil hm
  clear hm
  have hx' := veil hx
  have hy' := veil hy
  have hn' := veil hn
  clear hx hy hn
  go_enter Tryz.func15, Tryz.ntmps15
  cases hnm : ((n : Int) == (m : Int))
  · go_wp2_with fail
    go_ret
    exact ⟨⟨_, rfl⟩, Below.refl _ _⟩
  obtain rfl : n = m := by have := eq_of_beq hnm; omega
  clear hnm
  go_wp2_with fail
  go_loopw [5] (fun i wr => ∃ q : Nat, q ≤ n ∧ i = .int .i64 q ∧ Below w.heap.size w wr) (fun i _ => n - (intOf i).toNat)
  case atStart => exact ⟨0, by omega, rfl, Below.refl _ _⟩
  case round =>
    obtain ⟨q, hq, rfl, hb⟩ := hrel
    have hb' := veil hb
    clear hb
    by_cases hlt : q < n
    · have q0 : (0 : Int) ≤ q := by omega
      have qN : (q : Int) < n := by omega
      obtain ⟨s, hs⟩ : ∃ s, l[q]? = some s := ⟨_, List.getElem?_eq_getElem (by rw [hn'.out]; exact hlt)⟩
      obtain ⟨s2, hs2⟩ : ∃ s, l2[q]? = some s := ⟨_, List.getElem?_eq_getElem (by rw [hm'.out]; exact hlt)⟩
      have hyc := scs_at l q s hs
      have hyc2 := scs_at l2 q s2 hs2
      obtain ⟨b1, o1, c1', e1, _, _⟩ := hx'.out.there (by omega)
      obtain ⟨b2, o2, c2', e2, _, _⟩ := hy'.out.there (by omega)
      injection e1 with e1 _ e1c
      injection e2 with e2 _ e2c
      subst e1
      subst e1c
      subst e2
      subst e2c
      have k1 := (hx'.out.below hb'.out).cells (by omega) _ _ hyc
      have k2 := (hy'.out.below hb'.out).cells (by omega) _ _ hyc2
      have kk := veil (show ((q : Int) + 1) = ((q + 1 : Nat) : Int) by omega)
      clear hs hyc hs2 hyc2
      cases hne : (s.toList == s2.toList)
      · go_wp2_with fail
        go_quiet (fail)
        go_wp2_with fail
        go_ret
        exact ⟨⟨_, rfl⟩, pw_below_drewN hb'.out _⟩
      · go_wp2_with fail
        go_quiet (fail)
        go_wp2_with fail
        go_roundw
        case rel => exact ⟨q + 1, hlt, congrArg (Value.int .i64) kk.out, pw_below_drewN hb'.out _⟩
        case measure => simp [intOf]; omega
    · obtain rfl : n = q := by omega
      go_wp2_with fail
      go_ret
      exact ⟨⟨_, rfl⟩, hb'.out⟩
set_option maxRecDepth 100000 in
set_option maxHeartbeats 8000000 in
theorem Same_tot (k kk2 : Int) (s ss2 : BA) (x1 y1 z1 x2 y2 z2 : Value) (l ll2 : List BA) (h hh2 : List PR) (z zz2 : List MK) (w : World)
    (hx1 : gR w x1 l.length (scs l)) (hx2 : gR w x2 ll2.length (scs ll2)) (hy1 : gR w y1 h.length (pcs h)) (hy2 : gR w y2 hh2.length (pcs hh2)) (hz1 : gR w z1 z.length (mcs z)) (hz2 : gR w z2 zz2.length (mcs zz2)) (hl : l.length ≤ 1000000) (hh : h.length ≤ 1000000) (hz : z.length ≤ 1000000) :
    Calls Tryz.prog 8 #[.agg #[.int .u8 k, .string s, x1, y1, z1], .agg #[.int .u8 kk2, .string ss2, x2, y2, z2]] w fun e w' => (∃ r, e = .returned (.bool r)) ∧ Below w.heap.size w w' := by
  obtain ⟨a1, a1c, rfl, _⟩ := hx1.slice
  obtain ⟨a2, a2c, rfl, _⟩ := hx2.slice
  obtain ⟨b1, b1c, rfl, _⟩ := hy1.slice
  obtain ⟨b2, b2c, rfl, _⟩ := hy2.slice
  obtain ⟨d1, d1c, rfl, _⟩ := hz1.slice
  obtain ⟨d2, d2c, rfl, _⟩ := hz2.slice
  obtain ⟨m, hm⟩ : ∃ m, h.length = m := ⟨_, rfl⟩
  obtain ⟨p, hp⟩ : ∃ p, z.length = p := ⟨_, rfl⟩
  obtain ⟨w2, hw2⟩ : ∃ w2 : World, w2 = (w.alloc (.cells #[.int .u8 k, .string s, .slice a1 l.length a1c, .slice b1 h.length b1c, .slice d1 z.length d1c] vT)).alloc (.cells #[.int .u8 kk2, .string ss2, .slice a2 ll2.length a2c, .slice b2 hh2.length b2c, .slice d2 zz2.length d2c] vT) := ⟨_, rfl⟩
  have hb2 : Below w.heap.size w w2 := by rw [hw2]; exact (below_alloc (Below.refl _ _) _).alloc (by simp) _
  have hs2 : w2.heap.size = w.heap.size + 2 := by rw [hw2]; simp
  have hu : w2.heap[w.heap.size]? = some (.cells #[.int .u8 k, .string s, .slice a1 l.length a1c, .slice b1 h.length b1c, .slice d1 z.length d1c] vT (0, 0)) := by rw [hw2]; exact heap_alloc2_old w _ _
  have hv : w2.heap[w.heap.size + 1]? = some (.cells #[.int .u8 kk2, .string ss2, .slice a2 ll2.length a2c, .slice b2 hh2.length b2c, .slice d2 zz2.length d2c] vT (0, 0)) := by
    rw [hw2]
    have h := heap_alloc_last (w.alloc (.cells #[.int .u8 k, .string s, .slice a1 l.length a1c, .slice b1 h.length b1c, .slice d1 z.length d1c] vT)) (.cells #[.int .u8 kk2, .string ss2, .slice a2 ll2.length a2c, .slice b2 hh2.length b2c, .slice d2 zz2.length d2c] vT)
    simpa using h
  have hcall := veil (Texts_tot _ _ l ll2 w2 (hx1.below hb2) (hx2.below hb2) hl)
  obtain ⟨m2, hm2⟩ : ∃ m, hh2.length = m := ⟨_, rfl⟩
  obtain ⟨p2, hp2⟩ : ∃ p, zz2.length = p := ⟨_, rfl⟩
  rw [hm] at hy1 hu hw2 hh ⊢
  rw [hp] at hz1 hu hw2 hz ⊢
  rw [hm2] at hy2 hv hw2 ⊢
  rw [hp2] at hz2 hv hw2 ⊢
  have hm2' := veil hm2
  have hp2' := veil hp2
  clear hm2 hp2
  have hB2 := veil hb2
  have hU := veil hu
  have hV := veil hv
  have hs2' := veil hs2
  have hw2' := veil hw2
  have hy1' := veil hy1
  have hy2' := veil hy2
  have hz1' := veil hz1
  have hz2' := veil hz2
  have hm' := veil hm
  have hp' := veil hp
  clear hx1 hx2 hy1 hy2 hz1 hz2 hw2 hb2 hu hv hs2 hm hp
  go_enter Tryz.func8, Tryz.ntmps8
  go_wp2_with fail
  rw [← hw2'.out]
  refine hcall.out.mono ?_
  rintro e w3 ⟨⟨bl, rfl⟩, hb3⟩
  have hB3 := veil (two_below hB2.out hb3)
  have hB23 := veil hb3
  have hcel : Veil (∀ W, Below w2.heap.size w2 W → W.cell? ⟨w.heap.size, 0, none⟩ = some (.int .u8 k) ∧ W.cell? ⟨w.heap.size, 1, none⟩ = some (.string s) ∧ W.cell? ⟨w.heap.size, 3, none⟩ = some (.slice b1 m b1c) ∧ W.cell? ⟨w.heap.size, 4, none⟩ = some (.slice d1 p d1c) ∧
      W.cell? ⟨w.heap.size + 1, 0, none⟩ = some (.int .u8 kk2) ∧ W.cell? ⟨w.heap.size + 1, 1, none⟩ = some (.string ss2) ∧ W.cell? ⟨w.heap.size + 1, 3, none⟩ = some (.slice b2 m2 b2c) ∧ W.cell? ⟨w.heap.size + 1, 4, none⟩ = some (.slice d2 p2 d2c)) := veil (fun W hW => by
    have u := (hW.block w.heap.size (by have := hs2'.out; omega)).trans hU.out
    have v := (hW.block (w.heap.size + 1) (by have := hs2'.out; omega)).trans hV.out
    refine ⟨?_, ?_, ?_, ?_, ?_, ?_, ?_, ?_⟩
    all_goals first | (rw [cell_of_row _ _ _ _ _ _ u]; rfl) | (rw [cell_of_row _ _ _ _ _ _ v]; rfl))
  obtain ⟨u0, u1, u3, u4, v0, v1, v3, v4⟩ := hcel.out w3 hb3
  clear hb3
  cases hkk : (k == kk2)
  · have hkk2 : (k != kk2) = true := by simp [bne, hkk]
    go_wp2_with fail
    go_ret
    exact ⟨⟨_, rfl⟩, hB3.out⟩
  cases hss : (s.toList == ss2.toList)
  · have hkk2 : (k != kk2) = false := by simp [bne, hkk]
    go_wp2_with fail
    go_ret
    exact ⟨⟨_, rfl⟩, hB3.out⟩
  cases bl
  · have hkk2 : (k != kk2) = false := by simp [bne, hkk]
    go_wp2_with fail
    go_ret
    exact ⟨⟨_, rfl⟩, hB3.out⟩
  cases hmm : ((m : Int) == (m2 : Int))
  · have hkk2 : (k != kk2) = false := by simp [bne, hkk]
    have hmm2 : ((m : Int) != (m2 : Int)) = true := by simp only [bne, hmm]; rfl
    go_wp2_with fail
    go_ret
    exact ⟨⟨_, rfl⟩, hB3.out⟩
  cases hpp : ((p : Int) == (p2 : Int))
  · have hkk2 : (k != kk2) = false := by simp [bne, hkk]
    have hmm2 : ((m : Int) != (m2 : Int)) = false := by simp only [bne, hmm]; rfl
    have hpp2 : ((p : Int) != (p2 : Int)) = true := by simp only [bne, hpp]; rfl
    go_wp2_with fail
    go_ret
    exact ⟨⟨_, rfl⟩, hB3.out⟩
  obtain rfl : m = m2 := by have := eq_of_beq hmm; omega
  obtain rfl : p = p2 := by have := eq_of_beq hpp; omega
  have hkk2 : (k != kk2) = false := by simp [bne, hkk]
  clear hmm hpp
  go_wp2_with fail
  clear u0 u1 u3 u4 v0 v1 v3 v4
  go_loopw [6] (fun i wr => ∃ q : Nat, q ≤ m ∧ i = .int .i64 q ∧ Below w2.heap.size w2 wr) (fun i _ => m - (intOf i).toNat)
  case atStart => exact ⟨0, by omega, rfl, hB23.out⟩
  case round =>
    obtain ⟨q, hq, rfl, hb⟩ := hrel
    have hb' := veil hb
    clear hb
    obtain ⟨u0, u1, u3, u4, v0, v1, v3, v4⟩ := hcel.out wr hb'.out
    have hbw := veil (two_below hB2.out hb'.out)
    by_cases hlt : q < m
    · have q0 : (0 : Int) ≤ q := by omega
      have qN : (q : Int) < m := by omega
      obtain ⟨y, hy⟩ : ∃ y, h[q]? = some y := ⟨_, List.getElem?_eq_getElem (by rw [hm'.out]; exact hlt)⟩
      have hyc := pcs_at h q y hy
      obtain ⟨y2, hy2⟩ : ∃ y, hh2[q]? = some y := ⟨_, List.getElem?_eq_getElem (by rw [hm2'.out]; exact hlt)⟩
      have hyc2 := pcs_at hh2 q y2 hy2
      obtain ⟨e1, o1, c1', e1e, _, _⟩ := hy1'.out.there (by omega)
      obtain ⟨e2, o2, c2', e2e, _, _⟩ := hy2'.out.there (by omega)
      injection e1e with e1a _ e1c
      injection e2e with e2a _ e2c
      subst e1a
      subst e1c
      subst e2a
      subst e2c
      have k1 := (hy1'.out.below hbw.out).cells (by omega) _ _ hyc.1
      have k2 : wr.cell? ⟨e1, o1 + q * 2 + 1, none⟩ = some (.string y.2) := (hy1'.out.below hbw.out).cells (by omega) _ _ hyc.2
      have k3 := (hy2'.out.below hbw.out).cells (by omega) _ _ hyc2.1
      have k4 : wr.cell? ⟨e2, o2 + q * 2 + 1, none⟩ = some (.string y2.2) := (hy2'.out.below hbw.out).cells (by omega) _ _ hyc2.2
      have kk := veil (show ((q : Int) + 1) = ((q + 1 : Nat) : Int) by omega)
      clear hy hyc hy2 hyc2
      cases hne : (y.1.toList == y2.1.toList && (y.2.toList == y2.2.toList))
      · have hd := prd_f y y2 hne
        rcases hd with hd | ⟨hd, hd2⟩
        all_goals
          go_wp2_with fail
          go_quiet (fail)
          go_wp2_with fail
          go_ret
          exact ⟨⟨_, rfl⟩, pw_below_drewN (two_below hB2.out hb'.out) _⟩
      · have hd := prd_t y y2 hne
        obtain ⟨hd, hd2⟩ := hd
        go_wp2_with fail
        go_quiet (fail)
        go_wp2_with fail
        go_roundw
        case rel => exact ⟨q + 1, hlt, congrArg (Value.int .i64) kk.out, pw_below_drewN hb'.out _⟩
        case measure => simp [intOf]; omega
    · obtain rfl : m = q := by omega
      have hB4 := veil (two_below hB2.out hb'.out)
      go_wp2_with fail
      clear u0 u1 u3 u4 v0 v1 v3 v4
      go_loopw [7] (fun i wr => ∃ q : Nat, q ≤ p ∧ i = .int .i64 q ∧ Below w2.heap.size w2 wr) (fun i _ => p - (intOf i).toNat)
      case atStart => exact ⟨0, by omega, rfl, hb'.out⟩
      case round =>
        clear hb' hbw hB4
        obtain ⟨q, hq, rfl, hb⟩ := hrel
        have hb' := veil hb
        clear hb
        obtain ⟨u0, u1, u3, u4, v0, v1, v3, v4⟩ := hcel.out wr hb'.out
        have hbw := veil (two_below hB2.out hb'.out)
        by_cases hlt : q < p
        · have q0 : (0 : Int) ≤ q := by omega
          have qN : (q : Int) < p := by omega
          obtain ⟨y, hy⟩ : ∃ y, z[q]? = some y := ⟨_, List.getElem?_eq_getElem (by rw [hp'.out]; exact hlt)⟩
          have hyc := mcs_at z q y hy
          obtain ⟨y2, hy2⟩ : ∃ y, zz2[q]? = some y := ⟨_, List.getElem?_eq_getElem (by rw [hp2'.out]; exact hlt)⟩
          have hyc2 := mcs_at zz2 q y2 hy2
          obtain ⟨e1, o1, c1', e1e, _, _⟩ := hz1'.out.there (by omega)
          obtain ⟨e2, o2, c2', e2e, _, _⟩ := hz2'.out.there (by omega)
          injection e1e with e1a _ e1c
          injection e2e with e2a _ e2c
          subst e1a
          subst e1c
          subst e2a
          subst e2c
          have k1 := (hz1'.out.below hbw.out).cells (by omega) _ _ hyc.1
          have k2 : wr.cell? ⟨e1, o1 + q * 2 + 1, none⟩ = some (.int .i64 y.2) := (hz1'.out.below hbw.out).cells (by omega) _ _ hyc.2
          have k3 := (hz2'.out.below hbw.out).cells (by omega) _ _ hyc2.1
          have k4 : wr.cell? ⟨e2, o2 + q * 2 + 1, none⟩ = some (.int .i64 y2.2) := (hz2'.out.below hbw.out).cells (by omega) _ _ hyc2.2
          have kk := veil (show ((q : Int) + 1) = ((q + 1 : Nat) : Int) by omega)
          clear hy hyc hy2 hyc2
          cases hne : (y.1.toList == y2.1.toList && (y.2 == y2.2))
          · have hd := mkd_f y y2 hne
            rcases hd with hd | ⟨hd, hd2⟩
            all_goals
              go_wp2_with fail
              go_quiet (fail)
              go_wp2_with fail
              go_ret
              exact ⟨⟨_, rfl⟩, pw_below_drewN (two_below hB2.out hb'.out) _⟩
          · have hd := mkd_t y y2 hne
            obtain ⟨hd, hd2⟩ := hd
            go_wp2_with fail
            go_quiet (fail)
            go_wp2_with fail
            go_roundw
            case rel => exact ⟨q + 1, hlt, congrArg (Value.int .i64) kk.out, pw_below_drewN hb'.out _⟩
            case measure => simp [intOf]; omega
        · obtain rfl : p = q := by omega
          go_wp2_with fail
          go_ret
          exact ⟨⟨_, rfl⟩, hbw.out⟩
end Go.Proofs.Tryz.Vl
