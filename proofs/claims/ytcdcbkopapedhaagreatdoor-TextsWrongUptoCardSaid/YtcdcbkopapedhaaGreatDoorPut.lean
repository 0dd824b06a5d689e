import Derived.Test.YtcdcbkopapedhaaGreatDoorGr
/- The document's rows with one more: Put, PutPair, PutMark. -/
namespace Go.Proofs.Tryz.Vl
open Go Go.RowKit Go.Proofs.Mem
open Go.Proofs.YtcdcbkopapedhaaGreatDoorW.PrintWords
set_option linter.unusedVariables false
set_option linter.unusedSimpArgs false
theorem infoT : (Tryz.prog.info? 9).map (fun i => (i.zero, i.size, i.bytes)) = some (some (.string ⟨#[]⟩), 1, 16) := by kernel_rfl
theorem infoPr : (Tryz.prog.info? 40).map (fun i => (i.zero, i.size, i.bytes)) = some (some (.agg #[.string ⟨#[]⟩, .string ⟨#[]⟩]), 2, 32) := by kernel_rfl
theorem infoMk : (Tryz.prog.info? 43).map (fun i => (i.zero, i.size, i.bytes)) = some (some (.agg #[.string ⟨#[]⟩, .int .i64 0]), 2, 24) := by kernel_rfl
theorem geq_of {P : Program} (x y : BA) (t : TypeId) (v : Bool) (h : Op.bytesLess x.toList y.toList = v) (W : World) : (binOp .geq t (.string x) (.string y)).run P W = .ok (.bool (!v)) W := by
  rw [← h]
  simp [binOp, Op.stringOp, go_sem]
theorem tl_inj' {a b : BA} (h : a.toList = b.toList) : a = b := by
  rw [ByteArray.toList_eq, ByteArray.toList_eq] at h
  exact ByteArray.ext (Array.ext' h)
theorem tl_dec (x y : BA) : (x.toList == y.toList) = decide (x = y) := by
  by_cases h : x = y
  · subst h; simp
  · have h2 : ¬ x.toList = y.toList := fun e => h (tl_inj' e)
    simp [h, h2]
theorem neq_of {P : Program} (x y : BA) (t : TypeId) (v : Bool) (h : decide (x = y) = v) (W : World) : (binOp .neq t (.string x) (.string y)).run P W = .ok (.bool (!v)) W := by
  rw [← h, ← tl_dec]
  simp [binOp, Op.stringOp, go_sem]
theorem at_app {P : Program} {ops : Array Oper} {rest : List Oper} {o : Oper} {a : Act} {w : World} {Q : Exit → Act → World → Prop} (s x : Operand) (t : TypeId) (ho : o.op = .call { callee := .builtin .append, args := #[s, x], argTypes := #[t, t] }) (h : Veil (wpList P ops Q (o :: rest) a w)) : wpList P ops Q (o :: rest) a w := h.out
def OwnR (w : World) (base : Nat) (e : TypeId) (k : Nat) (v : Value) (n : Nat) (cs : List Value) : Prop := w.ownsRow base e k v n cs
theorem ownNew {w : World} (e : TypeId) (k : Nat) (base : Nat) (h : base ≤ w.heap.size) : (w.alloc (.cells #[] e)).ownsRow base e k (.slice (some ⟨w.heap.size, 0, none⟩) 0 0) 0 [] :=
  ⟨by simp, .inr ⟨w.heap.size, 0, #[], rfl, h, heap_alloc_last w _, by simp, by decide, by simp, by simp⟩⟩
set_option maxRecDepth 100000 in
set_option maxHeartbeats 4000000 in
theorem Put_any (x : Value) (l : List BA) (s : BA) (w : World) (hx : gR w x l.length (scs l)) (hn : l.length ≤ 1000000) :
    Calls Tryz.prog 10 #[x, .string s] w fun e w' => ∃ v, e = .returned v ∧ w'.ownsRow w.heap.size 9 1 v (putF id s l).length (scs (putF id s l)) ∧ Below w.heap.size w w' := by
  obtain ⟨A, c, rfl, hc⟩ := hx.slice
  obtain ⟨n, hln⟩ : ∃ n, l.length = n := ⟨_, rfl⟩
  rw [hln] at hx hn ⊢
  have hx' := veil hx
  have hln' := veil hln
  clear hx hln hc
  obtain ⟨wE, hwE⟩ : ∃ wE : World, wE = w.alloc (.cells #[] 9) := ⟨_, rfl⟩
  have hO : Veil (wE.ownsRow w.heap.size 9 1 (.slice (some ⟨w.heap.size, 0, none⟩) 0 0) ([] : List BA).length (scs [])) := veil (by rw [hwE]; exact ownNew _ _ _ (Nat.le_refl _))
  have hbE : Veil (Below w.heap.size w wE) := veil (by rw [hwE]; exact below_alloc (Below.refl _ _) _)
  have hwE' := veil hwE
  clear hwE
  go_enter Tryz.func10, Tryz.ntmps10
  go_wp2_with fail
  rw [← hwE'.out]
  go_loopw [5, 6, 7] (fun o p i wr => ∃ (q : Nat) (L : List BA) (pb : Bool), q ≤ n ∧ i = .int .i64 q ∧ p = .bool pb ∧ Veil (foldP id s (l.take q) = (L, pb)) ∧ wr.ownsRow w.heap.size 9 1 o L.length (scs L) ∧ Below w.heap.size w wr) (fun _ _ i _ => n - (intOf i).toNat)
  case atStart => exact ⟨0, [], false, by omega, rfl, rfl, veil rfl, hO.out, hbE.out⟩
  case round =>
    obtain ⟨q, L, pb, hq, rfl, rfl, hst, ho, hb⟩ := hrel
    have ho' := veil ho
    have hb' := veil hb
    clear ho hb
    by_cases hlt : q < n
    · have q0 : (0 : Int) ≤ q := by omega
      have qN : (q : Int) < n := by omega
      obtain ⟨b, o', c', e, _, hcell⟩ := hx'.out.there (by omega)
      injection e with e1 _ e2
      subst e1
      subst e2
      obtain ⟨y, hy⟩ : ∃ y, l[q]? = some y := ⟨_, List.getElem?_eq_getElem (by rw [hln'.out]; exact hlt)⟩
      have hs1 := foldP_succ id s y l q hy
      rw [hst.out] at hs1
      have hyc := scs_at l q y hy
      have hcellAt : ∀ W, Below w.heap.size w W → W.cell? ⟨b, o' + q, none⟩ = some (.string y) := fun W hW => (hx'.out.below hW).cells (by omega) q _ hyc
      have hAt := veil hcellAt
      have hL : L.length ≤ 2 * q := by
        have h := foldP_len id s (l.take q)
        rw [hst.out, List.length_take] at h
        simp only at h
        omega
      have hS1 := veil hs1
      have kk := veil (show ((q : Int) + 1) = ((q + 1 : Nat) : Int) by omega)
      have hsz : w.heap.size ≤ wr.heap.size := hb'.out.size
      clear hcell hs1 hyc hcellAt hst
      cases pb
      · cases hge : Op.bytesLess y.toList s.toList
        · have hg := geq_of (P := Tryz.prog) y s 9 _ hge
          simp only [Bool.not_false, Bool.not_true] at hg
          have k1 := hAt.out wr hb'.out
          have hS2 : Veil (foldP id s (l.take (q + 1)) = if y = s then (L ++ [s], true) else ((L ++ [s]) ++ [y], true)) := veil (by rw [hS1.out]; unfold stepP; simp [hge])
          clear hge hS1
          go_wp2_with (refine print_append_cells (w0 := w) w.heap.size rfl (.tmp 25) (.tmp 27) 22 9 (.string ⟨#[]⟩) 1 16 rfl Tryz.underlying22 infoT rfl (by decide) (by decide) _ L.length (scs L) [.string s] rfl rfl rfl (by simp [Value.oneCell']) ho'.out hb'.out hsz (by omega) ?_)
          intro v1 w1 ho1 hb1 _ _
          have hoX : Veil (w1.ownsRow w.heap.size 9 1 v1 (L ++ [s]).length (scs (L ++ [s]))) := veil (by rw [scs_snoc, List.length_append]; exact ho1)
          have hbX := veil hb1
          have hLX : (L ++ [s]).length ≤ 2 * n + 1 := by rw [List.length_append, List.length_singleton]; omega
          clear ho1 hb1 k1 hg
          generalize L ++ [s] = M at hS2 hoX hLX
          clear ho' hb' hsz
          have hsz : w.heap.size ≤ w1.heap.size := hbX.out.size
          have k1 := hAt.out w1 hbX.out
          cases hys : decide (y = s)
          · have hne : (y.toList == s.toList) = false := by rw [tl_dec]; exact hys
            rw [if_neg (of_decide_eq_false hys)] at hS2
            clear hys
            go_wp2_with (refine print_append_cells (w0 := w) w.heap.size rfl (.tmp 35) (.tmp 40) 22 9 (.string ⟨#[]⟩) 1 16 rfl Tryz.underlying22 infoT rfl (by decide) (by decide) _ M.length (scs M) [.string y] rfl rfl rfl (by simp [Value.oneCell']) hoX.out hbX.out hsz (by omega) ?_)
            intro v2 w2 ho2 hb2 _ _
            have ho2' := veil ho2
            have hb2' := veil hb2
            clear ho2 hb2 k1
            go_wp2_with fail
            go_roundw
            case rel => exact ⟨q + 1, M ++ [y], true, hlt, congrArg (Value.int .i64) kk.out, rfl, hS2, by rw [scs_snoc, List.length_append]; exact ho2'.out, hb2'.out⟩
            case measure => simp [intOf]; omega
          · have hne : (y.toList == s.toList) = true := by rw [tl_dec]; exact hys
            rw [if_pos (of_decide_eq_true hys)] at hS2
            clear hys
            go_wp2_with fail
            go_roundw
            case rel => exact ⟨q + 1, M, true, hlt, congrArg (Value.int .i64) kk.out, rfl, hS2, hoX.out, hbX.out⟩
            case measure => simp [intOf]; omega
        · have hg := geq_of (P := Tryz.prog) y s 9 _ hge
          simp only [Bool.not_false, Bool.not_true] at hg
          have k1 := hAt.out wr hb'.out
          have hS2 : Veil (foldP id s (l.take (q + 1)) = if y = s then (L, false) else (L ++ [y], false)) := veil (by rw [hS1.out]; unfold stepP; simp [hge])
          clear hge hS1
          have hoX := ho'
          have hbX := hb'
          clear ho' hb'
          generalize L = M at hS2 hoX hL
          cases hys : decide (y = s)
          · have hne : (y.toList == s.toList) = false := by rw [tl_dec]; exact hys
            rw [if_neg (of_decide_eq_false hys)] at hS2
            clear hys
            go_wp2_with (refine print_append_cells (w0 := w) w.heap.size rfl (.tmp 35) (.tmp 40) 22 9 (.string ⟨#[]⟩) 1 16 rfl Tryz.underlying22 infoT rfl (by decide) (by decide) _ M.length (scs M) [.string y] rfl rfl rfl (by simp [Value.oneCell']) hoX.out hbX.out hsz (by omega) ?_)
            intro v2 w2 ho2 hb2 _ _
            have ho2' := veil ho2
            have hb2' := veil hb2
            clear ho2 hb2 k1
            go_wp2_with fail
            go_roundw
            case rel => exact ⟨q + 1, M ++ [y], false, hlt, congrArg (Value.int .i64) kk.out, rfl, hS2, by rw [scs_snoc, List.length_append]; exact ho2'.out, hb2'.out⟩
            case measure => simp [intOf]; omega
          · have hne : (y.toList == s.toList) = true := by rw [tl_dec]; exact hys
            rw [if_pos (of_decide_eq_true hys)] at hS2
            clear hys
            go_wp2_with fail
            go_roundw
            case rel => exact ⟨q + 1, M, false, hlt, congrArg (Value.int .i64) kk.out, rfl, hS2, hoX.out, hbX.out⟩
            case measure => simp [intOf]; omega
      · have k1 := hAt.out wr hb'.out
        have hS2 : Veil (foldP id s (l.take (q + 1)) = if y = s then (L, true) else (L ++ [y], true)) := veil (by rw [hS1.out]; unfold stepP; simp)
        clear hS1
        have hoX := ho'
        have hbX := hb'
        clear ho' hb'
        generalize L = M at hS2 hoX hL
        cases hys : decide (y = s)
        · have hne : (y.toList == s.toList) = false := by rw [tl_dec]; exact hys
          rw [if_neg (of_decide_eq_false hys)] at hS2
          clear hys
          go_wp2_with (refine print_append_cells (w0 := w) w.heap.size rfl (.tmp 35) (.tmp 40) 22 9 (.string ⟨#[]⟩) 1 16 rfl Tryz.underlying22 infoT rfl (by decide) (by decide) _ M.length (scs M) [.string y] rfl rfl rfl (by simp [Value.oneCell']) hoX.out hbX.out hsz (by omega) ?_)
          intro v2 w2 ho2 hb2 _ _
          have ho2' := veil ho2
          have hb2' := veil hb2
          clear ho2 hb2 k1
          go_wp2_with fail
          go_roundw
          case rel => exact ⟨q + 1, M ++ [y], true, hlt, congrArg (Value.int .i64) kk.out, rfl, hS2, by rw [scs_snoc, List.length_append]; exact ho2'.out, hb2'.out⟩
          case measure => simp [intOf]; omega
        · have hne : (y.toList == s.toList) = true := by rw [tl_dec]; exact hys
          rw [if_pos (of_decide_eq_true hys)] at hS2
          clear hys
          go_wp2_with fail
          go_roundw
          case rel => exact ⟨q + 1, M, true, hlt, congrArg (Value.int .i64) kk.out, rfl, hS2, hoX.out, hbX.out⟩
          case measure => simp [intOf]; omega

    · obtain rfl : n = q := by omega
      have hst1 : foldP id s l = (L, pb) := by
        have h := hst.out
        rwa [List.take_of_length_le (by rw [hln'.out]; exact Nat.le_refl _)] at h
      have hL : L.length ≤ 2 * n := by
        have h := foldP_len id s l
        rw [hst1, hln'.out] at h
        exact h
      have hsz : w.heap.size ≤ wr.heap.size := hb'.out.size
      cases pb
      · have hR := veil (show putF id s l = L ++ [s] by unfold putF; rw [hst1]; rfl)
        clear hst1 hst
        go_wp2_with (refine print_append_cells (w0 := w) w.heap.size rfl (.tmp 44) (.tmp 46) 22 9 (.string ⟨#[]⟩) 1 16 rfl Tryz.underlying22 infoT rfl (by decide) (by decide) _ L.length (scs L) [.string s] rfl rfl rfl (by simp [Value.oneCell']) ho'.out hb'.out hsz (by omega) ?_)
        intro v2 w2 ho2 hb2 _ _
        have ho2' := veil ho2
        have hb2' := veil hb2
        clear ho2 hb2
        go_wp2_with fail
        go_ret
        exact ⟨_, rfl, by rw [hR.out, scs_snoc, List.length_append]; exact ho2'.out, hb2'.out⟩
      · have hR := veil (show putF id s l = L by unfold putF; rw [hst1]; rfl)
        clear hst1 hst
        go_wp2_with fail
        go_ret
        exact ⟨_, rfl, by rw [hR.out]; exact ho'.out, hb'.out⟩
end Go.Proofs.Tryz.Vl
