import Derived.Test.YtnkjejmgpempkaaGreatDoorBase
import Derived.Test.YtnkjejmgpempkaaGreatDoorCmp
/- Rows of texts, pairs and marks: how they are read; what the document's rows become with one more. -/
namespace Go.Proofs.Tryz.Vl
open Go Go.RowKit Go.Proofs.Mem
open Go.Proofs.YtnkjejmgpempkaaGreatDoorW.PrintWords
set_option linter.unusedVariables false
set_option linter.unusedSimpArgs false
abbrev BA := ByteArray
abbrev PR := ByteArray × ByteArray
abbrev MK := ByteArray × Int
def sc : BA → List Value := fun s => [.string s]
def pc : PR → List Value := fun p => [.string p.1, .string p.2]
def mc : MK → List Value := fun p => [.string p.1, .int .i64 p.2]
def scs (l : List BA) : List Value := l.flatMap sc
def pcs (l : List PR) : List Value := l.flatMap pc
def mcs (l : List MK) : List Value := l.flatMap mc
theorem scs_encs (l : List BA) : scs l = encs Value.string l := by
  induction l with
  | nil => rfl
  | cons x r ih => simp only [scs, List.flatMap_cons, sc, List.singleton_append, encs, List.map_cons] at ih ⊢; rw [ih]
theorem scs_snoc (l : List BA) (x : BA) : scs (l ++ [x]) = scs l ++ [.string x] := by simp [scs, sc, List.flatMap_append]
theorem pcs_snoc (l : List PR) (x : PR) : pcs (l ++ [x]) = pcs l ++ [.string x.1, .string x.2] := by simp [pcs, pc, List.flatMap_append]
theorem mcs_snoc (l : List MK) (x : MK) : mcs (l ++ [x]) = mcs l ++ [.string x.1, .int .i64 x.2] := by simp [mcs, mc, List.flatMap_append]
theorem scs_len (l : List BA) : (scs l).length = l.length := by
  induction l with
  | nil => rfl
  | cons x r ih => simp only [scs, List.flatMap_cons, sc, List.length_append, List.length_cons, List.length_nil] at ih ⊢; omega
theorem pcs_len (l : List PR) : (pcs l).length = l.length * 2 := by
  induction l with
  | nil => rfl
  | cons x r ih => simp only [pcs, List.flatMap_cons, pc, List.length_append, List.length_cons, List.length_nil] at ih ⊢; omega
theorem mcs_len (l : List MK) : (mcs l).length = l.length * 2 := by
  induction l with
  | nil => rfl
  | cons x r ih => simp only [mcs, List.flatMap_cons, mc, List.length_append, List.length_cons, List.length_nil] at ih ⊢; omega
theorem scs_at : ∀ (l : List BA) (q : Nat) (s : BA), l[q]? = some s → (scs l)[q]? = some (.string s)
  | x :: r, 0, s, h => by simp at h; simp [scs, sc, h]
  | x :: r, q + 1, s, h => by
    have ih := scs_at r q s (by simpa using h)
    show (sc x ++ scs r)[q + 1]? = _
    simpa [sc] using ih
theorem pcs_at : ∀ (l : List PR) (q : Nat) (p : PR), l[q]? = some p → (pcs l)[q * 2]? = some (.string p.1) ∧ (pcs l)[q * 2 + 1]? = some (.string p.2)
  | x :: r, 0, s, h => by simp at h; subst h; exact ⟨rfl, rfl⟩
  | x :: r, q + 1, s, h => by
    have ih := pcs_at r q s (by simpa using h)
    show (pc x ++ pcs r)[(q + 1) * 2]? = _ ∧ (pc x ++ pcs r)[(q + 1) * 2 + 1]? = _
    rw [show (q + 1) * 2 = q * 2 + 1 + 1 by omega, show q * 2 + 1 + 1 + 1 = (q * 2 + 1) + 1 + 1 by omega]
    simpa [pc] using ih
theorem mcs_at : ∀ (l : List MK) (q : Nat) (p : MK), l[q]? = some p → (mcs l)[q * 2]? = some (.string p.1) ∧ (mcs l)[q * 2 + 1]? = some (.int .i64 p.2)
  | x :: r, 0, s, h => by simp at h; subst h; exact ⟨rfl, rfl⟩
  | x :: r, q + 1, s, h => by
    have ih := mcs_at r q s (by simpa using h)
    show (mc x ++ mcs r)[(q + 1) * 2]? = _ ∧ (mc x ++ mcs r)[(q + 1) * 2 + 1]? = _
    rw [show (q + 1) * 2 = q * 2 + 1 + 1 by omega, show q * 2 + 1 + 1 + 1 = (q * 2 + 1) + 1 + 1 by omega]
    simpa [mc] using ih
/-- a row that is read: n elements, whose cells these are -/
structure gR (w : World) (x : Value) (n : Nat) (cs : List Value) : Prop where
  ex : ∃ A c, x = .slice A n c ∧ n ≤ c ∧ c ≤ 9223372036854775807 ∧ (∀ ad, A = some ad → ad.spot = none) ∧ (0 < n → ∃ ad, A = some ad ∧ ∀ j u, cs[j]? = some u → w.cell? (ad.add j) = some u)
section
variable {w w1 : World} {x : Value} {n : Nat} {cs : List Value}
theorem gR.below (h : gR w x n cs) (hb : Below w.heap.size w w1) : gR w1 x n cs := by
  obtain ⟨A, c, h1, h2, h3, h4, h5⟩ := h.ex
  refine ⟨A, c, h1, h2, h3, h4, fun hp => ?_⟩
  obtain ⟨ad, e, hc⟩ := h5 hp
  exact ⟨ad, e, fun j u hu => pw_cell_below hb (hc j u hu)⟩
theorem gR_nil (w : World) : gR w (.slice none 0 0) 0 [] := ⟨none, 0, rfl, by simp, by decide, (fun _ h => by cases h), fun h => absurd h (by simp)⟩
theorem add_plain' (b o i : Nat) : (⟨b, o, none⟩ : Addr).add i = ⟨b, o + i, none⟩ := by unfold Addr.add; split <;> simp_all
theorem gR.slice (h : gR w x n cs) : ∃ A c, x = .slice A n c ∧ n ≤ c := by
  obtain ⟨A, c, h1, h2, _⟩ := h.ex
  exact ⟨A, c, h1, h2⟩
theorem gR.there (h : gR w x n cs) (h1 : 0 < n) : ∃ b o c, x = .slice (some ⟨b, o, none⟩) n c ∧ n ≤ c ∧ ∀ j u, cs[j]? = some u → w.cell? ⟨b, o + j, none⟩ = some u := by
  obtain ⟨A, c, e, h2, h3, h4, h5⟩ := h.ex
  obtain ⟨ad, rfl, hc⟩ := h5 h1
  obtain ⟨b, o, sp⟩ := ad
  obtain rfl : sp = none := h4 _ rfl
  exact ⟨b, o, c, e, h2, fun j u hu => by rw [← add_plain']; exact hc j u hu⟩
theorem gR.cells {b o c : Nat} (h : gR w (.slice (some ⟨b, o, none⟩) n c) n cs) (h0 : 0 < n) : ∀ j u, cs[j]? = some u → w.cell? ⟨b, o + j, none⟩ = some u := by
  obtain ⟨b', o', c', e, _, hc⟩ := h.there h0
  injection e with e _ _
  injection e with e
  injection e with e1 e2 _
  subst e1
  subst e2
  exact hc
theorem gR_own {base : Nat} {e : TypeId} {k : Nat} (h : w.ownsRow base e k x n cs) : gR w x n cs := by
  rcases h.2 with ⟨rfl, rfl⟩ | ⟨g, cap, cur, rfl, _, hh, hc, hm, _, ht⟩
  · exact ⟨none, 0, rfl, by simp, by decide, (fun _ h => by cases h), fun h => absurd h (by simp)⟩
  · refine ⟨_, cap, rfl, hc, by unfold maxLen at hm; omega, fun ad e => by cases e; rfl, fun _ => ⟨_, rfl, h.cells rfl⟩⟩
end
/-- a row of these, with one more, as the document puts it: by names -/
def stepP {α : Type} (nm : α → BA) (x : α) (st : List α × Bool) (y : α) : List α × Bool :=
  let s1 := if st.2 = false ∧ Op.bytesLess (nm y).toList (nm x).toList = false then (st.1 ++ [x], true) else st
  if nm y = nm x then s1 else (s1.1 ++ [y], s1.2)
def foldP {α : Type} (nm : α → BA) (x : α) (l : List α) : List α × Bool := l.foldl (stepP nm x) ([], false)
def putF {α : Type} (nm : α → BA) (x : α) (l : List α) : List α := if (foldP nm x l).2 = true then (foldP nm x l).1 else (foldP nm x l).1 ++ [x]
theorem foldP_succ {α : Type} (nm : α → BA) (x y : α) (l : List α) (q : Nat) (h : l[q]? = some y) : foldP nm x (l.take (q + 1)) = stepP nm x (foldP nm x (l.take q)) y := by
  unfold foldP
  rw [List.take_add_one, h, List.foldl_append]
  rfl
theorem stepP_len {α : Type} (nm : α → BA) (x y : α) (st : List α × Bool) : (stepP nm x st y).1.length ≤ st.1.length + 2 := by
  unfold stepP
  dsimp only
  split <;> split <;> simp <;> omega
theorem foldP_len {α : Type} (nm : α → BA) (x : α) (l : List α) : (foldP nm x l).1.length ≤ 2 * l.length := by
  unfold foldP
  have h : ∀ (l : List α) (st : List α × Bool), (l.foldl (stepP nm x) st).1.length ≤ st.1.length + 2 * l.length := by
    intro l
    induction l with
    | nil => intro st; simp
    | cons y r ih =>
      intro st
      have h1 := ih (stepP nm x st y)
      have h2 := stepP_len nm x y st
      simp only [List.foldl_cons, List.length_cons]
      omega
  have := h l ([], false)
  simpa using this
theorem putF_len {α : Type} (nm : α → BA) (x : α) (l : List α) : (putF nm x l).length ≤ 2 * l.length + 1 := by
  have := foldP_len nm x l
  unfold putF
  split <;> simp <;> omega
/-- and a row of marks: by numbers, then by names -/
def ahead (m y : MK) : Bool := decide (y.2 > m.2) || (decide (y.2 = m.2) && Op.bytesLess m.1.toList y.1.toList)
def stepM (m : MK) (st : List MK × Bool) (y : MK) : List MK × Bool :=
  if y.1 = m.1 then st else
    let s1 := if st.2 = false ∧ ahead m y = true then (st.1 ++ [m], true) else st
    (s1.1 ++ [y], s1.2)
def foldM (m : MK) (l : List MK) : List MK × Bool := l.foldl (stepM m) ([], false)
def putM (m : MK) (l : List MK) : List MK := if (foldM m l).2 = true then (foldM m l).1 else (foldM m l).1 ++ [m]
theorem foldM_succ (m y : MK) (l : List MK) (q : Nat) (h : l[q]? = some y) : foldM m (l.take (q + 1)) = stepM m (foldM m (l.take q)) y := by
  unfold foldM
  rw [List.take_add_one, h, List.foldl_append]
  rfl
theorem stepM_len (m y : MK) (st : List MK × Bool) : (stepM m st y).1.length ≤ st.1.length + 2 := by
  unfold stepM
  dsimp only
  split
  · omega
  · split <;> simp
theorem foldM_len (m : MK) (l : List MK) : (foldM m l).1.length ≤ 2 * l.length := by
  unfold foldM
  have h : ∀ (l : List MK) (st : List MK × Bool), (l.foldl (stepM m) st).1.length ≤ st.1.length + 2 * l.length := by
    intro l
    induction l with
    | nil => intro st; simp
    | cons y r ih =>
      intro st
      have h1 := ih (stepM m st y)
      have h2 := stepM_len m y st
      simp only [List.foldl_cons, List.length_cons]
      omega
  have := h l ([], false)
  simpa using this
theorem putM_len (m : MK) (l : List MK) : (putM m l).length ≤ 2 * l.length + 1 := by
  have := foldM_len m l
  unfold putM
  split <;> simp <;> omega
end Go.Proofs.Tryz.Vl
/- The document's rows with one more: Put, PutPair, PutMark. -/
namespace Go.Proofs.Tryz.Vl
open Go Go.RowKit Go.Proofs.Mem
open Go.Proofs.YtnkjejmgpempkaaGreatDoorW.PrintWords
set_option linter.unusedVariables false
set_option linter.unusedSimpArgs false
theorem infoT : (Tryz.prog.info? 9).map (fun i => (i.zero, i.size, i.bytes)) = some (some (.string ⟨#[]⟩), 1, 16) := by kernel_rfl
theorem infoPr : (Tryz.prog.info? 38).map (fun i => (i.zero, i.size, i.bytes)) = some (some (.agg #[.string ⟨#[]⟩, .string ⟨#[]⟩]), 2, 32) := by kernel_rfl
theorem infoMk : (Tryz.prog.info? 41).map (fun i => (i.zero, i.size, i.bytes)) = some (some (.agg #[.string ⟨#[]⟩, .int .i64 0]), 2, 24) := by kernel_rfl
theorem geq_of {P : Program} (x y : BA) (t : TypeId) (v : Bool) (h : Op.bytesLess x.toList y.toList = v) (W : World) : (binOp .geq t (.string x) (.string y)).run P W = .ok (.bool (!v)) W := by
  rw [← h]
  simp [binOp, Op.stringOp, go_sem]
theorem tl_inj' {a b : BA} (h : a.toList = b.toList) : a = b := by
  rw [ByteArray.toList_eq, ByteArray.toList_eq] at h
  exact ByteArray.ext (Array.ext' h)
theorem tl_dec (x y : BA) : (x.toList == y.toList) = decide (x = y) := by
  by_cases h : x = y
  · subst h; simp
  · have h2 : ¬ x.toList = y.toList := fun e => h (tl_inj' e)
    simp [h, h2]
theorem neq_of {P : Program} (x y : BA) (t : TypeId) (v : Bool) (h : decide (x = y) = v) (W : World) : (binOp .neq t (.string x) (.string y)).run P W = .ok (.bool (!v)) W := by
  rw [← h, ← tl_dec]
  simp [binOp, Op.stringOp, go_sem]
theorem at_app {P : Program} {ops : Array Oper} {rest : List Oper} {o : Oper} {a : Act} {w : World} {Q : Exit → Act → World → Prop} (s x : Operand) (t : TypeId) (ho : o.op = .call { callee := .builtin .append, args := #[s, x], argTypes := #[t, t] }) (h : Veil (wpList P ops Q (o :: rest) a w)) : wpList P ops Q (o :: rest) a w := h.out
def OwnR (w : World) (base : Nat) (e : TypeId) (k : Nat) (v : Value) (n : Nat) (cs : List Value) : Prop := w.ownsRow base e k v n cs
theorem ownNew {w : World} (e : TypeId) (k : Nat) (base : Nat) (h : base ≤ w.heap.size) : (w.alloc (.cells #[] e)).ownsRow base e k (.slice (some ⟨w.heap.size, 0, none⟩) 0 0) 0 [] :=
  ⟨by simp, .inr ⟨w.heap.size, 0, #[], rfl, h, heap_alloc_last w _, by simp, by decide, by simp, by simp⟩⟩
set_option maxRecDepth 100000 in
set_option maxHeartbeats 4000000 in
theorem Put_any (x : Value) (l : List BA) (s : BA) (w : World) (hx : gR w x l.length (scs l)) (hn : l.length ≤ 1000000) :
    Calls Tryz.prog 9 #[x, .string s] w fun e w' => ∃ v, e = .returned v ∧ w'.ownsRow w.heap.size 9 1 v (putF id s l).length (scs (putF id s l)) ∧ Below w.heap.size w w' := by
  obtain ⟨A, c, rfl, hc⟩ := hx.slice
  obtain ⟨n, hln⟩ : ∃ n, l.length = n := ⟨_, rfl⟩
  rw [hln] at hx hn ⊢
  have hx' := veil hx
  have hln' := veil hln
  clear hx hln hc
  obtain ⟨wE, hwE⟩ : ∃ wE : World, wE = w.alloc (.cells #[] 9) := ⟨_, rfl⟩
  have hO : Veil (wE.ownsRow w.heap.size 9 1 (.slice (some ⟨w.heap.size, 0, none⟩) 0 0) ([] : List BA).length (scs [])) := veil (by rw [hwE]; exact ownNew _ _ _ (Nat.le_refl _))
  have hbE : Veil (Below w.heap.size w wE) := veil (by rw [hwE]; exact below_alloc (Below.refl _ _) _)
  have hwE' := veil hwE
  clear hwE
  go_enter Tryz.func9, Tryz.ntmps9
  go_wp2_with fail
  rw [← hwE'.out]
  go_loopw [5, 6, 7] (fun o p i wr => ∃ (q : Nat) (L : List BA) (pb : Bool), q ≤ n ∧ i = .int .i64 q ∧ p = .bool pb ∧ Veil (foldP id s (l.take q) = (L, pb)) ∧ wr.ownsRow w.heap.size 9 1 o L.length (scs L) ∧ Below w.heap.size w wr) (fun _ _ i _ => n - (intOf i).toNat)
  case atStart => exact ⟨0, [], false, by omega, rfl, rfl, veil rfl, hO.out, hbE.out⟩
  case round =>
    obtain ⟨q, L, pb, hq, rfl, rfl, hst, ho, hb⟩ := hrel
    have ho' := veil ho
    have hb' := veil hb
    clear ho hb
    by_cases hlt : q < n
    · have q0 : (0 : Int) ≤ q := by omega
      have qN : (q : Int) < n := by omega
      obtain ⟨b, o', c', e, _, hcell⟩ := hx'.out.there (by omega)
      injection e with e1 _ e2
      subst e1
      subst e2
      obtain ⟨y, hy⟩ : ∃ y, l[q]? = some y := ⟨_, List.getElem?_eq_getElem (by rw [hln'.out]; exact hlt)⟩
      have hs1 := foldP_succ id s y l q hy
      rw [hst.out] at hs1
      have hyc := scs_at l q y hy
      have hcellAt : ∀ W, Below w.heap.size w W → W.cell? ⟨b, o' + q, none⟩ = some (.string y) := fun W hW => (hx'.out.below hW).cells (by omega) q _ hyc
      have hAt := veil hcellAt
      have hL : L.length ≤ 2 * q := by
        have h := foldP_len id s (l.take q)
        rw [hst.out, List.length_take] at h
        simp only at h
        omega
      have hS1 := veil hs1
      have kk := veil (show ((q : Int) + 1) = ((q + 1 : Nat) : Int) by omega)
      have hsz : w.heap.size ≤ wr.heap.size := hb'.out.size
      clear hcell hs1 hyc hcellAt hst
      cases pb
      · cases hge : Op.bytesLess y.toList s.toList
        · have hg := geq_of (P := Tryz.prog) y s 9 _ hge
          simp only [Bool.not_false, Bool.not_true] at hg
          have k1 := hAt.out wr hb'.out
          have hS2 : Veil (foldP id s (l.take (q + 1)) = if y = s then (L ++ [s], true) else ((L ++ [s]) ++ [y], true)) := veil (by rw [hS1.out]; unfold stepP; simp [hge])
          clear hge hS1
          go_wp2_with (refine print_append_cells (w0 := w) w.heap.size rfl (.tmp 25) (.tmp 27) 22 9 (.string ⟨#[]⟩) 1 16 rfl Tryz.underlying22 infoT rfl (by decide) (by decide) _ L.length (scs L) [.string s] rfl rfl rfl (by simp [Value.oneCell']) ho'.out hb'.out hsz (by omega) ?_)
          intro v1 w1 ho1 hb1 _ _
          have hoX : Veil (w1.ownsRow w.heap.size 9 1 v1 (L ++ [s]).length (scs (L ++ [s]))) := veil (by rw [scs_snoc, List.length_append]; exact ho1)
          have hbX := veil hb1
          have hLX : (L ++ [s]).length ≤ 2 * n + 1 := by rw [List.length_append, List.length_singleton]; omega
          clear ho1 hb1 k1 hg
          generalize L ++ [s] = M at hS2 hoX hLX
          clear ho' hb' hsz
          have hsz : w.heap.size ≤ w1.heap.size := hbX.out.size
          have k1 := hAt.out w1 hbX.out
          cases hys : decide (y = s)
          · have hne : (y.toList == s.toList) = false := by rw [tl_dec]; exact hys
            rw [if_neg (of_decide_eq_false hys)] at hS2
            clear hys
            go_wp2_with (refine print_append_cells (w0 := w) w.heap.size rfl (.tmp 35) (.tmp 40) 22 9 (.string ⟨#[]⟩) 1 16 rfl Tryz.underlying22 infoT rfl (by decide) (by decide) _ M.length (scs M) [.string y] rfl rfl rfl (by simp [Value.oneCell']) hoX.out hbX.out hsz (by omega) ?_)
            intro v2 w2 ho2 hb2 _ _
            have ho2' := veil ho2
            have hb2' := veil hb2
            clear ho2 hb2 k1
            go_wp2_with fail
            go_roundw
            case rel => exact ⟨q + 1, M ++ [y], true, hlt, congrArg (Value.int .i64) kk.out, rfl, hS2, by rw [scs_snoc, List.length_append]; exact ho2'.out, hb2'.out⟩
            case measure => simp [intOf]; omega
          · have hne : (y.toList == s.toList) = true := by rw [tl_dec]; exact hys
            rw [if_pos (of_decide_eq_true hys)] at hS2
            clear hys
            go_wp2_with fail
            go_roundw
            case rel => exact ⟨q + 1, M, true, hlt, congrArg (Value.int .i64) kk.out, rfl, hS2, hoX.out, hbX.out⟩
            case measure => simp [intOf]; omega
        · have hg := geq_of (P := Tryz.prog) y s 9 _ hge
          simp only [Bool.not_false, Bool.not_true] at hg
          have k1 := hAt.out wr hb'.out
          have hS2 : Veil (foldP id s (l.take (q + 1)) = if y = s then (L, false) else (L ++ [y], false)) := veil (by rw [hS1.out]; unfold stepP; simp [hge])
          clear hge hS1
          have hoX := ho'
          have hbX := hb'
          clear ho' hb'
          generalize L = M at hS2 hoX hL
          cases hys : decide (y = s)
          · have hne : (y.toList == s.toList) = false := by rw [tl_dec]; exact hys
            rw [if_neg (of_decide_eq_false hys)] at hS2
            clear hys
            go_wp2_with (refine print_append_cells (w0 := w) w.heap.size rfl (.tmp 35) (.tmp 40) 22 9 (.string ⟨#[]⟩) 1 16 rfl Tryz.underlying22 infoT rfl (by decide) (by decide) _ M.length (scs M) [.string y] rfl rfl rfl (by simp [Value.oneCell']) hoX.out hbX.out hsz (by omega) ?_)
            intro v2 w2 ho2 hb2 _ _
            have ho2' := veil ho2
            have hb2' := veil hb2
            clear ho2 hb2 k1
            go_wp2_with fail
            go_roundw
            case rel => exact ⟨q + 1, M ++ [y], false, hlt, congrArg (Value.int .i64) kk.out, rfl, hS2, by rw [scs_snoc, List.length_append]; exact ho2'.out, hb2'.out⟩
            case measure => simp [intOf]; omega
          · have hne : (y.toList == s.toList) = true := by rw [tl_dec]; exact hys
            rw [if_pos (of_decide_eq_true hys)] at hS2
            clear hys
            go_wp2_with fail
            go_roundw
            case rel => exact ⟨q + 1, M, false, hlt, congrArg (Value.int .i64) kk.out, rfl, hS2, hoX.out, hbX.out⟩
            case measure => simp [intOf]; omega
      · have k1 := hAt.out wr hb'.out
        have hS2 : Veil (foldP id s (l.take (q + 1)) = if y = s then (L, true) else (L ++ [y], true)) := veil (by rw [hS1.out]; unfold stepP; simp)
        clear hS1
        have hoX := ho'
        have hbX := hb'
        clear ho' hb'
        generalize L = M at hS2 hoX hL
        cases hys : decide (y = s)
        · have hne : (y.toList == s.toList) = false := by rw [tl_dec]; exact hys
          rw [if_neg (of_decide_eq_false hys)] at hS2
          clear hys
          go_wp2_with (refine print_append_cells (w0 := w) w.heap.size rfl (.tmp 35) (.tmp 40) 22 9 (.string ⟨#[]⟩) 1 16 rfl Tryz.underlying22 infoT rfl (by decide) (by decide) _ M.length (scs M) [.string y] rfl rfl rfl (by simp [Value.oneCell']) hoX.out hbX.out hsz (by omega) ?_)
          intro v2 w2 ho2 hb2 _ _
          have ho2' := veil ho2
          have hb2' := veil hb2
          clear ho2 hb2 k1
          go_wp2_with fail
          go_roundw
          case rel => exact ⟨q + 1, M ++ [y], true, hlt, congrArg (Value.int .i64) kk.out, rfl, hS2, by rw [scs_snoc, List.length_append]; exact ho2'.out, hb2'.out⟩
          case measure => simp [intOf]; omega
        · have hne : (y.toList == s.toList) = true := by rw [tl_dec]; exact hys
          rw [if_pos (of_decide_eq_true hys)] at hS2
          clear hys
          go_wp2_with fail
          go_roundw
          case rel => exact ⟨q + 1, M, true, hlt, congrArg (Value.int .i64) kk.out, rfl, hS2, hoX.out, hbX.out⟩
          case measure => simp [intOf]; omega

    · obtain rfl : n = q := by omega
      have hst1 : foldP id s l = (L, pb) := by
        have h := hst.out
        rwa [List.take_of_length_le (by rw [hln'.out]; exact Nat.le_refl _)] at h
      have hL : L.length ≤ 2 * n := by
        have h := foldP_len id s l
        rw [hst1, hln'.out] at h
        exact h
      have hsz : w.heap.size ≤ wr.heap.size := hb'.out.size
      cases pb
      · have hR := veil (show putF id s l = L ++ [s] by unfold putF; rw [hst1]; rfl)
        clear hst1 hst
        go_wp2_with (refine print_append_cells (w0 := w) w.heap.size rfl (.tmp 44) (.tmp 46) 22 9 (.string ⟨#[]⟩) 1 16 rfl Tryz.underlying22 infoT rfl (by decide) (by decide) _ L.length (scs L) [.string s] rfl rfl rfl (by simp [Value.oneCell']) ho'.out hb'.out hsz (by omega) ?_)
        intro v2 w2 ho2 hb2 _ _
        have ho2' := veil ho2
        have hb2' := veil hb2
        clear ho2 hb2
        go_wp2_with fail
        go_ret
        exact ⟨_, rfl, by rw [hR.out, scs_snoc, List.length_append]; exact ho2'.out, hb2'.out⟩
      · have hR := veil (show putF id s l = L by unfold putF; rw [hst1]; rfl)
        clear hst1 hst
        go_wp2_with fail
        go_ret
        exact ⟨_, rfl, by rw [hR.out]; exact ho'.out, hb'.out⟩
end Go.Proofs.Tryz.Vl
/- The document's hashes with one more. -/
namespace Go.Proofs.Tryz.Vl
open Go Go.RowKit Go.Proofs.Mem
open Go.Proofs.YtnkjejmgpempkaaGreatDoorW.PrintWords
set_option linter.unusedVariables false
set_option linter.unusedSimpArgs false
theorem one_pr (p : PR) : ∀ u ∈ ([.string p.1, .string p.2] : List Value), u.oneCell' = true := by
  intro u hu
  simp only [List.mem_cons, List.not_mem_nil, or_false] at hu
  rcases hu with rfl | rfl <;> rfl
set_option maxRecDepth 100000 in
set_option maxHeartbeats 8000000 in
theorem PutPair_any (x : Value) (l : List PR) (s : PR) (w : World) (hx : gR w x l.length (pcs l)) (hn : l.length ≤ 1000000) :
    Calls Tryz.prog 10 #[x, .agg #[.string s.1, .string s.2]] w fun e w' => ∃ v, e = .returned v ∧ w'.ownsRow w.heap.size 38 2 v (putF Prod.fst s l).length (pcs (putF Prod.fst s l)) ∧ Below w.heap.size w w' := by
  obtain ⟨A, c, rfl, hc⟩ := hx.slice
  obtain ⟨n, hln⟩ : ∃ n, l.length = n := ⟨_, rfl⟩
  rw [hln] at hx hn ⊢
  obtain ⟨wB, hwB⟩ : ∃ wB : World, wB = w.alloc (.cells #[.string s.1, .string s.2] 38) := ⟨_, rfl⟩
  have hsB : wB.heap.size = w.heap.size + 1 := by rw [hwB]; simp
  have hcB : wB.heap[w.heap.size]? = some (.cells #[.string s.1, .string s.2] 38 (0, 0)) := by rw [hwB]; exact heap_alloc_new w _
  have hbB : Below w.heap.size w wB := by rw [hwB]; exact below_alloc (Below.refl _ _) _
  have hbox : Veil (∀ W, Below wB.heap.size wB W → W.cell? ⟨w.heap.size, 0, none⟩ = some (.string s.1) ∧ W.cell? ⟨w.heap.size, 1, none⟩ = some (.string s.2) ∧ W.heap[w.heap.size]? = some (.cells #[.string s.1, .string s.2] 38 (0, 0))) := veil (fun W hW => by
    have h := (hW.block _ (by omega)).trans hcB
    exact ⟨by rw [cell_of_row _ _ _ _ _ _ h]; rfl, by rw [cell_of_row _ _ _ _ _ _ h]; rfl, h⟩)
  have hx' := veil (hx.below hbB)
  have hbB' := veil hbB
  have hwB' := veil hwB
  have hsB' := veil hsB
  have hln' := veil hln
  clear hx hln hc hcB hbB hwB
  obtain ⟨wE, hwE⟩ : ∃ wE : World, wE = wB.alloc (.cells #[] 38) := ⟨_, rfl⟩
  have hO : Veil (wE.ownsRow wB.heap.size 38 2 (.slice (some ⟨w.heap.size + 1, 0, none⟩) 0 0) ([] : List PR).length (pcs [])) := veil (by rw [← hsB, hwE]; exact ownNew _ _ _ (Nat.le_refl _))
  have hbE : Veil (Below wB.heap.size wB wE) := veil (by rw [hwE]; exact below_alloc (Below.refl _ _) _)
  have hwE' := veil hwE
  clear hwE hsB
  go_enter Tryz.func10, Tryz.ntmps10
  go_wp2_with fail
  rw [← hwB'.out, ← hwE'.out]
  go_loopw [5, 6, 7] (fun o p i wr => ∃ (q : Nat) (L : List PR) (pb : Bool), q ≤ n ∧ i = .int .i64 q ∧ p = .bool pb ∧ Veil (foldP Prod.fst s (l.take q) = (L, pb)) ∧ wr.ownsRow wB.heap.size 38 2 o L.length (pcs L) ∧ Below wB.heap.size wB wr) (fun _ _ i _ => n - (intOf i).toNat)
  case atStart => exact ⟨0, [], false, by omega, rfl, rfl, veil rfl, hO.out, hbE.out⟩
  case round =>
    obtain ⟨q, L, pb, hq, rfl, rfl, hst, ho, hb⟩ := hrel
    have ho' := veil ho
    have hb' := veil hb
    clear ho hb
    by_cases hlt : q < n
    · have q0 : (0 : Int) ≤ q := by omega
      have qN : (q : Int) < n := by omega
      obtain ⟨b, o', c', e, _, hcell⟩ := hx'.out.there (by omega)
      injection e with e1 _ e2
      subst e1
      subst e2
      obtain ⟨y, hy⟩ : ∃ y, l[q]? = some y := ⟨_, List.getElem?_eq_getElem (by rw [hln'.out]; exact hlt)⟩
      have hs1 := foldP_succ Prod.fst s y l q hy
      rw [hst.out] at hs1
      have hyc := pcs_at l q y hy
      have hcellAt : ∀ W, Below wB.heap.size wB W → W.cell? ⟨b, o' + q * 2, none⟩ = some (.string y.1) ∧ W.cell? ⟨b, o' + q * 2 + 1, none⟩ = some (.string y.2) := fun W hW => ⟨(hx'.out.below hW).cells (by omega) _ _ hyc.1, (hx'.out.below hW).cells (by omega) _ _ hyc.2⟩
      have hAt := veil hcellAt
      have hL : L.length ≤ 2 * q := by
        have h := foldP_len Prod.fst s (l.take q)
        rw [hst.out, List.length_take] at h
        simp only at h
        omega
      have hS1 := veil hs1
      have kk := veil (show ((q : Int) + 1) = ((q + 1 : Nat) : Int) by omega)
      clear hcell hs1 hyc hcellAt hst
      cases pb
      · cases hge : Op.bytesLess y.1.toList s.1.toList
        · have hg := geq_of (P := Tryz.prog) y.1 s.1 9 _ hge
          simp only [Bool.not_false, Bool.not_true] at hg
          have hsz : wB.heap.size ≤ wr.heap.size := hb'.out.size
          obtain ⟨k1, k2⟩ := hAt.out wr hb'.out
          obtain ⟨b1, b2, b3⟩ := hbox.out wr hb'.out
          have hS2 : Veil (foldP Prod.fst s (l.take (q + 1)) = if y.1 = s.1 then (L ++ [s], true) else ((L ++ [s]) ++ [y], true)) := veil (by rw [hS1.out]; unfold stepP; simp [hge])
          clear hge hS1
          go_wp2_with fail
          go_quiet (fail)
          obtain ⟨wq, hwq⟩ : ∃ WW : World, WW = wr.drewN nq := ⟨_, rfl⟩
          have hoQ : Veil (wq.ownsRow wB.heap.size 38 2 u5 L.length (pcs L)) := veil (by rw [hwq]; exact ho'.out)
          have hbQ : Veil (Below wB.heap.size wB wq) := veil (by rw [hwq]; exact pw_below_drewN hb'.out _)
          rw [← hwq]
          clear hwq ho' hb'
          clear hg
          clear hsz k1 k2 b1 b2 b3
          have hsz : wB.heap.size ≤ wq.heap.size := hbQ.out.size
          obtain ⟨k1, k2⟩ := hAt.out wq hbQ.out
          obtain ⟨b1, b2, b3⟩ := hbox.out wq hbQ.out
          go_wp2_with (refine print_append_cells (w0 := wB) wB.heap.size rfl (.tmp 27) (.tmp 29) 23 38 (.agg #[.string ⟨#[]⟩, .string ⟨#[]⟩]) 2 32 rfl Tryz.underlying23 infoPr rfl (by decide) (by decide) _ L.length (pcs L) [.string s.1, .string s.2] rfl rfl rfl (one_pr s) hoQ.out hbQ.out hsz (by omega) ?_)
          intro v1 w1 ho1 hb1 _ _
          have hoX : Veil (w1.ownsRow wB.heap.size 38 2 v1 (L ++ [s]).length (pcs (L ++ [s]))) := veil (by rw [pcs_snoc, List.length_append]; exact ho1)
          have hbX := veil hb1
          have hLX : (L ++ [s]).length ≤ 2 * n + 1 := by rw [List.length_append, List.length_singleton]; omega
          clear ho1 hb1 hoQ hbQ hL
          clear hsz k1 k2 b1 b2 b3
          generalize L ++ [s] = M at hS2 hoX hLX
          have hsz : wB.heap.size ≤ w1.heap.size := hbX.out.size
          obtain ⟨k1, k2⟩ := hAt.out w1 hbX.out
          obtain ⟨b1, b2, b3⟩ := hbox.out w1 hbX.out
          cases hys : decide (y.1 = s.1)
          · have hne : (y.1.toList == s.1.toList) = false := by rw [tl_dec]; exact hys
            rw [if_neg (of_decide_eq_false hys)] at hS2
            clear hys
            go_wp2_with fail
            go_quiet (fail)
            obtain ⟨wz, hwq⟩ : ∃ WW : World, WW = w1.drewN nq := ⟨_, rfl⟩
            have hoZ : Veil (wz.ownsRow wB.heap.size 38 2 v1 M.length (pcs M)) := veil (by rw [hwq]; exact hoX.out)
            have hbZ : Veil (Below wB.heap.size wB wz) := veil (by rw [hwq]; exact pw_below_drewN hbX.out _)
            rw [← hwq]
            clear hwq hoX hbX
            clear hsz k1 k2 b1 b2 b3
            have hsz : wB.heap.size ≤ wz.heap.size := hbZ.out.size
            obtain ⟨k1, k2⟩ := hAt.out wz hbZ.out
            obtain ⟨b1, b2, b3⟩ := hbox.out wz hbZ.out
            go_wp2_with (refine print_append_cells (w0 := wB) wB.heap.size rfl (.tmp 39) (.tmp 44) 23 38 (.agg #[.string ⟨#[]⟩, .string ⟨#[]⟩]) 2 32 rfl Tryz.underlying23 infoPr rfl (by decide) (by decide) _ M.length (pcs M) [.string y.1, .string y.2] rfl rfl rfl (one_pr y) hoZ.out hbZ.out hsz (by omega) ?_)
            intro v2 w2 ho2 hb2 _ _
            have ho2' := veil ho2
            have hb2' := veil hb2
            clear ho2 hb2
            clear hsz k1 k2 b1 b2 b3
            go_wp2_with fail
            go_roundw
            case rel => exact ⟨q + 1, M ++ [y], true, hlt, congrArg (Value.int .i64) kk.out, rfl, hS2, by rw [pcs_snoc, List.length_append]; exact ho2'.out, hb2'.out⟩
            case measure => simp [intOf]; omega
          · have hne : (y.1.toList == s.1.toList) = true := by rw [tl_dec]; exact hys
            rw [if_pos (of_decide_eq_true hys)] at hS2
            clear hys
            go_wp2_with fail
            go_quiet (fail)
            obtain ⟨wz, hwq⟩ : ∃ WW : World, WW = w1.drewN nq := ⟨_, rfl⟩
            have hoZ : Veil (wz.ownsRow wB.heap.size 38 2 v1 M.length (pcs M)) := veil (by rw [hwq]; exact hoX.out)
            have hbZ : Veil (Below wB.heap.size wB wz) := veil (by rw [hwq]; exact pw_below_drewN hbX.out _)
            rw [← hwq]
            clear hwq hoX hbX
            clear hsz k1 k2 b1 b2 b3
            go_wp2_with fail
            go_roundw
            case rel => exact ⟨q + 1, M, true, hlt, congrArg (Value.int .i64) kk.out, rfl, hS2, hoZ.out, hbZ.out⟩
            case measure => simp [intOf]; omega
        · have hg := geq_of (P := Tryz.prog) y.1 s.1 9 _ hge
          simp only [Bool.not_false, Bool.not_true] at hg
          have hsz : wB.heap.size ≤ wr.heap.size := hb'.out.size
          obtain ⟨k1, k2⟩ := hAt.out wr hb'.out
          obtain ⟨b1, b2, b3⟩ := hbox.out wr hb'.out
          have hS2 : Veil (foldP Prod.fst s (l.take (q + 1)) = if y.1 = s.1 then (L, false) else (L ++ [y], false)) := veil (by rw [hS1.out]; unfold stepP; simp [hge])
          clear hge hS1
          go_wp2_with fail
          go_quiet (fail)
          obtain ⟨wq, hwq⟩ : ∃ WW : World, WW = wr.drewN nq := ⟨_, rfl⟩
          have hoX : Veil (wq.ownsRow wB.heap.size 38 2 u5 L.length (pcs L)) := veil (by rw [hwq]; exact ho'.out)
          have hbX : Veil (Below wB.heap.size wB wq) := veil (by rw [hwq]; exact pw_below_drewN hb'.out _)
          rw [← hwq]
          clear hwq ho' hb'
          clear hg
          clear hsz k1 k2 b1 b2 b3
          generalize L = M at hS2 hoX hL
          have hsz : wB.heap.size ≤ wq.heap.size := hbX.out.size
          obtain ⟨k1, k2⟩ := hAt.out wq hbX.out
          obtain ⟨b1, b2, b3⟩ := hbox.out wq hbX.out
          cases hys : decide (y.1 = s.1)
          · have hne : (y.1.toList == s.1.toList) = false := by rw [tl_dec]; exact hys
            rw [if_neg (of_decide_eq_false hys)] at hS2
            clear hys
            go_wp2_with fail
            go_quiet (fail)
            obtain ⟨wz, hwq⟩ : ∃ WW : World, WW = wq.drewN nq := ⟨_, rfl⟩
            have hoZ : Veil (wz.ownsRow wB.heap.size 38 2 u5 M.length (pcs M)) := veil (by rw [hwq]; exact hoX.out)
            have hbZ : Veil (Below wB.heap.size wB wz) := veil (by rw [hwq]; exact pw_below_drewN hbX.out _)
            rw [← hwq]
            clear hwq hoX hbX
            clear hsz k1 k2 b1 b2 b3
            have hsz : wB.heap.size ≤ wz.heap.size := hbZ.out.size
            obtain ⟨k1, k2⟩ := hAt.out wz hbZ.out
            obtain ⟨b1, b2, b3⟩ := hbox.out wz hbZ.out
            go_wp2_with (refine print_append_cells (w0 := wB) wB.heap.size rfl (.tmp 39) (.tmp 44) 23 38 (.agg #[.string ⟨#[]⟩, .string ⟨#[]⟩]) 2 32 rfl Tryz.underlying23 infoPr rfl (by decide) (by decide) _ M.length (pcs M) [.string y.1, .string y.2] rfl rfl rfl (one_pr y) hoZ.out hbZ.out hsz (by omega) ?_)
            intro v2 w2 ho2 hb2 _ _
            have ho2' := veil ho2
            have hb2' := veil hb2
            clear ho2 hb2
            clear hsz k1 k2 b1 b2 b3
            go_wp2_with fail
            go_roundw
            case rel => exact ⟨q + 1, M ++ [y], false, hlt, congrArg (Value.int .i64) kk.out, rfl, hS2, by rw [pcs_snoc, List.length_append]; exact ho2'.out, hb2'.out⟩
            case measure => simp [intOf]; omega
          · have hne : (y.1.toList == s.1.toList) = true := by rw [tl_dec]; exact hys
            rw [if_pos (of_decide_eq_true hys)] at hS2
            clear hys
            go_wp2_with fail
            go_quiet (fail)
            obtain ⟨wz, hwq⟩ : ∃ WW : World, WW = wq.drewN nq := ⟨_, rfl⟩
            have hoZ : Veil (wz.ownsRow wB.heap.size 38 2 u5 M.length (pcs M)) := veil (by rw [hwq]; exact hoX.out)
            have hbZ : Veil (Below wB.heap.size wB wz) := veil (by rw [hwq]; exact pw_below_drewN hbX.out _)
            rw [← hwq]
            clear hwq hoX hbX
            clear hsz k1 k2 b1 b2 b3
            go_wp2_with fail
            go_roundw
            case rel => exact ⟨q + 1, M, false, hlt, congrArg (Value.int .i64) kk.out, rfl, hS2, hoZ.out, hbZ.out⟩
            case measure => simp [intOf]; omega
      · have hS2 : Veil (foldP Prod.fst s (l.take (q + 1)) = if y.1 = s.1 then (L, true) else (L ++ [y], true)) := veil (by rw [hS1.out]; unfold stepP; simp)
        clear hS1
        have hsz : wB.heap.size ≤ wr.heap.size := hb'.out.size
        obtain ⟨k1, k2⟩ := hAt.out wr hb'.out
        obtain ⟨b1, b2, b3⟩ := hbox.out wr hb'.out
        go_wp2_with fail
        go_quiet (fail)
        obtain ⟨wq, hwq⟩ : ∃ WW : World, WW = wr.drewN nq := ⟨_, rfl⟩
        have hoX : Veil (wq.ownsRow wB.heap.size 38 2 u5 L.length (pcs L)) := veil (by rw [hwq]; exact ho'.out)
        have hbX : Veil (Below wB.heap.size wB wq) := veil (by rw [hwq]; exact pw_below_drewN hb'.out _)
        rw [← hwq]
        clear hwq ho' hb'
        clear hsz k1 k2 b1 b2 b3
        generalize L = M at hS2 hoX hL
        have hsz : wB.heap.size ≤ wq.heap.size := hbX.out.size
        obtain ⟨k1, k2⟩ := hAt.out wq hbX.out
        obtain ⟨b1, b2, b3⟩ := hbox.out wq hbX.out
        cases hys : decide (y.1 = s.1)
        · have hne : (y.1.toList == s.1.toList) = false := by rw [tl_dec]; exact hys
          rw [if_neg (of_decide_eq_false hys)] at hS2
          clear hys
          go_wp2_with fail
          go_quiet (fail)
          obtain ⟨wz, hwq⟩ : ∃ WW : World, WW = wq.drewN nq := ⟨_, rfl⟩
          have hoZ : Veil (wz.ownsRow wB.heap.size 38 2 u5 M.length (pcs M)) := veil (by rw [hwq]; exact hoX.out)
          have hbZ : Veil (Below wB.heap.size wB wz) := veil (by rw [hwq]; exact pw_below_drewN hbX.out _)
          rw [← hwq]
          clear hwq hoX hbX
          clear hsz k1 k2 b1 b2 b3
          have hsz : wB.heap.size ≤ wz.heap.size := hbZ.out.size
          obtain ⟨k1, k2⟩ := hAt.out wz hbZ.out
          obtain ⟨b1, b2, b3⟩ := hbox.out wz hbZ.out
          go_wp2_with (refine print_append_cells (w0 := wB) wB.heap.size rfl (.tmp 39) (.tmp 44) 23 38 (.agg #[.string ⟨#[]⟩, .string ⟨#[]⟩]) 2 32 rfl Tryz.underlying23 infoPr rfl (by decide) (by decide) _ M.length (pcs M) [.string y.1, .string y.2] rfl rfl rfl (one_pr y) hoZ.out hbZ.out hsz (by omega) ?_)
          intro v2 w2 ho2 hb2 _ _
          have ho2' := veil ho2
          have hb2' := veil hb2
          clear ho2 hb2
          clear hsz k1 k2 b1 b2 b3
          go_wp2_with fail
          go_roundw
          case rel => exact ⟨q + 1, M ++ [y], true, hlt, congrArg (Value.int .i64) kk.out, rfl, hS2, by rw [pcs_snoc, List.length_append]; exact ho2'.out, hb2'.out⟩
          case measure => simp [intOf]; omega
        · have hne : (y.1.toList == s.1.toList) = true := by rw [tl_dec]; exact hys
          rw [if_pos (of_decide_eq_true hys)] at hS2
          clear hys
          go_wp2_with fail
          go_quiet (fail)
          obtain ⟨wz, hwq⟩ : ∃ WW : World, WW = wq.drewN nq := ⟨_, rfl⟩
          have hoZ : Veil (wz.ownsRow wB.heap.size 38 2 u5 M.length (pcs M)) := veil (by rw [hwq]; exact hoX.out)
          have hbZ : Veil (Below wB.heap.size wB wz) := veil (by rw [hwq]; exact pw_below_drewN hbX.out _)
          rw [← hwq]
          clear hwq hoX hbX
          clear hsz k1 k2 b1 b2 b3
          go_wp2_with fail
          go_roundw
          case rel => exact ⟨q + 1, M, true, hlt, congrArg (Value.int .i64) kk.out, rfl, hS2, hoZ.out, hbZ.out⟩
          case measure => simp [intOf]; omega
    · obtain rfl : n = q := by omega
      have hst1 : foldP Prod.fst s l = (L, pb) := by
        have h := hst.out
        rwa [List.take_of_length_le (by rw [hln'.out]; exact Nat.le_refl _)] at h
      have hL : L.length ≤ 2 * n := by
        have h := foldP_len Prod.fst s l
        rw [hst1, hln'.out] at h
        exact h
      cases pb
      · have hR := veil (show putF Prod.fst s l = L ++ [s] by unfold putF; rw [hst1]; rfl)
        clear hst1 hst
        have hsz : wB.heap.size ≤ wr.heap.size := hb'.out.size
        obtain ⟨b1, b2, b3⟩ := hbox.out wr hb'.out
        go_wp2_with (refine print_append_cells (w0 := wB) wB.heap.size rfl (.tmp 48) (.tmp 50) 23 38 (.agg #[.string ⟨#[]⟩, .string ⟨#[]⟩]) 2 32 rfl Tryz.underlying23 infoPr rfl (by decide) (by decide) _ L.length (pcs L) [.string s.1, .string s.2] rfl rfl rfl (one_pr s) ho'.out hb'.out hsz (by omega) ?_)
        intro v2 w2 ho2 hb2 _ _
        have ho2' := veil ho2
        have hb2' := veil hb2
        clear ho2 hb2
        clear hsz b1 b2 b3
        go_wp2_with fail
        go_ret
        exact ⟨_, rfl, by rw [hR.out, pcs_snoc, List.length_append]; exact own_weaken ho2'.out (by have := hsB'.out; omega), two_below hbB'.out hb2'.out⟩
      · have hR := veil (show putF Prod.fst s l = L by unfold putF; rw [hst1]; rfl)
        clear hst1 hst
        go_wp2_with fail
        go_ret
        exact ⟨_, rfl, by rw [hR.out]; exact own_weaken ho'.out (by have := hsB'.out; omega), two_below hbB'.out hb'.out⟩
end Go.Proofs.Tryz.Vl
/- The document's sorted sets with one more. -/
namespace Go.Proofs.Tryz.Vl
open Go Go.RowKit Go.Proofs.Mem
open Go.Proofs.YtnkjejmgpempkaaGreatDoorW.PrintWords
set_option linter.unusedVariables false
set_option linter.unusedSimpArgs false
theorem one_mk (p : MK) : ∀ u ∈ ([.string p.1, .int .i64 p.2] : List Value), u.oneCell' = true := by
  intro u hu
  simp only [List.mem_cons, List.not_mem_nil, or_false] at hu
  rcases hu with rfl | rfl <;> rfl
set_option maxRecDepth 100000 in
set_option maxHeartbeats 8000000 in
theorem PutMark_any (x : Value) (l : List MK) (s : MK) (w : World) (hx : gR w x l.length (mcs l)) (hn : l.length ≤ 1000000) :
    Calls Tryz.prog 11 #[x, .agg #[.string s.1, .int .i64 s.2]] w fun e w' => ∃ v, e = .returned v ∧ w'.ownsRow w.heap.size 41 2 v (putM s l).length (mcs (putM s l)) ∧ Below w.heap.size w w' := by
  obtain ⟨A, c, rfl, hc⟩ := hx.slice
  obtain ⟨n, hln⟩ : ∃ n, l.length = n := ⟨_, rfl⟩
  rw [hln] at hx hn ⊢
  obtain ⟨wB, hwB⟩ : ∃ wB : World, wB = w.alloc (.cells #[.string s.1, .int .i64 s.2] 41) := ⟨_, rfl⟩
  have hsB : wB.heap.size = w.heap.size + 1 := by rw [hwB]; simp
  have hcB : wB.heap[w.heap.size]? = some (.cells #[.string s.1, .int .i64 s.2] 41 (0, 0)) := by rw [hwB]; exact heap_alloc_new w _
  have hbB : Below w.heap.size w wB := by rw [hwB]; exact below_alloc (Below.refl _ _) _
  have hbox : Veil (∀ W, Below wB.heap.size wB W → W.cell? ⟨w.heap.size, 0, none⟩ = some (.string s.1) ∧ W.cell? ⟨w.heap.size, 1, none⟩ = some (.int .i64 s.2) ∧ W.heap[w.heap.size]? = some (.cells #[.string s.1, .int .i64 s.2] 41 (0, 0))) := veil (fun W hW => by
    have h := (hW.block _ (by omega)).trans hcB
    exact ⟨by rw [cell_of_row _ _ _ _ _ _ h]; rfl, by rw [cell_of_row _ _ _ _ _ _ h]; rfl, h⟩)
  have hx' := veil (hx.below hbB)
  have hbB' := veil hbB
  have hwB' := veil hwB
  have hsB' := veil hsB
  have hln' := veil hln
  clear hx hln hc hcB hbB hwB
  obtain ⟨wE, hwE⟩ : ∃ wE : World, wE = wB.alloc (.cells #[] 41) := ⟨_, rfl⟩
  have hO : Veil (wE.ownsRow wB.heap.size 41 2 (.slice (some ⟨w.heap.size + 1, 0, none⟩) 0 0) ([] : List MK).length (mcs [])) := veil (by rw [← hsB, hwE]; exact ownNew _ _ _ (Nat.le_refl _))
  have hbE : Veil (Below wB.heap.size wB wE) := veil (by rw [hwE]; exact below_alloc (Below.refl _ _) _)
  have hwE' := veil hwE
  clear hwE hsB
  go_enter Tryz.func11, Tryz.ntmps11
  go_wp2_with fail
  rw [← hwB'.out, ← hwE'.out]
  go_loopw [5, 6, 7] (fun o p i wr => ∃ (q : Nat) (L : List MK) (pb : Bool), q ≤ n ∧ i = .int .i64 q ∧ p = .bool pb ∧ Veil (foldM s (l.take q) = (L, pb)) ∧ wr.ownsRow wB.heap.size 41 2 o L.length (mcs L) ∧ Below wB.heap.size wB wr) (fun _ _ i _ => n - (intOf i).toNat)
  case atStart => exact ⟨0, [], false, by omega, rfl, rfl, veil rfl, hO.out, hbE.out⟩
  case round =>
    obtain ⟨q, L, pb, hq, rfl, rfl, hst, ho, hb⟩ := hrel
    have ho' := veil ho
    have hb' := veil hb
    clear ho hb
    by_cases hlt : q < n
    · have q0 : (0 : Int) ≤ q := by omega
      have qN : (q : Int) < n := by omega
      obtain ⟨b, o', c', e, _, hcell⟩ := hx'.out.there (by omega)
      injection e with e1 _ e2
      subst e1
      subst e2
      obtain ⟨y, hy⟩ : ∃ y, l[q]? = some y := ⟨_, List.getElem?_eq_getElem (by rw [hln'.out]; exact hlt)⟩
      have hs1 := foldM_succ s y l q hy
      rw [hst.out] at hs1
      have hyc := mcs_at l q y hy
      have hcellAt : ∀ W, Below wB.heap.size wB W → W.cell? ⟨b, o' + q * 2, none⟩ = some (.string y.1) ∧ W.cell? ⟨b, o' + q * 2 + 1, none⟩ = some (.int .i64 y.2) := fun W hW => ⟨(hx'.out.below hW).cells (by omega) _ _ hyc.1, (hx'.out.below hW).cells (by omega) _ _ hyc.2⟩
      have hAt := veil hcellAt
      have hL : L.length ≤ 2 * q := by
        have h := foldM_len s (l.take q)
        rw [hst.out, List.length_take] at h
        simp only at h
        omega
      have hS1 := veil hs1
      have kk := veil (show ((q : Int) + 1) = ((q + 1 : Nat) : Int) by omega)
      clear hcell hs1 hyc hcellAt hst
      cases hys : decide (y.1 = s.1)
      · have hne : (y.1.toList == s.1.toList) = false := by rw [tl_dec]; exact hys
        have hys' := of_decide_eq_false hys
        have hsz : wB.heap.size ≤ wr.heap.size := hb'.out.size
        obtain ⟨k1, k2⟩ := hAt.out wr hb'.out
        obtain ⟨b1, b2, b3⟩ := hbox.out wr hb'.out
        clear hys
        go_wp2_with fail
        go_quiet (fail)
        obtain ⟨wp, hwq⟩ : ∃ WW : World, WW = wr.drewN nq := ⟨_, rfl⟩
        have hoP : Veil (wp.ownsRow wB.heap.size 41 2 u5 L.length (mcs L)) := veil (by rw [hwq]; exact ho'.out)
        have hbP : Veil (Below wB.heap.size wB wp) := veil (by rw [hwq]; exact pw_below_drewN hb'.out _)
        rw [← hwq]
        clear hwq ho' hb'
        clear hsz k1 k2 b1 b2 b3
        clear hne
        cases pb
        · rcases Int.lt_trichotomy s.2 y.2 with hn1 | hn1 | hn1
          · have hg1 : (decide (s.2 < y.2)) = true := decide_eq_true hn1
            have hS2 : Veil (foldM s (l.take (q + 1)) = ((L ++ [s]) ++ [y], true)) := veil (by rw [hS1.out]; unfold stepM; rw [if_neg hys']; simp [ahead, hn1])
            clear hS1 hys'
            have hsz : wB.heap.size ≤ wp.heap.size := hbP.out.size
            obtain ⟨k1, k2⟩ := hAt.out wp hbP.out
            obtain ⟨b1, b2, b3⟩ := hbox.out wp hbP.out
            go_wp2_with fail
            go_quiet (fail)
            obtain ⟨wq, hwq⟩ : ∃ WW : World, WW = wp.drewN nq := ⟨_, rfl⟩
            have hoQ : Veil (wq.ownsRow wB.heap.size 41 2 u5 L.length (mcs L)) := veil (by rw [hwq]; exact hoP.out)
            have hbQ : Veil (Below wB.heap.size wB wq) := veil (by rw [hwq]; exact pw_below_drewN hbP.out _)
            rw [← hwq]
            clear hwq hoP hbP
            clear hg1 hn1
            clear hsz k1 k2 b1 b2 b3
            have hsz : wB.heap.size ≤ wq.heap.size := hbQ.out.size
            obtain ⟨k1, k2⟩ := hAt.out wq hbQ.out
            obtain ⟨b1, b2, b3⟩ := hbox.out wq hbQ.out
            go_wp2_with (refine print_append_cells (w0 := wB) wB.heap.size rfl (.tmp 55) (.tmp 57) 24 41 (.agg #[.string ⟨#[]⟩, .int .i64 0]) 2 24 rfl Tryz.underlying24 infoMk rfl (by decide) (by decide) _ L.length (mcs L) [.string s.1, .int .i64 s.2] rfl rfl rfl (one_mk s) hoQ.out hbQ.out hsz (by omega) ?_)
            intro v1 w1 ho1 hb1 _ _
            have hoX : Veil (w1.ownsRow wB.heap.size 41 2 v1 (L ++ [s]).length (mcs (L ++ [s]))) := veil (by rw [mcs_snoc, List.length_append]; exact ho1)
            have hbX := veil hb1
            have hLX : (L ++ [s]).length ≤ 2 * n + 1 := by rw [List.length_append, List.length_singleton]; omega
            clear ho1 hb1 hoQ hbQ hL
            clear hsz k1 k2 b1 b2 b3
            generalize L ++ [s] = M at hS2 hoX hLX
            have hsz : wB.heap.size ≤ w1.heap.size := hbX.out.size
            obtain ⟨k1, k2⟩ := hAt.out w1 hbX.out
            obtain ⟨b1, b2, b3⟩ := hbox.out w1 hbX.out
            go_wp2_with (refine print_append_cells (w0 := wB) wB.heap.size rfl (.tmp 59) (.tmp 64) 24 41 (.agg #[.string ⟨#[]⟩, .int .i64 0]) 2 24 rfl Tryz.underlying24 infoMk rfl (by decide) (by decide) _ M.length (mcs M) [.string y.1, .int .i64 y.2] rfl rfl rfl (one_mk y) hoX.out hbX.out hsz (by omega) ?_)
            intro v2 w2 ho2 hb2 _ _
            have ho2' := veil ho2
            have hb2' := veil hb2
            clear ho2 hb2
            clear hsz k1 k2 b1 b2 b3
            go_wp2_with fail
            go_roundw
            case rel => exact ⟨q + 1, M ++ [y], true, hlt, congrArg (Value.int .i64) kk.out, rfl, hS2, by rw [mcs_snoc, List.length_append]; exact ho2'.out, hb2'.out⟩
            case measure => simp [intOf]; omega
          · have hg1 : (decide (s.2 < y.2)) = false := by simp; omega
            have hg2 : (y.2 == s.2) = true := by simp [hn1]
            cases hge : Op.bytesLess s.1.toList y.1.toList
            · have hg := fun W => Go.Proofs.Tryz.Cmp.gtr_texts (P := Tryz.prog) y.1 s.1 9 _ hge W
              have hS2 : Veil (foldM s (l.take (q + 1)) = (L ++ [y], false)) := veil (by rw [hS1.out]; unfold stepM; rw [if_neg hys']; simp [ahead, hn1, hge])
              clear hS1 hys' hge
              have hsz : wB.heap.size ≤ wp.heap.size := hbP.out.size
              obtain ⟨k1, k2⟩ := hAt.out wp hbP.out
              obtain ⟨b1, b2, b3⟩ := hbox.out wp hbP.out
              clear hn1
              go_wp2_with fail
              go_quiet (fail)
              obtain ⟨wq, hwq⟩ : ∃ WW : World, WW = wp.drewN nq := ⟨_, rfl⟩
              have hoX : Veil (wq.ownsRow wB.heap.size 41 2 u5 L.length (mcs L)) := veil (by rw [hwq]; exact hoP.out)
              have hbX : Veil (Below wB.heap.size wB wq) := veil (by rw [hwq]; exact pw_below_drewN hbP.out _)
              rw [← hwq]
              clear hwq hoP hbP
              clear hg1 hg2 hg
              clear hsz k1 k2 b1 b2 b3
              generalize L = M at hS2 hoX hL
              have hsz : wB.heap.size ≤ wq.heap.size := hbX.out.size
              obtain ⟨k1, k2⟩ := hAt.out wq hbX.out
              obtain ⟨b1, b2, b3⟩ := hbox.out wq hbX.out
              go_wp2_with (refine print_append_cells (w0 := wB) wB.heap.size rfl (.tmp 59) (.tmp 64) 24 41 (.agg #[.string ⟨#[]⟩, .int .i64 0]) 2 24 rfl Tryz.underlying24 infoMk rfl (by decide) (by decide) _ M.length (mcs M) [.string y.1, .int .i64 y.2] rfl rfl rfl (one_mk y) hoX.out hbX.out hsz (by omega) ?_)
              intro v2 w2 ho2 hb2 _ _
              have ho2' := veil ho2
              have hb2' := veil hb2
              clear ho2 hb2
              clear hsz k1 k2 b1 b2 b3
              go_wp2_with fail
              go_roundw
              case rel => exact ⟨q + 1, M ++ [y], false, hlt, congrArg (Value.int .i64) kk.out, rfl, hS2, by rw [mcs_snoc, List.length_append]; exact ho2'.out, hb2'.out⟩
              case measure => simp [intOf]; omega
            · have hg := fun W => Go.Proofs.Tryz.Cmp.gtr_texts (P := Tryz.prog) y.1 s.1 9 _ hge W
              have hS2 : Veil (foldM s (l.take (q + 1)) = ((L ++ [s]) ++ [y], true)) := veil (by rw [hS1.out]; unfold stepM; rw [if_neg hys']; simp [ahead, hn1, hge])
              clear hS1 hys' hge
              have hsz : wB.heap.size ≤ wp.heap.size := hbP.out.size
              obtain ⟨k1, k2⟩ := hAt.out wp hbP.out
              obtain ⟨b1, b2, b3⟩ := hbox.out wp hbP.out
              clear hn1
              go_wp2_with fail
              go_quiet (fail)
              obtain ⟨wq, hwq⟩ : ∃ WW : World, WW = wp.drewN nq := ⟨_, rfl⟩
              have hoQ : Veil (wq.ownsRow wB.heap.size 41 2 u5 L.length (mcs L)) := veil (by rw [hwq]; exact hoP.out)
              have hbQ : Veil (Below wB.heap.size wB wq) := veil (by rw [hwq]; exact pw_below_drewN hbP.out _)
              rw [← hwq]
              clear hwq hoP hbP
              clear hg1 hg2 hg
              clear hsz k1 k2 b1 b2 b3
              have hsz : wB.heap.size ≤ wq.heap.size := hbQ.out.size
              obtain ⟨k1, k2⟩ := hAt.out wq hbQ.out
              obtain ⟨b1, b2, b3⟩ := hbox.out wq hbQ.out
              go_wp2_with (refine print_append_cells (w0 := wB) wB.heap.size rfl (.tmp 55) (.tmp 57) 24 41 (.agg #[.string ⟨#[]⟩, .int .i64 0]) 2 24 rfl Tryz.underlying24 infoMk rfl (by decide) (by decide) _ L.length (mcs L) [.string s.1, .int .i64 s.2] rfl rfl rfl (one_mk s) hoQ.out hbQ.out hsz (by omega) ?_)
              intro v1 w1 ho1 hb1 _ _
              have hoX : Veil (w1.ownsRow wB.heap.size 41 2 v1 (L ++ [s]).length (mcs (L ++ [s]))) := veil (by rw [mcs_snoc, List.length_append]; exact ho1)
              have hbX := veil hb1
              have hLX : (L ++ [s]).length ≤ 2 * n + 1 := by rw [List.length_append, List.length_singleton]; omega
              clear ho1 hb1 hoQ hbQ hL
              clear hsz k1 k2 b1 b2 b3
              generalize L ++ [s] = M at hS2 hoX hLX
              have hsz : wB.heap.size ≤ w1.heap.size := hbX.out.size
              obtain ⟨k1, k2⟩ := hAt.out w1 hbX.out
              obtain ⟨b1, b2, b3⟩ := hbox.out w1 hbX.out
              go_wp2_with (refine print_append_cells (w0 := wB) wB.heap.size rfl (.tmp 59) (.tmp 64) 24 41 (.agg #[.string ⟨#[]⟩, .int .i64 0]) 2 24 rfl Tryz.underlying24 infoMk rfl (by decide) (by decide) _ M.length (mcs M) [.string y.1, .int .i64 y.2] rfl rfl rfl (one_mk y) hoX.out hbX.out hsz (by omega) ?_)
              intro v2 w2 ho2 hb2 _ _
              have ho2' := veil ho2
              have hb2' := veil hb2
              clear ho2 hb2
              clear hsz k1 k2 b1 b2 b3
              go_wp2_with fail
              go_roundw
              case rel => exact ⟨q + 1, M ++ [y], true, hlt, congrArg (Value.int .i64) kk.out, rfl, hS2, by rw [mcs_snoc, List.length_append]; exact ho2'.out, hb2'.out⟩
              case measure => simp [intOf]; omega
          · have hg1 : (decide (s.2 < y.2)) = false := by simp; omega
            have hg2 : (y.2 == s.2) = false := by simp; omega
            have h1 : ¬ s.2 < y.2 := by omega
            have h2 : ¬ y.2 = s.2 := by omega
            have hS2 : Veil (foldM s (l.take (q + 1)) = (L ++ [y], false)) := veil (by rw [hS1.out]; unfold stepM; rw [if_neg hys']; simp [ahead, h1, h2])
            clear h1 h2
            clear hS1 hys'
            have hsz : wB.heap.size ≤ wp.heap.size := hbP.out.size
            obtain ⟨k1, k2⟩ := hAt.out wp hbP.out
            obtain ⟨b1, b2, b3⟩ := hbox.out wp hbP.out
            clear hn1
            go_wp2_with fail
            go_quiet (fail)
            obtain ⟨wq, hwq⟩ : ∃ WW : World, WW = wp.drewN nq := ⟨_, rfl⟩
            have hoX : Veil (wq.ownsRow wB.heap.size 41 2 u5 L.length (mcs L)) := veil (by rw [hwq]; exact hoP.out)
            have hbX : Veil (Below wB.heap.size wB wq) := veil (by rw [hwq]; exact pw_below_drewN hbP.out _)
            rw [← hwq]
            clear hwq hoP hbP
            clear hg1 hg2
            clear hsz k1 k2 b1 b2 b3
            generalize L = M at hS2 hoX hL
            have hsz : wB.heap.size ≤ wq.heap.size := hbX.out.size
            obtain ⟨k1, k2⟩ := hAt.out wq hbX.out
            obtain ⟨b1, b2, b3⟩ := hbox.out wq hbX.out
            go_wp2_with (refine print_append_cells (w0 := wB) wB.heap.size rfl (.tmp 59) (.tmp 64) 24 41 (.agg #[.string ⟨#[]⟩, .int .i64 0]) 2 24 rfl Tryz.underlying24 infoMk rfl (by decide) (by decide) _ M.length (mcs M) [.string y.1, .int .i64 y.2] rfl rfl rfl (one_mk y) hoX.out hbX.out hsz (by omega) ?_)
            intro v2 w2 ho2 hb2 _ _
            have ho2' := veil ho2
            have hb2' := veil hb2
            clear ho2 hb2
            clear hsz k1 k2 b1 b2 b3
            go_wp2_with fail
            go_roundw
            case rel => exact ⟨q + 1, M ++ [y], false, hlt, congrArg (Value.int .i64) kk.out, rfl, hS2, by rw [mcs_snoc, List.length_append]; exact ho2'.out, hb2'.out⟩
            case measure => simp [intOf]; omega
        · have hS2 : Veil (foldM s (l.take (q + 1)) = (L ++ [y], true)) := veil (by rw [hS1.out]; unfold stepM; rw [if_neg hys']; simp)
          clear hS1 hys'
          have hsz : wB.heap.size ≤ wp.heap.size := hbP.out.size
          obtain ⟨k1, k2⟩ := hAt.out wp hbP.out
          obtain ⟨b1, b2, b3⟩ := hbox.out wp hbP.out
          go_wp2_with fail
          go_quiet (fail)
          obtain ⟨wq, hwq⟩ : ∃ WW : World, WW = wp.drewN nq := ⟨_, rfl⟩
          have hoX : Veil (wq.ownsRow wB.heap.size 41 2 u5 L.length (mcs L)) := veil (by rw [hwq]; exact hoP.out)
          have hbX : Veil (Below wB.heap.size wB wq) := veil (by rw [hwq]; exact pw_below_drewN hbP.out _)
          rw [← hwq]
          clear hwq hoP hbP
          clear hsz k1 k2 b1 b2 b3
          generalize L = M at hS2 hoX hL
          have hsz : wB.heap.size ≤ wq.heap.size := hbX.out.size
          obtain ⟨k1, k2⟩ := hAt.out wq hbX.out
          obtain ⟨b1, b2, b3⟩ := hbox.out wq hbX.out
          go_wp2_with (refine print_append_cells (w0 := wB) wB.heap.size rfl (.tmp 59) (.tmp 64) 24 41 (.agg #[.string ⟨#[]⟩, .int .i64 0]) 2 24 rfl Tryz.underlying24 infoMk rfl (by decide) (by decide) _ M.length (mcs M) [.string y.1, .int .i64 y.2] rfl rfl rfl (one_mk y) hoX.out hbX.out hsz (by omega) ?_)
          intro v2 w2 ho2 hb2 _ _
          have ho2' := veil ho2
          have hb2' := veil hb2
          clear ho2 hb2
          clear hsz k1 k2 b1 b2 b3
          go_wp2_with fail
          go_roundw
          case rel => exact ⟨q + 1, M ++ [y], true, hlt, congrArg (Value.int .i64) kk.out, rfl, hS2, by rw [mcs_snoc, List.length_append]; exact ho2'.out, hb2'.out⟩
          case measure => simp [intOf]; omega
      · have hne : (y.1.toList == s.1.toList) = true := by rw [tl_dec]; exact hys
        have hS2 : Veil (foldM s (l.take (q + 1)) = (L, pb)) := veil (by rw [hS1.out]; unfold stepM; rw [if_pos (of_decide_eq_true hys)])
        clear hS1 hys
        have hsz : wB.heap.size ≤ wr.heap.size := hb'.out.size
        obtain ⟨k1, k2⟩ := hAt.out wr hb'.out
        obtain ⟨b1, b2, b3⟩ := hbox.out wr hb'.out
        go_wp2_with fail
        go_quiet (fail)
        obtain ⟨wz, hwq⟩ : ∃ WW : World, WW = wr.drewN nq := ⟨_, rfl⟩
        have hoZ : Veil (wz.ownsRow wB.heap.size 41 2 u5 L.length (mcs L)) := veil (by rw [hwq]; exact ho'.out)
        have hbZ : Veil (Below wB.heap.size wB wz) := veil (by rw [hwq]; exact pw_below_drewN hb'.out _)
        rw [← hwq]
        clear hwq ho' hb'
        clear hsz k1 k2 b1 b2 b3
        go_wp2_with fail
        go_roundw
        case rel => exact ⟨q + 1, L, pb, hlt, congrArg (Value.int .i64) kk.out, rfl, hS2, hoZ.out, hbZ.out⟩
        case measure => simp [intOf]; omega
    · obtain rfl : n = q := by omega
      have hst1 : foldM s l = (L, pb) := by
        have h := hst.out
        rwa [List.take_of_length_le (by rw [hln'.out]; exact Nat.le_refl _)] at h
      have hL : L.length ≤ 2 * n := by
        have h := foldM_len s l
        rw [hst1, hln'.out] at h
        exact h
      cases pb
      · have hR := veil (show putM s l = L ++ [s] by unfold putM; rw [hst1]; rfl)
        clear hst1 hst
        have hsz : wB.heap.size ≤ wr.heap.size := hb'.out.size
        obtain ⟨b1, b2, b3⟩ := hbox.out wr hb'.out
        go_wp2_with (refine print_append_cells (w0 := wB) wB.heap.size rfl (.tmp 68) (.tmp 70) 24 41 (.agg #[.string ⟨#[]⟩, .int .i64 0]) 2 24 rfl Tryz.underlying24 infoMk rfl (by decide) (by decide) _ L.length (mcs L) [.string s.1, .int .i64 s.2] rfl rfl rfl (one_mk s) ho'.out hb'.out hsz (by omega) ?_)
        intro v2 w2 ho2 hb2 _ _
        have ho2' := veil ho2
        have hb2' := veil hb2
        clear ho2 hb2
        clear hsz b1 b2 b3
        go_wp2_with fail
        go_ret
        exact ⟨_, rfl, by rw [hR.out, mcs_snoc, List.length_append]; exact own_weaken ho2'.out (by have := hsB'.out; omega), two_below hbB'.out hb2'.out⟩
      · have hR := veil (show putM s l = L by unfold putM; rw [hst1]; rfl)
        clear hst1 hst
        go_wp2_with fail
        go_ret
        exact ⟨_, rfl, by rw [hR.out]; exact own_weaken ho'.out (by have := hsB'.out; omega), two_below hbB'.out hb'.out⟩
end Go.Proofs.Tryz.Vl
/- ref09.Size: of a value of the kinds 2 to 5. -/
namespace Go.Proofs.Tryz.Vl
open Go Go.RowKit Go.Proofs.Mem
open Go.Proofs.YtnkjejmgpempkaaGreatDoorW.PrintWords
set_option linter.unusedVariables false
set_option linter.unusedSimpArgs false
def sizeF (k : Int) (n1 n2 n3 : Nat) : Nat := if k = 2 ∨ k = 4 then n1 else if k = 3 then n2 else n3
set_option maxRecDepth 100000 in
set_option maxHeartbeats 4000000 in
theorem Size_any (k : Int) (s : BA) (A1 A2 A3 : Option Addr) (n1 n2 n3 c1 c2 c3 : Nat) (w : World) (hk : k = 2 ∨ k = 3 ∨ k = 4 ∨ k = 5) :
    Calls Tryz.prog 12 #[.agg #[.int .u8 k, .string s, .slice A1 n1 c1, .slice A2 n2 c2, .slice A3 n3 c3]] w fun e w' => e = .returned (.int .i64 (sizeF k n1 n2 n3 : Nat)) ∧ Below w.heap.size w w' := by
  rcases hk with rfl | rfl | rfl | rfl
  all_goals
    go_enter Tryz.func12, Tryz.ntmps12
    go_wp2_with fail
    go_ret
    exact ⟨rfl, below_alloc (Below.refl _ _) _⟩
end Go.Proofs.Tryz.Vl
