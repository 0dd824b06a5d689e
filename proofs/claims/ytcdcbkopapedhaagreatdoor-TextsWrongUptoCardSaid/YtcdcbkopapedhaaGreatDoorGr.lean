import Derived.Test.YtcdcbkopapedhaaGreatDoorBase
import Derived.Test.YtcdcbkopapedhaaGreatDoorCmp
/- Rows of texts, pairs and marks: how they are read; what the document's rows become with one more. -/
namespace Go.Proofs.Tryz.Vl
open Go Go.RowKit Go.Proofs.Mem
open Go.Proofs.YtcdcbkopapedhaaGreatDoorW.PrintWords
set_option linter.unusedVariables false
set_option linter.unusedSimpArgs false
abbrev BA := ByteArray
abbrev PR := ByteArray × ByteArray
abbrev MK := ByteArray × Int
def sc : BA → List Value := fun s => [.string s]
def pc : PR → List Value := fun p => [.string p.1, .string p.2]
def mc : MK → List Value := fun p => [.string p.1, .int .i64 p.2]
def scs (l : List BA) : List Value := l.flatMap sc
def pcs (l : List PR) : List Value := l.flatMap pc
def mcs (l : List MK) : List Value := l.flatMap mc
theorem scs_encs (l : List BA) : scs l = encs Value.string l := by
  induction l with
  | nil => rfl
  | cons x r ih => simp only [scs, List.flatMap_cons, sc, List.singleton_append, encs, List.map_cons] at ih ⊢; rw [ih]
theorem scs_snoc (l : List BA) (x : BA) : scs (l ++ [x]) = scs l ++ [.string x] := by simp [scs, sc, List.flatMap_append]
theorem pcs_snoc (l : List PR) (x : PR) : pcs (l ++ [x]) = pcs l ++ [.string x.1, .string x.2] := by simp [pcs, pc, List.flatMap_append]
theorem mcs_snoc (l : List MK) (x : MK) : mcs (l ++ [x]) = mcs l ++ [.string x.1, .int .i64 x.2] := by simp [mcs, mc, List.flatMap_append]
theorem scs_len (l : List BA) : (scs l).length = l.length := by
  induction l with
  | nil => rfl
  | cons x r ih => simp only [scs, List.flatMap_cons, sc, List.length_append, List.length_cons, List.length_nil] at ih ⊢; omega
theorem pcs_len (l : List PR) : (pcs l).length = l.length * 2 := by
  induction l with
  | nil => rfl
  | cons x r ih => simp only [pcs, List.flatMap_cons, pc, List.length_append, List.length_cons, List.length_nil] at ih ⊢; omega
theorem mcs_len (l : List MK) : (mcs l).length = l.length * 2 := by
  induction l with
  | nil => rfl
  | cons x r ih => simp only [mcs, List.flatMap_cons, mc, List.length_append, List.length_cons, List.length_nil] at ih ⊢; omega
theorem scs_at : ∀ (l : List BA) (q : Nat) (s : BA), l[q]? = some s → (scs l)[q]? = some (.string s)
  | x :: r, 0, s, h => by simp at h; simp [scs, sc, h]
  | x :: r, q + 1, s, h => by
    have ih := scs_at r q s (by simpa using h)
    show (sc x ++ scs r)[q + 1]? = _
    simpa [sc] using ih
theorem pcs_at : ∀ (l : List PR) (q : Nat) (p : PR), l[q]? = some p → (pcs l)[q * 2]? = some (.string p.1) ∧ (pcs l)[q * 2 + 1]? = some (.string p.2)
  | x :: r, 0, s, h => by simp at h; subst h; exact ⟨rfl, rfl⟩
  | x :: r, q + 1, s, h => by
    have ih := pcs_at r q s (by simpa using h)
    show (pc x ++ pcs r)[(q + 1) * 2]? = _ ∧ (pc x ++ pcs r)[(q + 1) * 2 + 1]? = _
    rw [show (q + 1) * 2 = q * 2 + 1 + 1 by omega, show q * 2 + 1 + 1 + 1 = (q * 2 + 1) + 1 + 1 by omega]
    simpa [pc] using ih
theorem mcs_at : ∀ (l : List MK) (q : Nat) (p : MK), l[q]? = some p → (mcs l)[q * 2]? = some (.string p.1) ∧ (mcs l)[q * 2 + 1]? = some (.int .i64 p.2)
  | x :: r, 0, s, h => by simp at h; subst h; exact ⟨rfl, rfl⟩
  | x :: r, q + 1, s, h => by
    have ih := mcs_at r q s (by simpa using h)
    show (mc x ++ mcs r)[(q + 1) * 2]? = _ ∧ (mc x ++ mcs r)[(q + 1) * 2 + 1]? = _
    rw [show (q + 1) * 2 = q * 2 + 1 + 1 by omega, show q * 2 + 1 + 1 + 1 = (q * 2 + 1) + 1 + 1 by omega]
    simpa [mc] using ih
/-- a row that is read: n elements, whose cells these are -/
structure gR (w : World) (x : Value) (n : Nat) (cs : List Value) : Prop where
  ex : ∃ A c, x = .slice A n c ∧ n ≤ c ∧ c ≤ 9223372036854775807 ∧ (∀ ad, A = some ad → ad.spot = none) ∧ (0 < n → ∃ ad, A = some ad ∧ ∀ j u, cs[j]? = some u → w.cell? (ad.add j) = some u)
section
variable {w w1 : World} {x : Value} {n : Nat} {cs : List Value}
theorem gR.below (h : gR w x n cs) (hb : Below w.heap.size w w1) : gR w1 x n cs := by
  obtain ⟨A, c, h1, h2, h3, h4, h5⟩ := h.ex
  refine ⟨A, c, h1, h2, h3, h4, fun hp => ?_⟩
  obtain ⟨ad, e, hc⟩ := h5 hp
  exact ⟨ad, e, fun j u hu => pw_cell_below hb (hc j u hu)⟩
theorem gR_nil (w : World) : gR w (.slice none 0 0) 0 [] := ⟨none, 0, rfl, by simp, by decide, (fun _ h => by cases h), fun h => absurd h (by simp)⟩
theorem add_plain' (b o i : Nat) : (⟨b, o, none⟩ : Addr).add i = ⟨b, o + i, none⟩ := by unfold Addr.add; split <;> simp_all
theorem gR.slice (h : gR w x n cs) : ∃ A c, x = .slice A n c ∧ n ≤ c := by
  obtain ⟨A, c, h1, h2, _⟩ := h.ex
  exact ⟨A, c, h1, h2⟩
theorem gR.there (h : gR w x n cs) (h1 : 0 < n) : ∃ b o c, x = .slice (some ⟨b, o, none⟩) n c ∧ n ≤ c ∧ ∀ j u, cs[j]? = some u → w.cell? ⟨b, o + j, none⟩ = some u := by
  obtain ⟨A, c, e, h2, h3, h4, h5⟩ := h.ex
  obtain ⟨ad, rfl, hc⟩ := h5 h1
  obtain ⟨b, o, sp⟩ := ad
  obtain rfl : sp = none := h4 _ rfl
  exact ⟨b, o, c, e, h2, fun j u hu => by rw [← add_plain']; exact hc j u hu⟩
theorem gR.cells {b o c : Nat} (h : gR w (.slice (some ⟨b, o, none⟩) n c) n cs) (h0 : 0 < n) : ∀ j u, cs[j]? = some u → w.cell? ⟨b, o + j, none⟩ = some u := by
  obtain ⟨b', o', c', e, _, hc⟩ := h.there h0
  injection e with e _ _
  injection e with e
  injection e with e1 e2 _
  subst e1
  subst e2
  exact hc
theorem gR_own {base : Nat} {e : TypeId} {k : Nat} (h : w.ownsRow base e k x n cs) : gR w x n cs := by
  rcases h.2 with ⟨rfl, rfl⟩ | ⟨g, cap, cur, rfl, _, hh, hc, hm, _, ht⟩
  · exact ⟨none, 0, rfl, by simp, by decide, (fun _ h => by cases h), fun h => absurd h (by simp)⟩
  · refine ⟨_, cap, rfl, hc, by unfold maxLen at hm; omega, fun ad e => by cases e; rfl, fun _ => ⟨_, rfl, h.cells rfl⟩⟩
end
/-- a row of these, with one more, as the document puts it: by names -/
def stepP {α : Type} (nm : α → BA) (x : α) (st : List α × Bool) (y : α) : List α × Bool :=
  let s1 := if st.2 = false ∧ Op.bytesLess (nm y).toList (nm x).toList = false then (st.1 ++ [x], true) else st
  if nm y = nm x then s1 else (s1.1 ++ [y], s1.2)
def foldP {α : Type} (nm : α → BA) (x : α) (l : List α) : List α × Bool := l.foldl (stepP nm x) ([], false)
def putF {α : Type} (nm : α → BA) (x : α) (l : List α) : List α := if (foldP nm x l).2 = true then (foldP nm x l).1 else (foldP nm x l).1 ++ [x]
theorem foldP_succ {α : Type} (nm : α → BA) (x y : α) (l : List α) (q : Nat) (h : l[q]? = some y) : foldP nm x (l.take (q + 1)) = stepP nm x (foldP nm x (l.take q)) y := by
  unfold foldP
  rw [List.take_add_one, h, List.foldl_append]
  rfl
theorem stepP_len {α : Type} (nm : α → BA) (x y : α) (st : List α × Bool) : (stepP nm x st y).1.length ≤ st.1.length + 2 := by
  unfold stepP
  dsimp only
  split <;> split <;> simp <;> omega
theorem foldP_len {α : Type} (nm : α → BA) (x : α) (l : List α) : (foldP nm x l).1.length ≤ 2 * l.length := by
  unfold foldP
  have h : ∀ (l : List α) (st : List α × Bool), (l.foldl (stepP nm x) st).1.length ≤ st.1.length + 2 * l.length := by
    intro l
    induction l with
    | nil => intro st; simp
    | cons y r ih =>
      intro st
      have h1 := ih (stepP nm x st y)
      have h2 := stepP_len nm x y st
      simp only [List.foldl_cons, List.length_cons]
      omega
  have := h l ([], false)
  simpa using this
theorem putF_len {α : Type} (nm : α → BA) (x : α) (l : List α) : (putF nm x l).length ≤ 2 * l.length + 1 := by
  have := foldP_len nm x l
  unfold putF
  split <;> simp <;> omega
/-- and a row of marks: by numbers, then by names -/
def ahead (m y : MK) : Bool := decide (y.2 > m.2) || (decide (y.2 = m.2) && Op.bytesLess m.1.toList y.1.toList)
def stepM (m : MK) (st : List MK × Bool) (y : MK) : List MK × Bool :=
  if y.1 = m.1 then st else
    let s1 := if st.2 = false ∧ ahead m y = true then (st.1 ++ [m], true) else st
    (s1.1 ++ [y], s1.2)
def foldM (m : MK) (l : List MK) : List MK × Bool := l.foldl (stepM m) ([], false)
def putM (m : MK) (l : List MK) : List MK := if (foldM m l).2 = true then (foldM m l).1 else (foldM m l).1 ++ [m]
theorem foldM_succ (m y : MK) (l : List MK) (q : Nat) (h : l[q]? = some y) : foldM m (l.take (q + 1)) = stepM m (foldM m (l.take q)) y := by
  unfold foldM
  rw [List.take_add_one, h, List.foldl_append]
  rfl
theorem stepM_len (m y : MK) (st : List MK × Bool) : (stepM m st y).1.length ≤ st.1.length + 2 := by
  unfold stepM
  dsimp only
  split
  · omega
  · split <;> simp
theorem foldM_len (m : MK) (l : List MK) : (foldM m l).1.length ≤ 2 * l.length := by
  unfold foldM
  have h : ∀ (l : List MK) (st : List MK × Bool), (l.foldl (stepM m) st).1.length ≤ st.1.length + 2 * l.length := by
    intro l
    induction l with
    | nil => intro st; simp
    | cons y r ih =>
      intro st
      have h1 := ih (stepM m st y)
      have h2 := stepM_len m y st
      simp only [List.foldl_cons, List.length_cons]
      omega
  have := h l ([], false)
  simpa using this
theorem putM_len (m : MK) (l : List MK) : (putM m l).length ≤ 2 * l.length + 1 := by
  have := foldM_len m l
  unfold putM
  split <;> simp <;> omega
end Go.Proofs.Tryz.Vl
