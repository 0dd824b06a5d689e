import Derived.Test.YtefpcffompgceaaDoorRepl
/- strings.Replacer's table is made once: what sync.Once.Do comes to. -/
namespace Go.Proofs.Tryd.Ln
open Go Go.RowKit Go.Proofs.Mem
open Go.Proofs.YtefpcffompgceaaDoorW.PrintWords
set_option linter.unusedVariables false

/-- a replacer: done, the lock, its table, its texts -/
def repl (x0 x1 x2 r l : Value) : Obj := .cells #[x0, x1, x2, r, l] 53
theorem repl_cell {w : World} {b : Nat} {x0 x1 x2 r l : Value} (h : w.heap[b]? = some (repl x0 x1 x2 r l)) (j : Nat) : w.cell? ⟨b, j, none⟩ = #[x0, x1, x2, r, l][j]? := by
  rw [cell_of_row _ _ _ _ _ _ h]
theorem repl_free {w : World} {b : Nat} {x0 x1 x2 r l : Value} (h : w.heap[b]? = some (repl x0 x1 x2 r l)) (j : Nat) : w.frozen? ⟨b, j, none⟩ = false := by
  simp [World.frozen?, h, repl]
theorem four_below {w w1 : World} {g : Nat} (h : Four w g) (hb : Below w.heap.size w w1) : Four w1 g := ⟨pw_cell_below hb h.1, pw_cell_below hb h.2.1, pw_cell_below hb h.2.2.1, pw_cell_below hb h.2.2.2⟩
theorem four_set {w : World} {g b j : Nat} {u : Value} (h : Four w g) (hne : g ≠ b) : Four (w.setCell ⟨b, j, none⟩ u) g := by
  have e : ∀ i, (w.setCell ⟨b, j, none⟩ u).cell? ⟨g, i, none⟩ = w.cell? ⟨g, i, none⟩ := fun i => cell_far (a := ⟨g, i, none⟩) (p := ⟨b, j, none⟩) hne u
  exact ⟨(e 0).trans h.1, (e 1).trans h.2.1, (e 2).trans h.2.2.1, (e 3).trans h.2.2.2⟩
/-- the table lies, the replacer knows it -/
def Laid (base b : Nat) (x0 x1 x2 : Value) (w w' : World) : Prop := Below base w w' ∧ ∃ h, base ≤ h ∧ h ≠ b ∧ w'.heap[b]? = some (repl x0 x1 x2 (.iface 68 (.pointer (some ⟨h, 0, none⟩))) (.slice none 0 0)) ∧ w'.heap[h]? = some (.cells (bvs tab) 67 (0, 0))
def Made (base b : Nat) (x0 x1 x2 : Value) (w : World) (e : Ending) (w' : World) : Prop := e = .returned (.tuple #[]) ∧ Laid base b x0 x1 x2 w w'
set_option maxHeartbeats 2000000 in
theorem buildOnce_any (base b g c : Nat) (x0 x1 x2 : Value) (w : World) (hb : w.heap[b]? = some (repl x0 x1 x2 .nilIface (.slice (some ⟨g, 0, none⟩) 4 c))) (hc : 4 ≤ c) (hF : Four w g) (hB : base ≤ b) (hs : base ≤ w.heap.size) :
    Calls Tryd.prog 21 #[.pointer (some ⟨b, 0, none⟩)] w (Made base b x0 x1 x2 w) := by
  have h4 := veil (repl_cell hb 4)
  have hb' := veil hb
  have hF' := veil hF
  have hlt := blk_lt hb
  clear hb hF
  go_enter Tryd.func21, Tryd.ntmps21
  go_wp2_with fail
  refine (build_any base b g c _ hc h4.out hF'.out).mono ?_
  rintro e w1 ⟨h, rfl, hh, hT, hb1⟩
  have hbb := (hb1.block _ hlt).trans hb'.out
  have c3 := repl_cell hbb 3
  have f3 := repl_free hbb 3
  have hne : h ≠ b := by omega
  have hbb3 : (w1.setCell ⟨b, 3, none⟩ (.iface 68 (.pointer (some ⟨h, 0, none⟩)))).heap[b]? = some (repl x0 x1 x2 (.iface 68 (.pointer (some ⟨h, 0, none⟩))) (.slice (some ⟨g, 0, none⟩) 4 c)) := blk_put hbb 3 _ rfl
  have c4 := repl_cell hbb3 4
  have f4 := repl_free hbb3 4
  have hbb4 : ((w1.setCell ⟨b, 3, none⟩ (.iface 68 (.pointer (some ⟨h, 0, none⟩)))).setCell ⟨b, 4, none⟩ (.slice none 0 0)).heap[b]? = some (repl x0 x1 x2 (.iface 68 (.pointer (some ⟨h, 0, none⟩))) (.slice none 0 0)) := blk_put hbb3 4 _ rfl
  have hT4 : ((w1.setCell ⟨b, 3, none⟩ (.iface 68 (.pointer (some ⟨h, 0, none⟩)))).setCell ⟨b, 4, none⟩ (.slice none 0 0)).heap[h]? = some (.cells (bvs tab) 67 (0, 0)) :=
    (Below.heap_setCell _ ⟨b, 4, none⟩ _ h hne).trans ((Below.heap_setCell _ ⟨b, 3, none⟩ _ h hne).trans hT)
  have hX := veil (show Laid base b x0 x1 x2 w ((w1.setCell ⟨b, 3, none⟩ (.iface 68 (.pointer (some ⟨h, 0, none⟩)))).setCell ⟨b, 4, none⟩ (.slice none 0 0)) from
    ⟨((hb1.mono hs).setCell hB _).setCell hB _, h, by omega, hne, hbb4, hT4⟩)
  simp at c3 c4
  clear hbb hbb3 hbb4 hT4 hT hb1 hne
  go_wp2_with fail
  go_end0
  exact ⟨rfl, hX.out⟩
set_option maxRecDepth 100000 in
set_option maxHeartbeats 4000000 in
theorem slow_any (base b g c : Nat) (x2 : Value) (w : World) (hb : w.heap[b]? = some (repl (.int .u32 0) (.int .i32 0) x2 .nilIface (.slice (some ⟨g, 0, none⟩) 4 c))) (hc : 4 ≤ c) (hF : Four w g) (hg : g ≠ b) (hB : base ≤ b) (hs : base ≤ w.heap.size) :
    Calls Tryd.prog 24 #[.pointer (some ⟨b, 0, none⟩), .func (.func 21) #[.pointer (some ⟨b, 0, none⟩)] #[]] w (Made base b (.int .u32 1) (.int .i32 0) x2 w) := by
  have c0 := repl_cell hb 0
  have c1 := repl_cell hb 1
  have f0 := repl_free hb 0
  have f1 := repl_free hb 1
  simp at c0 c1
  have hb1 : (w.setCell ⟨b, 1, none⟩ (.int .i32 1)).heap[b]? = some (repl (.int .u32 0) (.int .i32 1) x2 .nilIface (.slice (some ⟨g, 0, none⟩) 4 c)) := blk_put hb 1 _ rfl
  have c01 := repl_cell hb1 0
  simp at c01
  have hF1 := veil (four_set (j := 1) (u := .int .i32 1) hF hg)
  have hB1 := veil ((Below.refl base w).setCell (p := ⟨b, 1, none⟩) hB (.int .i32 1))
  have hb' := veil hb
  have hb1' := veil hb1
  have hl := run_call_load (P := Tryd.prog) Tryd.func27 (by kernel_rfl) (by kernel_rfl) (by kernel_rfl) .u32 (by kernel_rfl) (w := w.setCell ⟨b, 1, none⟩ (.int .i32 1)) (a := ⟨b, 0, none⟩) (x := 0) c01
  have hnot : ∀ (x : Bool) (w : World), (Op.unary .not (.bool x)).run Tryd.prog w = .ok (.bool (!x)) w := fun _ _ => rfl
  have hs1 := veil (show base ≤ (w.setCell ⟨b, 1, none⟩ (.int .i32 1)).heap.size from by rw [World.size_setCell]; exact hs)
  clear hb hb1 hF c01
  go_enter_defers Tryd.func24, Tryd.ntmps24
  go_wp2_with (first | (go_at_call 28; refine (lock_free ⟨b, 1, none⟩ _ c1 f1).mono ?_; rintro e w' ⟨rfl, rfl⟩) | (go_at_call 23; go_in))
  refine (buildOnce_any base b g c _ _ _ _ hb1'.out hc hF1.out hB hs1.out).mono ?_
  rintro e w2 ⟨rfl, hbel, h, hh, hne, hbb, hT⟩
  have k0 := repl_cell hbb 0
  have k1 := repl_cell hbb 1
  have z0 := repl_free hbb 0
  have z1 := repl_free hbb 1
  simp at k0 k1
  have hbb2 : (w2.drew.setCell ⟨b, 0, none⟩ (.int .u32 1)).heap[b]? = some (repl (.int .u32 1) (.int .i32 1) x2 (.iface 68 (.pointer (some ⟨h, 0, none⟩))) (.slice none 0 0)) := blk_put (w := w2.drew) hbb 0 _ rfl
  have m1 := repl_cell hbb2 1
  have n1 := repl_free hbb2 1
  simp at m1
  have hbb3 : ((w2.drew.setCell ⟨b, 0, none⟩ (.int .u32 1)).setCell ⟨b, 1, none⟩ (.int .i32 0)).heap[b]? = some (repl (.int .u32 1) (.int .i32 0) x2 (.iface 68 (.pointer (some ⟨h, 0, none⟩))) (.slice none 0 0)) := blk_put hbb2 1 _ rfl
  have hT3 : ((w2.drew.setCell ⟨b, 0, none⟩ (.int .u32 1)).setCell ⟨b, 1, none⟩ (.int .i32 0)).heap[h]? = some (.cells (bvs tab) 67 (0, 0)) :=
    (Below.heap_setCell _ ⟨b, 1, none⟩ _ h hne).trans ((Below.heap_setCell _ ⟨b, 0, none⟩ _ h hne).trans hT)
  have hX := veil (show Laid base b (.int .u32 1) (.int .i32 0) x2 w ((w2.drew.setCell ⟨b, 0, none⟩ (.int .u32 1)).setCell ⟨b, 1, none⟩ (.int .i32 0)) from
    ⟨((pw_below_drewN (hB1.out.trans hbel) 1).setCell hB _).setCell hB _, h, hh, hne, hbb3, hT3⟩)
  have m1' := veil m1
  have n1' := veil n1
  have k0' := veil k0
  have z0' := veil z0
  clear hbb hbb2 hbb3 hT hT3 hbel k0 k1 z0 z1 m1 n1 hl c0 c1 f0 f1
  go_wp2_with fail
  refine leaves_cons (f := 30) (args := #[.pointer (some ⟨b, 0, none⟩), .bool true]) (by simp) (by simp [go_sem]) ?_
  refine (store_deferred ⟨b, 0, none⟩ (.int .u32 0) .returning _ k0'.out z0'.out).mono ?_
  rintro e u' w'' ⟨rfl, rfl, rfl⟩
  refine leaves_cons (f := 29) (args := #[.pointer (some ⟨b, 1, none⟩)]) (by simp [settle]) (by simp [go_sem]) ?_
  refine (unlock_deferred ⟨b, 1, none⟩ _ _ m1'.out n1'.out).mono ?_
  rintro e u' w'' ⟨rfl, rfl, rfl⟩
  simp [Leaves, settle, results, Tryd.results24]
  exact ⟨rfl, hX.out⟩
set_option maxRecDepth 100000 in
set_option maxHeartbeats 4000000 in
theorem do_any (base b g c : Nat) (x2 : Value) (w : World) (hb : w.heap[b]? = some (repl (.int .u32 0) (.int .i32 0) x2 .nilIface (.slice (some ⟨g, 0, none⟩) 4 c))) (hc : 4 ≤ c) (hF : Four w g) (hg : g ≠ b) (hB : base ≤ b) (hs : base ≤ w.heap.size) :
    Calls Tryd.prog 20 #[.pointer (some ⟨b, 0, none⟩), .func (.func 21) #[.pointer (some ⟨b, 0, none⟩)] #[]] w (Made base b (.int .u32 1) (.int .i32 0) x2 w) := by
  have c0 := repl_cell hb 0
  simp at c0
  have hl := run_call_load (P := Tryd.prog) Tryd.func27 (by kernel_rfl) (by kernel_rfl) (by kernel_rfl) .u32 (by kernel_rfl) c0
  have hnot : ∀ (x : Bool) (w : World), (Op.unary .not (.bool x)).run Tryd.prog w = .ok (.bool (!x)) w := fun _ _ => rfl
  have hb' := veil hb
  have hF' := veil hF
  clear hb hF
  go_enter Tryd.func20, Tryd.ntmps20
  go_wp2_with (first | (go_at_call 24; refine (slow_any base b g c x2 _ hb'.out hc hF'.out hg hB hs).mono ?_; rintro e w1 ⟨rfl, hX⟩) | (go_at_call 23; go_in))
  go_end0
  exact ⟨rfl, hX⟩
end Go.Proofs.Tryd.Ln
