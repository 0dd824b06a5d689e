import Derived.Test.YtefpcffompgceaaGreatDoorWWords
import Derived.Lib.AppendStr
import Derived.Lib.SlBytesConst
import Derived.Test.YtefpcffompgceaaGreatDoorRp
/- A string appended to a row of the call's own, beside other rows. -/
namespace Go.Proofs.YtefpcffompgceaaGreatDoorW.PrintWords
open Go Go.RowKit Go.Lib
set_option linter.unusedVariables false

/-- k is not the block of v -/
abbrev nb (k : Nat) (v : Value) : Prop := some k ≠ v.ownBlock
/-- a row of bytes -/
abbrev R8 (w : World) (base : Nat) (ok : Nat → Prop) (v : Value) (xs : List Int) : Prop := Kd.R (Kd.int .u8) 5 w base ok v xs
theorem append_str_at {P : Program} {w : World} (base : Nat) (t u ty e : TypeId) (i : TypeInfo) (ht : P.underlying t = some (.slice e)) (hu : P.underlying u = some .string) (hi : P.info? e = some i) (hz : i.zero = some (.int .u8 0))
    (hsize : i.size = 1) (hby : i.bytes = 1)
    (v : Value) (n : Nat) (xs : List Value) (hown : w.ownsRow base e 1 v n xs) (s : ByteArray)
    (h63 : n + s.size ≤ maxLen) (hbytes : n + s.size ≤ 140737488355328) {v' : Value} {w' : World}
    (h : (Builtin.append_ #[t, u] ty #[v, .string s]).run P w = .ok v' w') : v'.ownBlock = v.ownBlock ∨ ∃ b, v'.ownBlock = some b ∧ w.heap.size ≤ b := by
  have hsmall : n + s.size ≤ 9223372036854775807 := by simp only [maxLen] at h63; omega
  have hxl : xs.length = n := by simpa using hown.1
  rcases hown.2 with ⟨rfl, rfl⟩ | ⟨g, cap, cur, rfl, hbg, hg, hnc, hcm, hcs, htake⟩
  · by_cases hm : s.size = 0
    · have hf := run_firstCells_string (P := P) w 1 s
      rw [hm] at hf
      have hr : (Builtin.append_ #[t, u] ty #[.slice none 0 0, .string s]).run P w = .ok (.slice none 0 0) w := by
        simp [Builtin.append_, run_underlying ht, run_underlying hu, sizeOf, typeInfo, hi, hsize, Builtin.lenOf, hm, hf]
      rw [hr] at h
      injection h with h _
      exact .inl (by rw [← h])
    · have hr := run_append_nil_string (P := P) w t u ty e i (.int .u8 0) ht hu hi hz s (by omega) (by omega) (by rw [hby]; omega)
      rw [hr] at h
      injection h with h _
      exact .inr ⟨w.heap.size, by rw [← h]; rfl, Nat.le_refl _⟩
  · by_cases hroom : n + s.size ≤ cap
    · have hcs' : cur.size = cap := by simpa using hcs
      have hr := run_append_room_string (P := P) w t u ty e i ht hu hi hsize g n cap cur hg s hroom (by omega)
      rw [hr] at h
      injection h with h _
      exact .inl (by rw [← h]; rfl)
    · have holds : ∀ j u, xs[j]? = some u → w.cell? ((⟨g, 0, none⟩ : Addr).add j) = some u := hown.cells (g := g) rfl
      have hr := run_append_grow_string (P := P) w t u ty e i (.int .u8 0) ht hu hi hz ⟨g, 0, none⟩ n cap xs (by rw [hsize]; simpa using hxl) holds s (by omega) (by omega) (by rw [hby]; exact growslice_fits (by omega) (by omega))
      rw [hr] at h
      injection h with h _
      exact .inr ⟨w.heap.size, by rw [← h]; rfl, Nat.le_refl _⟩
section
variable {P : Program} {ops : Array Oper} {rest : List Oper} {o : Oper} {a : Act} {Q : Exit → Act → World → Prop}
theorem R_append_str {w0 W : World} (base : Nat) (hgd : o.guard = none) (s x : Operand) (t u e : TypeId)
    (ho : o.op = .call { callee := .builtin .append, args := #[s, x], argTypes := #[t, u] })
    (ht : P.underlying t = some (.slice e)) (hu : P.underlying u = some .string) (hinfo : (P.info? e).map (fun i => (i.zero, i.size, i.bytes)) = some (some (.int .u8 0), 1, 1))
    (v : Value) (xs : List Int) (y : ByteArray) (ok : Nat → Prop) (hs : a.eval s = v) (hx : a.eval x = .string y)
    (HO : (Kd.int .u8).R e W base ok v xs) (hfresh : ∀ k, W.heap.size ≤ k → ok k) (HB : Below base w0 W) (hbase : base ≤ W.heap.size) (hl : xs.length + y.size ≤ 140737488355328)
    (h : ∀ v1 w1, (Kd.int .u8).R e w1 base ok v1 (xs ++ bytesOf y) → Below base w0 w1 → W.grownBy w1 v.ownBlock → (v1.ownBlock = v.ownBlock ∨ ∃ b, v1.ownBlock = some b ∧ W.heap.size ≤ b) → wpList P ops Q rest (a.put o.dst v1) w1) :
    wpList P ops Q (o :: rest) a W := by
  obtain ⟨i0, hi, hzz⟩ := Option.map_eq_some_iff.1 hinfo
  simp only [Prod.mk.injEq] at hzz
  obtain ⟨hz0, hz1, hz2⟩ := hzz
  have HW : W.ownsRow base e 1 v xs.length (nums .u8 xs) := Kd.own_of_R HO
  have h63 : xs.length + y.size ≤ maxLen := by simp only [maxLen]; omega
  obtain ⟨v1, w1, hr, hown, hg, _⟩ := run_append_own_string (P := P) (w := W) base t u o.type e i0 ht hu hi hz0 hz1 hz2 v xs.length (nums .u8 xs) HW y h63 hl hbase
  have hat := append_str_at (P := P) (w := W) base t u o.type e i0 ht hu hi hz0 hz1 hz2 v xs.length (nums .u8 xs) HW y h63 hl hr
  have hl2 : (xs ++ bytesOf y).length = xs.length + y.size := by rw [List.length_append, bytesOf_length]
  have hc : nums .u8 (xs ++ bytesOf y) = nums .u8 xs ++ Lib.strCells y := by
    rw [nums_append]
    congr 1
    simp [nums, bytesOf, Lib.strCells]
  have hR : (Kd.int .u8).R e w1 base ok v1 (xs ++ bytesOf y) := Kd.R_of_own (h1 := fun _ => rfl) (by rw [hl2]; rw [← hc] at hown; exact hown) (fun k hk => by
    rcases hat with e1 | ⟨b, e1, hb⟩
    · rw [e1] at hk; exact HO.1 k hk
    · rw [e1] at hk; injection hk with hk; subst hk; exact hfresh _ hb)
  refine wpList_plain hgd fun K hK => ?_
  unfold Oper.wp execOp
  simp only [ho, resolve, invoke, builtin, Sem.run_bind, Sem.run_pure, Result.andThen_ok, List.map_toArray, List.map_cons, List.map_nil, hs, hx, hr]
  exact hK _ _ (h v1 w1 hR (HB.grown hg hbase (own_base HW)) hg hat)
end
end Go.Proofs.YtefpcffompgceaaGreatDoorW.PrintWords
namespace Go.Proofs.Tryz.Ln
open Go Go.RowKit Go.Proofs.Mem Go.Proofs.App
open Go.Proofs.YtefpcffompgceaaGreatDoorW.PrintWords
set_option linter.unusedVariables false

/-- what a call has made, with a text appended: as if the call had made it so -/
theorem app_lit {P : Program} {ops : Array Oper} {rest : List Oper} {o : Oper} {a : Act} {Q : Exit → Act → World → Prop} {W w : World} (hgd : o.guard = none) (s x : Operand) (t tx e : TypeId)
    (ho : o.op = .call { callee := .builtin .append, args := #[s, x], argTypes := #[t, tx] })
    (ht : P.underlying t = some (.slice e)) (htx : P.underlying tx = some .string) (hinfo : (P.info? e).map (fun i => (i.zero, i.size, i.bytes)) = some (some (.int .u8 0), 1, 1))
    (A : Option Addr) (n c : Nat) (l : List Int) (y : ByteArray) (hv : a.eval s = .slice A n c) (hx : a.eval x = .string y)
    (HF : Fresh .u8 W.heap.size w A n c l) (HB : Below W.heap.size W w) (hl : n + y.size ≤ 140737488355328)
    (h : ∀ v w', Kd.V (Kd.int .u8) e w' W.heap.size (fun k_ => W.heap.size ≤ k_) v (l ++ bytesOf y) → Below W.heap.size W w' → wpList P ops Q rest (a.put o.dst v) w') :
    wpList P ops Q (o :: rest) a w := by
  refine wpList_app (w0 := W) W.heap.size hgd s x t tx e .u8 1 ho ht hinfo (by decide) A n c y.size l (bytesOf y) (.string y) hv hx HF (src_string htx y) HB HB.size (by omega) ?_
  intro A' c' w' hF hB
  have hlen : (l ++ bytesOf y).length = n + y.size := hF.len
  have hV := V_fresh (e := e) (n := n + y.size) hF (by omega)
  exact h _ w' hV hB
/-- .. and with a slice appended -/
theorem app_row {P : Program} {ops : Array Oper} {rest : List Oper} {o : Oper} {a : Act} {Q : Exit → Act → World → Prop} {W w : World} (hgd : o.guard = none) (s x : Operand) (t tx e e' : TypeId)
    (ho : o.op = .call { callee := .builtin .append, args := #[s, x], argTypes := #[t, tx] })
    (ht : P.underlying t = some (.slice e)) (htx : P.underlying tx = some (.slice e')) (hinfo : (P.info? e).map (fun i => (i.zero, i.size, i.bytes)) = some (some (.int .u8 0), 1, 1))
    (A : Option Addr) (n c : Nat) (l : List Int) (B : Option Addr) (m d : Nat) (y : List Int) (hv : a.eval s = .slice A n c) (hx : a.eval x = .slice B m d) (hr : ReadsInt w .u8 B m y)
    (HF : Fresh .u8 W.heap.size w A n c l) (HB : Below W.heap.size W w) (hl : n + m ≤ 140737488355328)
    (h : ∀ v w', Kd.V (Kd.int .u8) e w' W.heap.size (fun k_ => W.heap.size ≤ k_) v (l ++ y) → Below W.heap.size W w' → wpList P ops Q rest (a.put o.dst v) w') :
    wpList P ops Q (o :: rest) a w := by
  refine wpList_app (w0 := W) W.heap.size hgd s x t tx e .u8 1 ho ht hinfo (by decide) A n c m l y (.slice B m d) hv hx HF (src_reads htx B m d y hr) HB HB.size (by omega) ?_
  intro A' c' w' hF hB
  have hlen : (l ++ y).length = n + m := hF.len
  have hV := V_fresh (e := e) (n := n + m) hF (by omega)
  exact h _ w' hV hB
def arrX : Option (List Int) := some (arrL [] ++ bytesOf ⟨#[120]⟩)
theorem array0 (w : World) (hT : Tabl w) : Calls Tryz.prog 27 #[.slice none 0 0] w fun e w' => ∃ A m c, e = .returned (.slice A m c) ∧ m + 1 ≤ 140737488355328 ∧ Fresh .u8 w.heap.size w' A m c (arrL []) ∧ Below w.heap.size w w' := by
  refine (Array_any none 0 0 0 0 [] w (fun h => absurd h (by decide)) rfl (Nat.le_refl _) (fun i l hi => by simp at hi) (by decide) (by decide) hT).mono ?_
  rintro e w' ⟨A, c, rfl, hf, hb⟩
  refine ⟨A, _, c, rfl, ?_, hf, hb⟩
  have := numS_size 0 (by decide) (by decide)
  unfold arrL
  rw [List.length_append, lineL_len]
  show 1 + (numS 0).size + 2 + 0 + 1 ≤ _
  omega
theorem arrX_eq {t : List Int} (h : arrX = some t) : arrL [] ++ bytesOf ⟨#[120]⟩ = t := Option.some.inj h
/-- what []byte("x") lays, of a constant: a row, marked -/
theorem fresh_marked (W : World) (e : TypeId) (l : List Int) : Fresh .u8 W.heap.size (W.alloc (.cells (nums .u8 l).toArray e ((nums .u8 l).toArray.size, (nums .u8 l).toArray.size + 1))) (some ⟨W.heap.size, 0, none⟩) l.length l.length l := by
  have hn : (nums .u8 l).length = l.length := by simp [nums]
  have hh := heap_alloc_last W (.cells (nums .u8 l).toArray e ((nums .u8 l).toArray.size, (nums .u8 l).toArray.size + 1))
  refine ⟨rfl, Nat.le_refl _, fun _ => ⟨W.heap.size, rfl, Nat.le_refl _, by simp, fun j hj => ?_, fun j hj => ⟨?_, ?_⟩⟩⟩
  · simp only [World.cell?, hh]
    simp only [List.getElem?_toArray]
    exact nums_get .u8 l j hj
  · simp only [World.cell?, hh]
    simp [hn, hj]
  · simp only [World.frozen?, hh]
    simp [hn]
    omega
def consX (l : List Int) : Option (List Int) := if l.length ≤ 70368744177664 then some ([120] ++ l) else none
theorem consX_eq {l t : List Int} (h : consX l = some t) : [120] ++ l = t ∧ l.length ≤ 70368744177664 := by
  unfold consX at h
  split at h
  · rename_i hl
    exact ⟨Option.some.inj h, hl⟩
  · cases h
/-- .. and a slice appended to it -/
theorem app_conv {P : Program} {ops : Array Oper} {rest : List Oper} {o : Oper} {a : Act} {Q : Exit → Act → World → Prop} {W : World} (hgd : o.guard = none) (s x : Operand) (t tx e e' : TypeId)
    (ho : o.op = .call { callee := .builtin .append, args := #[s, x], argTypes := #[t, tx] })
    (ht : P.underlying t = some (.slice e)) (htx : P.underlying tx = some (.slice e')) (hinfo : (P.info? e).map (fun i => (i.zero, i.size, i.bytes)) = some (some (.int .u8 0), 1, 1))
    (B : Option Addr) (m d : Nat) (y r : List Int) (hv : a.eval s = .slice (some ⟨W.heap.size, 0, none⟩) 1 1) (hx : a.eval x = .slice B m d) (hr : ReadsInt W .u8 B m y) (hr2 : consX y = some r)
    (h : ∀ v w', Kd.V (Kd.int .u8) e w' W.heap.size (fun k_ => W.heap.size ≤ k_) v r → Below W.heap.size W w' → wpList P ops Q rest (a.put o.dst v) w') :
    wpList P ops Q (o :: rest) a (W.alloc (.cells #[.int .u8 120] e (1, 2))) := by
  obtain ⟨rfl, hl⟩ := consX_eq hr2
  have hm : y.length = m := hr.1
  have hb : Below W.heap.size W (W.alloc (.cells #[.int .u8 120] e (1, 2))) := below_alloc (Below.refl _ _) _
  exact app_row (W := W) hgd s x t tx e e' ho ht htx hinfo (some ⟨W.heap.size, 0, none⟩) 1 1 [120] B m d y hv hx (hr.below hb) (fresh_marked W e [120]) hb (by omega) h
theorem V_of_R {e base : Nat} {w : World} {v : Value} {xs : List Int} (h : (Kd.int .u8).R e w base (fun _ => True) v xs) : (Kd.int .u8).V e w base (fun k => base ≤ k) v xs := by
  have h1 := Kd.R_mono (ok' := fun k => base ≤ k) (Kd.R_bound h) (fun k hk => hk.2.1)
  obtain ⟨A, c, rfl⟩ := Kd.R_slice h1
  obtain ⟨_, hl, _⟩ := Kd.R_reads' h1
  exact Kd.V_mk hl (Kd.R_F h1)
end Go.Proofs.Tryz.Ln
