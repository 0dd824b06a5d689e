import Derived.Test.YtnlmdijpbedefaaGreatDoorLsE
import Derived.Test.YtnlmdijpbedefaaGreatDoorLs15
import Derived.Test.YtnlmdijpbedefaaGreatDoorPush
/- What the laws of lists lean on beside. -/
namespace Go.Proofs.Tryz.Ln
open Go Go.RowKit Go.Proofs.Mem Go.Proofs.App
open Go.Proofs.YtnlmdijpbedefaaGreatDoorW.PrintWords
set_option linter.unusedVariables false
set_option linter.unusedSimpArgs false
/-- all letters together -/
def sumS (l : List ByteArray) : Nat := (l.map (·.size)).sum
theorem sumS_app (a b : List ByteArray) : sumS (a ++ b) = sumS a + sumS b := by simp [sumS]
theorem sumS_take (l : List ByteArray) (n : Nat) : sumS (l.take n) ≤ sumS l := by
  have := sumS_app (l.take n) (l.drop n)
  rw [List.take_append_drop] at this
  omega
theorem sumS_drop (l : List ByteArray) (n : Nat) : sumS (l.drop n) ≤ sumS l := by
  have := sumS_app (l.take n) (l.drop n)
  rw [List.take_append_drop] at this
  omega
theorem size_le {l : List ByteArray} {s : ByteArray} (h : s ∈ l) : s.size ≤ sumS l := by
  obtain ⟨a, b, rfl⟩ := List.append_of_mem h
  rw [sumS_app]
  simp [sumS]
  omega
theorem bulkL_le (s : ByteArray) (h : s.size ≤ 70368744177664) : (bulkL s).length ≤ s.size + 60 := by
  have hz := numS_size (s.size : Int) (by omega) (by omega)
  unfold bulkL
  rw [List.length_append, lineL_len, bytesOf_length, ByteArray.size_append]
  show 1 + _ + 2 + (_ + 2) ≤ _
  omega
theorem bulks_le : ∀ (l : List ByteArray), sumS l ≤ 70368744177664 → (bulks l).flatten.length ≤ sumS l + 60 * l.length
  | [], _ => by simp [bulks]
  | s :: r, h => by
    have e : sumS (s :: r) = s.size + sumS r := by simp [sumS]
    have ih := bulks_le r (by omega)
    have hb := bulkL_le s (by omega)
    rw [e]
    show (bulkL s ++ (bulks r).flatten).length ≤ _
    rw [List.length_append, List.length_cons]
    omega
theorem texts_ok (l : List ByteArray) (h : sumS l ≤ 1048576) (hn : l.length ≤ 1000) : (∀ s ∈ l, s.size ≤ 70368744177664) ∧ (bulks l).flatten.length ≤ 70368744177664 ∧ (textsL l).length ≤ 9223372036854775807 ∧ textsF l = some (textsL l) := by
  have h1 : ∀ s ∈ l, s.size ≤ 70368744177664 := fun s hs => by have := size_le hs; omega
  have h2 := bulks_le l (by omega)
  have h3 : (bulks l).flatten.length ≤ 70368744177664 := by omega
  refine ⟨h1, h3, arrL_len _ (by simp [bulks]; omega) h3, ?_⟩
  unfold textsF
  rw [if_pos ⟨h1, by omega, h3⟩]
theorem lvS_ne {l : List ByteArray} (v : Value) (h : l ≠ []) : lvS l v = #[.int .u8 2, .string ⟨#[]⟩, v, nl, nl] := if_neg h
theorem do_popV (back : Bool) (a0 sx : ByteArray) (v : Value) (l args : List ByteArray) (B : Option Addr) (ac : Nat) (w : World) (hv : tR w v l) (hargs : tR w (.slice B args.length ac) args) (h1 : 1 ≤ args.length) (ha : args[0]? = some a0)
    (hz0 : a0.size ≤ 1000) (hlow : lowS a0 = popN back) (hs : l[popI back l]? = some sx) (hn : l.length ≤ 1000000) (hsx : sx.size ≤ 70368744177664) (hT : Tabs w) :
    Calls Tryz.prog 8 #[.agg (lvS l v), .slice B args.length ac] w (Pres (l.eraseIdx (popI back l)) (bulkL sx) w) := by
  have hl : l ≠ [] := fun h => by rw [h] at hs; simp at hs
  rw [lvS_ne v hl]
  exact do_pop back ⟨#[]⟩ a0 sx v nl nl l args B ac w hv hargs h1 ha hz0 hlow hs hn hsx hT
theorem do_popZ (back : Bool) (a0 : ByteArray) (v : Value) (args : List ByteArray) (B : Option Addr) (ac : Nat) (w : World) (hargs : tR w (.slice B args.length ac) args) (h1 : 1 ≤ args.length) (ha : args[0]? = some a0)
    (hz0 : a0.size ≤ 1000) (hlow : lowS a0 = popN back) (hT : Tabs w) :
    Calls Tryz.prog 8 #[.agg (lvS [] v), .slice B args.length ac] w (Dres (lvS [] v) (lineL ⟨#[36]⟩ ⟨#[45, 49]⟩) w) :=
  do_popnil back ⟨#[]⟩ a0 nl nl nl args B ac w (tR_nil w) hargs h1 ha hz0 hlow rfl rfl hT
theorem do_llenV (a0 : ByteArray) (v : Value) (l args : List ByteArray) (B : Option Addr) (ac : Nat) (w : World) (hv : tR w v l) (hargs : tR w (.slice B args.length ac) args) (h1 : 1 ≤ args.length) (ha : args[0]? = some a0)
    (hz0 : a0.size ≤ 1000) (hlow : lowS a0 = llenN) (hn : l.length ≤ 1000000) (hT : Tabs w) :
    Calls Tryz.prog 8 #[.agg (lvS l v), .slice B args.length ac] w (Dres (lvS l v) (lineL ⟨#[58]⟩ (numS (l.length : Int))) w) := by
  by_cases hl : l = []
  · subst hl
    exact do_llen 0 ⟨#[]⟩ a0 nl nl nl [] args B ac w (.inl rfl) (tR_nil w) hargs h1 ha hz0 hlow hn rfl rfl hT
  · rw [lvS_ne v hl]
    exact do_llen 2 ⟨#[]⟩ a0 v nl nl l args B ac w (.inr rfl) hv hargs h1 ha hz0 hlow hn rfl rfl hT
theorem do_lrangeV (f t : Int) (a0 fa fb : ByteArray) (v : Value) (l args : List ByteArray) (B : Option Addr) (ac a b : Nat) (w : World) (hv : tR w v l) (hargs : tR w (.slice B args.length ac) args) (h4 : 4 ≤ args.length) (ha : args[0]? = some a0) (hfa : args[2]? = some fa) (hfb : args[3]? = some fb)
    (hz0 : a0.size ≤ 1000) (hlow : lowS a0 = lrangeN) (hn : l.length ≤ 1000) (hpa : Dig.parseO fa = some f) (hpb : Dig.parseO fb = some t) (hf : Int64 f) (ht : Int64 t) (hza : fa.size ≤ 1000) (hzb : fb.size ≤ 1000) (hA : partA l.length f t = a) (hBB : partB l.length f t = b) (hab : a ≤ b) (hbl : b ≤ l.length)
    (hs : sumS l ≤ 1048576) (hT : Tabs w) :
    Calls Tryz.prog 8 #[.agg (lvS l v), .slice B args.length ac] w (Dres (lvS l v) (textsL ((l.take b).drop a)) w) := by
  have hlen : ((l.take b).drop a).length ≤ 1000 := by rw [List.length_drop, List.length_take]; omega
  obtain ⟨h1, h2, _, _⟩ := texts_ok ((l.take b).drop a) (Nat.le_trans (sumS_drop _ _) (Nat.le_trans (sumS_take _ _) hs)) hlen
  by_cases hl : l = []
  · subst hl
    exact do_lrange 0 f t ⟨#[]⟩ a0 fa fb nl nl nl [] args B ac a b w (.inl rfl) (tR_nil w) hargs h4 ha hfa hfb hz0 hlow (by simp) hpa hpb hf ht hza hzb hA hBB hab hbl h1 h2 rfl rfl hT
  · rw [lvS_ne v hl]
    exact do_lrange 2 f t ⟨#[]⟩ a0 fa fb v nl nl l args B ac a b w (.inr rfl) hv hargs h4 ha hfa hfb hz0 hlow (by omega) hpa hpb hf ht hza hzb hA hBB hab hbl h1 h2 rfl rfl hT
theorem part_all (n : Nat) : partA (n : Int) 0 (-1) = ((0 : Nat) : Int) ∧ partB (n : Int) 0 (-1) = (n : Int) := by
  unfold partA partB partF partT mn mx
  constructor <;> (repeat' split) <;> omega
theorem part_from (n k : Nat) (h : k < n) : partA (n : Int) k (-1) = (k : Int) ∧ partB (n : Int) k (-1) = (n : Int) := by
  unfold partA partB partF partT mn mx
  constructor <;> (repeat' split) <;> omega
theorem part_none (n : Nat) : partA (n : Int) n (-1) = ((0 : Nat) : Int) ∧ partB (n : Int) n (-1) = ((0 : Nat) : Int) := by
  unfold partA partB partF partT mn mx
  constructor <;> (repeat' split) <;> omega
theorem part_to (n k : Nat) (h : k ≤ n) (h0 : 0 < k) : partA (n : Int) 0 ((k : Int) - 1) = ((0 : Nat) : Int) ∧ partB (n : Int) 0 ((k : Int) - 1) = (k : Int) := by
  unfold partA partB partF partT mn mx
  constructor <;> (repeat' split) <;> omega
theorem parse_0 : Dig.parseO ⟨#[48]⟩ = some 0 := by
  have h := Dig.parse_num 0 ⟨by decide, by decide⟩
  rwa [show Dig.numB 0 = ⟨#[48]⟩ from by decide +kernel] at h
theorem parse_m1 : Dig.parseO ⟨#[45, 49]⟩ = some (-1) := by
  have h := Dig.parse_num (-1) ⟨by decide, by decide⟩
  rwa [show Dig.numB (-1) = ⟨#[45, 49]⟩ from by decide +kernel] at h
theorem erase0 (l : List ByteArray) (q : Nat) : (l.drop q).eraseIdx (popI false (l.drop q)) = l.drop (q + 1) := by
  show (l.drop q).eraseIdx 0 = _
  rw [List.eraseIdx_zero, List.tail_drop]
theorem eraseL (l : List ByteArray) : l.eraseIdx (popI true l) = l.dropLast := by
  show l.eraseIdx (l.length - 1) = _
  rw [List.eraseIdx_length_sub_one]
/-- a part of a row, its capacity left as it is -/
theorem cutLH (B : Option Addr) (n c a b : Nat) (ha : a ≤ b) (hb : b ≤ n) (hc : n ≤ c) : ∃ B', (∀ W : World, (Instr.slice 22 (.slice B n c) (some (.int .i64 a)) (some (.int .i64 b)) none).run Tryz.prog W = .ok (.slice B' (b - a) (c - a)) W) ∧ ∀ (w : World) (l : List ByteArray), ReadsOf Value.string ByteArray.empty w B n l → ReadsOf Value.string ByteArray.empty w B' (b - a) ((l.take b).drop a) := by
  obtain ⟨i0, hi, hzz⟩ := Option.map_eq_some_iff.1 infoS
  simp only [Prod.mk.injEq] at hzz
  obtain ⟨_, hz1, _⟩ := hzz
  have hu : Tryz.prog.underlying 22 = some (.slice 9) := Tryz.underlying22
  have hel : Tryz.prog.elem 22 = 9 := by simp [Program.elem, hu]
  refine ⟨if c = a then B else B.map (·.add a), fun W => ?_, fun w l h => (h.take_ b hb).drop_ a ha (by omega)⟩
  have hu2 : Tryz.prog.underlying 22 = some (.slice (Tryz.prog.elem 22)) := by rw [hel]; exact hu
  rw [run_slice_lh W 22 B n c hu2 .i64 .i64 a b (by omega) (by omega) (by omega), hel]
  simp [sizeOf, typeInfo, hi, hz1, sliced, Result.andThen]
theorem run_cutLH {b : Act} {w : World} {o : Oper} {t t1 t2 : Nat} {x lo hi v : Value} (ho : o.op = .slice 22 (.tmp t) (some (.tmp t1)) (some (.tmp t2)) none) (h : b.eval (.tmp t) = x) (h1 : b.eval (.tmp t1) = lo) (h2 : b.eval (.tmp t2) = hi)
    (hr : (Instr.slice 22 x (some lo) (some hi) none).run Tryz.prog w = .ok v w) : (execOp b.eval o).run Tryz.prog w = .ok (.value v) w := by
  have hu : Tryz.prog.underlying 22 = some (.slice 9) := Tryz.underlying22
  have hel : Tryz.prog.elem 22 = 9 := by simp [Program.elem, hu]
  have hs := run_sliceAt_slice (P := Tryz.prog) w 22 x (some lo) (some hi) none (by rw [hel]; exact hu)
  unfold execOp
  simp only [ho, Option.map_some, Option.map_none, h, h1, h2, Sem.run_bind, hs, hr]
  rfl
theorem run_cutL {b : Act} {w : World} {o : Oper} {t t1 : Nat} {x lo v : Value} (ho : o.op = .slice 22 (.tmp t) (some (.tmp t1)) none none) (h : b.eval (.tmp t) = x) (h1 : b.eval (.tmp t1) = lo)
    (hr : (Instr.slice 22 x (some lo) none none).run Tryz.prog w = .ok v w) : (execOp b.eval o).run Tryz.prog w = .ok (.value v) w := by
  have hu : Tryz.prog.underlying 22 = some (.slice 9) := Tryz.underlying22
  have hel : Tryz.prog.elem 22 = 9 := by simp [Program.elem, hu]
  have hs := run_sliceAt_slice (P := Tryz.prog) w 22 x (some lo) none none (by rw [hel]; exact hu)
  unfold execOp
  simp only [ho, Option.map_some, Option.map_none, h, h1, Sem.run_bind, hs, hr]
  rfl
theorem run_cutH {b : Act} {w : World} {o : Oper} {t t2 : Nat} {x hi v : Value} (ho : o.op = .slice 22 (.tmp t) none (some (.tmp t2)) none) (h : b.eval (.tmp t) = x) (h2 : b.eval (.tmp t2) = hi)
    (hr : (Instr.slice 22 x none (some hi) none).run Tryz.prog w = .ok v w) : (execOp b.eval o).run Tryz.prog w = .ok (.value v) w := by
  have hu : Tryz.prog.underlying 22 = some (.slice 9) := Tryz.underlying22
  have hel : Tryz.prog.elem 22 = 9 := by simp [Program.elem, hu]
  have hs := run_sliceAt_slice (P := Tryz.prog) w 22 x none (some hi) none (by rw [hel]; exact hu)
  unfold execOp
  simp only [ho, Option.map_some, Option.map_none, h, h2, Sem.run_bind, hs, hr]
  rfl
/-- the document's texts, as they are read -/
theorem YTexts_rd (B : Option Addr) (n c : Nat) (L : List ByteArray) (w : World) (hr : ReadsOf Value.string ByteArray.empty w B n L) (hn : L.length = n) (hc : n ≤ c) (hs : sumS L ≤ 1048576) (hl : n ≤ 1000) :
    Calls Tryz.prog 13 #[.slice B n c] w fun e w' => ∃ x, e = .returned x ∧ (Rel.rd (textsL L)).1 x w' ∧ Below w.heap.size w w' := by
  subst hn
  obtain ⟨_, _, _, h⟩ := texts_ok L hs hl
  exact rdV (Y_Texts B c L (textsL L) w (Kd.C_of_reads (enc := Value.string) (d := ByteArray.empty) (h1 := fun _ => rfl) hr) hc h)
theorem take_pred (l : List ByteArray) (n : Nat) (h : n + 1 ≤ l.length) : (l.take (n + 1)).eraseIdx (popI true (l.take (n + 1))) = l.take n := by
  rw [eraseL, List.dropLast_eq_take, List.take_take, List.length_take]
  congr 1
  omega
theorem mn12 (n : Nat) : mn (n : Int) 12 = ((min n 12 : Nat) : Int) := by unfold mn; split <;> omega
end Go.Proofs.Tryz.Ln
