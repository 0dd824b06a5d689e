import Derived.Test.YtnlmdijpbedefaaGreatDoorNumb
import Derived.Test.YtnlmdijpbedefaaGreatDoorPars
import Derived.Test.YtnlmdijpbedefaaGreatDoorRelS
import Derived.Test.YtnlmdijpbedefaaGreatDoorLow
/- Rows of texts: read, joined, made a value. -/
namespace Go.Proofs.Tryz.Ln
open Go Go.RowKit Go.Proofs.Mem Go.Proofs.App
open Go.Proofs.YtnlmdijpbedefaaGreatDoorW.PrintWords
set_option linter.unusedVariables false
set_option linter.unusedSimpArgs false
abbrev nl : Value := .slice none 0 0
def zS : Array Value := #[.int .u8 0, .string ⟨#[]⟩, .slice none 0 0, .slice none 0 0, .slice none 0 0]
abbrev TR (w : World) (A : Option Addr) (l : List ByteArray) : Prop := ReadsOf Value.string ByteArray.empty w A l.length l
/-- a row of texts that is read -/
structure tR (w : World) (x : Value) (l : List ByteArray) : Prop where
  ex : ∃ A c, x = .slice A l.length c ∧ l.length ≤ c ∧ c ≤ 9223372036854775807 ∧ (∀ ad, A = some ad → ad.spot = none) ∧ TR w A l
theorem tR.below {w w1 : World} {x : Value} {l : List ByteArray} (h : tR w x l) (hb : Below w.heap.size w w1) : tR w1 x l := by
  obtain ⟨A, c, h1, h2, h3, h4, h5⟩ := h.ex
  exact ⟨A, c, h1, h2, h3, h4, h5.below hb⟩
theorem tR_nil (w : World) : tR w nl [] := ⟨none, 0, rfl, by simp, by decide, (fun _ h => by cases h), ⟨rfl, by simp, fun h => absurd h (by simp)⟩⟩
theorem tR_own {w : World} {base : Nat} {v : Value} {l : List ByteArray} (h : w.ownsRow base 9 1 v l.length (encs Value.string l)) : tR w v l := by
  obtain ⟨A, c, rfl, hr⟩ := own_reads_of (d := ByteArray.empty) h
  refine ⟨A, c, rfl, ?_, ?_, ?_, hr⟩
  · rcases h.2 with ⟨h1, h2⟩ | ⟨g, cap, cur, h1, _, _, h2, _⟩
    · injection h1 with _ _ h1; omega
    · injection h1 with _ _ h1; omega
  · rcases h.2 with ⟨h1, h2⟩ | ⟨g, cap, cur, h1, _, _, _, h2, _⟩
    · injection h1 with _ _ h1; omega
    · injection h1 with _ _ h1; unfold maxLen at h2; omega
  · exact Go.Proofs.YtnlmdijpbedefaaGreatDoor.Spot.spot_own h
theorem infoS : (Tryz.prog.info? 9).map (fun i => (i.zero, i.size, i.bytes)) = some (some (.string ⟨#[]⟩), 1, 16) := by kernel_rfl
theorem two_own {w w1 : World} {v : Value} {l : List ByteArray} {base base' : Nat} (h : w.ownsRow base 9 1 v l.length (encs Value.string l)) (hb : base' ≤ base) : w.ownsRow base' 9 1 v l.length (encs Value.string l) := own_weaken h hb
theorem app_zeros {ops : Array Oper} {rest : List Oper} {o : Oper} {a : Act} {W : World} {Q : Exit → Act → World → Prop} (base : Nat) (hgd : o.guard = none) (s x : Operand)
    (ho : o.op = .call { callee := .builtin .append, args := #[s, x], argTypes := #[22, 3] }) (v : Value) (m : Nat) (hs : a.eval s = v) (hx : a.eval x = .int .i64 m) (HO : W.ownsRow base 9 1 v 0 []) (hbase : base ≤ W.heap.size) (hm : m ≤ 1000000)
    (h : ∀ v1 w1, w1.ownsRow base 9 1 v1 m (Builtin.zeroCells (Value.string ⟨#[]⟩).cells m).toList → W.grownBy w1 v.ownBlock → wpList Tryz.prog ops Q rest (a.put o.dst v1) w1) : wpList Tryz.prog ops Q (o :: rest) a W := by
  obtain ⟨i0, hi, hzz⟩ := Option.map_eq_some_iff.1 infoS
  simp only [Prod.mk.injEq] at hzz
  obtain ⟨hz0, hz1, hz2⟩ := hzz
  obtain ⟨v1, w1, hr, h1, h2, h3⟩ := run_append_zeros (P := Tryz.prog) W base 22 3 o.type 9 i0 (.string ⟨#[]⟩) 1 16 Tryz.underlying22 Tryz.underlying3 hi hz0 hz1 hz2 rfl (by decide) (by decide) v 0 [] HO .i64 m
    (fun u hu => by
      obtain ⟨j, _, rfl⟩ : ∃ j, j < m * (Value.string ⟨#[]⟩).cells.size ∧ (Value.string ⟨#[]⟩).cells[j % (Value.string ⟨#[]⟩).cells.size]! = u := by simpa [Builtin.zeroCells] using hu
      simp [Value.cells, Nat.mod_one, Value.oneCell']) (by omega) hbase
  refine wpList_plain hgd fun K hK => ?_
  unfold Oper.wp execOp
  simp only [ho, resolve, invoke, builtin, Sem.run_bind, Sem.run_pure, Result.andThen_ok, List.map_toArray, List.map_cons, List.map_nil, hs, hx, hr]
  exact hK _ _ (h v1 w1 (by simpa using h1) h2)
theorem own_nil (w : World) (base : Nat) : w.ownsRow base 9 1 nl 0 [] := ⟨rfl, .inl ⟨rfl, rfl⟩⟩
set_option maxRecDepth 100000 in
set_option maxHeartbeats 4000000 in
theorem grow_any (n : Nat) (z : Int) (w : World) (hz : z = (n : Int)) (hn : n ≤ 1000000) : Calls Tryz.prog 40 #[nl, .int .i64 z] w fun e w' => ∃ v, e = .returned v ∧ w'.ownsRow w.heap.size 9 1 v 0 [] ∧ Below w.heap.size w w' := by
  subst hz
  have n0 : ¬ (n : Int) < 0 := by omega
  have hw : IntKind.i64.wrap (n : Int) = n := by rw [IntKind.wrap_i64]; omega
  by_cases h0 : n = 0
  · subst h0
    go_enter Tryz.func40, Tryz.ntmps40
    go_wp2_with fail
    go_ret
    exact ⟨_, rfl, own_nil _ _, Below.refl _ _⟩
  · have h1 : (0 : Int) < n := by omega
    go_enter Tryz.func40, Tryz.ntmps40
    go_wp2_with (refine app_zeros w.heap.size rfl _ _ rfl nl n rfl rfl (own_nil _ _) (Nat.le_refl _) hn ?_)
    intro v1 w1 ho hg
    have hb : Below w.heap.size w w1 := (Below.refl _ w).grown hg (Nat.le_refl _) (fun k hk => by simp [Value.ownBlock] at hk)
    obtain ⟨hl, hh⟩ := ho
    rcases hh with ⟨_, hh⟩ | ⟨g, cap, cur, rfl, hB, hx, hc, hm, hs, _⟩
    · exact absurd hh h0
    have hb' := veil hb
    have hown : Veil (w1.ownsRow w.heap.size 9 1 (.slice (some ⟨g, 0, none⟩) 0 cap) 0 []) := veil ⟨rfl, .inr ⟨g, cap, cur, rfl, hB, hx, Nat.zero_le _, hm, hs, rfl⟩⟩
    clear hb hx hs hg hl
    go_wp2_with fail
    go_ret
    exact ⟨_, rfl, hown.out, hb'.out⟩
/-- the first q rows, joined -/
def catS (l1 l2 : List ByteArray) : Nat → List ByteArray
  | 0 => []
  | 1 => l1
  | _ => l1 ++ l2
set_option maxRecDepth 100000 in
set_option maxHeartbeats 8000000 in
theorem concat_any (x y : Value) (l1 l2 : List ByteArray) (g : Nat) (w : World) (hx : tR w x l1) (hy : tR w y l2) (hg : w.heap[g]? = some (.cells #[x, y] 22 (0, 0))) (hn : l1.length + l2.length ≤ 1000000) :
    Calls Tryz.prog 27 #[.slice (some ⟨g, 0, none⟩) 2 2] w fun e w' => ∃ v, e = .returned v ∧ w'.ownsRow w.heap.size 9 1 v (l1 ++ l2).length (encs Value.string (l1 ++ l2)) ∧ Below w.heap.size w w' := by
  obtain ⟨A1, c1, rfl, hc1, hm1, hz1, hr1⟩ := hx.ex
  obtain ⟨A2, c2, rfl, hc2, hm2, hz2, hr2⟩ := hy.ex
  have hg' := veil hg
  have g0 : w.cell? ⟨g, 0, none⟩ = some (.slice A1 l1.length c1) := by rw [cell_of_row _ _ _ _ _ _ hg]; rfl
  have g1 : w.cell? ⟨g, 1, none⟩ = some (.slice A2 l2.length c2) := by rw [cell_of_row _ _ _ _ _ _ hg]; rfl
  have hr1' := veil hr1
  have hr2' := veil hr2
  have w1 : IntKind.i64.wrap (l1.length : Int) = l1.length := by rw [IntKind.wrap_i64]; omega
  have w2 : IntKind.i64.wrap ((l1.length : Int) + (l2.length : Int)) = (l1.length : Int) + (l2.length : Int) := by rw [IntKind.wrap_i64]; omega
  have p1 : ¬ (l1.length : Int) < 0 := by omega
  have p2 : ¬ (l1.length : Int) + (l2.length : Int) < 0 := by omega
  clear hx hy hr1 hr2 hg hz1 hz2
  go_enter Tryz.func27, Tryz.ntmps27
  go_wp2_with fail
  go_loopw [3, 11] (fun t i wr => w = wr ∧ ((t = .int .i64 0 ∧ i = .int .i64 0) ∨ (t = .int .i64 l1.length ∧ i = .int .i64 1) ∨ (t = .int .i64 ((l1.length : Int) + l2.length) ∧ i = .int .i64 2))) (fun _ i _ => 2 - (intOf i).toNat)
  case atStart => exact ⟨rfl, .inl ⟨rfl, rfl⟩⟩
  case round =>
    obtain ⟨rfl, ⟨rfl, rfl⟩ | ⟨rfl, rfl⟩ | ⟨rfl, rfl⟩⟩ := hrel
    · go_wp2_with fail
      exact ⟨⟨trivial, .inr (.inl ⟨by simp [w1], rfl⟩)⟩, by simp [intOf]⟩
    · go_wp2_with fail
      exact ⟨⟨trivial, .inr (.inr ⟨by simp [w2], rfl⟩)⟩, by simp [intOf]⟩
    · go_wp2_with fail
      refine (grow_any (l1.length + l2.length) _ _ (by omega) hn).mono ?_
      rintro e wg ⟨v0, rfl, ho0, hb0⟩
      have ho0' := veil ho0
      have hb0' := veil hb0
      clear ho0 hb0
      go_wp2_with fail
      go_loopw [6, 27] (fun t i wr => ∃ q : Nat, q ≤ 2 ∧ i = .int .i64 q ∧ wr.ownsRow w.heap.size 9 1 t (catS l1 l2 q).length (encs Value.string (catS l1 l2 q)) ∧ Below w.heap.size w wr) (fun _ i _ => 2 - (intOf i).toNat)
      case atStart => exact ⟨0, by omega, rfl, ho0'.out, hb0'.out⟩
      case round =>
        obtain ⟨q, hq, rfl, ho, hb⟩ := hrel
        have ho' := veil ho
        have hb' := veil hb
        have hgs := (hb.block g (Array.getElem?_eq_some_iff.1 hg'.out).1).trans hg'.out
        have s0 : wr.cell? ⟨g, 0, none⟩ = some (.slice A1 l1.length c1) := by rw [cell_of_row _ _ _ _ _ _ hgs]; rfl
        have s1 : wr.cell? ⟨g, 1, none⟩ = some (.slice A2 l2.length c2) := by rw [cell_of_row _ _ _ _ _ _ hgs]; rfl
        have k1 := veil (hr1'.out.below hb)
        have k2 := veil (hr2'.out.below hb)
        have hsz := hb.size
        clear ho hb hgs g0 g1
        obtain rfl | rfl | rfl : q = 0 ∨ q = 1 ∨ q = 2 := by omega
        · go_wp2_with (refine print_append_row_of (w0 := w) Value.string ByteArray.empty w.heap.size rfl _ _ 22 9 (.string ⟨#[]⟩) 16 rfl Tryz.underlying22 infoS rfl (by decide) (fun _ => rfl) _ [] l1 A1 l1.length c1 rfl rfl ho'.out k1.out hb'.out hsz (by simp; omega) ?_)
          intro v1 w1' ho1 hb1 _ _
          have ho1' := veil ho1
          have hb1' := veil hb1
          clear ho1 hb1
          go_wp2_with fail
          exact ⟨⟨1, by omega, rfl, ho1'.out, hb1'.out⟩, by simp [intOf]⟩
        · go_wp2_with (refine print_append_row_of (w0 := w) Value.string ByteArray.empty w.heap.size rfl _ _ 22 9 (.string ⟨#[]⟩) 16 rfl Tryz.underlying22 infoS rfl (by decide) (fun _ => rfl) _ l1 l2 A2 l2.length c2 rfl rfl ho'.out k2.out hb'.out hsz (by omega) ?_)
          intro v1 w1' ho1 hb1 _ _
          have ho1' := veil ho1
          have hb1' := veil hb1
          clear ho1 hb1
          go_wp2_with fail
          exact ⟨⟨2, by omega, rfl, (by rw [show catS l1 l2 2 = l1 ++ l2 from rfl, List.length_append]; exact ho1'.out), hb1'.out⟩, by simp [intOf]⟩
        · go_wp2_with fail
          go_ret
          exact ⟨_, rfl, ho'.out, hb'.out⟩
end Go.Proofs.Tryz.Ln
