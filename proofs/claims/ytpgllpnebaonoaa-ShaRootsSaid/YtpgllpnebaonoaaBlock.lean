import Derived.Test.YtpgllpnebaonoaaTab
namespace Go.Proofs.Sha
open Go Go.RowKit Sha2
set_option linter.unusedVariables false

def wv (x : W) : Value := .int .u32 x.toNat
def wvs (l : List W) : Array Value := (l.map wv).toArray
theorem wvs_at (l : List W) (j : Nat) (h : j < l.length) : (wvs l)[j]? = some (.int .u32 (l.getD j 0).toNat) := by
  simp [wvs, wv, h]
theorem wvs_set (l : List W) (j : Nat) (x : W) : (wvs l).setIfInBounds j (.int .u32 x.toNat) = wvs (l.set j x) := by
  unfold wvs
  rw [List.map_set]
  simp [wv]
/-- the three blocks of a call of block: h, the result, w -/
def zero8 : Array Value := #[.int .u32 0, .int .u32 0, .int .u32 0, .int .u32 0, .int .u32 0, .int .u32 0, .int .u32 0, .int .u32 0]
def blk2 (w : World) (H : List W) : World := (w.alloc (.cells (wvs H) 34)).alloc (.cells zero8 34)
def blk3 (w : World) (H l : List W) (q : Nat) : World := ((blk2 w H).alloc (.cells (wvs l) 53)).drewN q
theorem drewN_cell? (w : World) (q : Nat) (a : Addr) : (w.drewN q).cell? a = w.cell? a := rfl
theorem drewN_frozen? (w : World) (q : Nat) (a : Addr) : (w.drewN q).frozen? a = w.frozen? a := rfl
theorem drewN_setCell (w : World) (q : Nat) (a : Addr) (v : Value) : (w.drewN q).setCell a v = (w.setCell a v).drewN q := rfl
theorem blk2_size (w : World) (H : List W) : (blk2 w H).heap.size = w.heap.size + 1 + 1 := by
  show ((w.heap.push _).push _).size = _
  simp
theorem blk3_cell (w : World) (H l : List W) (q j : Nat) (h : j < l.length) : (blk3 w H l q).cell? ⟨w.heap.size + 1 + 1, j, none⟩ = some (.int .u32 (l.getD j 0).toNat) := by
  rw [← wvs_at l j h]; unfold blk3; rw [drewN_cell?]; exact World.cell?_alloc_at _ _ _ _ (blk2_size w H).symm
theorem blk3_free (w : World) (H l : List W) (q j : Nat) : (blk3 w H l q).frozen? ⟨w.heap.size + 1 + 1, j, none⟩ = false := by
  unfold blk3; rw [drewN_frozen?]; exact World.frozen?_alloc_at _ _ _ _ (blk2_size w H).symm
theorem blk3_set (w : World) (H l : List W) (q j : Nat) (x : W) : (blk3 w H l q).setCell ⟨w.heap.size + 1 + 1, j, none⟩ (.int .u32 x.toNat) = blk3 w H (l.set j x) q := by
  unfold blk3; rw [drewN_setCell, World.setCell_alloc_at _ _ _ _ _ (blk2_size w H).symm, wvs_set]
theorem blk3_old (w : World) (H l : List W) (q : Nat) (b o : Nat) (h : b < w.heap.size) : (blk3 w H l q).cell? ⟨b, o, none⟩ = w.cell? ⟨b, o, none⟩ := by
  unfold blk3; rw [drewN_cell?, World.cell?_alloc_past _ _ _ (by rw [blk2_size]; omega)]; unfold blk2
  rw [World.cell?_alloc_past _ _ _ (by show b < (w.heap.push _).size; simp; omega), World.cell?_alloc_past _ _ _ h]
theorem blk3_drew (w : World) (H l : List W) (q : Nat) : (blk3 w H l q).drew = blk3 w H l (q + 1) := by
  unfold blk3; rw [← World.drewN_drewN]; rfl
theorem blk3_H (w : World) (H l : List W) (q j : Nat) (h : j < H.length) : (blk3 w H l q).cell? ⟨w.heap.size, j, none⟩ = some (.int .u32 (H.getD j 0).toNat) := by
  rw [← wvs_at H j h]; unfold blk3; rw [drewN_cell?, World.cell?_alloc_past _ _ _ (by rw [blk2_size]; omega)]; unfold blk2
  rw [World.cell?_alloc_past _ _ _ (by show _ < (w.heap.push _).size; simp)]; exact World.cell?_alloc_at _ _ _ _ rfl
theorem t_val (sh se sf sg z x : W) :
    ((sh.toNat : Int) + bits .xor .u32 (bits .xor .u32 ((rotr se 6).toNat : Int) ((rotr se 11).toNat : Int)) ((rotr se 25).toNat : Int) + bits .xor .u32 (bits .and .u32 (se.toNat : Int) (sf.toNat : Int)) (bits .andNot .u32 (sg.toNat : Int) (se.toNat : Int)) + (z.toNat : Int) + (x.toNat : Int)) % 4294967296
      = ((sh + Sig1 se + ((se &&& sf) ^^^ (sg &&& ~~~se)) + z + x).toNat : Int) := by
  rw [bits_xor32, bits_xor32, bits_and32, bits_andNot32, bits_xor32]
  unfold Sig1
  simp only [BitVec.toNat_add]
  omega
theorem u_val (sa sb sc : W) :
    (bits .xor .u32 (bits .xor .u32 ((rotr sa 2).toNat : Int) ((rotr sa 13).toNat : Int)) ((rotr sa 22).toNat : Int) + bits .xor .u32 (bits .xor .u32 (bits .and .u32 (sa.toNat : Int) (sb.toNat : Int)) (bits .and .u32 (sa.toNat : Int) (sc.toNat : Int))) (bits .and .u32 (sb.toNat : Int) (sc.toNat : Int))) % 4294967296
      = ((Sig0 sa + ((sa &&& sb) ^^^ (sa &&& sc) ^^^ (sb &&& sc))).toNat : Int) := by
  rw [bits_xor32, bits_xor32, bits_and32, bits_and32, bits_and32, bits_xor32, bits_xor32]
  unfold Sig0
  simp only [BitVec.toNat_add]
  omega
def addTo (h s : List W) (k : Nat) : List W := (List.range k).foldl (fun h i => h.set i (h.getD i 0 + s.getD i 0)) h
theorem addTo_succ (h s : List W) (k : Nat) : addTo h s (k + 1) = (addTo h s k).set k ((addTo h s k).getD k 0 + s.getD k 0) := by
  unfold addTo; rw [List.range_succ, List.foldl_append]; rfl
theorem addTo_length (h s : List W) (k : Nat) : (addTo h s k).length = h.length := by
  induction k with
  | zero => rfl
  | succ k ih => rw [addTo_succ]; simp [ih]
theorem addTo_eight (h s : List W) (hh : h.length = 8) (hs : s.length = 8) : addTo h s 8 = List.zipWith (· + ·) h s := by
  match h, hh, s, hs with
  | [a0, a1, a2, a3, a4, a5, a6, a7], _, [b0, b1, b2, b3, b4, b5, b6, b7], _ => rfl
def blk4 (w : World) (H l : List W) (q : Nat) : World := ((blk3 w H l 0).alloc (.cells kvs 53)).drewN q
theorem blk3_size (w : World) (H l : List W) (q : Nat) : (blk3 w H l q).heap.size = w.heap.size + 1 + 1 + 1 := by
  show (((w.heap.push _).push _).push _).size = _
  simp
theorem blk4_cell (w : World) (H l : List W) (q j : Nat) (h : j < l.length) : (blk4 w H l q).cell? ⟨w.heap.size + 1 + 1, j, none⟩ = some (.int .u32 (l.getD j 0).toNat) := by
  unfold blk4; rw [drewN_cell?, World.cell?_alloc_past _ _ _ (by rw [blk3_size]; omega)]; exact blk3_cell _ _ _ _ _ h
theorem blk4_H (w : World) (H l : List W) (q j : Nat) (h : j < H.length) : (blk4 w H l q).cell? ⟨w.heap.size, j, none⟩ = some (.int .u32 (H.getD j 0).toNat) := by
  unfold blk4; rw [drewN_cell?, World.cell?_alloc_past _ _ _ (by rw [blk3_size]; omega)]; exact blk3_H _ _ _ _ _ h
theorem blk4_free (w : World) (H l : List W) (q j : Nat) : (blk4 w H l q).frozen? ⟨w.heap.size, j, none⟩ = false := by
  unfold blk4 blk3 blk2
  rw [drewN_frozen?, World.frozen?_alloc_past _ _ _ (by show _ < (((w.heap.push _).push _).push _).size; simp; omega)]
  show (((w.alloc _).alloc _).alloc _).frozen? _ = false
  rw [World.frozen?_alloc_past _ _ _ (by show _ < ((w.heap.push _).push _).size; simp; omega), World.frozen?_alloc_past _ _ _ (by show _ < (w.heap.push _).size; simp), World.frozen?_alloc_at _ _ _ _ rfl]
theorem blk4_set (w : World) (H l : List W) (q j : Nat) (x : W) : (blk4 w H l q).setCell ⟨w.heap.size, j, none⟩ (.int .u32 x.toNat) = blk4 w (H.set j x) l q := by
  unfold blk4 blk3 blk2
  rw [drewN_setCell, World.setCell_alloc_past _ _ _ _ (by show _ < (((w.heap.push _).push _).push _).size; simp; omega)]
  show (World.alloc ((((w.alloc _).alloc _).alloc _).setCell _ _) _).drewN q = _
  rw [World.setCell_alloc_past _ _ _ _ (by show _ < ((w.heap.push _).push _).size; simp; omega), World.setCell_alloc_past _ _ _ _ (by show _ < (w.heap.push _).size; simp), World.setCell_alloc_at _ _ _ _ _ rfl, wvs_set]
  rfl
theorem blk4_heap (w : World) (H l : List W) (q : Nat) : (blk4 w H l q).heap = (((w.heap.push (.cells (wvs H) 34)).push (.cells zero8 34)).push (.cells (wvs l) 53)).push (.cells kvs 53) := rfl
theorem blk4_heapH (w : World) (H l : List W) (q : Nat) : (blk4 w H l q).heap[w.heap.size]? = some (.cells (wvs H) 34 (0, 0)) := by
  rw [blk4_heap]; simp only [Array.getElem?_push, Array.size_push]; rw [if_neg (by omega), if_neg (by omega), if_neg (by omega), if_pos trivial]
theorem blk4_heapR (w : World) (H l : List W) (q : Nat) : (blk4 w H l q).heap[w.heap.size + 1]? = some (.cells zero8 34 (0, 0)) := by
  rw [blk4_heap]; simp only [Array.getElem?_push, Array.size_push]; rw [if_neg (by omega), if_neg (by omega), if_pos trivial]
theorem blk4_below (w : World) (H l : List W) (q : Nat) : Below w.heap.size w (blk4 w H l q) :=
  ⟨rfl, rfl, rfl, by rw [blk4_heap]; simp; omega, fun k hk => by
    rw [blk4_heap]; simp only [Array.getElem?_push, Array.size_push]; rw [if_neg (by omega), if_neg (by omega), if_neg (by omega), if_neg (by omega)]⟩
theorem below_setRow {B : Nat} {w w' : World} (h : Below B w w') (g : Nat) (cs : Array Value) (hg : B ≤ g) : Below B w (w'.setRow g cs) :=
  ⟨h.os, h.tape, h.output, by have := h.size; simpa [World.setRow] using this, fun k hk => by rw [setRow_other _ _ _ _ (by omega)]; exact h.block k hk⟩
theorem wvs_size (l : List W) : (wvs l).size = l.length := by simp [wvs]
theorem wvs_one (l : List W) : (wvs l).all (·.oneCell') = true := by simp [wvs, wv, Value.oneCell']
theorem blk4_drewN (w : World) (H l : List W) (q m : Nat) : (blk4 w H l q).drewN m = blk4 w H l (q + m) := by
  unfold blk4; rw [World.drewN_drewN]
theorem blk3_drewN (w : World) (H l : List W) (q m : Nat) : (blk3 w H l q).drewN m = blk3 w H l (q + m) := by
  unfold blk3; rw [World.drewN_drewN]
theorem div32 (a : W) (n : Nat) (d : Int) (h : d = 2 ^ n) : (a.toNat : Int) / d = ((a >>> n).toNat : Int) := by rw [h, shr32]
theorem sched_val (x y z v : W) :
    (bits .xor .u32 (bits .xor .u32 ((rotr x 7).toNat : Int) ((rotr x 18).toNat : Int)) ((x.toNat : Int) / 8) + (y.toNat : Int) + bits .xor .u32 (bits .xor .u32 ((rotr z 17).toNat : Int) ((rotr z 19).toNat : Int)) ((z.toNat : Int) / 1024) + (v.toNat : Int)) % 4294967296
      = ((sig0 x + y + sig1 z + v).toNat : Int) := by
  rw [div32 x 3 8 rfl, div32 z 10 1024 rfl, bits_xor32, bits_xor32, bits_xor32, bits_xor32]
  unfold sig0 sig1
  simp only [BitVec.toNat_add]
  omega
set_option maxRecDepth 100000 in
set_option maxHeartbeats 4000000 in
theorem block_any (H : List W) (hH : H.length = 8) (b off n c : Nat) (bs : Nat → Nat) (w : World) (hc : 64 ≤ n) (hc2 : c ≤ 9223372036854775807) (hn : n ≤ c) (hb : ∀ j, bs j ≤ 255)
    (hcell : ∀ j, j < 64 → w.cell? ⟨b, off + j, none⟩ = some (.int .u8 (bs j))) :
    Calls Try.prog 16 #[.agg (wvs H), .slice (some ⟨b, off, none⟩) n c] w fun e w' => e = .returned (.agg (wvs (Sha2.block H bs))) ∧ Below w.heap.size w w' := by
  have hH' := veil hH
  have hcell' := veil hcell
  clear hcell hH
  have hbl : b < w.heap.size := by have := hcell'.out 0 (by omega); exact World.block_lt_of_cell? w _ this
  go_enter Try.func16, Try.ntmps16
  go_wp2
  go_loopw [23] (fun i wr => ∃ k q : Nat, k ≤ 64 ∧ i = .int .i64 k ∧ wr = blk3 w H (schedTo bs k) q) (fun i _ => 64 - (intOf i).toNat)
  case atStart => exact ⟨0, 0, by omega, rfl, rfl⟩
  case round =>
    obtain ⟨k, q, hk, rfl, hwr⟩ := hrel
    have hwr' := veil hwr
    clear hwr
    by_cases hlt : k < 64
    · by_cases h16 : k < 16
      · go_wp2_with fail
        have hr : ∀ j, j < 4 → wr.cell? ⟨b, off + 4 * k + j, none⟩ = some (.int .u8 (bs (4 * k + j))) := fun j hj => by
          rw [hwr'.out, blk3_old _ _ _ _ _ _ hbl, show off + 4 * k + j = off + (4 * k + j) by omega]; exact hcell'.out _ (by omega)
        refine (read_any b (off + 4 * k) (n - 4 * k) (c - 4 * k) (fun j => bs (4 * k + j)) wr (by omega) (by omega) (by omega) (fun j => hb _) hr).mono ?_
        clear hr
        rintro e w' ⟨rfl, rfl⟩
        have g1 : wr.cell? ⟨w.heap.size + 1 + 1, k, none⟩ = some (.int .u32 ((schedTo bs k).getD k 0).toNat) := by rw [hwr'.out]; exact blk3_cell _ _ _ _ _ (by rw [schedTo_length]; exact hlt)
        have g2 : wr.frozen? ⟨w.heap.size + 1 + 1, k, none⟩ = false := by rw [hwr'.out]; exact blk3_free _ _ _ _ _
        go_wp2
        go_roundw
        case rel => exact ⟨k + 1, q, by omega, by go_num, by rw [hwr'.out, blk3_set, schedTo_succ]; unfold stepW; rw [if_pos h16]; rfl⟩
        case measure => simp [intOf]; omega
      · have hg : ∀ j, j < 64 → wr.cell? ⟨w.heap.size + 1 + 1, j, none⟩ = some (.int .u32 ((schedTo bs k).getD j 0).toNat) := fun j hj => by
          rw [hwr'.out]; exact blk3_cell _ _ _ _ _ (by rw [schedTo_length]; exact hj)
        have g15 := hg (k - 15) (by omega)
        have g2 := hg (k - 2) (by omega)
        have g7 := hg (k - 7) (by omega)
        have g16 := hg (k - 16) (by omega)
        have g0 := hg k hlt
        have gf : wr.frozen? ⟨w.heap.size + 1 + 1, k, none⟩ = false := by rw [hwr'.out]; exact blk3_free _ _ _ _ _
        clear hg
        have a15 : IntKind.i64.wrap ((k : Int) - 15) = (k : Int) - 15 := IntWalk.i64_in _ (by omega)
        have a2 : IntKind.i64.wrap ((k : Int) - 2) = (k : Int) - 2 := IntWalk.i64_in _ (by omega)
        have a7 : IntKind.i64.wrap ((k : Int) - 7) = (k : Int) - 7 := IntWalk.i64_in _ (by omega)
        have a16 : IntKind.i64.wrap ((k : Int) - 16) = (k : Int) - 16 := IntWalk.i64_in _ (by omega)
        have b15 : 0 ≤ (k : Int) - 15 := by omega
        have b2 : 0 ≤ (k : Int) - 2 := by omega
        have b7 : 0 ≤ (k : Int) - 7 := by omega
        have b16 : 0 ≤ (k : Int) - 16 := by omega
        have c15 : ((k : Int) - 15).toNat = k - 15 := by omega
        have c2 : ((k : Int) - 2).toNat = k - 2 := by omega
        have c7 : ((k : Int) - 7).toNat = k - 7 := by omega
        have c16 : ((k : Int) - 16).toNat = k - 16 := by omega
        have d15 : (k : Int) - 15 < 64 := by omega
        have d2 : (k : Int) - 2 < 64 := by omega
        have d7 : (k : Int) - 7 < 64 := by omega
        have d16 : (k : Int) - 16 < 64 := by omega
        have e15 : (15 : Int) ≤ k := by omega
        have e7 : (7 : Int) ≤ k := by omega
        have e16 : (16 : Int) ≤ k := by omega
        go_wp2_with fail
        go_quiet (fail)
        go_wp2_with fail
        refine wp_region_still_tail 29 (by kernel_rfl) (by kernel_rfl) ?_
        simp only [List.take_succ_cons, List.take_zero, List.drop_succ_cons, List.drop_zero]
        generalize hw1 : ({ heap := (wr.drewN nq).heap, tape := (wr.drewN nq).tape, drawn := (wr.drewN nq).drawn + 1, os := (wr.drewN nq).os, output := (wr.drewN nq).output } : World) = w1
        have hw1' : Veil (w1 = blk3 w H (schedTo bs k) (q + nq + 1)) := veil (by rw [← hw1, hwr'.out]; show ((blk3 w H (schedTo bs k) q).drewN nq).drew = _; rw [blk3_drewN, blk3_drew])
        clear hw1
        replace g7 : w1.cell? ⟨w.heap.size + 1 + 1, k - 7, none⟩ = some (.int .u32 ((schedTo bs k).getD (k - 7) 0).toNat) := by rw [hw1'.out]; exact blk3_cell _ _ _ _ _ (by rw [schedTo_length]; omega)
        replace g16 : w1.cell? ⟨w.heap.size + 1 + 1, k - 16, none⟩ = some (.int .u32 ((schedTo bs k).getD (k - 16) 0).toNat) := by rw [hw1'.out]; exact blk3_cell _ _ _ _ _ (by rw [schedTo_length]; omega)
        replace g0 : w1.cell? ⟨w.heap.size + 1 + 1, k, none⟩ = some (.int .u32 ((schedTo bs k).getD k 0).toNat) := by rw [hw1'.out]; exact blk3_cell _ _ _ _ _ (by rw [schedTo_length]; omega)
        replace gf : w1.frozen? ⟨w.heap.size + 1 + 1, k, none⟩ = false := by rw [hw1'.out]; exact blk3_free _ _ _ _ _
        clear g15 g2 a15 a2 b15 b2 c15 c2 d15 d2
        repeat still_step
        still_call (turn_same _ _ _ (by omega) (by omega))
        repeat still_step
        still_call (turn_same _ _ _ (by omega) (by omega))
        repeat still_step
        still_call (turn_same _ _ _ (by omega) (by omega))
        repeat still_step
        still_call (turn_same _ _ _ (by omega) (by omega))
        repeat still_step
        refine wpStill_nil ?_
        go_wp2
        go_roundw
        case rel =>
          refine ⟨k + 1, q + nq + 1, by omega, by go_num, ?_⟩
          rw [sched_val, hw1'.out, blk3_set, schedTo_succ]
          unfold stepW
          rw [if_neg h16]
          simp only [List.getD_eq_getElem?_getD]
          rfl
        case measure => simp [intOf]; omega
    · obtain rfl : k = 64 := by omega
      have hl := schedTo_length bs 64
      have hg : ∀ j, j < 8 → wr.cell? ⟨w.heap.size, j, none⟩ = some (.int .u32 (H.getD j 0).toNat) := fun j hj => by
        rw [hwr'.out]; exact blk3_H _ _ _ _ _ (by rw [hH'.out]; exact hj)
      have g0 := hg 0 (by omega)
      have g1 := hg 1 (by omega)
      have g2 := hg 2 (by omega)
      have g3 := hg 3 (by omega)
      have g4 := hg 4 (by omega)
      have g5 := hg 5 (by omega)
      have g6 := hg 6 (by omega)
      have g7 := hg 7 (by omega)
      clear hg
      have hl' := veil hl
      clear hl
      go_wp2_with fail
      rename (∀ (a : Act) (w : World), Code.wp Try.prog (Code.seq (Code.block 1 _) _) _ a w → _) => hKold
      clear hKold
      go_quiet (fail)
      go_wp2_with fail
      refine (table_any _).mono ?_
      rintro e w1 ⟨rfl, hw1⟩
      have hw1' : Veil (w1 = blk4 w H (schedTo bs 64) (q + nq)) := veil (by rw [hw1, hwr'.out, blk3_drewN]; rfl)
      clear hw1 g0 g1 g2 g3 g4 g5 g6 g7
      go_wp2_with fail
      clear hwr'
      obtain ⟨wo, rfl⟩ : ∃ wo : World, wo = wr := ⟨_, rfl⟩
      go_loopw [9, 10, 11, 12, 13, 14, 15, 16, 90] (fun va vb vc vd ve vf vg vh i wq => ∃ (k p : Nat) (s : St), k ≤ 64 ∧ s = roundsTo (schedTo bs 64) (toSt H) k ∧ va = wv s.a ∧ vb = wv s.b ∧ vc = wv s.c ∧ vd = wv s.d ∧ ve = wv s.e ∧ vf = wv s.f ∧ vg = wv s.g ∧ vh = wv s.h ∧ i = .int .i64 k ∧ wq = blk4 w H (schedTo bs 64) p) (fun _ _ _ _ _ _ _ _ i _ => 64 - (intOf i).toNat)
      case atStart => exact ⟨0, q + nq, _, by omega, rfl, by simp [wv, toSt, roundsTo], by simp [wv, toSt, roundsTo], by simp [wv, toSt, roundsTo], by simp [wv, toSt, roundsTo], by simp [wv, toSt, roundsTo], by simp [wv, toSt, roundsTo], by simp [wv, toSt, roundsTo], by simp [wv, toSt, roundsTo], rfl, hw1'.out⟩
      case round =>
        obtain ⟨i, p, s, hi, hs, rfl, rfl, rfl, rfl, rfl, rfl, rfl, rfl, rfl, hwq⟩ := hrel
        have hwq' := veil hwq
        have hs' := veil hs
        clear hwq hs
        obtain ⟨sa, sb, sc, sd, se, sf, sg, sh⟩ := s
        by_cases hlt : i < 64
        · obtain ⟨x, hx⟩ : ∃ x, (schedTo bs 64).getD i 0 = x := ⟨_, rfl⟩
          obtain ⟨z, hz⟩ : ∃ z : W, BitVec.ofNat 32 (K.getD i 0) = z := ⟨_, rfl⟩
          have gw : wr.cell? ⟨w.heap.size + 1 + 1, i, none⟩ = some (.int .u32 x.toNat) := by rw [hwq'.out, ← hx]; exact blk4_cell _ _ _ _ _ (by rw [hl'.out]; exact hlt)
          have hidx : ∀ w : World, (Instr.index 53 (.agg kvs) (.int .i64 i)).run Try.prog w = .ok (.int .u32 z.toNat) w := fun w => index53 _ _ _ _ (by omega) (by omega) (by rw [← hz]; exact kvs_at i hlt)
          have hx' := veil hx
          have hz' := veil hz
          clear hx hz
          have hi0 : (0 : Int) ≤ i := by omega
          have hi1 : (i : Int) < 64 := by omega
          unfold wv
          go_wp2_with fail
          go_quiet ((go_at_call 28; exact Calls.quiet_of_same (turn_same _ _ _ (by omega) (by omega))))
          go_wp2_with (go_at_call 28; refine (turn_any _ _ _ (by omega) (by omega)).mono ?_; rintro e w' ⟨rfl, rfl⟩)
          go_roundw
          case rel =>
            refine ⟨i + 1, p + nq, round (schedTo bs 64) ⟨sa, sb, sc, sd, se, sf, sg, sh⟩ i, by omega, by rw [roundsTo_succ, ← hs'.out], ?_, rfl, rfl, rfl, ?_, rfl, rfl, rfl, by go_num, by rw [hwq'.out, blk4_drewN]⟩
            · rw [t_val, u_val, add32]; unfold round; rw [← hz'.out, ← hx'.out]
            · rw [t_val, add32]; unfold round; rw [← hz'.out, ← hx'.out]
          case measure => simp [intOf]; omega
        · obtain rfl : i = 64 := by omega
          unfold wv
          go_wp2_with (refine wpList_build_to rfl 34 _ rfl (wvs (ofSt ⟨sa, sb, sc, sd, se, sf, sg, sh⟩)) (by kernel_rfl) ?_)
          rename (∀ (a : Act) (w : World), Code.wp Try.prog (Code.seq (Code.block 3 _) _) _ a w → _) => hKold
          clear hKold
          obtain ⟨S, hS⟩ : ∃ S, ofSt ⟨sa, sb, sc, sd, se, sf, sg, sh⟩ = S := ⟨_, rfl⟩
          have hSl : S.length = 8 := by rw [← hS]; rfl
          have hfin : addTo H S 8 = Sha2.block H bs := by rw [addTo_eight _ _ hH'.out hSl, ← hS, hs'.out]; rfl
          rw [hS]
          have hfin' := veil hfin
          have hSl' := veil hSl
          clear hS hfin hSl hs'
          obtain ⟨wp, rfl⟩ : ∃ wp : World, wp = wr := ⟨_, rfl⟩
          go_loopw [160] (fun i wr => ∃ k : Nat, k ≤ 8 ∧ i = .int .i64 k ∧ wr = blk4 w (addTo H S k) (schedTo bs 64) p) (fun i _ => 8 - (intOf i).toNat)
          case atStart => exact ⟨0, by omega, rfl, hwq'.out⟩
          case round =>
            obtain ⟨k, hk, rfl, hwr⟩ := hrel
            have hwr' := veil hwr
            clear hwr
            have hal : (addTo H S k).length = 8 := by rw [addTo_length]; exact hH'.out
            have hal' := veil hal
            clear hal
            by_cases hlt : k < 8
            · obtain ⟨x, hx⟩ : ∃ x, (addTo H S k).getD k 0 = x := ⟨_, rfl⟩
              obtain ⟨y, hy⟩ : ∃ y, S.getD k 0 = y := ⟨_, rfl⟩
              have gw : wr.cell? ⟨w.heap.size, k, none⟩ = some (.int .u32 x.toNat) := by rw [hwr'.out, ← hx]; exact blk4_H _ _ _ _ _ (by rw [hal'.out]; exact hlt)
              have gf : wr.frozen? ⟨w.heap.size, k, none⟩ = false := by rw [hwr'.out]; exact blk4_free _ _ _ _ _
              have hidx : ∀ w : World, (Instr.index 34 (.agg (wvs S)) (.int .i64 k)).run Try.prog w = .ok (.int .u32 y.toNat) w := fun w => index34 _ _ _ _ (by omega) (by omega) (by rw [← hy]; exact wvs_at _ _ (by rw [hSl'.out]; exact hlt))
              have hx' := veil hx
              have hy' := veil hy
              clear hx hy
              go_wp2
              go_roundw
              case rel => exact ⟨k + 1, by omega, by go_num, by rw [addTo_succ, ← blk4_set, hwr'.out, hx'.out, hy'.out, add32]⟩
              case measure => simp [intOf]; omega
            · obtain rfl : k = 8 := by omega
              obtain ⟨F, hF⟩ : ∃ F, addTo H S 8 = F := ⟨_, rfl⟩
              have hFl : F.length = 8 := by rw [← hF]; exact hal'.out
              have hFb : F = Sha2.block H bs := by rw [← hF]; exact hfin'.out
              have hgH : wr.heap[w.heap.size]? = some (.cells (wvs F) 34 (0, 0)) := by rw [hwr'.out, hF]; exact blk4_heapH _ _ _ _
              have hgR : wr.heap[w.heap.size + 1]? = some (.cells zero8 34 (0, 0)) := by rw [hwr'.out]; exact blk4_heapR _ _ _ _
              have hsz : (Try.prog.info? 34).map (·.size) = some (wvs F).size := by rw [wvs_size, hFl]; kernel_rfl
              have hsz2 : zero8.size = (wvs F).size := by rw [wvs_size, hFl]; rfl
              have h1 : (wvs F).all (·.oneCell') = true := wvs_one F
              have hbel : Below w.heap.size w (wr.setRow (w.heap.size + 1) (wvs F)) := by rw [hwr'.out]; exact below_setRow (blk4_below _ _ _ _) _ _ (by omega)
              have hF' := veil hF
              have hFb' := veil hFb
              have v1 := veil hgH
              have v2 := veil hgR
              have v3 := veil hsz
              have v4 := veil hsz2
              have v5 := veil h1
              have v6 := veil hbel
              clear hF hFl hFb hgH hgR hsz hsz2 h1 hbel
              go_wp2_with (first | (refine wpList_load_row rfl 34 _ rfl w.heap.size rfl 34 (wvs F) (0, 0) (.array 8 33) v1.out (by kernel_rfl) rfl v3.out ?_) | (refine wpList_store_row rfl 34 _ _ rfl (w.heap.size + 1) (wvs F) rfl rfl 34 zero8 v2.out v3.out v4.out v5.out ?_))
              refine bodyPost_ret (v := .agg (wvs F)) ?_ rfl ⟨by rw [hFb'.out], v6.out⟩
              exact results_cell_row (p := 4) (ty := 34) Try.results16 _ _ (w.heap.size + 1) 34 (wvs F) (0, 0) (.array 8 33) rfl (setRow_heap _ _ zero8 _ 34 (0, 0) v2.out) (by kernel_rfl) rfl v3.out
end Go.Proofs.Sha
