import Derived.Test.YtpgllpnebaonoaaRefBlock
import Derived.Test.YtpgllpnebaonoaaRefPad
/- What the reference's Sum tells. -/
namespace Go.Proofs.Sha
open Go Go.RowKit Sha2 Mem QTail
open Go.Proofs.YtpgllpnebaonoaaW.PrintWords
set_option linter.unusedVariables false

theorem grown_setRow (w : World) (g : Nat) (cs : Array Value) : w.grownBy (w.setRow g cs) (some g) :=
  ⟨rfl, rfl, rfl, by simp [World.setRow], fun i hi hne => setRow_other w g i cs (fun h => hne (by rw [h]))⟩
theorem own_setRow {w : World} {base g n size : Nat} {e t : TypeId} {v : Value} {xs : List Value} {cs cs' : Array Value} (h : w.ownsRow base e size v n xs) (hg : w.heap[g]? = some (.cells cs t (0, 0))) (hne : e ≠ t) : (w.setRow g cs').ownsRow base e size v n xs :=
  own_other h (grown_setRow w g cs') (.inr fun he => own_ne h hg hne he.symm)
/-- the bytes told by a function -/
def fnOf (ys : List Int) (j : Nat) : Nat := (ys.getD j 0).toNat
def z32 : Array Value := #[.int .u8 0, .int .u8 0, .int .u8 0, .int .u8 0, .int .u8 0, .int .u8 0, .int .u8 0, .int .u8 0, .int .u8 0, .int .u8 0, .int .u8 0, .int .u8 0, .int .u8 0, .int .u8 0, .int .u8 0, .int .u8 0, .int .u8 0, .int .u8 0, .int .u8 0, .int .u8 0, .int .u8 0, .int .u8 0, .int .u8 0, .int .u8 0, .int .u8 0, .int .u8 0, .int .u8 0, .int .u8 0, .int .u8 0, .int .u8 0, .int .u8 0, .int .u8 0]
theorem lenB_byte (n j : Nat) : 0 ≤ lenB n j ∧ lenB n j ≤ 255 := by unfold lenB; omega
def Bytes (xs : List Int) : Prop := ∀ x ∈ xs, 0 ≤ x ∧ x ≤ 255
theorem padB_bytes {xs : List Int} (h : Bytes xs) (n k : Nat) : Bytes (padB xs n k) := by
  intro x hx
  simp only [padB, List.mem_append, List.mem_singleton, List.mem_replicate, List.mem_map, List.mem_range] at hx
  rcases hx with ((hx | hx) | hx) | ⟨j, _, rfl⟩
  · exact h x hx
  · omega
  · omega
  · exact lenB_byte _ _
theorem Bytes.at {xs : List Int} (h : Bytes xs) (j : Nat) : 0 ≤ xs.getD j 0 ∧ xs.getD j 0 ≤ 255 := by
  rw [List.getD_eq_getElem?_getD]
  cases hx : xs[j]? with
  | none => simp
  | some x => simp; exact h x (List.mem_of_getElem? hx)
theorem fnOf_le {xs : List Int} (h : Bytes xs) (j : Nat) : fnOf xs j ≤ 255 := by have := h.at j; unfold fnOf; omega
theorem fnOf_cast {xs : List Int} (h : Bytes xs) (j : Nat) : ((fnOf xs j : Nat) : Int) = xs.getD j 0 := by have := h.at j; unfold fnOf; omega

theorem own_cap {w : World} {base n size g c : Nat} {e : TypeId} {xs : List Value} (h : w.ownsRow base e size (.slice (some ⟨g, 0, none⟩) n c) n xs) : n ≤ c ∧ c ≤ 9223372036854775807 := by
  rcases h.2 with ⟨h1, _⟩ | ⟨g', cap, cur, he, _, _, h1, h2, _⟩
  · cases h1
  · injection he with h3 h4 h5
    subst h5
    simp only [maxLen] at h2
    exact ⟨h1, h2⟩
theorem hqs_eq' {f : Nat → Nat} : hqs = qvs (blocks f Sha2.init 0) := rfl
theorem wpStill_load_row {P : Program} {ops : Array Oper} {rest : List Oper} {o : Oper} {a : Act} {w : World} {Q : Act → Prop} (hw : Region.wanted o (yielded ops a.tmps) = true) (ty : TypeId) (x : Operand) (ho : o.op = .load ty x)
    (g : Nat) (hx : a.eval x = .pointer (some ⟨g, 0, none⟩)) (t : TypeId) (cs : Array Value) (fr : Nat × Nat) (d : TypeDesc) (hg : w.heap[g]? = some (.cells cs t fr))
    (hu : P.underlying ty = some d) (hd : (match d with | .struct _ | .array _ _ => true | _ => false) = true) (hi : (P.info? ty).map (·.size) = some cs.size)
    (h : wpStill P ops w Q rest (a.put o.dst (.agg cs))) : wpStill P ops w Q (o :: rest) a := by
  unfold wpStill
  rw [if_pos hw]
  unfold Oper.still execOp
  simp only [ho, hx, Instr.loadAt, Instr.sureAddr, Sem.run_bind, Sem.run_pure, Result.andThen_ok, run_loadVar_row w g t ty cs fr d hg hu hd hi]
  exact ⟨rfl, h⟩
theorem pad_len (n : Nat) : (n + 1 + zeros n + 8) % 64 = 0 := by unfold zeros; omega
theorem load_row {P : Program} (w : World) (g n : Nat) (t : TypeId) (cs : Array Value) (e : TypeId) (hg : w.heap[g]? = some (.cells cs t (0, 0))) (hu : P.underlying t = some (.array n e)) (hi : (P.info? t).map (·.size) = some cs.size) :
    (Instr.loadAt t (.pointer (some ⟨g, 0, none⟩))).run P w = .ok (.agg cs) w := by
  simp only [Instr.loadAt, Instr.sureAddr, Sem.run_bind, Sem.run_pure, Result.andThen]
  exact run_loadVar_row w g t t cs (0, 0) _ hg hu rfl hi
/-- so many bytes of a result, and then zeros -/
def fill (l : List Nat) (k : Nat) : Array Value := ((List.range 32).map fun i => Value.int .u8 (if i < k then ((l.getD i 0 : Nat) : Int) else 0)).toArray
def outCells (l : List Nat) : Array Value := (l.map fun (b : Nat) => Value.int .u8 (b : Int)).toArray
theorem outCells_one (l : List Nat) : (outCells l).all (·.oneCell') = true := by simp [outCells, Value.oneCell']
theorem fill_set (l : List Nat) (k : Nat) : (fill l k).setIfInBounds k (.int .u8 ((l.getD k 0 : Nat) : Int)) = fill l (k + 1) := by
  apply Array.ext_getElem?
  intro i
  simp only [fill, Array.getElem?_setIfInBounds, List.size_toArray, List.getElem?_toArray, List.getElem?_map, List.length_map, List.length_range]
  by_cases h : k = i
  · subst h
    by_cases h2 : k < 32 <;> simp [h2]
  · rw [if_neg h]
    by_cases h2 : i < 32
    · rw [List.getElem?_range h2]; simp only [Option.map_some]
      congr 2
      by_cases h3 : i < k
      · rw [if_pos h3, if_pos (by omega)]
      · rw [if_neg h3, if_neg (by omega)]
    · simp [h2]
theorem fill_at (l : List Nat) (k j : Nat) (h : k ≤ j) (h2 : j < 32) : (fill l k)[j]? = some (.int .u8 0) := by
  simp only [fill, List.getElem?_toArray, List.getElem?_map]
  rw [List.getElem?_range h2]; simp [show ¬ j < k by omega]
theorem byte_val (x : W) (k : Nat) : (((x.toNat : Int) / 2 ^ (24 - 8 * (k % 4))).tmod 256 % 256) = ((x.toNat / 2 ^ (24 - 8 * (k % 4)) % 256 : Nat) : Int) := by
  rw [Int.tmod_eq_emod_of_nonneg (Int.ediv_nonneg (by omega) (Int.pow_nonneg (by omega))), Int.emod_emod]
  simp
theorem fill_all (l : List Nat) (h : l.length = 32) : fill l 32 = outCells l := by
  apply Array.ext_getElem?
  intro i
  simp only [fill, outCells, List.getElem?_toArray, List.getElem?_map]
  by_cases h2 : i < 32
  · rw [List.getElem?_range h2, List.getElem?_eq_getElem (by omega)]
    simp [h2, List.getD, List.getElem?_eq_getElem (show i < l.length by omega)]
  · rw [List.getElem?_eq_none (by simp; omega), List.getElem?_eq_none (by omega)]; rfl
theorem bytesOf_length (H : List W) : (Sha2.bytesOf H).length = 32 := by simp [Sha2.bytesOf]
theorem bytesOf_at (H : List W) (k : Nat) (h : k < 32) : (Sha2.bytesOf H).getD k 0 = (H.getD (k / 4) 0).toNat / 2 ^ (24 - 8 * (k % 4)) % 256 := by
  simp only [Sha2.bytesOf, List.getD, List.getElem?_map]
  rw [List.getElem?_range h]; rfl
theorem pad_eq {xs : List Int} (h : Bytes xs) (n : Nat) (hl : xs.length = n) : padB xs n 8 = (Sha2.pad (xs.map Int.toNat)).map fun (b : Nat) => (b : Int) := by
  subst hl
  have h1 : (xs.map Int.toNat).map (fun (b : Nat) => (b : Int)) = xs := by
    rw [List.map_map]
    refine (List.map_congr_left fun x hx => ?_).trans (List.map_id xs)
    have := h x hx
    simp only [Function.comp_apply, id_eq]; omega
  unfold padB Sha2.pad
  simp only [List.map_append, h1, List.length_map, List.map_cons, List.map_nil, List.map_replicate, List.map_map]
  rfl
theorem sum_eq {xs : List Int} (h : Bytes xs) (n nb : Nat) (hl : xs.length = n) (hn : (padB xs n 8).length = 64 * nb) : Sha2.bytesOf (blocks (fnOf (padB xs n 8)) Sha2.init nb) = Sha2.sum (xs.map Int.toNat) := by
  have hp := pad_eq h n hl
  have hlen : (Sha2.pad (xs.map Int.toNat)).length / 64 = nb := by rw [hp, List.length_map] at hn; omega
  unfold Sha2.sum
  rw [hlen]
  have hf : fnOf (padB xs n 8) = fun j => (Sha2.pad (xs.map Int.toNat)).getD j 0 := by
    funext j
    unfold fnOf
    rw [hp, List.getD_eq_getElem?_getD, List.getD_eq_getElem?_getD, List.getElem?_map]
    cases (Sha2.pad (xs.map Int.toNat))[j]? <;> simp
  rw [hf]
set_option maxRecDepth 100000 in
set_option maxHeartbeats 2000000 in
theorem rsum_any (A : Option Addr) (n c : Nat) (xs : List Int) (w : World) (hn : n ≤ 300) (hc : n ≤ c) (HR : ReadsInt w .u8 A n xs) (hx : Bytes xs) :
    Calls Try.prog 10 #[.slice A n c] w fun e w' => e = .returned (.agg (outCells (Sha2.sum (xs.map Int.toNat)))) ∧ Below w.heap.size w w' := by
  have hlen' := veil HR.1
  have HR1 := veil (HR.below (below_alloc (Below.refl w.heap.size w) (.cells z32 25)))
  have hx' := veil hx
  clear HR hx
  go_enter Try.func10, Try.ntmps10
  go_wp2_with (first | (go_at_call 17; refine (rpadded_any A n c xs _ hn hc HR1.out).mono ?_; rintro e w1 ⟨v, rfl, hown, hb⟩) | (go_at_call 18; refine (rfirst_any _).mono ?_; rintro e w2 ⟨rfl, rfl⟩) | (refine wpList_store_at rfl 38 _ _ rfl hqs z8 38 _ rfl (by simp only [World.size_alloc]) rfl (by kernel_rfl) rfl (by kernel_rfl) ?_))
  obtain ⟨P, hP⟩ : ∃ P, padB xs n 8 = P := ⟨_, rfl⟩
  rw [hP] at hown
  have hPl : P.length = n + 1 + zeros n + 8 := by rw [← hP, padB_len, hlen'.out]
  have hPb : Bytes P := by rw [← hP]; exact padB_bytes hx'.out _ _
  obtain ⟨nb, hnb⟩ : ∃ nb, P.length = 64 * nb := ⟨P.length / 64, by rw [hPl]; have := pad_len n; omega⟩
  obtain ⟨m, hm⟩ : ∃ m, P.length = m := ⟨_, rfl⟩
  rw [hm] at hown hnb hPl
  have hpos : 0 < m := by omega
  have hnb9 : nb ≤ 9 := by have : zeros n < 64 := (by unfold zeros; omega); omega
  obtain ⟨g, c1, rfl, hgb, hgl⟩ := hown.form hpos
  obtain ⟨hc1, hc2⟩ := own_cap hown
  have hsz0 : (w.alloc (.cells z32 25)).heap.size = w.heap.size + 1 := World.size_alloc ..
  have hbw : Below w.heap.size w w1 := (below_alloc (Below.refl w.heap.size w) (.cells z32 25)).trans (hb.mono (by rw [hsz0]; omega))
  have hres : w1.heap[w.heap.size]? = some (.cells z32 25 (0, 0)) := by rw [hb.block _ (by rw [hsz0]; omega)]; exact heap_alloc_last w _
  have hw1s : w.heap.size + 1 ≤ w1.heap.size := by have := hb.size; rw [hsz0] at this; exact this
  have hP' := veil hP
  have hPb' := veil hPb
  have hnb' := veil hnb
  have s1 : Veil (((w1.alloc (.cells hqs 38)).alloc (.cells hqs 38)).ownsRow (w.heap.size + 1) 5 1 (.slice (some ⟨g, 0, none⟩) m c1) m (nums .u8 P)) := veil (by
    have h := hown; rw [hsz0] at h; exact pw_own_below (pw_own_below h (below_alloc (Below.refl _ _) _)) (below_alloc (Below.refl _ _) _))
  have s2 : Veil (Below w.heap.size w ((w1.alloc (.cells hqs 38)).alloc (.cells hqs 38))) := veil ((hbw.alloc (by omega) _).alloc (by simp; omega) _)
  have s3 : Veil (((w1.alloc (.cells hqs 38)).alloc (.cells hqs 38)).heap[w1.heap.size + 1]? = some (.cells hqs 38 (0, 0))) := veil (heap_alloc2_new w1 _ _)
  have s4 : Veil (((w1.alloc (.cells hqs 38)).alloc (.cells hqs 38)).heap[w.heap.size]? = some (.cells z32 25 (0, 0))) := veil (by
    rw [heap_alloc_old _ _ (by rw [World.size_alloc]; omega), heap_alloc_old _ _ (by omega)]; exact hres)
  have hgr : g ≠ w1.heap.size + 1 := by omega
  have hm' := veil hm
  clear hP hPl hPb hm hnb hown hb hbw hres hsz0 HR1
  go_loopw [5] (fun i wr => ∃ k : Nat, k ≤ nb ∧ i = .int .i64 ((64 * k : Nat) : Int) ∧ wr.ownsRow (w.heap.size + 1) 5 1 (.slice (some ⟨g, 0, none⟩) m c1) m (nums .u8 P) ∧ Below w.heap.size w wr ∧ wr.heap[w1.heap.size + 1]? = some (.cells (qvs (blocks (fnOf P) Sha2.init k)) 38 (0, 0)) ∧ wr.heap[w.heap.size]? = some (.cells z32 25 (0, 0))) (fun i _ => 64 * nb - (intOf i).toNat)
  case atStart => exact ⟨0, by omega, rfl, s1.out, s2.out, by rw [← hqs_eq']; exact s3.out, s4.out⟩
  case round =>
    obtain ⟨k, hk, rfl, hown, hb, hh, hr⟩ := hrel
    clear s1 s2 s3 s4
    have hown' := veil hown
    have hb' := veil hb
    have hr' := veil hr
    have hHl : Veil ((blocks (fnOf P) Sha2.init k).length = 8) := veil (blocks_length _ _ rfl _)
    obtain ⟨H, hH⟩ : ∃ H, blocks (fnOf P) Sha2.init k = H := ⟨_, rfl⟩
    rw [hH] at hh hHl
    have hh' := veil hh
    have hH' := veil hH
    clear hown hb hh hr hH
    by_cases hlt : k < nb
    · have hmk : 64 * k + 64 ≤ m := by rw [hnb'.out]; omega
      have hsz := veil (show (Try.prog.info? 38).map (·.size) = some (qvs H).size by rw [qvs_size, hHl.out]; kernel_rfl)
      obtain ⟨j, hj⟩ : ∃ j, 64 * k = j := ⟨_, rfl⟩
      rw [hj] at hmk ⊢
      have hj' := veil hj
      clear hj
      have hj9 : (j : Int) ≤ 576 := by have := hj'.out; omega
      have e1 : IntKind.i64.wrap ((j : Int) + 64) = (j : Int) + 64 := IntWalk.i64_in _ (by omega)
      have e2 : ((j : Int) + 64).toNat = j + 64 := by omega
      have e3 : (0 : Int) ≤ (j : Int) + 64 := by omega
      have e4 : (j : Int) + 64 ≤ (c1 : Int) := by omega
      have e5 : (j : Int) ≤ (j : Int) + 64 := by omega
      have e6 : j + 64 - j = 64 := by omega
      have e7 : ¬ c1 = j := by omega
      go_wp2_with fail
      obtain ⟨w2, hw2⟩ : ∃ w2, w2 = wr.drew := ⟨_, rfl⟩
      have hh2 := veil (show w2.heap[w1.heap.size + 1]? = some (.cells (qvs H) 38 (0, 0)) by rw [hw2]; exact hh'.out)
      refine wp_region_still_tail 6 (by kernel_rfl) (by kernel_rfl) ?_
      simp only [List.take_succ_cons, List.take_zero, List.drop_succ_cons, List.drop_zero]
      rw [show ({ heap := wr.heap, tape := wr.tape, drawn := wr.drawn + 1, os := wr.os, output := wr.output } : World) = w2 from hw2.symm]
      refine wpStill_load_row rfl 38 _ rfl (w1.heap.size + 1) rfl 38 (qvs H) (0, 0) (.array 8 35) hh2.out (by kernel_rfl) rfl hsz.out ?_
      repeat still_step
      refine wpStill_nil ?_
      have hcl := veil (show ∀ i, i < 64 → w2.cell? ⟨g, j + i, none⟩ = some (.int .u8 ((fnOf P (j + i) : Nat) : Int)) from fun i hi => by
        rw [hw2]
        show wr.cell? _ = _
        rw [fnOf_cast hPb'.out]
        exact (own_at hown'.out ((j + i : Nat) : Int) (by omega) (by omega)).1)
      have hB2 := veil (blk_lt hh2.out)
      have hw2' := veil hw2
      clear hw2
      go_wp2_with (first | (go_at_call 19; refine (rblock_any H hHl.out g j 64 (c1 - j) (fun i => fnOf P (j + i)) w2 (by omega) (by omega) (by omega) (fun i => fnOf_le hPb'.out _) hcl.out).mono ?_; rintro e w3 ⟨rfl, hb3⟩) | (refine wpList_store_row rfl 38 _ _ rfl (w1.heap.size + 1) (qvs (Sha2.block H fun i => fnOf P (j + i))) rfl rfl 38 (qvs H) ((hb3.block _ hB2.out).trans hh2.out) (by rw [qvs_size, block_length _ _ hHl.out]; kernel_rfl) (by rw [qvs_size, qvs_size, block_length _ _ hHl.out, hHl.out]) (qvs_one _) ?_))
      go_roundw
      case rel =>
        have o2 : w2.ownsRow (w.heap.size + 1) 5 1 (.slice (some ⟨g, 0, none⟩) m c1) m (nums .u8 P) := by rw [hw2'.out]; exact own_drew hown'.out
        have b2 : Below w.heap.size w w2 := by rw [hw2'.out]; exact hb'.out.drew
        have r2 : w2.heap[w.heap.size]? = some (.cells z32 25 (0, 0)) := by rw [hw2'.out]; exact hr'.out
        have g3 : w3.heap[w1.heap.size + 1]? = some (.cells (qvs H) 38 (0, 0)) := (hb3.block _ hB2.out).trans hh2.out
        have r3 := (hb3.block _ (blk_lt r2)).trans r2
        refine ⟨k + 1, by omega, by rw [← hj'.out]; congr 1, own_setRow (pw_own_below o2 hb3) g3 (by decide), below_setRow (b2.trans (hb3.mono b2.size)) _ _ (by omega), ?_, ?_⟩
        · rw [setRow_heap _ _ _ _ _ _ g3, blocks_succ, hH'.out, hj'.out]
        · rw [setRow_other _ _ _ _ (by omega)]; exact r3
      case measure => simp [intOf]; have := hj'.out; omega
    · obtain rfl : k = nb := by omega
      have hH5 := veil (blk_lt hh'.out)
      have hge : m ≤ 64 * k := by rw [hnb'.out]; exact Nat.le_refl _
      obtain ⟨j, hj⟩ : ∃ j, 64 * k = j := ⟨_, rfl⟩
      rw [hj] at hge ⊢
      clear hj
      obtain ⟨wp, rfl⟩ : ∃ wp : World, wp = wr := ⟨_, rfl⟩
      go_wp2_with (refine wpList_store_at rfl 25 _ _ rfl z32 z32 25 _ rfl (by rfl) rfl (by kernel_rfl) rfl (by kernel_rfl) ?_)
      go_loopw [7] (fun i wi => ∃ k q : Nat, k ≤ 32 ∧ i = .int .i64 k ∧ wi = plus wp [.cells (fill (Sha2.bytesOf H) k) 25 (0, 0)] q) (fun i _ => 32 - (intOf i).toNat)
      case atStart => exact ⟨0, 0, by omega, rfl, rfl⟩
      case round =>
        obtain ⟨k, q, hk, rfl, hwi⟩ := hrel
        have hwi' := veil hwi
        clear hwi
        by_cases hlt : k < 32
        · obtain ⟨x, hx⟩ : ∃ x, H.getD (k / 4) 0 = x := ⟨_, rfl⟩
          have hx' := veil hx
          have gh : wr.cell? ⟨w1.heap.size + 1, k / 4, none⟩ = some (.int .u64 x.toNat) := by
            rw [hwi'.out, plus_cell_old _ _ _ _ _ (blk_lt hh'.out), cell_of_row _ _ _ _ _ _ hh'.out, ← hx]; exact qvs_at _ _ (by rw [hHl.out]; omega)
          have gc : wr.cell? ⟨wp.heap.size, k, none⟩ = some (.int .u8 0) := by rw [hwi'.out]; exact plus_cell wp _ q 0 k _ 25 _ rfl (fill_at _ _ _ (Nat.le_refl _) hlt)
          have gf : wr.frozen? ⟨wp.heap.size, k, none⟩ = false := by rw [hwi'.out]; exact plus_free wp _ q 0 k _ 25 rfl
          clear hx
          have hk0 : (0 : Int) ≤ k := by omega
          have hk1 : (k : Int) < 32 := by omega
          go_wp2_with fail
          go_roundw
          case rel =>
            refine ⟨k + 1, q, by omega, by go_num, ?_⟩
            have hset := plus_setCell wp [.cells (fill (Sha2.bytesOf H) k) 25 (0, 0)] q 0 k (fill (Sha2.bytesOf H) k) 25 (.int .u8 (((Sha2.bytesOf H).getD k 0 : Nat) : Int)) rfl
            rw [fill_set] at hset
            rw [hwi'.out, byte_val, ← hx'.out, ← bytesOf_at H k hlt]
            exact hset
          case measure => simp [intOf]; omega
        · obtain rfl : k = 32 := by omega
          have hF : Veil (fill (Sha2.bytesOf H) 32 = outCells (Sha2.bytesOf H)) := veil (fill_all _ (bytesOf_length _))
          have hO := veil (show wr.heap[wp.heap.size]? = some (.cells (outCells (Sha2.bytesOf H)) 25 (0, 0)) by rw [hwi'.out, hF.out]; exact plus_at' wp _ q 0 _ rfl)
          have hR := veil (show wr.heap[w.heap.size]? = some (.cells z32 25 (0, 0)) by rw [hwi'.out, plus_old _ _ _ _ (blk_lt hr'.out)]; exact hr'.out)
          have hsz := veil (show (Try.prog.info? 25).map (·.size) = some (outCells (Sha2.bytesOf H)).size by rw [← hF.out]; simp only [fill]; kernel_rfl)
          go_wp2_with (first | (refine wpList_load_row rfl 25 _ rfl wp.heap.size rfl 25 (outCells (Sha2.bytesOf H)) (0, 0) (.array 32 5) hO.out (by kernel_rfl) rfl hsz.out ?_) | (refine wpList_store_row rfl 25 _ _ rfl w.heap.size (outCells (Sha2.bytesOf H)) rfl rfl 25 z32 hR.out hsz.out (by rw [← hF.out]; simp [fill, z32]) (outCells_one _) ?_))
          have hS : Sha2.bytesOf H = Sha2.sum (xs.map Int.toNat) := by
            rw [← hH'.out, ← hP'.out]
            exact sum_eq hx'.out n k hlen'.out (by rw [hP'.out, hm'.out]; exact hnb'.out)
          have hB : Below w.heap.size w (wr.setRow w.heap.size (outCells (Sha2.bytesOf H))) := by
            rw [hwi'.out]
            exact below_setRow (hb'.out.trans ((plus_below wp _ q).mono hb'.out.size)) _ _ (by omega)
          refine bodyPost_ret (v := .agg (outCells (Sha2.bytesOf H))) ?_ rfl ⟨by rw [hS], hB⟩
          exact results_cell_row (p := 2) (ty := 25) Try.results10 _ _ w.heap.size 25 (outCells (Sha2.bytesOf H)) (0, 0) (.array 32 5) rfl (setRow_heap _ _ z32 _ 25 (0, 0) hR.out) (by kernel_rfl) rfl hsz.out
end Go.Proofs.Sha
