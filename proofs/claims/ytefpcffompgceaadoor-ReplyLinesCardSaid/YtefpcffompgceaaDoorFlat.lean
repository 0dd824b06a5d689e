import Derived.Test.YtefpcffompgceaaDoorDo
import Derived.Test.YtefpcffompgceaaDoorApp
import Derived.Lib.SliceRun
import Derived.WalkSpells
/- What the replacer makes of a text. -/
namespace Go.Proofs.Tryd.Ln
open Go Go.RowKit Go.Proofs.Mem Go.Proofs.App
open Go.Proofs.YtefpcffompgceaaDoorW.PrintWords
set_option linter.unusedVariables false

/-- a text on one line -/
def flatS (s : ByteArray) : ByteArray := strOfNums ((bytesOf s).map flatB)
/-- so far -/
def flatTo (s : ByteArray) (k : Nat) : List Int := ((bytesOf s).take k).map flatB ++ (bytesOf s).drop k
theorem flatTo_len (s : ByteArray) (k : Nat) (h : k ≤ s.size) : (flatTo s k).length = s.size := by
  simp [flatTo, bytesOf_length]; omega
theorem flatTo_zero (s : ByteArray) : flatTo s 0 = bytesOf s := by simp [flatTo]
theorem flatTo_all (s : ByteArray) : flatTo s s.size = (bytesOf s).map flatB := by
  rw [flatTo, List.take_of_length_le (by rw [bytesOf_length]; omega), List.drop_of_length_le (by rw [bytesOf_length]; omega), List.append_nil]
theorem bytes_at (s : ByteArray) (k : Nat) (h : k < s.size) : (bytesOf s)[k]? = some (bt s k) := by
  have h2 : k < (bytesOf s).length := by rw [bytesOf_length]; exact h
  rw [List.getElem?_eq_getElem h2]
  congr 1
  have := rd_bytesOf s k
  rw [rd, Int.toNat_natCast, List.getD_eq_getElem?_getD, List.getElem?_eq_getElem h2] at this
  simpa using this
theorem flatTo_set (s : ByteArray) (k : Nat) (h : k < s.size) : (flatTo s k).set k (flatB (bt s k)) = flatTo s (k + 1) := by
  have h2 : k < (bytesOf s).length := by rw [bytesOf_length]; exact h
  have e := bytes_at s k h
  rw [List.getElem?_eq_getElem h2] at e
  injection e with e
  rw [flatTo, flatTo, List.set_append_right _ _ (by simp; omega), List.take_succ_eq_append_getElem h2, List.drop_eq_getElem_cons h2, e]
  simp [Nat.min_eq_left (Nat.le_of_lt h2)]
theorem flatTo_same (s : ByteArray) (k : Nat) (h : k < s.size) (he : flatB (bt s k) = bt s k) : flatTo s (k + 1) = flatTo s k := by
  rw [← flatTo_set s k h, he]
  apply List.ext_getElem?
  intro i
  rw [List.getElem?_set]
  have h2 : k < (bytesOf s).length := by rw [bytesOf_length]; exact h
  have e := bytes_at s k h
  by_cases hi : k = i
  · subst hi
    rw [if_pos rfl, if_pos (by rw [flatTo_len s k (by omega)]; exact h), flatTo, List.getElem?_append_right (by simp; omega), List.getElem?_drop]
    simp [Nat.min_eq_left (Nat.le_of_lt h2), e]
  · rw [if_neg hi]
theorem str_bytes (s : ByteArray) : strOfNums (bytesOf s) = s := by
  unfold strOfNums bytesOf
  rw [List.map_map]
  have : s.data.toList.map ((fun n : Int => UInt8.ofNat n.toNat) ∘ fun b : UInt8 => (b.toNat : Int)) = s.data.toList := by
    conv => rhs; rw [← List.map_id s.data.toList]
    apply List.map_congr_left
    intro u _
    simp
  rw [this]
theorem flat_same (s : ByteArray) (h : ∀ k, k < s.size → flatB (bt s k) = bt s k) : flatS s = s := by
  have : ∀ k, k ≤ s.size → flatTo s k = bytesOf s := by
    intro k hk
    induction k with
    | zero => exact flatTo_zero s
    | succ k ih => rw [flatTo_same s k (by omega) (h k (by omega)), ih (by omega)]
  unfold flatS
  rw [← flatTo_all, this _ (Nat.le_refl _), str_bytes]
/-- the buffer: none yet, or one of these bytes -/
def BufAt (w : World) (g : Nat) (l : List Int) : Prop := ∀ j, j < l.length → w.cell? ⟨g, j, none⟩ = some (.int .u8 (l.getD j 0)) ∧ w.frozen? ⟨g, j, none⟩ = false
def BufIs (s : ByteArray) (base h k : Nat) (v : Value) (w : World) : Prop :=
  (v = .slice none 0 0 ∧ ∀ j, j < k → flatB (bt s j) = bt s j) ∨ ∃ g cap, v = .slice (some ⟨g, 0, none⟩) s.size cap ∧ base ≤ g ∧ g ≠ h ∧ BufAt w g (flatTo s k)
theorem bufAt_set {w : World} {g : Nat} {l : List Int} (h : BufAt w g l) (k : Nat) (x : Int) : BufAt (w.setCell ⟨g, k, none⟩ (.int .u8 x)) g (l.set k x) := by
  intro j hj
  rw [List.length_set] at hj
  obtain ⟨h1, h2⟩ := h j hj
  refine ⟨?_, by rw [World.frozen?_setCell]; exact h2⟩
  by_cases e : k = j
  · subst e
    rw [World.cell?_setCell_same _ _ _ h1]
    simp [hj]
  · rw [World.cell?_setCell_other _ _ _ _ (by intro h; injection h with _ h; exact e h), h1]
    simp [List.getD_eq_getElem?_getD, e]
theorem bufAt_new (W : World) (s : ByteArray) : BufAt (Lib.bytesWorld W 5 s) W.heap.size (bytesOf s) := by
  intro j hj
  rw [bytesOf_length] at hj
  refine ⟨?_, ?_⟩
  · rw [Lib.bytesWorld_cell W 5 s j hj]
    simp [bytesOf, List.getD_eq_getElem?_getD, hj]
  · have hs : j < (Lib.bytesCells W 5 s).size := by
      simp [Lib.bytesCells]; omega
    simp [World.frozen?, Lib.bytesWorld_at_new]
    omega
theorem bufAt_reads {w : World} {g : Nat} {l : List Int} {n : Nat} (h : BufAt w g l) (hl : l.length = n) (hn : n ≤ 140737488351232) : ReadsInt w .u8 (some ⟨g, 0, none⟩) n l :=
  ⟨hl, by omega, fun _ => ⟨_, rfl, fun j hj => by rw [add_plain]; exact (h j (by omega)).1⟩⟩
set_option maxRecDepth 100000 in
set_option maxHeartbeats 8000000 in
theorem byteReplace_any (h : Nat) (s : ByteArray) (w : World) (hs : s.size ≤ 140737488351232) (hT : w.heap[h]? = some (.cells (bvs tab) 67 (0, 0))) :
    Calls Tryd.prog 96 #[.pointer (some ⟨h, 0, none⟩), .string s] w fun e w' => e = .returned (.string (flatS s)) ∧ Below w.heap.size w w' := by
  have hlt := blk_lt hT
  have kb := fun W => print_bytes (P := Tryd.prog) 9 24 5 Tryd.underlying9 Tryd.underlying24 Tryd.underlying5 s W
  have qT : ∀ (w : World) (a : Option Addr) (n c n' c' : Nat), (binOp .eql 24 (.slice a n c) (.slice none n' c')).run Tryd.prog w = .ok (.bool a.isNone) w := fun w a n c n' c' => Lib.run_eql_slice_nil w _ _ a n c n' c' Tryd.underlying24
  have hT' := veil hT
  clear hT
  go_enter Tryd.func96, Tryd.ntmps96
  go_wp2_with fail
  go_loopw [5, 6] (fun v i wr => ∃ k : Nat, k ≤ s.size ∧ i = .int .i64 k ∧ BufIs s w.heap.size h k v wr ∧ wr.heap[h]? = some (.cells (bvs tab) 67 (0, 0)) ∧ Below w.heap.size w wr) (fun _ i _ => s.size - (intOf i).toNat)
  case atStart => exact ⟨0, by omega, rfl, Or.inl ⟨rfl, fun j hj => absurd hj (by omega)⟩, hT'.out, Below.refl _ _⟩
  case round =>
    obtain ⟨k, hk, rfl, hbuf, hTr, hb⟩ := hrel
    have hTr' := veil hTr
    have hb' := veil hb
    clear hTr hb
    by_cases hlt2 : k < s.size
    · obtain ⟨c, hc⟩ : ∃ c, bt s k = c := ⟨_, rfl⟩
      have hrg := bt_range s k
      rw [hc] at hrg
      obtain ⟨hr0, hr1⟩ := hrg
      have hcb : ∀ hh : k < s.size, ((s[k]'hh).toNat : Int) = c := fun hh => by
        rw [← hc, ← bt_at s (k : Int) (by simpa using hh)]
        simp
      have ht : wr.cell? ⟨h, c.toNat, none⟩ = some (.int .u8 (flatB c)) := by
        rw [cell_of_row _ _ _ _ _ _ hTr'.out, bvs_at _ _ (by rw [tab_len]; omega), tab_at c hr0 hr1]
      have hc' := veil hc
      clear hc
      by_cases he : flatB c = c
      · have hn : (flatB c != c) = false := by rw [bne_eq_false_iff_eq]; exact he
        have hnext : Veil (∀ v, v = v → BufIs s w.heap.size h k v wr → BufIs s w.heap.size h (k + 1) v wr) := veil (by
          intro v _ hv
          rcases hv with ⟨h1, h2⟩ | ⟨g, cap, h1, h2, h3, h4⟩
          · refine Or.inl ⟨h1, fun j hj => ?_⟩
            by_cases hjk : j = k
            · subst hjk; rw [hc'.out]; exact he
            · exact h2 j (by omega)
          · refine Or.inr ⟨g, cap, h1, h2, h3, ?_⟩
            rw [flatTo_same s k hlt2 (by rw [hc'.out]; exact he)]
            exact h4)
        have hbuf' := veil hbuf
        clear hbuf he
        go_wp2_with fail
        go_roundw
        case rel => exact ⟨k + 1, by omega, by go_num, hnext.out _ rfl hbuf'.out, hTr'.out, hb'.out⟩
        case measure => simp [intOf]; omega
      · have hn : (flatB c != c) = true := by rw [bne_iff_ne]; exact he
        clear he
        rcases hbuf with ⟨rfl, hsame⟩ | ⟨g, cap, rfl, hg, hgh, hbuf⟩
        · have hnew := bufAt_new wr s
          have hbt := hnew k (by rw [bytesOf_length]; exact hlt2)
          have hlh := blk_lt hTr'.out
          have ht2 : (Lib.bytesWorld wr 5 s).cell? ⟨h, c.toNat, none⟩ = some (.int .u8 (flatB c)) := by
            rw [Lib.bytesWorld_old _ _ _ _ hlh]; exact ht
          obtain ⟨hc1, hf1⟩ := hbt
          have hT2 := veil ((Lib.bytesWorld_at_old wr 5 s h hlh).trans hTr'.out)
          have hB2 := veil (base_below hb'.out hb'.out.size (bytes_below (Below.refl wr.heap.size wr) (Nat.le_refl _) 5 s))
          have e0 : bytesOf s = flatTo s k := by
            have : ∀ j, j ≤ k → flatTo s j = bytesOf s := by
              intro j hj
              induction j with
              | zero => exact flatTo_zero s
              | succ j ih => rw [flatTo_same s j (by omega) (hsame j (by omega)), ih (by omega)]
            exact (this k (Nat.le_refl _)).symm
          have hset := bufAt_set hnew k (flatB c)
          rw [e0, ← hc'.out, flatTo_set s k hlt2] at hset
          have hset' := veil hset
          have hbs := hb'.out.size
          clear hset hnew e0 hsame
          go_wp2_with fail
          refine ⟨⟨k + 1, by omega, by go_num, Or.inr ⟨wr.heap.size, _, rfl, hbs, by omega, ?_⟩, ?_, hB2.out.setCell hbs _⟩, by simp [intOf]; omega⟩
          · rw [← hc'.out]; exact hset'.out
          · exact (Below.heap_setCell _ ⟨wr.heap.size, k, none⟩ _ h (by simp; omega)).trans hT2.out
        · have hbt := hbuf k (by rw [flatTo_len s k hk]; exact hlt2)
          obtain ⟨hc1, hf1⟩ := hbt
          have hset := bufAt_set hbuf k (flatB c)
          rw [← hc'.out, flatTo_set s k hlt2] at hset
          have hset' := veil hset
          clear hset hbuf
          go_wp2_with fail
          refine ⟨⟨k + 1, by omega, by go_num, Or.inr ⟨g, cap, rfl, hg, hgh, ?_⟩, ?_, hb'.out.setCell hg _⟩, by simp [intOf]; omega⟩
          · rw [← hc'.out]; exact hset'.out
          · exact (Below.heap_setCell _ ⟨g, k, none⟩ _ h (fun e => hgh e.symm)).trans hTr'.out
    · obtain rfl : k = s.size := by omega
      rcases hbuf with ⟨rfl, hsame⟩ | ⟨g, cap, rfl, hg, hgh, hbuf⟩
      · have hfl := veil (flat_same s hsame)
        clear hsame
        go_wp2_with fail
        go_ret
        exact ⟨by rw [hfl.out]; rfl, hb'.out⟩
      · have hst := string_of_reads (P := Tryd.prog) (src := 24) (dst := 9) (c := cap) Tryd.underlying24 Tryd.underlying5 Tryd.underlying9 (bufAt_reads hbuf (flatTo_len s _ hk) hs)
        rw [flatTo_all] at hst
        have hst' : (convert 24 9 (.slice (some ⟨g, 0, none⟩) s.size cap)).run Tryd.prog wr = .ok (.string (flatS s)) wr := hst
        clear hbuf hst
        go_wp2_with fail
        go_ret
        exact ⟨rfl, hb'.out⟩
/-- a new replacer -/
def NewRepl (w : World) (e : Ending) (w' : World) : Prop := ∃ b g c x2, e = .returned (.pointer (some ⟨b, 0, none⟩)) ∧ Below w.heap.size w w' ∧ w.heap.size ≤ b ∧ 4 ≤ c ∧ g ≠ b ∧ Four w' g ∧ w'.heap[b]? = some (repl (.int .u32 0) (.int .i32 0) x2 .nilIface (.slice (some ⟨g, 0, none⟩) 4 c))
theorem info9 : (Tryd.prog.info? 9).map (fun i => (i.zero, i.size, i.bytes)) = some (some (.string ByteArray.empty), 1, 16) := by kernel_rfl
set_option maxHeartbeats 4000000 in
theorem newReplacer_any (g0 : Nat) (w : World) (hF : Four w g0) :
    Calls Tryd.prog 16 #[.slice (some ⟨g0, 0, none⟩) 4 4] w (NewRepl w) := by
  obtain ⟨i0, hi, hz0, hz1, hz2⟩ := info_parts info9
  go_enter Tryd.func16, Tryd.ntmps16
  go_wp2_with (at_builtin; refine wpList_append_own _ rfl _ _ 33 rfl w.heap.size 9 i0 (.string ByteArray.empty) 1 16 Tryd.underlying33 hi hz0 hz1 hz2 rfl (by decide) _ _ _ rfl (own_nil w w.heap.size 9 1) ⟨g0, 0, none⟩ 4 4 [.string ⟨#[13]⟩, .string ⟨#[32]⟩, .string ⟨#[10]⟩, .string ⟨#[32]⟩] rfl rfl ?c1 ?c2 ?c3 ?c4 ?c5 ?_)
  case c1 =>
    intro j u hj
    rw [add_plain]
    match j, hj with
    | 0, hj => simp at hj; subst hj; exact hF.1
    | 1, hj => simp at hj; subst hj; exact hF.2.1
    | 2, hj => simp at hj; subst hj; exact hF.2.2.1
    | 3, hj => simp at hj; subst hj; exact hF.2.2.2
    | n + 4, hj => simp at hj
  case c2 => intro u hu; simp at hu; rcases hu with rfl | rfl | rfl | rfl <;> rfl
  case c3 => unfold maxLen; omega
  case c4 => omega
  case c5 => omega
  intro v1 w1 hown hgrow _
  obtain ⟨g, c, rfl, hg, hc⟩ : ∃ g c, v1 = .slice (some ⟨g, 0, none⟩) 4 c ∧ w.heap.size ≤ g ∧ 4 ≤ c := by
    rcases hown.2 with ⟨_, h0⟩ | ⟨g, cap, cur, hv, hb, _, hn, _⟩
    · omega
    · exact ⟨g, cap, hv, hb, hn⟩
  have hcell := fun j v h => hown.cells (g := g) rfl j v h
  have hF1 : Four w1 g := ⟨hcell 0 _ rfl, hcell 1 _ rfl, hcell 2 _ rfl, hcell 3 _ rfl⟩
  have hlt : g < w1.heap.size := World.block_lt_of_cell? w1 _ hF1.1
  have hb1 : Below w.heap.size w w1 := (Below.refl w.heap.size w).grown hgrow (Nat.le_refl _) (fun k hk => by simp [Value.ownBlock] at hk)
  have hb1' := veil hb1
  have hF1' := veil hF1
  have hs1 := hb1.size
  clear hcell hown hgrow hF1 hb1 hF
  go_wp2_with fail
  go_ret
  refine ⟨w1.heap.size, g, c, .int .u32 0, rfl, below_alloc hb1'.out _, hs1, hc, by omega, four_below hF1'.out (below_alloc (Below.refl _ _) _), ?_⟩
  exact heap_alloc_last w1 _
set_option maxRecDepth 100000 in
set_option maxHeartbeats 4000000 in
theorem replace_any (base b g c : Nat) (x2 : Value) (s : ByteArray) (w : World) (hs : s.size ≤ 140737488351232) (hb : w.heap[b]? = some (repl (.int .u32 0) (.int .i32 0) x2 .nilIface (.slice (some ⟨g, 0, none⟩) 4 c))) (hc : 4 ≤ c) (hF : Four w g) (hg : g ≠ b) (hB : base ≤ b) (hbase : base ≤ w.heap.size) :
    Calls Tryd.prog 17 #[.pointer (some ⟨b, 0, none⟩), .string s] w fun e w' => e = .returned (.string (flatS s)) ∧ Below base w w' := by
  have hmf : ∀ (fn : Fn) (first cap : Array Value) (w : World), (Instr.makeFunc fn first cap).run Tryd.prog w = .ok (.func fn first cap) w := fun _ _ _ _ => rfl
  have hm : ∀ (a : Addr) (w : World), (method 261 68 (.pointer (some a)) "Replace").run Tryd.prog w = .ok (96, .pointer (some a)) w := fun _ _ => by kernel_rfl
  have hb' := veil hb
  clear hb
  go_enter Tryd.func17, Tryd.ntmps17
  go_wp2_with fail
  refine (do_any base b g c x2 _ hb'.out hc hF hg hB hbase).mono ?_
  rintro e w1 ⟨rfl, hb1, h, hh, hne, hbb, hT⟩
  have c3 := repl_cell hbb 3
  simp at c3
  have hb1' := veil hb1
  have hT' := veil hT
  clear hb1 hbb hT
  go_wp2_with fail
  refine (byteReplace_any h s _ hs hT'.out).mono ?_
  rintro e w2 ⟨rfl, hb2⟩
  have hb2' := veil (base_below hb1'.out (by have := hb1'.out.size; omega) hb2)
  clear hb2
  go_wp2_with fail
  go_ret
  exact ⟨rfl, hb2'.out⟩
/-- the line's bytes -/
def lineL (mark s : ByteArray) : List Int := bytesOf (mark ++ flatS s ++ ⟨#[13, 10]⟩)
theorem flatS_size (s : ByteArray) : (flatS s).size = s.size := by
  show ((List.map (fun n : Int => UInt8.ofNat n.toNat) ((bytesOf s).map flatB)).toArray).size = s.size
  simp [bytesOf_length]
theorem line_size (mark s : ByteArray) : (mark ++ flatS s ++ (⟨#[13, 10]⟩ : ByteArray)).size = mark.size + s.size + 2 := by
  rw [ByteArray.size_append, ByteArray.size_append, flatS_size]
  rfl
/-- a slice of the call's own that reads as these bytes -/
def Bytes_ (l : List Int) (w : World) (e : Ending) (w' : World) : Prop := ∃ A c, e = .returned (.slice A l.length c) ∧ Fresh .u8 w.heap.size w' A l.length c l ∧ Below w.heap.size w w'
set_option maxRecDepth 100000 in
set_option maxHeartbeats 4000000 in
theorem line_any (mark s : ByteArray) (w : World) (hm : mark.size ≤ 1000) (hs : s.size ≤ 70368744177664) :
    Calls Tryd.prog 13 #[.string mark, .string s] w (Bytes_ (lineL mark s) w) := by
  have kb := fun s W => print_bytes (P := Tryd.prog) 9 24 5 Tryd.underlying9 Tryd.underlying24 Tryd.underlying5 s W
  have hF0 : Four (w.alloc (.cells #[.string ⟨#[13]⟩, .string ⟨#[32]⟩, .string ⟨#[10]⟩, .string ⟨#[32]⟩] 9)) w.heap.size := by
    refine ⟨?_, ?_, ?_, ?_⟩ <;> (rw [cell_of_row _ _ _ _ _ _ (heap_alloc_last w _)]; rfl)
  have hF0' := veil hF0
  clear hF0
  go_enter Tryd.func13, Tryd.ntmps13
  go_wp2_with fail
  refine (newReplacer_any w.heap.size _ hF0'.out).mono ?_
  rintro e w1 ⟨b, g, c, x2, rfl, hb1, hbs, hc, hg, hF1, hR1⟩
  have hB1 := veil (two_below (below_alloc (Below.refl w.heap.size w) _) hb1)
  go_wp2_with fail
  have hs1 := hB1.out.size
  refine (replace_any w.heap.size b g c x2 s _ (by omega) hR1 hc hF1 hg (by simp only [World.size_alloc] at hbs; omega) hs1).mono ?_
  rintro e w2 ⟨rfl, hb2⟩
  have hB2 := veil (hB1.out.trans hb2)
  have hs2 : w.heap.size ≤ w2.heap.size := hB2.out.size
  clear hb1 hbs hF1 hR1 hb2
  have z1 : ¬ 9223372036854775807 < mark.size + (flatS s).size := by rw [flatS_size]; omega
  have z2 : ¬ 9223372036854775807 < mark.size + (flatS s).size + 2 := by rw [flatS_size]; omega
  go_wp2_with fail
  go_ret
  have hz : (mark ++ flatS s ++ (⟨#[13, 10]⟩ : ByteArray)).size = mark.size + (flatS s).size + 2 := by rw [ByteArray.size_append, ByteArray.size_append]; rfl
  have hl : (lineL mark s).length = mark.size + (flatS s).size + 2 := by rw [← hz]; exact bytesOf_length _
  refine ⟨some ⟨w2.heap.size, 0, none⟩, grownCap w2 (mark.size + (flatS s).size + 2) 0 5, ?_, ?_, ?_⟩
  · rw [hl]; rfl
  · have h := fresh_bytes w2 5 (mark ++ flatS s ++ ⟨#[13, 10]⟩) w.heap.size hs2
    rw [hz] at h
    rw [hl]
    exact h
  · exact base_below hB2.out hs2 (bytes_below (Below.refl w2.heap.size w2) (Nat.le_refl _) 5 _)
end Go.Proofs.Tryd.Ln
