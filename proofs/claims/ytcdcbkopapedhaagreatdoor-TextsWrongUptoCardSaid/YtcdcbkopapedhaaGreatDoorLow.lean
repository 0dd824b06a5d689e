import Derived.Test.YtcdcbkopapedhaaGreatDoorNumb
import Derived.Test.YtcdcbkopapedhaaGreatDoorBuild
/- What num.Lower tells. -/
namespace Go.Proofs.Tryz.Ln
open Go Go.RowKit Go.Proofs.Mem Go.Proofs.App
open Go.Proofs.YtcdcbkopapedhaaGreatDoorW.PrintWords
set_option linter.unusedVariables false
def lowB (c : Int) : Int := if 65 ≤ c ∧ c ≤ 90 then c + 32 else c
def lowS (s : ByteArray) : ByteArray := strOfNums ((bytesOf s).map lowB)
theorem lowB_range (c : Int) (h0 : 0 ≤ c) (h1 : c ≤ 255) : 0 ≤ lowB c ∧ lowB c ≤ 255 := by
  unfold lowB
  split <;> omega
def lowU (s : ByteArray) (k : Nat) : List UInt8 := ((bytesOf s).take k).map fun c => UInt8.ofNat (lowB c).toNat
theorem lowU_len (s : ByteArray) (k : Nat) (h : k ≤ s.size) : (lowU s k).length = k := by
  unfold lowU
  rw [List.length_map, List.length_take, bytesOf_length]; omega
theorem lowU_succ (s : ByteArray) (k : Nat) (h : k < s.size) : Lib.byteCells (lowU s k) ++ [.int .u8 (lowB (bt s k))] = Lib.byteCells (lowU s (k + 1)) := by
  have hb := bytes_at s k h
  have hil : k < (bytesOf s).length := by rw [bytesOf_length]; exact h
  have hr := lowB_range (bt s k) (bt_range s k).1 (bt_range s k).2
  rw [List.getElem?_eq_getElem hil] at hb
  unfold lowU
  rw [List.take_succ_eq_append_getElem hil, List.map_append, Option.some.inj hb]
  simp only [Lib.byteCells, List.map_append, List.map_cons, List.map_nil]
  congr 2
  rw [UInt8.toNat_ofNat']
  congr 1
  omega
theorem lowU_all (s : ByteArray) : (⟨(lowU s s.size).toArray⟩ : ByteArray) = lowS s := by
  unfold lowU lowS strOfNums
  rw [List.take_of_length_le (by rw [bytesOf_length]; omega), List.map_map]
  rfl
theorem fresh_builder (w : World) : Lib.IsBuilder 66 5 w.heap.size w.heap.size [] (w.alloc (.cells #[.pointer none, .slice none 0 0] 66)) := by
  refine Or.inl ⟨Nat.le_refl _, .slice none 0 0, heap_alloc_last w _, own_nil _ _ _ _, by simp [Value.ownBlock]⟩
theorem or_all : ∀ c : Fin 26, bits BinOp.or IntKind.u8 (65 + (c.val : Int)) 32 = 65 + (c.val : Int) + 32 := by decide
theorem or_up (c : Int) (h0 : 65 ≤ c) (h1 : c ≤ 90) : bits BinOp.or IntKind.u8 c 32 = c + 32 := by
  have := or_all ⟨(c - 65).toNat, by omega⟩
  simp only at this
  rwa [show (65 : Int) + ((c - 65).toNat : Int) = c from by omega] at this
abbrev Spare' := Build.Spare
theorem below_trans' {w w1 w2 : World} (h : Below w.heap.size w w1) (h2 : Below w1.heap.size w1 w2) : Below w.heap.size w w2 := h.trans (h2.mono h.size)
set_option maxRecDepth 100000 in
set_option maxHeartbeats 4000000 in
theorem low_any (s : ByteArray) (w : World) (hs : s.size ≤ 70368744177664) : Calls Tryz.prog 17 #[.string s] w fun e w' => e = .returned (.string (lowS s)) ∧ Below w.heap.size w w' := by
  have kb := fun s W => print_bytes (P := Tryz.prog) 9 29 5 Tryz.underlying9 Tryz.underlying29 Tryz.underlying5 s W
  obtain ⟨W0, hW0⟩ : ∃ W0 : World, W0 = w.alloc (.cells #[.pointer none, .slice none 0 0] 66) := ⟨_, rfl⟩
  have hsz0 : W0.heap.size = w.heap.size + 1 := by rw [hW0]; simp
  have hb0 : Below w.heap.size w W0 := by rw [hW0]; exact below_alloc (Below.refl _ _) _
  have hl0 : W0.heap[w.heap.size]? = some (.cells #[.pointer none, .slice none 0 0] 66 (0, 0)) := by rw [hW0]; exact heap_alloc_last w _
  obtain ⟨W1, hW1⟩ : ∃ W1 : World, W1 = Lib.bytesWorld W0 5 s := ⟨_, rfl⟩
  have hb1 : Below W0.heap.size W0 W1 := by rw [hW1]; exact bytes_below (Below.refl W0.heap.size W0) (Nat.le_refl _) 5 s
  have hbuf : BufAt W1 (w.heap.size + 1) (bytesOf s) := by
    have := bufAt_new W0 s
    rw [← hW1, hsz0] at this
    exact this
  have hl1 : W1.heap[w.heap.size]? = some (.cells #[.pointer none, .slice none 0 0] 66 (0, 0)) := (hb1.block _ (by omega)).trans hl0
  have hfb : Lib.IsBuilder 66 5 w.heap.size w.heap.size [] W1 := Or.inl ⟨Nat.le_refl _, .slice none 0 0, hl1, own_nil _ _ _ _, by simp [Value.ownBlock]⟩
  have hsp : 0 < s.size → Spare' w.heap.size (w.heap.size + 1) W1 := fun h0 => by
    refine ⟨by omega, ?_, fun p v hv => ?_⟩
    · have hc := (hbuf 0 (by rw [bytesOf_length]; exact h0)).1
      exact World.block_lt_of_cell? W1 _ hc
    · rw [hl1] at hv
      injection hv with hv
      injection hv with hv
      have : v = .slice none 0 0 := by injection hv with hv; simp at hv; exact hv.2.symm
      rw [this]
      simp [Value.ownBlock]
  have hbw := below_trans' hb0 hb1
  have hfb' := veil hfb
  have hsp' := veil hsp
  have hbw' := veil hbw
  have hbuf' := veil hbuf
  have hW1' : Lib.bytesWorld (w.alloc (.cells #[.pointer none, .slice none 0 0] 66)) 5 s = W1 := by rw [hW1, hW0]
  have hv1 := veil hW1'
  clear hfb hsp hbw hbuf hW1' hl1 hb1 hb0 hl0 hsz0 hW1 hW0
  go_enter Tryz.func17, Tryz.ntmps17
  go_wp2_with fail
  rw [hv1.out]
  go_loopw [9] (fun i wr => ∃ k : Nat, k ≤ s.size ∧ i = .int .i64 k ∧ Lib.IsBuilder 66 5 w.heap.size w.heap.size (Lib.byteCells (lowU s k)) wr ∧ (0 < s.size → Spare' w.heap.size (w.heap.size + 1) wr ∧ wr.heap[w.heap.size + 1]? = W1.heap[w.heap.size + 1]?) ∧ Below w.heap.size w wr) (fun i _ => s.size - (intOf i).toNat)
  case atStart => exact ⟨0, by omega, rfl, by simpa [lowU, Lib.byteCells] using hfb'.out, fun h0 => ⟨hsp'.out h0, rfl⟩, hbw'.out⟩
  case round =>
    obtain ⟨k, hk, rfl, hB, hS, hb⟩ := hrel
    have hB' := veil hB
    have hb' := veil hb
    clear hB hb
    by_cases hlt : k < s.size
    · obtain ⟨hsp, hgr⟩ := hS (by omega)
      have hcell := (hbuf'.out k (by rw [bytesOf_length]; exact hlt)).1
      have hba := bytes_at s k hlt
      have hgd : (bytesOf s).getD k 0 = bt s k := by rw [List.getD_eq_getElem?_getD, hba]; rfl
      rw [hgd] at hcell
      obtain ⟨c, hc⟩ : ∃ c, bt s k = c := ⟨_, rfl⟩
      have hr := bt_range s k
      have hsu := lowU_succ s k hlt
      rw [hc] at hcell hr hsu
      have hcw : wr.cell? ⟨w.heap.size + 1, k, none⟩ = some (.int .u8 c) := by
        have e : wr.cell? ⟨w.heap.size + 1, k, none⟩ = W1.cell? ⟨w.heap.size + 1, k, none⟩ := by unfold World.cell?; rw [hgr]
        rw [e]; exact hcell
      obtain ⟨hr0, hr1⟩ := hr
      have hl : (Lib.byteCells (lowU s k)).length + 1 ≤ 140737488355328 := by rw [Lib.byteCells_length, lowU_len s k (by omega)]; omega
      have hsu' := veil hsu
      have hsp'' := veil hsp
      have hgr' := veil hgr
      have k0 : (0 : Int) ≤ k := by omega
      have kn : (k : Int) < (s.size : Int) := by omega
      obtain ⟨d, hd⟩ : ∃ d, lowB c = d := ⟨_, rfl⟩
      have hd' := veil hd
      clear hsu hsp hgr hc hba hgd hcell hS
      by_cases h65 : 65 ≤ c
      · by_cases h90 : c ≤ 90
        · go_wp2_with fail
          rw [or_up c h65 h90]
          refine (Build.WriteByte_g w.heap.size w.heap.size (w.heap.size + 1) _ _ _ hB'.out hsp''.out hl hb'.out.size).mono ?_
          rintro e w1 ⟨rfl, hB1, hb1, hs1, hg1⟩
          rw [show c + 32 = lowB c from by unfold lowB; rw [if_pos ⟨h65, h90⟩], hsu'.out] at hB1
          have hB1' := veil hB1
          have hb1' := veil (hb'.out.trans hb1)
          have hg1' := veil (hg1.trans hgr'.out)
          have hs1' := veil hs1
          clear hB1 hb1 hs1 hg1
          go_wp2_with fail
          go_roundw
          case rel => exact ⟨k + 1, by omega, by go_num, Or.inr hB1'.out, fun _ => ⟨hs1'.out, hg1'.out⟩, hb1'.out⟩
          case measure => simp [intOf]; omega
        · go_wp2_with fail
          refine (Build.WriteByte_g w.heap.size w.heap.size (w.heap.size + 1) _ _ _ hB'.out hsp''.out hl hb'.out.size).mono ?_
          rintro e w1 ⟨rfl, hB1, hb1, hs1, hg1⟩
          rw [show c = lowB c from by unfold lowB; rw [if_neg (by omega)], hsu'.out] at hB1
          have hB1' := veil hB1
          have hb1' := veil (hb'.out.trans hb1)
          have hg1' := veil (hg1.trans hgr'.out)
          have hs1' := veil hs1
          clear hB1 hb1 hs1 hg1
          go_wp2_with fail
          go_roundw
          case rel => exact ⟨k + 1, by omega, by go_num, Or.inr hB1'.out, fun _ => ⟨hs1'.out, hg1'.out⟩, hb1'.out⟩
          case measure => simp [intOf]; omega
      · go_wp2_with fail
        refine (Build.WriteByte_g w.heap.size w.heap.size (w.heap.size + 1) _ _ _ hB'.out hsp''.out hl hb'.out.size).mono ?_
        rintro e w1 ⟨rfl, hB1, hb1, hs1, hg1⟩
        rw [show c = lowB c from by unfold lowB; rw [if_neg (by omega)], hsu'.out] at hB1
        have hB1' := veil hB1
        have hb1' := veil (hb'.out.trans hb1)
        have hg1' := veil (hg1.trans hgr'.out)
        have hs1' := veil hs1
        clear hB1 hb1 hs1 hg1
        go_wp2_with fail
        go_roundw
        case rel => exact ⟨k + 1, by omega, by go_num, Or.inr hB1'.out, fun _ => ⟨hs1'.out, hg1'.out⟩, hb1'.out⟩
        case measure => simp [intOf]; omega
    · obtain rfl : k = s.size := by omega
      have hstr := lowU_all s
      go_wp2_with fail
      refine (Tryz.Builder_String_any w.heap.size w.heap.size (lowU s s.size) _ hB'.out hb'.out.size).mono ?_
      rintro e w2 ⟨rfl, hb2⟩
      rw [hstr]
      have hb2' := veil (hb'.out.trans hb2)
      clear hb2
      go_wp2_with fail
      go_ret
      exact ⟨rfl, hb2'.out⟩
end Go.Proofs.Tryz.Ln
