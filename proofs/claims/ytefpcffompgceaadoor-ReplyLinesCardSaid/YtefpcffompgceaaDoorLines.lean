import Derived.Test.YtefpcffompgceaaDoorLaw5
import Derived.Deep.RegionHeld3
import Derived.IntWalk
/- The law of lines: its plain part, and its walk. -/
namespace Go.Proofs.Tryd.Ln
open Go Go.RowKit Go.Proofs.Mem Go.Proofs.App
open Go.Proofs.YtefpcffompgceaaDoorW.PrintWords
set_option linter.unusedVariables false

theorem bytesOf_append (a b : ByteArray) : bytesOf (a ++ b) = bytesOf a ++ bytesOf b := by
  simp [bytesOf, ByteArray.data_append]
theorem str_append (a b : List Int) : strOfNums (a ++ b) = strOfNums a ++ strOfNums b := by
  apply ByteArray.ext
  rw [ByteArray.data_append]
  simp [strOfNums]
theorem bytes_str (l : List Int) (h : Byt l) : bytesOf (strOfNums l) = l := by
  unfold bytesOf strOfNums
  rw [List.map_map]
  conv => rhs; rw [← List.map_id l]
  apply List.map_congr_left
  intro x hx
  have := h x hx
  simp
  omega
theorem byt_flat (s : ByteArray) : Byt ((bytesOf s).map flatB) := fun x hx => by
  obtain ⟨y, hy, rfl⟩ := List.mem_map.1 hx
  have := byt_bytes s y hy
  unfold flatB
  split
  · omega
  · split <;> omega
theorem line_cut (mark s : ByteArray) : lineL mark s = bytesOf mark ++ ((bytesOf s).map flatB ++ [13, 10]) := by
  rw [lineL, bytesOf_append, bytesOf_append, flatS, bytes_str _ (byt_flat s), List.append_assoc]
  rfl
/-- a line: a mark of one byte, the text on one line, the line's end -/
structure LineOf (L : List Int) (s : ByteArray) : Prop where
  len : L.length = s.size + 3
  cr : L.getD (s.size + 1) 0 = 13
  lf : L.getD (s.size + 2) 0 = 10
  mid : ∀ i, i < s.size → L.getD (i + 1) 0 = flatB (bt s i)
theorem lineOf (m : UInt8) (s : ByteArray) : LineOf (lineL ⟨#[m]⟩ s) s := by
  have e := line_cut ⟨#[m]⟩ s
  have h1 : bytesOf ⟨#[m]⟩ = [(m.toNat : Int)] := rfl
  rw [h1] at e
  have hl : (bytesOf s).length = s.size := bytesOf_length s
  refine ⟨by rw [lineL_len]; show 1 + _ + 2 = _; omega, ?_, ?_, fun i hi => ?_⟩
  · rw [e, List.getD_eq_getElem?_getD, List.singleton_append, List.getElem?_cons_succ, List.getElem?_append_right (by simp [hl])]
    simp [hl]
  · rw [e, List.getD_eq_getElem?_getD, List.singleton_append, List.getElem?_cons_succ, List.getElem?_append_right (by simp [hl])]
    simp [hl]
  · rw [e, List.getD_eq_getElem?_getD, List.singleton_append, List.getElem?_cons_succ, List.getElem?_append_left (by simp [hl, hi]), List.getElem?_map, bytes_at s i hi]
    rfl
theorem bulk_cut (s : ByteArray) (hs : s.size ≤ 100) : ∃ n, (bulkL s).length = n + s.size + 2 ∧ 3 ≤ n ∧ n ≤ 100 ∧ ((bulkL s).take (n + s.size)).drop n = bytesOf s := by
  have hz := numS_size s.size (by omega) (by omega)
  refine ⟨(lineL ⟨#[36]⟩ (numS s.size)).length, ?_, ?_, ?_, ?_⟩
  · rw [bulkL, List.length_append, bytesOf_length, ByteArray.size_append]
    show _ + (s.size + 2) = _
    omega
  · rw [lineL_len]; show 3 ≤ 1 + _ + 2; omega
  · rw [lineL_len]; show 1 + _ + 2 ≤ 100; omega
  · rw [bulkL, bytesOf_append, ← List.append_assoc, List.take_append_of_le_length (by rw [List.length_append, bytesOf_length]; omega), List.take_of_length_le (by rw [List.length_append, bytesOf_length]; omega), List.drop_left]
theorem texts_one (s : ByteArray) : strOfNums (textsL [s]) = ⟨#[42, 49, 13, 10]⟩ ++ strOfNums (bulkL s) := by
  have h : lineL ⟨#[42]⟩ (numS 1) = [42, 49, 13, 10] := by decide +kernel
  rw [textsL, arrL, str_append]
  show strOfNums (lineL ⟨#[42]⟩ (numS 1)) ++ _ = _
  rw [h]
  simp [bulks]
  rfl
set_option maxRecDepth 100000 in
set_option maxHeartbeats 8000000 in
theorem lines_any (s : ByteArray) (w : World) (_ : s.size ≤ 140737488351232) (hT : Tabl w) : Calls Tryd.prog 3 #[.string s] w fun e w' => e = .returned (.bool true) ∧ Below w.heap.size w w' := by
  obtain ⟨S, hS⟩ : ∃ S, shortS s = S := ⟨_, rfl⟩
  have hz : S.size ≤ 100 := by rw [← hS]; exact shortS_size s
  go_enter Tryd.func3, Tryd.ntmps3
  go_wp2_with fail
  refine (shown_any _ hT).mono ?_
  rintro e w1 ⟨rfl, hb1⟩
  have hb1' := veil hb1
  have hT1 := veil (tabl_below hT hb1)
  clear hb1
  go_wp2_with fail
  refine (short_any s _).mono ?_
  rintro e w2 ⟨rfl, rfl⟩
  rw [hS]
  clear hS
  go_wp2_with fail
  go_loopw [4] (fun i wr => ∃ k : Nat, k ≤ 2 ∧ i = .int .i64 k ∧ Tabl wr ∧ Below w.heap.size w wr) (fun i _ => 2 - (intOf i).toNat)
  case atStart => exact ⟨0, by omega, rfl, hT1.out, hb1'.out⟩
  case round =>
    obtain ⟨k, hk, rfl, hTr, hbr⟩ := hrel
    have hTr' := veil hTr
    have hbr' := veil hbr
    clear hTr hbr
    by_cases hlt : k < 2
    · obtain ⟨wq, rfl⟩ : ∃ wq : World, wq = wr := ⟨_, rfl⟩
      rcases (by omega : k = 0 ∨ k = 1) with rfl | rfl
      · go_wp2_with fail
        refine (Simple_any S _ (by omega)).mono ?_
        rintro e w3 ⟨A, c, rfl, hf, hb3⟩
        have hL := lineOf 43 S
        obtain ⟨L, hLe⟩ : ∃ L, lineL ⟨#[43]⟩ S = L := ⟨_, rfl⟩
        rw [hLe] at hf hL ⊢
        rw [hL.len] at hf ⊢
        have hT3 := veil (tabl_below hTr'.out hb3)
        have hB3 := veil (base_below hbr'.out hbr'.out.size hb3)
        obtain ⟨b, rfl, _, hbl, hc, _⟩ := hf.there (by have := hf.le; omega)
        have h13 := hc (S.size + 1) (by omega)
        rw [hL.cr] at h13
        have h10 := hc (S.size + 2) (by omega)
        rw [hL.lf] at h10
        have hmid : Veil (∀ j, j < S.size → w3.cell? ⟨b, j + 1, none⟩ = some (.int .u8 (flatB (bt S j)))) := veil fun j hj => by rw [hc (j + 1) (by omega), hL.mid j hj]
        clear hf hLe hL hc hb3
        go_wp2_with fail
        clear h13 h10
        go_loopw [6] (fun i wr => ∃ j : Nat, j ≤ S.size ∧ i = .int .i64 j ∧ wr = w3) (fun i _ => S.size - (intOf i).toNat)
        case atStart => exact ⟨0, by omega, rfl, rfl⟩
        case round =>
          obtain ⟨j, hj, rfl, rfl⟩ := hrel
          by_cases hjl : j < S.size
          · obtain ⟨x, hx⟩ : ∃ x, bt S j = x := ⟨_, rfl⟩
            have hcell := hmid.out j hjl
            rw [hx] at hcell
            have hcb : ∀ hh : j < S.size, ((S[j]'hh).toNat : Int) = x := fun hh => by
              rw [← hx, ← bt_at S (j : Int) (by simpa using hh)]
              simp
            have hrg := bt_range S j
            rw [hx] at hrg
            obtain ⟨hr0, hr1⟩ := hrg
            clear hx
            by_cases e13 : x = 13
            · subst e13
              have ef : flatB 13 = 32 := rfl
              rw [ef] at hcell
              clear ef
              go_wp2_with fail
              go_roundw
              case rel => exact ⟨j + 1, by omega, by go_num, trivial⟩
              case measure => simp [intOf]; omega
            · by_cases e10 : x = 10
              · subst e10
                have ef : flatB 10 = 32 := rfl
                rw [ef] at hcell
                clear ef
                go_wp2_with fail
                go_roundw
                case rel => exact ⟨j + 1, by omega, by go_num, trivial⟩
                case measure => simp [intOf]; omega
              · have ef : flatB x = x := by simp [flatB, e13, e10]
                rw [ef] at hcell
                have n13 : (x == 13) = false := by simpa using e13
                have n10 : (x == 10) = false := by simpa using e10
                clear ef e13 e10
                go_wp2_with fail
                go_roundw
                case rel => exact ⟨j + 1, by omega, by go_num, trivial⟩
                case measure => simp [intOf]; omega
          · obtain rfl : j = S.size := by omega
            go_wp2_with fail
            go_roundw
            case rel => exact ⟨1, by omega, by go_num, hT3.out, hB3.out⟩
            case measure => simp [intOf]
      · go_wp2_with fail
        refine (Simple_any S _ (by omega)).mono ?_
        rintro e w0 ⟨A0, c0, rfl, _, hb0⟩
        have hTr0 := veil (tabl_below hTr'.out hb0)
        have hbr0 := veil (base_below hbr'.out hbr'.out.size hb0)
        obtain ⟨m0, hm0⟩ : ∃ m, (lineL ⟨#[43]⟩ S).length = m := ⟨_, rfl⟩
        rw [hm0]
        clear hb0 hm0 hTr' hbr'
        go_wp2_with fail
        refine (Err_any S _ (by omega)).mono ?_
        rintro e w3 ⟨A, c, rfl, hf, hb3⟩
        have hL := lineOf 45 S
        obtain ⟨L, hLe⟩ : ∃ L, lineL ⟨#[45]⟩ S = L := ⟨_, rfl⟩
        rw [hLe] at hf hL ⊢
        rw [hL.len] at hf ⊢
        have hT3 := veil (tabl_below hTr0.out hb3)
        have hB3 := veil (base_below hbr0.out hbr0.out.size hb3)
        obtain ⟨b, rfl, _, hbl, hc, _⟩ := hf.there (by have := hf.le; omega)
        have h13 := hc (S.size + 1) (by omega)
        rw [hL.cr] at h13
        have h10 := hc (S.size + 2) (by omega)
        rw [hL.lf] at h10
        have hmid : Veil (∀ j, j < S.size → w3.cell? ⟨b, j + 1, none⟩ = some (.int .u8 (flatB (bt S j)))) := veil fun j hj => by rw [hc (j + 1) (by omega), hL.mid j hj]
        clear hf hLe hL hc hb3
        go_wp2_with fail
        clear h13 h10
        go_loopw [6] (fun i wr => ∃ j : Nat, j ≤ S.size ∧ i = .int .i64 j ∧ wr = w3) (fun i _ => S.size - (intOf i).toNat)
        case atStart => exact ⟨0, by omega, rfl, rfl⟩
        case round =>
          obtain ⟨j, hj, rfl, rfl⟩ := hrel
          by_cases hjl : j < S.size
          · obtain ⟨x, hx⟩ : ∃ x, bt S j = x := ⟨_, rfl⟩
            have hcell := hmid.out j hjl
            rw [hx] at hcell
            have hcb : ∀ hh : j < S.size, ((S[j]'hh).toNat : Int) = x := fun hh => by
              rw [← hx, ← bt_at S (j : Int) (by simpa using hh)]
              simp
            have hrg := bt_range S j
            rw [hx] at hrg
            obtain ⟨hr0, hr1⟩ := hrg
            clear hx
            by_cases e13 : x = 13
            · subst e13
              have ef : flatB 13 = 32 := rfl
              rw [ef] at hcell
              clear ef
              go_wp2_with fail
              go_roundw
              case rel => exact ⟨j + 1, by omega, by go_num, trivial⟩
              case measure => simp [intOf]; omega
            · by_cases e10 : x = 10
              · subst e10
                have ef : flatB 10 = 32 := rfl
                rw [ef] at hcell
                clear ef
                go_wp2_with fail
                go_roundw
                case rel => exact ⟨j + 1, by omega, by go_num, trivial⟩
                case measure => simp [intOf]; omega
              · have ef : flatB x = x := by simp [flatB, e13, e10]
                rw [ef] at hcell
                have n13 : (x == 13) = false := by simpa using e13
                have n10 : (x == 10) = false := by simpa using e10
                clear ef e13 e10
                go_wp2_with fail
                go_roundw
                case rel => exact ⟨j + 1, by omega, by go_num, trivial⟩
                case measure => simp [intOf]; omega
          · obtain rfl : j = S.size := by omega
            go_wp2_with fail
            go_roundw
            case rel => exact ⟨2, by omega, by go_num, hT3.out, hB3.out⟩
            case measure => simp [intOf]
    · obtain rfl : k = 2 := by omega
      obtain ⟨wp, rfl⟩ : ∃ wp : World, wp = wr := ⟨_, rfl⟩
      go_wp2_with fail
      refine (Bulk_any S _ (by omega) hTr'.out).mono ?_
      rintro e w3 ⟨A, c, rfl, hf, hb3⟩
      obtain ⟨n, hn, n3, n100, hcut⟩ := bulk_cut S hz
      have hr := hf.reads (bulkL_len S (by omega))
      have hle := hf.le
      have hT3 := tabl_below hTr'.out hb3
      have hB3 := veil (base_below hbr'.out hbr'.out.size hb3)
      have htx := texts_one S
      have htl : (textsL [S]).length ≤ 9223372036854775807 := by
        rw [textsL, arrL, List.length_append]
        show (lineL ⟨#[42]⟩ (numS 1)).length + _ ≤ _
        have h : (lineL ⟨#[42]⟩ (numS 1)).length = 4 := by decide +kernel
        rw [h]
        simp [bulks]
        omega
      have hfl : (bulks [S]).flatten.length ≤ 70368744177664 := by
        simp [bulks]
        omega
      have hss : ∀ s ∈ [S], s.size ≤ 70368744177664 := fun s hs => by
        rw [List.mem_singleton.1 hs]; omega
      obtain ⟨q, hq⟩ : ∃ q, n + S.size = q := ⟨_, rfl⟩
      obtain ⟨m, hm⟩ : ∃ m, (bulkL S).length = m := ⟨_, rfl⟩
      have HM := print_mid_int (P := Tryd.prog) (k := .u8) 24 5 Tryd.underlying24 (info_parts info5).choose_spec.1 (info_parts info5).choose_spec.2.2.1 A c (bulkL S) (n : Int) (q : Int) (by omega) (by omega) (by omega) hle
      rw [Int.toNat_natCast, Int.toNat_natCast, ← hq, hcut, bytesOf_length, hq, hm] at HM
      obtain ⟨A1, hsl, hrd, _⟩ := HM
      rw [hm] at hr hn hle ⊢
      obtain ⟨W0, hW0⟩ : ∃ W0, w3.drew.alloc (.cells #[.string S] 9) = W0 := ⟨_, rfl⟩
      have hd : Below w3.heap.size w3 w3.drew := pw_below_drewN (Below.refl w3.heap.size w3) 1
      have hW : Below w3.heap.size w3 W0 := by rw [← hW0]; exact below_alloc hd _
      have hRT : ReadsOf Value.string ByteArray.empty W0 (some ⟨w3.heap.size, 0, none⟩) 1 [S] := by
        refine ⟨rfl, by omega, fun _ => ⟨_, rfl, fun j hj => ?_⟩⟩
        obtain rfl : j = 0 := by omega
        rw [← hW0]
        exact cell_of_row _ _ _ _ _ _ (heap_alloc_last w3.drew _)
      have sm := str_of (c := c - n) (hrd _ (hr.below hd))
      rw [str_bytes] at sm
      have sm1 := str_of (c := c - n) (hrd _ (hr.below hW))
      rw [str_bytes] at sm1
      have hmW := veil (hrd _ (hr.below hW))
      obtain ⟨B, hBs⟩ : ∃ B, strOfNums (bulkL S) = B := ⟨_, rfl⟩
      have hBl : B.size = m := by rw [← hBs, ← hm]; simp [strOfNums, ByteArray.size]
      have s0 := str_of (c := c) (hr.below hd)
      have s1 := str_of (c := c) (hr.below hW)
      rw [hBs] at s0 s1 htx
      have s1 := veil s1
      have hBs := veil hBs
      have hrW := veil (hr.below hW)
      have hTW := veil (tabl_below hT3 hW)
      have hBW := veil (base_below hB3.out hB3.out.size hW)
      have hRT' := veil hRT
      have htx := veil htx
      have z : ¬ 9223372036854775807 < 4 + B.size := by omega
      have z2 : ¬ 9223372036854775807 < 4 + m := by omega
      have k1 : IntKind.i64.wrap ((m : Int) - 2) = (q : Int) := by rw [IntWalk.i64_in _ (by omega)]; omega
      have k2 : IntKind.i64.wrap ((q : Int) - (S.size : Int)) = (n : Int) := by rw [IntWalk.i64_in _ (by omega)]; omega
      have k3 : IntKind.i64.wrap ((S.size : Int) + 4) = (S.size : Int) + 4 := by rw [IntWalk.i64_in _ (by omega)]
      have k4 : (S.size : Int) + 4 < m := by omega
      clear hf hb3 hcut hr hrd hd hW hRT hT3 hq hm hn n3 n100
      go_upto_region 18 with fail
      subst hW0
      have sm1 := veil sm1
      refine wp_region_noPanic ?_
      refine wp_region_held_drew (S := (fun w' : World => (convert 24 9 (.slice A1 S.size (c - n))).run Tryd.prog w' = .ok (.string S) w' ∧ (convert 24 9 (.slice A m c)).run Tryd.prog w' = .ok (.string B) w')) (by kernel_rfl) ⟨sm, s0⟩ (fun hHeld => ?_)
      refine wpAnyH_take (i := 0) (oi := ⟨some 88, Op.move (Operand.tmp 3), 4, _, _, none⟩) (v := ?_) rfl (by kernel_rfl) (by kernel_rfl) (by kernel_rfl) (fun _ _ _ h => h) (Or.inl ⟨by rfl, ?_⟩) hHeld ?_
      rotate_left
      · intro w hSw
        (try dsimp only at hSw)
        (first | (go_simp; done) | (go_simp; with_reducible rfl))
      (try simp only [Act.put, List.setIfInBounds_toArray, List.set_cons_zero, List.set_cons_succ])
      refine wpAnyH_take (i := 1) (oi := ⟨some 89, Op.move (Operand.tmp 88), 4, _, _, none⟩) (v := ?_) rfl (by kernel_rfl) (by kernel_rfl) (by kernel_rfl) (fun _ _ _ h => h) (Or.inl ⟨by rfl, ?_⟩) hHeld ?_
      rotate_left
      · intro w hSw
        (try dsimp only at hSw)
        (first | (go_simp; done) | (go_simp; with_reducible rfl))
      (try simp only [Act.put, List.setIfInBounds_toArray, List.set_cons_zero, List.set_cons_succ])
      refine wpAnyH_take (i := 2) (oi := ⟨some 90, Op.move (Operand.tmp 8), 24, _, _, some (1, true)⟩) (v := ?_) rfl (by kernel_rfl) (by kernel_rfl) (by kernel_rfl) (fun _ _ _ h => h) (Or.inl ⟨by rfl, ?_⟩) hHeld ?_
      rotate_left
      · intro w hSw
        (try dsimp only at hSw)
        (first | (go_simp; done) | (go_simp; with_reducible rfl))
      (try simp only [Act.put, List.setIfInBounds_toArray, List.set_cons_zero, List.set_cons_succ])
      refine wpAnyH_take (i := 3) (oi := ⟨some 91, Op.call { callee := Callee.builtin Builtin.len, args := #[Operand.tmp 90], argTypes := #[24] }, 3, _, _, some (1, true)⟩) (v := ?_) rfl (by kernel_rfl) (by kernel_rfl) (by kernel_rfl) (fun _ _ _ h => h) (Or.inl ⟨by rfl, ?_⟩) hHeld ?_
      rotate_left
      · intro w hSw
        (try dsimp only at hSw)
        (first | (go_simp; done) | (go_simp; with_reducible rfl))
      (try simp only [Act.put, List.setIfInBounds_toArray, List.set_cons_zero, List.set_cons_succ])
      refine wpAnyH_take (i := 4) (oi := ⟨some 92, Op.move (Operand.tmp 0), 9, _, _, some (1, true)⟩) (v := ?_) rfl (by kernel_rfl) (by kernel_rfl) (by kernel_rfl) (fun _ _ _ h => h) (Or.inl ⟨by rfl, ?_⟩) hHeld ?_
      rotate_left
      · intro w hSw
        (try dsimp only at hSw)
        (first | (go_simp; done) | (go_simp; with_reducible rfl))
      (try simp only [Act.put, List.setIfInBounds_toArray, List.set_cons_zero, List.set_cons_succ])
      refine wpAnyH_take (i := 5) (oi := ⟨some 93, Op.call { callee := Callee.builtin Builtin.len, args := #[Operand.tmp 92], argTypes := #[9] }, 3, _, _, some (1, true)⟩) (v := ?_) rfl (by kernel_rfl) (by kernel_rfl) (by kernel_rfl) (fun _ _ _ h => h) (Or.inl ⟨by rfl, ?_⟩) hHeld ?_
      rotate_left
      · intro w hSw
        (try dsimp only at hSw)
        (first | (go_simp; done) | (go_simp; with_reducible rfl))
      (try simp only [Act.put, List.setIfInBounds_toArray, List.set_cons_zero, List.set_cons_succ])
      refine wpAnyH_take (i := 6) (oi := ⟨some 94, Op.binOp BinOp.add 3 (Operand.tmp 93) (Operand.const (Value.int IntKind.i64 4)) 3, 3, _, _, some (1, true)⟩) (v := ?_) rfl (by kernel_rfl) (by kernel_rfl) (by kernel_rfl) (fun _ _ _ h => h) (Or.inl ⟨by rfl, ?_⟩) hHeld ?_
      rotate_left
      · intro w hSw
        (try dsimp only at hSw)
        (first | (go_simp; done) | (go_simp; with_reducible rfl))
      (try simp only [Act.put, List.setIfInBounds_toArray, List.set_cons_zero, List.set_cons_succ])
      refine wpAnyH_take (i := 7) (oi := ⟨some 95, Op.binOp BinOp.gtr 3 (Operand.tmp 91) (Operand.tmp 94) 3, 4, _, _, some (1, true)⟩) (v := ?_) rfl (by kernel_rfl) (by kernel_rfl) (by kernel_rfl) (fun _ _ _ h => h) (Or.inl ⟨by rfl, ?_⟩) hHeld ?_
      rotate_left
      · intro w hSw
        (try dsimp only at hSw)
        (first | (go_simp; done) | (go_simp; with_reducible rfl))
      (try simp only [Act.put, List.setIfInBounds_toArray, List.set_cons_zero, List.set_cons_succ])
      refine wpAnyH_take (i := 8) (oi := ⟨some 96, Op.pick (Operand.tmp 89) (Operand.tmp 95) (Operand.const (Value.bool false)), 4, _, _, none⟩) (v := ?_) rfl (by kernel_rfl) (by kernel_rfl) (by kernel_rfl) (fun _ _ _ h => h) (Or.inl ⟨by rfl, ?_⟩) hHeld ?_
      rotate_left
      · intro w hSw
        (try dsimp only at hSw)
        (first | (go_simp; done) | (go_simp; with_reducible rfl))
      (try simp only [Act.put, List.setIfInBounds_toArray, List.set_cons_zero, List.set_cons_succ])
      refine wpAnyH_take (i := 9) (oi := ⟨some 97, Op.move (Operand.tmp 96), 4, _, _, none⟩) (v := ?_) rfl (by kernel_rfl) (by kernel_rfl) (by kernel_rfl) (fun _ _ _ h => h) (Or.inl ⟨by rfl, ?_⟩) hHeld ?_
      rotate_left
      · intro w hSw
        (try dsimp only at hSw)
        (first | (go_simp; done) | (go_simp; with_reducible rfl))
      (try simp only [Act.put, List.setIfInBounds_toArray, List.set_cons_zero, List.set_cons_succ])
      refine wpAnyH_take (i := 10) (oi := ⟨some 98, Op.move (Operand.tmp 8), 24, _, _, some (9, true)⟩) (v := ?_) rfl (by kernel_rfl) (by kernel_rfl) (by kernel_rfl) (fun _ _ _ h => h) (Or.inl ⟨by rfl, ?_⟩) hHeld ?_
      rotate_left
      · intro w hSw
        (try dsimp only at hSw)
        (first | (go_simp; done) | (go_simp; with_reducible rfl))
      (try simp only [Act.put, List.setIfInBounds_toArray, List.set_cons_zero, List.set_cons_succ])
      refine wpAnyH_take (i := 11) (oi := ⟨some 99, Op.move (Operand.tmp 8), 24, _, _, some (9, true)⟩) (v := ?_) rfl (by kernel_rfl) (by kernel_rfl) (by kernel_rfl) (fun _ _ _ h => h) (Or.inl ⟨by rfl, ?_⟩) hHeld ?_
      rotate_left
      · intro w hSw
        (try dsimp only at hSw)
        (first | (go_simp; done) | (go_simp; with_reducible rfl))
      (try simp only [Act.put, List.setIfInBounds_toArray, List.set_cons_zero, List.set_cons_succ])
      refine wpAnyH_take (i := 12) (oi := ⟨some 100, Op.call { callee := Callee.builtin Builtin.len, args := #[Operand.tmp 99], argTypes := #[24] }, 3, _, _, some (9, true)⟩) (v := ?_) rfl (by kernel_rfl) (by kernel_rfl) (by kernel_rfl) (fun _ _ _ h => h) (Or.inl ⟨by rfl, ?_⟩) hHeld ?_
      rotate_left
      · intro w hSw
        (try dsimp only at hSw)
        (first | (go_simp; done) | (go_simp; with_reducible rfl))
      (try simp only [Act.put, List.setIfInBounds_toArray, List.set_cons_zero, List.set_cons_succ])
      refine wpAnyH_take (i := 13) (oi := ⟨some 101, Op.binOp BinOp.sub 3 (Operand.tmp 100) (Operand.const (Value.int IntKind.i64 2)) 3, 3, _, _, some (9, true)⟩) (v := ?_) rfl (by kernel_rfl) (by kernel_rfl) (by kernel_rfl) (fun _ _ _ h => h) (Or.inl ⟨by rfl, ?_⟩) hHeld ?_
      rotate_left
      · intro w hSw
        (try dsimp only at hSw)
        (first | (go_simp; done) | (go_simp; with_reducible rfl))
      (try simp only [Act.put, List.setIfInBounds_toArray, List.set_cons_zero, List.set_cons_succ])
      refine wpAnyH_take (i := 14) (oi := ⟨some 102, Op.move (Operand.tmp 0), 9, _, _, some (9, true)⟩) (v := ?_) rfl (by kernel_rfl) (by kernel_rfl) (by kernel_rfl) (fun _ _ _ h => h) (Or.inl ⟨by rfl, ?_⟩) hHeld ?_
      rotate_left
      · intro w hSw
        (try dsimp only at hSw)
        (first | (go_simp; done) | (go_simp; with_reducible rfl))
      (try simp only [Act.put, List.setIfInBounds_toArray, List.set_cons_zero, List.set_cons_succ])
      refine wpAnyH_take (i := 15) (oi := ⟨some 103, Op.call { callee := Callee.builtin Builtin.len, args := #[Operand.tmp 102], argTypes := #[9] }, 3, _, _, some (9, true)⟩) (v := ?_) rfl (by kernel_rfl) (by kernel_rfl) (by kernel_rfl) (fun _ _ _ h => h) (Or.inl ⟨by rfl, ?_⟩) hHeld ?_
      rotate_left
      · intro w hSw
        (try dsimp only at hSw)
        (first | (go_simp; done) | (go_simp; with_reducible rfl))
      (try simp only [Act.put, List.setIfInBounds_toArray, List.set_cons_zero, List.set_cons_succ])
      refine wpAnyH_take (i := 16) (oi := ⟨some 104, Op.binOp BinOp.sub 3 (Operand.tmp 101) (Operand.tmp 103) 3, 3, _, _, some (9, true)⟩) (v := ?_) rfl (by kernel_rfl) (by kernel_rfl) (by kernel_rfl) (fun _ _ _ h => h) (Or.inl ⟨by rfl, ?_⟩) hHeld ?_
      rotate_left
      · intro w hSw
        (try dsimp only at hSw)
        (first | (go_simp; done) | (go_simp; with_reducible rfl))
      (try simp only [Act.put, List.setIfInBounds_toArray, List.set_cons_zero, List.set_cons_succ])
      refine wpAnyH_take (i := 17) (oi := ⟨some 105, Op.move (Operand.tmp 8), 24, _, _, some (9, true)⟩) (v := ?_) rfl (by kernel_rfl) (by kernel_rfl) (by kernel_rfl) (fun _ _ _ h => h) (Or.inl ⟨by rfl, ?_⟩) hHeld ?_
      rotate_left
      · intro w hSw
        (try dsimp only at hSw)
        (first | (go_simp; done) | (go_simp; with_reducible rfl))
      (try simp only [Act.put, List.setIfInBounds_toArray, List.set_cons_zero, List.set_cons_succ])
      refine wpAnyH_take (i := 18) (oi := ⟨some 106, Op.call { callee := Callee.builtin Builtin.len, args := #[Operand.tmp 105], argTypes := #[24] }, 3, _, _, some (9, true)⟩) (v := ?_) rfl (by kernel_rfl) (by kernel_rfl) (by kernel_rfl) (fun _ _ _ h => h) (Or.inl ⟨by rfl, ?_⟩) hHeld ?_
      rotate_left
      · intro w hSw
        (try dsimp only at hSw)
        (first | (go_simp; done) | (go_simp; with_reducible rfl))
      (try simp only [Act.put, List.setIfInBounds_toArray, List.set_cons_zero, List.set_cons_succ])
      refine wpAnyH_take (i := 19) (oi := ⟨some 107, Op.binOp BinOp.sub 3 (Operand.tmp 106) (Operand.const (Value.int IntKind.i64 2)) 3, 3, _, _, some (9, true)⟩) (v := ?_) rfl (by kernel_rfl) (by kernel_rfl) (by kernel_rfl) (fun _ _ _ h => h) (Or.inl ⟨by rfl, ?_⟩) hHeld ?_
      rotate_left
      · intro w hSw
        (try dsimp only at hSw)
        (first | (go_simp; done) | (go_simp; with_reducible rfl))
      (try simp only [Act.put, List.setIfInBounds_toArray, List.set_cons_zero, List.set_cons_succ])
      refine wpAnyH_take (i := 20) (oi := ⟨some 108, Op.slice 24 (Operand.tmp 98) (some (Operand.tmp 104)) (some (Operand.tmp 107)) none, 24, _, _, some (9, true)⟩) (v := ?_) rfl (by kernel_rfl) (by kernel_rfl) (by kernel_rfl) (fun _ _ _ h => h) (Or.inl ⟨by rfl, ?_⟩) hHeld ?_
      rotate_left
      · intro w hSw
        (try dsimp only at hSw)
        (first | (go_simp; done) | (go_simp; with_reducible rfl))
      (try simp only [Act.put, List.setIfInBounds_toArray, List.set_cons_zero, List.set_cons_succ])
      refine wpAnyH_take (i := 21) (oi := ⟨some 109, Op.convert 24 9 (Operand.tmp 108), 9, _, _, some (9, true)⟩) (v := ?_) rfl (by kernel_rfl) (by kernel_rfl) (by kernel_rfl) (fun _ _ _ h => h) (Or.inl ⟨by rfl, ?_⟩) hHeld ?_
      rotate_left
      · intro w hSw
        (try dsimp only at hSw)
        (first | (go_simp; done) | (go_simp; with_reducible rfl))
      (try simp only [Act.put, List.setIfInBounds_toArray, List.set_cons_zero, List.set_cons_succ])
      refine wpAnyH_take (i := 22) (oi := ⟨some 110, Op.move (Operand.tmp 0), 9, _, _, some (9, true)⟩) (v := ?_) rfl (by kernel_rfl) (by kernel_rfl) (by kernel_rfl) (fun _ _ _ h => h) (Or.inl ⟨by rfl, ?_⟩) hHeld ?_
      rotate_left
      · intro w hSw
        (try dsimp only at hSw)
        (first | (go_simp; done) | (go_simp; with_reducible rfl))
      (try simp only [Act.put, List.setIfInBounds_toArray, List.set_cons_zero, List.set_cons_succ])
      refine wpAnyH_take (i := 23) (oi := ⟨some 111, Op.binOp BinOp.eql 9 (Operand.tmp 109) (Operand.tmp 110) 9, 4, _, _, some (9, true)⟩) (v := ?_) rfl (by kernel_rfl) (by kernel_rfl) (by kernel_rfl) (fun _ _ _ h => h) (Or.inl ⟨by rfl, ?_⟩) hHeld ?_
      rotate_left
      · intro w hSw
        (try dsimp only at hSw)
        (first | (go_simp; done) | (go_simp; with_reducible rfl))
      (try simp only [Act.put, List.setIfInBounds_toArray, List.set_cons_zero, List.set_cons_succ])
      refine wpAnyH_take (i := 24) (oi := ⟨some 112, Op.pick (Operand.tmp 97) (Operand.tmp 111) (Operand.const (Value.bool false)), 4, _, _, none⟩) (v := ?_) rfl (by kernel_rfl) (by kernel_rfl) (by kernel_rfl) (fun _ _ _ h => h) (Or.inl ⟨by rfl, ?_⟩) hHeld ?_
      rotate_left
      · intro w hSw
        (try dsimp only at hSw)
        (first | (go_simp; done) | (go_simp; with_reducible rfl))
      (try simp only [Act.put, List.setIfInBounds_toArray, List.set_cons_zero, List.set_cons_succ])
      refine wpAnyH_take (i := 25) (oi := ⟨some 113, Op.move (Operand.tmp 112), 4, _, _, none⟩) (v := ?_) rfl (by kernel_rfl) (by kernel_rfl) (by kernel_rfl) (fun _ _ _ h => h) (Or.inl ⟨by rfl, ?_⟩) hHeld ?_
      rotate_left
      · intro w hSw
        (try dsimp only at hSw)
        (first | (go_simp; done) | (go_simp; with_reducible rfl))
      (try simp only [Act.put, List.setIfInBounds_toArray, List.set_cons_zero, List.set_cons_succ])
      refine wpAnyH_take (i := 26) (oi := ⟨some 114, Op.move (Operand.tmp 0), 9, _, _, some (25, true)⟩) (v := ?_) rfl (by kernel_rfl) (by kernel_rfl) (by kernel_rfl) (fun _ _ _ h => h) (Or.inl ⟨by rfl, ?_⟩) hHeld ?_
      rotate_left
      · intro w hSw
        (try dsimp only at hSw)
        (first | (go_simp; done) | (go_simp; with_reducible rfl))
      (try simp only [Act.put, List.setIfInBounds_toArray, List.set_cons_zero, List.set_cons_succ])
      refine wpAnyH_take (i := 30) (oi := ⟨some 118, Op.move (Operand.tmp 8), 24, _, _, some (25, true)⟩) (v := ?_) rfl (by kernel_rfl) (by kernel_rfl) (by kernel_rfl) (fun _ _ _ h => h) (Or.inl ⟨by rfl, ?_⟩) hHeld ?_
      rotate_left
      · intro w hSw
        (try dsimp only at hSw)
        (first | (go_simp; done) | (go_simp; with_reducible rfl))
      (try simp only [Act.put, List.setIfInBounds_toArray, List.set_cons_zero, List.set_cons_succ])
      refine wpAnyH_take (i := 31) (oi := ⟨some 119, Op.convert 24 9 (Operand.tmp 118), 9, _, _, some (25, true)⟩) (v := ?_) rfl (by kernel_rfl) (by kernel_rfl) (by kernel_rfl) (fun _ _ _ h => h) (Or.inl ⟨by rfl, ?_⟩) hHeld ?_
      rotate_left
      · intro w hSw
        (try dsimp only at hSw)
        (first | (go_simp; done) | (go_simp; with_reducible rfl))
      (try simp only [Act.put, List.setIfInBounds_toArray, List.set_cons_zero, List.set_cons_succ])
      refine wpAnyH_take (i := 32) (oi := ⟨some 120, Op.binOp BinOp.add 9 (Operand.const (Value.string { data := #[42, 49, 13, 10] })) (Operand.tmp 119) 9, 9, _, _, some (25, true)⟩) (v := ?_) rfl (by kernel_rfl) (by kernel_rfl) (by kernel_rfl) (fun _ _ _ h => h) (Or.inl ⟨by rfl, ?_⟩) hHeld ?_
      rotate_left
      · intro w hSw
        (try dsimp only at hSw)
        (first | (go_simp; done) | (go_simp; with_reducible rfl))
      (try simp only [Act.put, List.setIfInBounds_toArray, List.set_cons_zero, List.set_cons_succ])
      refine wpAnyH_ready (rs := [27]) (by kernel_rfl) (by simp) ?_
      refine AllReadyH.cons (o := ⟨some 115, Op.buildSlice 33 1 #[(0, Operand.tmp 114)], 33, _, _, some (25, true)⟩) rfl (fun K hK => ?_) ?_
      rotate_left
      · exact AllReadyH.nil
      go_simp
      refine hK.out _ _ ?_ (fun hHeld => ?_)
      · exact ⟨sm1.out, s1.out⟩
      clear hK K
      (try simp only [Act.put, List.setIfInBounds_toArray, List.set_cons_zero, List.set_cons_succ])
      refine wpAnyH_ready (rs := [28]) (by kernel_rfl) (by simp) ?_
      refine AllReadyH.cons (o := ⟨some 116, Op.call { callee := Callee.value (Operand.func 9), args := #[Operand.tmp 115], argTypes := #[33] }, 24, _, _, some (25, true)⟩) rfl (fun K hK => ?_) ?_
      rotate_left
      · exact AllReadyH.nil
      go_simp
      go_at_call 9
      refine (Texts_any _ 1 1 [S] _ hRT'.out (Nat.le_refl _) (by omega) hss hfl hTW.out).mono ?_
      rintro e w4 ⟨A4, c4, rfl, hf4, hb4⟩
      have st4 := str_of (c := c4) (hf4.reads htl)
      rw [htx.out] at st4
      have s4 := veil (str_of (c := c) (hrW.out.below hb4))
      rw [hBs.out] at s4
      have sm4 := veil (str_of (c := c - n) (hmW.out.below hb4))
      rw [str_bytes] at sm4
      have hB4 := veil (base_below hBW.out hBW.out.size hb4)
      (try go_wp2_with fail)
      refine hK.out _ _ ?_ (fun hHeld => ?_)
      · exact ⟨sm4.out, s4.out⟩
      clear hK K
      (try simp only [Act.put, List.setIfInBounds_toArray, List.set_cons_zero, List.set_cons_succ])
      refine wpAnyH_ready (rs := [29]) (by kernel_rfl) (by simp) ?_
      refine AllReadyH.cons (o := ⟨some 117, Op.convert 24 9 (Operand.tmp 116), 9, _, _, some (25, true)⟩) rfl (fun K hK => ?_) ?_
      rotate_left
      · exact AllReadyH.nil
      go_simp
      refine hK.out _ _ ?_ (fun hHeld => ?_)
      · exact ⟨sm4.out, s4.out⟩
      clear hK K
      (try simp only [Act.put, List.setIfInBounds_toArray, List.set_cons_zero, List.set_cons_succ])
      refine wpAnyH_take (i := 33) (oi := ⟨some 121, Op.binOp BinOp.eql 9 (Operand.tmp 117) (Operand.tmp 120) 9, 4, _, _, some (25, true)⟩) (v := ?_) rfl (by kernel_rfl) (by kernel_rfl) (by kernel_rfl) (fun _ _ _ h => h) (Or.inl ⟨by rfl, ?_⟩) hHeld ?_
      rotate_left
      · intro w hSw
        (try dsimp only at hSw)
        (first | (go_simp; done) | (go_simp; with_reducible rfl))
      (try simp only [Act.put, List.setIfInBounds_toArray, List.set_cons_zero, List.set_cons_succ])
      refine wpAnyH_take (i := 34) (oi := ⟨some 122, Op.pick (Operand.tmp 113) (Operand.tmp 121) (Operand.const (Value.bool false)), 4, _, _, none⟩) (v := ?_) rfl (by kernel_rfl) (by kernel_rfl) (by kernel_rfl) (fun _ _ _ h => h) (Or.inl ⟨by rfl, ?_⟩) hHeld ?_
      rotate_left
      · intro w hSw
        (try dsimp only at hSw)
        (first | (go_simp; done) | (go_simp; with_reducible rfl))
      (try simp only [Act.put, List.setIfInBounds_toArray, List.set_cons_zero, List.set_cons_succ])
      refine wpAnyH_take (i := 35) (oi := ⟨some 2, Op.assign (Operand.tmp 122), 4, _, _, none⟩) (v := ?_) rfl (by kernel_rfl) (by kernel_rfl) (by kernel_rfl) (fun _ _ _ h => h) (Or.inl ⟨by rfl, ?_⟩) hHeld ?_
      rotate_left
      · intro w hSw
        (try dsimp only at hSw)
        (first | (go_simp; done) | (go_simp; with_reducible rfl))
      (try simp only [Act.put, List.setIfInBounds_toArray, List.set_cons_zero, List.set_cons_succ])
      refine wpAnyH_done (by kernel_rfl) ?_ _
      refine NoPanic.normal ?_
      go_wp2_with fail
      go_ret
      exact ⟨rfl, hB4.out⟩
end Go.Proofs.Tryd.Ln
