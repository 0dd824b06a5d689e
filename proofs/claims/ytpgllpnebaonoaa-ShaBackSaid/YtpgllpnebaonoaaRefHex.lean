import Derived.Test.YtpgllpnebaonoaaUnhex
import Derived.Deep.AppendLies
import Derived.Deep.RegionHeld3
/- What the reference's Hex and Unhex tell. -/
namespace Go.Proofs.Sha
open Go Go.RowKit Hex2 Mem QTail
open Go.Proofs.YtpgllpnebaonoaaW.PrintWords
set_option linter.unusedVariables false

/-- digits as numbers -/
def hexI (xs : List Int) : List Int := (hexU xs).map fun u => (u.toNat : Int)
theorem hexI_str (xs : List Int) : strOfNums (hexI xs) = ⟨(hexU xs).toArray⟩ := by
  unfold strOfNums hexI
  rw [List.map_map]
  congr 2
  conv => rhs; rw [← List.map_id (hexU xs)]
  apply List.map_congr_left
  intro u _
  simp
theorem hexI_snoc (xs : List Int) (k : Nat) (h : k < xs.length) (x : Int) (hxe : rd xs k = x) : hexI (xs.take k) ++ [((hx (x / 16)).toNat : Int), ((hx (x % 16)).toNat : Int)] = hexI (xs.take (k + 1)) := by
  have : xs[k] = x := by rw [← hxe]; simp [rd, List.getD_eq_getElem?_getD, h]
  rw [List.take_succ_eq_append_getElem h, hexI, hexI, hexU_snoc, this]
  simp
theorem hexI_len (xs : List Int) : (hexI xs).length = 2 * xs.length := by rw [hexI, List.length_map, hexU_length]
theorem lit2_reads (W : World) (e : TypeId) (x y : Int) : ReadsInt (W.alloc (.cells #[.int .u8 x, .int .u8 y] e)) .u8 (some ⟨W.heap.size, 0, none⟩) 2 [x, y] := by
  refine ⟨rfl, by omega, fun _ => ⟨_, rfl, fun j hj => ?_⟩⟩
  rw [add_plain, cell_of_row _ _ _ _ _ _ (heap_alloc_last W _)]
  obtain rfl | rfl : j = 0 ∨ j = 1 := by omega
  all_goals rfl
set_option maxHeartbeats 2000000 in
theorem rhex_any (A : Option Addr) (n c : Nat) (xs : List Int) (w : World) (hn : n ≤ 300) (hc : n ≤ c) (HR : ReadsInt w .u8 A n xs) (hx : Bytes xs) :
    Calls Try.prog 15 #[.slice A n c] w fun e w' => e = .returned (.string ⟨(hexU xs).toArray⟩) ∧ Below w.heap.size w w' := by
  have HR' := veil HR
  have hx' := veil hx
  have hlen := veil HR.1
  clear HR hx
  have hown0 : Veil ((w.alloc (.cells #[] 5)).ownsRow w.heap.size 5 1 (.slice (some ⟨w.heap.size, 0, none⟩) 0 0) 0 (nums .u8 [])) := veil (own_lit w w.heap.size 5 .u8 [] (Nat.le_refl _) (by simp))
  obtain ⟨i0, hi0, hzz⟩ := Option.map_eq_some_iff.1 info5
  simp only [Prod.mk.injEq] at hzz
  obtain ⟨hz0, hz1, hz2⟩ := hzz
  have hb0 := veil (below_alloc (Below.refl w.heap.size w) (.cells #[] 5))
  go_enter Try.func15, Try.ntmps15
  go_wp2_with fail
  go_loopw [4, 5] (fun v i wr => ∃ k : Nat, k ≤ n ∧ i = .int .i64 k ∧ wr.ownsRow w.heap.size 5 1 v (hexI (xs.take k)).length (nums .u8 (hexI (xs.take k))) ∧ Below w.heap.size w wr) (fun _ i _ => n - (intOf i).toNat)
  case atStart => exact ⟨0, by omega, rfl, hown0.out, hb0.out⟩
  case round =>
    obtain ⟨k, hk, rfl, hown, hb⟩ := hrel
    have hown' := veil hown
    have hb' := veil hb
    clear hown hb
    by_cases hlt0 : k < n
    · obtain ⟨ad, rfl, hc0⟩ := HR'.out.at_ k (by omega) (by omega)
      rw [Int.toNat_natCast] at hc0
      have hcell := pw_cell_below hb'.out hc0
      obtain ⟨x, hxx⟩ : ∃ x, rd xs k = x := ⟨_, rfl⟩
      rw [hxx] at hcell hc0
      have hr := hx'.out x (by rw [← hxx]; unfold rd; rw [Int.toNat_natCast, List.getD_eq_getElem?_getD, List.getElem?_eq_getElem (by rw [hlen.out]; exact hlt0)]; simp)
      have hxx' := veil hxx
      clear hxx
      obtain ⟨hr0, hr1⟩ := hr
      have q0 : 0 ≤ x / 16 := by omega
      have q1 : x / 16 < 16 := by omega
      have q2 : 0 ≤ x % 16 := by omega
      have q3 : x % 16 < 16 := by omega
      have t1 : Int.tdiv x 16 = x / 16 := Int.tdiv_eq_ediv_of_nonneg hr0
      have t2 : Int.tmod x 16 = x % 16 := Int.tmod_eq_emod_of_nonneg hr0
      have t3 : IntKind.u8.wrap (x / 16) = x / 16 := by rw [IntKind.wrap_u8]; omega
      have t4 : IntKind.u8.wrap (x % 16) = x % 16 := by rw [IntKind.wrap_u8]; omega
      have t5 : x / 16 % 256 = x / 16 := by omega
      have t6 : x % 16 % 256 = x % 16 := by omega
      have k0 : (0 : Int) ≤ k := by omega
      have k1 : (k : Int) < n := by omega
      have hl : (hexI (xs.take k)).length ≤ 600 := by rw [hexI_len, List.length_take]; omega
      have d1 := dig_byte (x / 16) q0 q1
      have d2 := dig_byte (x % 16) q2 q3
      have hlt1 := World.block_lt_of_cell? wr _ hcell
      obtain ⟨A1, c1, rfl⟩ := own_slice hown'.out
      obtain ⟨m, hm⟩ : ∃ m, (hexI (xs.take k)).length = m := ⟨_, rfl⟩
      have hnew : wr.drew.ownsRow w.heap.size 5 1 (.slice A1 m c1) m (nums .u8 (hexI (xs.take k))) := by have h := hown'.out; rw [hm] at h; exact h
      rw [hm] at hl ⊢
      have hm' := veil hm
      have hne : (Value.slice A1 m c1).ownBlock ≠ some (ad.add k).block := by
        intro h
        have h1 := own_base hnew _ h
        have h2 := World.block_lt_of_cell? w _ hc0
        omega
      clear hm
      have hbs := hb'.out.size
      go_wp2_with fail
      go_region_held3 (fun w' => w'.cell? (ad.add k) = some (.int .u8 x))
        (first | go_keep | (rw [hgrow.cell_far _ (by simp; omega) (Ne.symm hne)]; assumption))
        ((refine step_append_lies _ (by rfl) _ _ _ (by rfl) w.heap.size 5 i0 _ 1 1 Try.underlying22 hi0 hz0 hz1 hz2 rfl (by omega) (.slice A1 m c1) _ _ (by rfl) (hnew.alloc _) ⟨wr.heap.size, 0, none⟩ 2 2 [.int .u8 ((hx (x / 16)).toNat : Int), .int .u8 ((hx (x % 16)).toNat : Int)] (by rfl) (by rfl) (World.news_of_block (cs := #[.int .u8 ((hx (x / 16)).toNat : Int), .int .u8 ((hx (x % 16)).toNat : Int)]) (t := 5) (fr := (0, 0)) (heap_alloc_new wr.drew _)) (by simp [Value.oneCell']) (by omega) (by simp only [maxLen]; omega) (by omega) (by simp; omega) (wr.heap.size + 1) (by simp) ?_; intro gg cap w1 hown1 hgrow hat hlt))
      all_goals
        have hs := hexI_snoc xs k (by rw [hlen.out]; exact hlt0) x hxx'.out
        have hown2 : w1.ownsRow w.heap.size 5 1 (.slice (some ⟨gg, 0, none⟩) (hexI (xs.take (k + 1))).length cap) (hexI (xs.take (k + 1))).length (nums .u8 (hexI (xs.take (k + 1)))) := by
          rw [← hs, List.length_append, hm'.out, nums_append]
          exact hown1
        have hmm : m + 2 = (hexI (xs.take (k + 1))).length := by rw [← hs, List.length_append, hm'.out]; rfl
        rw [hmm]
        have hown3 := veil hown2
        have hb1 := veil (((pw_below_drewN hb'.out 1).alloc (by exact hbs) _).grown hgrow (by simp; omega) (fun k hk => own_base hnew k hk))
        clear hown1 hown2 hgrow hat hlt hs hmm t1 t2 t3 t4 t5 t6 d1 d2
        go_wp2_with fail
        go_roundw
        case rel => exact ⟨k + 1, by omega, by go_num, hown3.out, hb1.out⟩
        case measure => simp [intOf]; omega
    · obtain rfl : k = n := by omega
      obtain ⟨A1, c1, rfl⟩ := own_slice hown'.out
      have hst := veil (string_of_reads (P := Try.prog) (src := 22) (dst := 9) (c := c1) Try.underlying22 Try.underlying5 Try.underlying9 (own_reads' hown'.out))
      have hf : strOfNums (hexI (xs.take k)) = ⟨(hexU xs).toArray⟩ := by rw [show xs.take k = xs from by rw [← hlen.out, List.take_length]]; exact hexI_str xs
      rw [hf] at hst
      obtain ⟨m, hm⟩ : ∃ m, (hexI (xs.take k)).length = m := ⟨_, rfl⟩
      have hst' := hst.out
      rw [hm] at hst' ⊢
      clear hm hf hst
      go_wp2_with fail
      go_ret
      exact ⟨rfl, hb'.out⟩
end Go.Proofs.Sha
