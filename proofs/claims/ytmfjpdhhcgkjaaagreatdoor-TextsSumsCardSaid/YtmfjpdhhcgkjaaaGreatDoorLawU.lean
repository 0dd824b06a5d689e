import Derived.Test.YtmfjpdhhcgkjaaaGreatDoorLawT
/- More of what the laws of layer 11 lean on. -/
namespace Go.Proofs.Tryz.Ln
open Go Go.RowKit Go.Proofs.Mem Go.Proofs.App
open Go.Proofs.YtmfjpdhhcgkjaaaGreatDoorW.PrintWords
set_option linter.unusedVariables false
theorem more_new (k : Int) (hk : Int64 k) : moreF (vS 0 ⟨#[]⟩ nl nl nl) (if (0 : Int) = 0 then numS 0 else ⟨#[]⟩) (numS k) = (tS (numS k), lineL ⟨#[58]⟩ (numS k)) := by
  rw [if_pos rfl]
  unfold moreF addO
  rw [show Dig.parseO (numS k) = some k from Dig.parse_num k hk, show Dig.parseO (numS 0) = some 0 from Dig.parse_num 0 (by decide)]
  have h1 := hk.1
  have h2 := hk.2
  simp only [Int.zero_add]
  rw [if_pos ⟨h1, h2⟩]
theorem more_num (v : Array Value) (x k : Int) (hx : Int64 x) (hk : Int64 k) (hs : Int64 (x + k)) : moreF v (if (1 : Int) = 0 then numS 0 else numS x) (numS k) = (tS (numS (x + k)), lineL ⟨#[58]⟩ (numS (x + k))) := by
  rw [if_neg (by decide)]
  unfold moreF addO
  rw [show Dig.parseO (numS k) = some k from Dig.parse_num k hk, show Dig.parseO (numS x) = some x from Dig.parse_num x hx]
  have h1 := hs.1
  have h2 := hs.2
  simp only []
  rw [if_pos ⟨h1, h2⟩]
theorem more_over (v : Array Value) (x k : Int) (hx : Int64 x) (hk : Int64 k) (hs : ¬ Int64 (x + k)) : moreF v (if (1 : Int) = 0 then numS 0 else numS x) (numS k) = (v, lineL ⟨#[45]⟩ Overflow) := by
  rw [if_neg (by decide)]
  unfold moreF addO
  rw [show Dig.parseO (numS k) = some k from Dig.parse_num k hk, show Dig.parseO (numS x) = some x from Dig.parse_num x hx]
  simp only []
  rw [if_neg (show ¬ (-9223372036854775808 ≤ x + k ∧ x + k ≤ 9223372036854775807) from hs)]
theorem over_line : strOfNums (lineL ⟨#[45]⟩ Overflow) = ⟨#[45, 69, 82, 82, 32, 105, 110, 99, 114, 101, 109, 101, 110, 116, 32, 111, 114, 32, 100, 101, 99, 114, 101, 109, 101, 110, 116, 32, 119, 111, 117, 108, 100, 32, 111, 118, 101, 114, 102, 108, 111, 119, 13, 10]⟩ := by decide +kernel
theorem notint_line : strOfNums (lineL ⟨#[45]⟩ NotInt) = ⟨#[45, 69, 82, 82, 32, 118, 97, 108, 117, 101, 32, 105, 115, 32, 110, 111, 116, 32, 97, 110, 32, 105, 110, 116, 101, 103, 101, 114, 32, 111, 114, 32, 111, 117, 116, 32, 111, 102, 32, 114, 97, 110, 103, 101, 13, 10]⟩ := by decide +kernel
theorem wrap1 {k : Int} (h : Int64 (k + 1)) : wrap64 (k + 1) = k + 1 := by
  have h1 := h.1
  have h2 := h.2
  unfold wrap64
  omega
theorem wrapE {k : Int} (h : Int64 k) : wrap64 k = k := by
  have h1 := h.1
  have h2 := h.2
  unfold wrap64
  omega
theorem iwrapE {k : Int} (h : Int64 k) : IntKind.i64.wrap k = k := by
  rw [IntKind.wrap_i64]
  have h1 := wrapE h
  unfold wrap64 at h1
  exact h1
/-- the lesser one, without a fork -/
def mn (x y : Int) : Int := if y < x then y else x
theorem mn_le {x y : Int} (hx : 0 ≤ x) (hy : 0 ≤ y) : 0 ≤ mn x y ∧ mn x y ≤ x ∧ mn x y ≤ y := by unfold mn; split <;> omega
theorem min2_sym (k k' : IntKind) (x y : Int) : Builtin.min2 (.int k x) (.int k' y) = pure (.int k (mn x y)) := by simp only [Builtin.min2, mn]
def cutM (s : ByteArray) (m : Int) : ByteArray := s.extract 0 (mn s.size m).toNat
theorem cutM_size (s : ByteArray) (m : Int) (hm : 0 ≤ m) : ((cutM s m).size : Int) ≤ m := by
  have h := mn_le (x := s.size) (y := m) (by omega) hm
  unfold cutM
  rw [ByteArray.size_extract]
  omega
theorem addr0 (b j : Nat) : (⟨b, 0, none⟩ : Addr).add j = ⟨b, j, none⟩ := by
  unfold Addr.add
  split
  · rename_i h; rw [h]
  · simp
theorem reads_set {base g n c : Nat} {w : World} {A : Option Addr} {l : List Int} {v : Array Value} (h : Fresh .u8 base w A n c l) (hg : g < base) (hn : n ≤ 9223372036854775807) : ReadsInt (w.setRow g v) .u8 A n l := by
  refine ⟨h.len, hn, fun h0 => ?_⟩
  obtain ⟨b, e, h1, h2, h3, _⟩ := h.there (by have := h.le; omega)
  refine ⟨_, e, fun j hj => ?_⟩
  have hc := h3 j hj
  rw [show (⟨b, 0, none⟩ : Addr).add j = ⟨b, j, none⟩ from addr0 b j]
  have : (w.setRow g v).cell? ⟨b, j, none⟩ = w.cell? ⟨b, j, none⟩ := by
    have hh : (w.setRow g v).heap[b]? = w.heap[b]? := by
      unfold World.setRow
      simp only [Array.getElem?_modify]
      rw [if_neg (by omega)]
    unfold World.cell?
    rw [hh]
  rw [this]
  exact hc
theorem low_strlen : lowS ⟨#[115, 116, 114, 108, 101, 110]⟩ = ⟨#[115, 116, 114, 108, 101, 110]⟩ := by decide +kernel
theorem low_getdel : lowS ⟨#[103, 101, 116, 100, 101, 108]⟩ = ⟨#[103, 101, 116, 100, 101, 108]⟩ := by decide +kernel
theorem low_incrby : lowS ⟨#[105, 110, 99, 114, 98, 121]⟩ = ⟨#[105, 110, 99, 114, 98, 121]⟩ := by decide +kernel
theorem low_INCRBY : lowS ⟨#[73, 78, 67, 82, 66, 89]⟩ = ⟨#[105, 110, 99, 114, 98, 121]⟩ := by decide +kernel
theorem low_append' : lowS ⟨#[97, 112, 112, 101, 110, 100]⟩ = ⟨#[97, 112, 112, 101, 110, 100]⟩ := by decide +kernel
theorem low_get : lowS ⟨#[103, 101, 116]⟩ = ⟨#[103, 101, 116]⟩ := by decide +kernel
end Go.Proofs.Tryz.Ln
