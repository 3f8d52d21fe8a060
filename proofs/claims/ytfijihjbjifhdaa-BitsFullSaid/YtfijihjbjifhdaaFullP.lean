/- Plain laws on what is free where the first ones are taken. No program is named here; no condition. -/
import Derived.Test.YtfijihjbjifhdaaLaws
namespace Go.Proofs.Ytfijihjbjifhdaa

theorem freeB_hit (l : List UInt8) (k : Nat) (h : bitB l k = true) : freeB l (k + 1) = freeB l k := by
  simp [freeB, List.range_succ, h]
theorem freeB_miss (l : List UInt8) (k : Nat) (h : bitB l k = false) : freeB l (k + 1) = freeB l k ++ [(k : Int)] := by
  simp [freeB, List.range_succ, h]

/-- the ints from c on, so many -/
def from_ (c d : Nat) : List Int := (List.range d).map fun j : Nat => ((c + j : Nat) : Int)
theorem from_length (c d : Nat) : (from_ c d).length = d := by simp [from_]
theorem from_get (c d j : Nat) (h : j < d) : (from_ c d)[j]? = some ((c + j : Nat) : Int) := by simp [from_, h]

theorem free_none (B : List UInt8) (c : Nat) (h : ∀ j, j < c → bitB B j = true) : freeB B c = [] := by
  induction c with
  | zero => rfl
  | succ c ih => rw [freeB_hit _ _ (h c (by omega)), ih (fun j hj => h j (by omega))]

theorem free_from (B : List UInt8) (c d : Nat) (h : ∀ j, bitB B j = decide (j < c)) : freeB B (c + d) = from_ c d := by
  induction d with
  | zero => exact free_none B c (fun j hj => by rw [h]; simpa using hj)
  | succ d ih =>
    rw [← Nat.add_assoc, freeB_miss _ _ (by rw [h]; simp), ih]
    simp [from_, List.range_succ]

theorem draw_from (B : List UInt8) (c k m : Nat) (hc : c ≤ k) (hm : m ≤ k - c) (h : ∀ j, bitB B j = decide (j < c)) : drawB B k m = from_ c m ∧ drawE B k m = 0 := by
  have hf := free_from B c (k - c) h
  rw [show c + (k - c) = k by omega] at hf
  unfold drawB drawE
  rw [Int.toNat_natCast, hf, from_length]
  rw [if_neg (by omega), if_neg (by omega), if_neg (by omega), Int.toNat_natCast]
  refine ⟨?_, rfl⟩
  unfold from_
  rw [← List.map_take, List.take_range, Nat.min_eq_left hm]

theorem draw_more (B : List UInt8) (k : Nat) (h : ∀ j, bitB B j = decide (j < k)) : drawE B k 1 = 66 := by
  have hf := free_none B k (fun j hj => by rw [h]; simpa using hj)
  unfold drawE
  rw [Int.toNat_natCast, hf]
  rfl

theorem draw_zero' (B : List UInt8) (k : Nat) : drawB B k 0 = [] ∧ drawE B k 0 = 0 := by
  unfold drawB drawE
  rw [if_neg (by omega), if_neg (by omega), if_neg (by omega)]
  exact ⟨rfl, rfl⟩
theorem draw_less (B : List UInt8) (k : Nat) : drawE B k (-1) = 1 := by
  unfold drawE
  rw [if_pos (by omega)]

theorem bit_step (B : List UInt8) (c : Nat) (h : ∀ j, bitB B j = decide (j < c)) : ∀ j, bitB (withB B (c : Int) true) j = decide (j < c + 1) := by
  intro j
  rw [bitB_with]
  by_cases hj : j = c
  · subst hj; simp
  · rw [if_neg hj, h]
    simp only [decide_eq_decide]
    omega

theorem count_first (B : List UInt8) (k : Nat) (h : ∀ j, bitB B j = decide (j < k)) : countB B k = k := by
  have hle : k ≤ 8 * B.length := by
    rcases Nat.lt_or_ge (8 * B.length) k with hlt | hge
    · exfalso
      have h1 := h (8 * B.length)
      unfold bitB at h1
      rw [List.getElem?_eq_none (by omega)] at h1
      simp at h1
      omega
    · exact hge
  unfold countB
  rw [Int.toNat_natCast, Nat.min_eq_left hle]
  rw [List.filter_eq_self.2]
  · simp
  · intro j hj
    rw [h]
    simpa using hj

end Go.Proofs.Ytfijihjbjifhdaa
