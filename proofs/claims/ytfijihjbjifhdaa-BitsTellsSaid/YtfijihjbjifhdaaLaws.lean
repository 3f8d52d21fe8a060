/- Plain laws on bitmaps as lists of bytes: which bits are set behind With, and that the bits of a bitmap without noughts at its end determine it. No program is named here; no condition. -/
import Derived.Test.YtfijihjbjifhdaaPlain
namespace Go.Proofs.Ytfijihjbjifhdaa

theorem bitOf_zero (k : Nat) : bitOf 0 k = false := by
  unfold bitOf
  show (0 / 2 ^ (7 - k % 8) % 2 == 1) = false
  rw [Nat.zero_div]
  rfl

theorem cutL_app (l : List UInt8) : ∃ m, l = cutL l ++ List.replicate m 0 := by
  have h : ∀ r : List UInt8, ∃ m, r = List.replicate m 0 ++ r.dropWhile (· == 0) := by
    intro r
    induction r with
    | nil => exact ⟨0, rfl⟩
    | cons x r ih =>
      by_cases hx : x = 0
      · obtain ⟨m, hm⟩ := ih
        refine ⟨m + 1, ?_⟩
        rw [hx, List.replicate_succ, List.cons_append]
        simp only [List.dropWhile_cons, beq_self_eq_true, if_true]
        rw [← hm]
      · refine ⟨0, ?_⟩
        simp [hx]
  obtain ⟨m, hm⟩ := h l.reverse
  refine ⟨m, ?_⟩
  have := congrArg List.reverse hm
  rw [List.reverse_reverse, List.reverse_append, List.reverse_replicate] at this
  exact this

theorem bitB_app_zero (l : List UInt8) (m k : Nat) : bitB (l ++ List.replicate m 0) k = bitB l k := by
  unfold bitB
  rw [List.getElem?_append]
  by_cases h : k / 8 < l.length
  · rw [if_pos h]
  · rw [if_neg h, List.getElem?_eq_none (Nat.le_of_not_lt h), List.getElem?_replicate]
    by_cases h2 : k / 8 - l.length < m
    · rw [if_pos h2]; exact bitOf_zero k
    · rw [if_neg h2]

theorem bitB_cutL (l : List UInt8) (k : Nat) : bitB (cutL l) k = bitB l k := by
  obtain ⟨m, hm⟩ := cutL_app l
  conv => rhs; rw [hm]
  rw [bitB_app_zero]

theorem bitB_padTo (l : List UInt8) (n k : Nat) : bitB (padTo l n) k = bitB l k := bitB_app_zero _ _ _

theorem turn_bits : ∀ (x : Fin 256) (r s : Fin 8) (t : Bool), bitOf (turnB (UInt8.ofNat x.val) r.val t) s.val = if s.val = r.val then t else bitOf (UInt8.ofNat x.val) s.val := by decide +kernel

theorem bitOf_turn (x : UInt8) (i k : Nat) (t : Bool) : bitOf (turnB x i t) k = if k % 8 = i % 8 then t else bitOf x k := by
  have h := turn_bits ⟨x.toNat, x.toNat_lt⟩ ⟨i % 8, Nat.mod_lt _ (by omega)⟩ ⟨k % 8, Nat.mod_lt _ (by omega)⟩ t
  have e1 : turnB x i t = turnB x (i % 8) t := by unfold turnB bitOf; rw [Nat.mod_mod]
  have e2 : ∀ y : UInt8, bitOf y k = bitOf y (k % 8) := fun y => by unfold bitOf; rw [Nat.mod_mod]
  rw [e1, e2, e2 x]
  simpa using h

/-- bit k behind With of bit i -/
theorem bitB_with (l : List UInt8) (i : Nat) (t : Bool) (k : Nat) : bitB (withB l i t) k = if k = i then t else bitB l k := by
  unfold withB
  by_cases h : (i : Int) < 0 ∨ (t = false ∧ l.length ≤ (i : Int).toNat / 8)
  · rw [if_pos h, bitB_cutL]
    rcases h with h | ⟨rfl, h⟩
    · omega
    · rw [Int.toNat_natCast] at h
      by_cases hk : k = i
      · subst hk
        rw [if_pos rfl]
        unfold bitB
        rw [List.getElem?_eq_none h]
      · rw [if_neg hk]
  · rw [if_neg h, bitB_cutL, Int.toNat_natCast]
    have hp : ∀ j, bitB (padTo l (i / 8 + 1)) j = bitB l j := bitB_padTo l _
    rw [← hp k]
    have hlen : i / 8 < (padTo l (i / 8 + 1)).length := by unfold padTo; rw [List.length_append, List.length_replicate]; omega
    generalize padTo l (i / 8 + 1) = L at *
    unfold bitB
    rw [List.getElem?_modify]
    by_cases hb : i / 8 = k / 8
    · have hx : L[k / 8]? = some L[i / 8] := by rw [← hb]; exact List.getElem?_eq_getElem hlen
      rw [hx]
      simp only [hb, if_true, Option.map_eq_map, Option.map_some, bitOf_turn]
      by_cases hk : k = i
      · subst hk; rw [if_pos rfl, if_pos rfl]
      · rw [if_neg hk, if_neg (by omega)]
    · have : k ≠ i := fun e => hb (by rw [e])
      rw [if_neg this]
      simp [hb]

theorem bitB_with_neg (l : List UInt8) (i : Int) (h : i < 0) (t : Bool) : withB l i t = cutL l := by
  unfold withB
  rw [if_pos (.inl h)]

/-- without a nought at its end -/
def Canon (l : List UInt8) : Prop := ∀ x, l.getLast? = some x → x ≠ 0

theorem cutL_canon (l : List UInt8) : Canon (cutL l) := by
  intro x hx
  have h : ∀ r : List UInt8, ∀ y, (r.dropWhile (· == 0)).head? = some y → y ≠ 0 := by
    intro r
    induction r with
    | nil => intro y hy; simp at hy
    | cons z r ih =>
      intro y hy
      by_cases hz : z = 0
      · rw [hz] at hy; simp only [List.dropWhile_cons, beq_self_eq_true, if_true] at hy; exact ih y hy
      · simp [hz] at hy; rw [← hy]; exact hz
  unfold cutL at hx
  rw [List.getLast?_reverse] at hx
  exact h _ _ hx

theorem with_canon (l : List UInt8) (i : Int) (t : Bool) : Canon (withB l i t) := by
  unfold withB
  split
  · exact cutL_canon _
  · exact cutL_canon _

def ofBits (f : Nat → Bool) : Nat := (if f 0 then 128 else 0) + (if f 1 then 64 else 0) + (if f 2 then 32 else 0) + (if f 3 then 16 else 0) + (if f 4 then 8 else 0) + (if f 5 then 4 else 0) + (if f 6 then 2 else 0) + (if f 7 then 1 else 0)

theorem ofBits_bitOf : ∀ x : Fin 256, ofBits (bitOf (UInt8.ofNat x.val)) = x.val := by decide +kernel

theorem byte_eq (x y : UInt8) (h : ∀ r, r < 8 → bitOf x r = bitOf y r) : x = y := by
  have hx := ofBits_bitOf ⟨x.toNat, x.toNat_lt⟩
  have hy := ofBits_bitOf ⟨y.toNat, y.toNat_lt⟩
  simp only [UInt8.ofNat_toNat] at hx hy
  apply UInt8.toNat.inj
  rw [← hx, ← hy]
  unfold ofBits
  rw [h 0 (by omega), h 1 (by omega), h 2 (by omega), h 3 (by omega), h 4 (by omega), h 5 (by omega), h 6 (by omega), h 7 (by omega)]

theorem bitB_byte (l : List UInt8) (j r : Nat) (hr : r < 8) : bitB l (8 * j + r) = bitOf (l[j]?.getD 0) r := by
  unfold bitB
  rw [show (8 * j + r) / 8 = j by omega]
  have e : ∀ x, bitOf x (8 * j + r) = bitOf x r := fun x => by unfold bitOf; rw [show (8 * j + r) % 8 = r % 8 by omega]
  cases l[j]? with
  | none => simp [bitOf_zero]
  | some x => simp [e]

/-- bitmaps without noughts at the end that have the same bits are the same -/
theorem canon_le (a b : List UInt8) (h : ∀ k, bitB a k = bitB b k) (ha : Canon a) : a.length ≤ b.length := by
  rcases Nat.lt_or_ge b.length a.length with hlt | hge
  · exfalso
    have hx : a[a.length - 1]? = some a[a.length - 1] := List.getElem?_eq_getElem (by omega)
    have hz : a[a.length - 1] = 0 := by
      apply byte_eq
      intro r hr
      have h1 := bitB_byte a (a.length - 1) r hr
      have h2 := bitB_byte b (a.length - 1) r hr
      rw [hx] at h1
      rw [List.getElem?_eq_none (by omega)] at h2
      rw [h, h2] at h1
      exact h1.symm
    exact ha _ (by rw [List.getLast?_eq_getElem?]; exact hx) hz
  · exact hge

theorem canon_ext (a b : List UInt8) (h : ∀ k, bitB a k = bitB b k) (ha : Canon a) (hb : Canon b) : a = b := by
  have hl : a.length = b.length := Nat.le_antisymm (canon_le a b h ha) (canon_le b a (fun k => (h k).symm) hb)
  apply List.ext_getElem? 
  intro j
  by_cases hj : j < a.length
  · rw [List.getElem?_eq_getElem hj, List.getElem?_eq_getElem (by omega)]
    congr 1
    apply byte_eq
    intro r hr
    have h1 := bitB_byte a j r hr
    have h2 := bitB_byte b j r hr
    rw [List.getElem?_eq_getElem hj] at h1
    rw [List.getElem?_eq_getElem (by omega)] at h2
    rw [h, h2] at h1
    exact h1.symm
  · rw [List.getElem?_eq_none (by omega), List.getElem?_eq_none (by omega)]

theorem cutL_length (l : List UInt8) : (cutL l).length ≤ l.length := by
  obtain ⟨m, hm⟩ := cutL_app l
  have := congrArg List.length hm
  rw [List.length_append, List.length_replicate] at this
  omega

theorem with_length (l : List UInt8) (i : Int) (t : Bool) : (withB l i t).length ≤ max l.length (i.toNat / 8 + 1) := by
  unfold withB
  split
  · exact Nat.le_trans (cutL_length _) (by omega)
  · refine Nat.le_trans (cutL_length _) ?_
    rw [List.length_modify]
    unfold padTo
    rw [List.length_append, List.length_replicate]
    omega

end Go.Proofs.Ytfijihjbjifhdaa
