/- Plain laws for the statement BitsCount: how many different ones below a bound. No program is named here; no condition. -/
import Derived.Test.YtfijihjbjifhdaaLaws
namespace Go.Proofs.Ytfijihjbjifhdaa

/-- is this one among them? -/
def isIn (s : List UInt8) (j : Nat) : Bool := s.any fun x => x.toNat == j
/-- how many different ones below n are among them -/
def manyOf (s : List UInt8) (n : Nat) : Nat := ((List.range 256).filter fun j => isIn s j && decide (j < n)).length

theorem isIn_snoc (s : List UInt8) (x : UInt8) (j : Nat) : isIn (s ++ [x]) j = (isIn s j || decide (j = x.toNat)) := by
  simp only [isIn, List.any_append, List.any_cons, List.any_nil, Bool.or_false]
  congr 1
  rw [Bool.eq_iff_iff]
  simp
  omega

theorem filter_one {α : Type} [DecidableEq α] (p q : α → Bool) (a : α) : ∀ (l : List α), l.Nodup → a ∈ l → p a = false → q a = true → (∀ x, x ≠ a → q x = p x) → (l.filter q).length = (l.filter p).length + 1 := by
  intro l
  induction l with
  | nil => intro _ h; simp at h
  | cons x l ih =>
    intro hn hm hp hq he
    have hn' := List.nodup_cons.1 hn
    by_cases hx : x = a
    · subst hx
      have e : l.filter q = l.filter p := List.filter_congr fun y hy => he y (fun e => hn'.1 (e ▸ hy))
      rw [List.filter_cons_of_pos hq, List.filter_cons_of_neg (by rw [hp]; simp), List.length_cons, e]
    · have hm' : a ∈ l := by
        rcases List.mem_cons.1 hm with h | h
        · exact absurd h.symm hx
        · exact h
      have := ih hn'.2 hm' hp hq he
      by_cases hpx : p x = true
      · rw [List.filter_cons_of_pos (by rw [he x hx]; exact hpx), List.filter_cons_of_pos hpx, List.length_cons, List.length_cons, this]
      · rw [List.filter_cons_of_neg (by rw [he x hx]; exact hpx), List.filter_cons_of_neg hpx, this]

theorem manyOf_new (s : List UInt8) (x : UInt8) (n : Nat) (h : isIn s x.toNat = false) (hx : x.toNat < n) : manyOf (s ++ [x]) n = manyOf s n + 1 := by
  unfold manyOf
  refine filter_one _ _ x.toNat (List.range 256) List.nodup_range (List.mem_range.2 x.toNat_lt) (by rw [h]; rfl) (by rw [isIn_snoc]; simp [hx]) ?_
  intro j hj
  rw [isIn_snoc]
  simp [hj]

theorem manyOf_old (s : List UInt8) (x : UInt8) (n : Nat) (h : isIn s x.toNat = true ∨ n ≤ x.toNat) : manyOf (s ++ [x]) n = manyOf s n := by
  unfold manyOf
  congr 1
  apply List.filter_congr
  intro j _
  rw [isIn_snoc]
  by_cases hj : j = x.toNat
  · subst hj
    rcases h with h | h
    · rw [h]; simp
    · simp; intro _; omega
  · simp [hj]

theorem manyOf_le (s : List UInt8) (n : Nat) : manyOf s n ≤ 256 := by
  unfold manyOf
  have := List.length_filter_le (fun j => isIn s j && decide (j < n)) (List.range 256)
  simpa using this

theorem filter_range_le (p : Nat → Bool) (m d : Nat) (h : ∀ j, m ≤ j → p j = false) : (List.range (m + d)).filter p = (List.range m).filter p := by
  induction d with
  | zero => rfl
  | succ d ih => rw [← Nat.add_assoc, List.range_succ, List.filter_append, ih]; simp [h (m + d) (by omega)]

theorem count_many (L s : List UInt8) (n : Nat) (hb : ∀ j, bitB L j = isIn s j) (hl : L.length ≤ 32) : countB L n = manyOf s n := by
  unfold countB manyOf
  rw [Int.toNat_natCast]
  have e1 : (List.range 256).filter (fun j => isIn s j && decide (j < n)) = (List.range (min n (8 * L.length))).filter (fun j => isIn s j && decide (j < n)) := by
    have := filter_range_le (fun j => isIn s j && decide (j < n)) (min n (8 * L.length)) (256 - min n (8 * L.length)) (fun j hj => by
      rw [← hb]
      by_cases h1 : j < n
      · have : 8 * L.length ≤ j := by omega
        unfold bitB
        rw [List.getElem?_eq_none (by omega)]
        rfl
      · simp [h1])
    rw [show min n (8 * L.length) + (256 - min n (8 * L.length)) = 256 by omega] at this
    exact this
  rw [e1]
  congr 1
  apply List.filter_congr
  intro j hj
  have := List.mem_range.1 hj
  rw [hb]
  simp
  omega

theorem bits_next (L s : List UInt8) (x : UInt8) (h : ∀ j, bitB L j = isIn s j) : ∀ j, bitB (withB L (x.toNat : Int) true) j = isIn (s ++ [x]) j := by
  intro j
  rw [bitB_with, isIn_snoc, h]
  by_cases hj : j = x.toNat
  · simp [hj]
  · simp [hj]

theorem countB_nil (n : Int) : countB [] n = 0 := by
  unfold countB
  simp

end Go.Proofs.Ytfijihjbjifhdaa
