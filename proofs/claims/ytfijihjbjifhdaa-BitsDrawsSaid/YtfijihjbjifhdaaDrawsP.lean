/- Plain laws for the statement BitsDraws: what is drawn was free, nothing lower was left out, and taken and given back all is as it was. No program is named here; no condition. -/
import Derived.Test.YtfijihjbjifhdaaCountP
namespace Go.Proofs.Ytfijihjbjifhdaa

def freeN (l : List UInt8) (N : Nat) : List Nat := (List.range N).filter fun k => !bitB l k
theorem freeB_freeN (l : List UInt8) (N : Nat) : freeB l N = (freeN l N).map fun k : Nat => (k : Int) := rfl

theorem freeN_sorted (l : List UInt8) (N : Nat) : (freeN l N).Pairwise (· < ·) := List.Pairwise.filter _ List.pairwise_lt_range

theorem mem_freeN (l : List UInt8) (N k : Nat) : k ∈ freeN l N ↔ k < N ∧ bitB l k = false := by
  unfold freeN
  rw [List.mem_filter, List.mem_range]
  simp

/-- behind the one before -/
def atN (q : List Nat) : Nat → Nat | 0 => 0 | k + 1 => q[k]?.getD 0 + 1

theorem q_gap {l : List UInt8} {N M : Nat} {i j : Nat} (q : List Nat) (hq : q = (freeN l N).take M) (hi : i < q.length) (h1 : atN q i ≤ j) (h2 : j < q[i]) : bitB l j = true := by
  cases hb : bitB l j with
  | true => rfl
  | false =>
    exfalso
    have hiF : i < (freeN l N).length := by rw [hq, List.length_take] at hi; omega
    have hqi : q[i] = (freeN l N)[i] := by subst hq; rw [List.getElem_take]
    have hlt : (freeN l N)[i] < N := ((mem_freeN l N _).1 (List.getElem_mem hiF)).1
    have hm : j ∈ freeN l N := (mem_freeN l N j).2 ⟨by omega, hb⟩
    obtain ⟨k, hk, hkj⟩ := List.getElem_of_mem hm
    have hs := List.pairwise_iff_getElem.1 (freeN_sorted l N)
    have hki : k < i := by
      rcases Nat.lt_trichotomy k i with h | h | h
      · exact h
      · subst h; omega
      · have := hs i k hiF hk h; omega
    cases i with
    | zero => omega
    | succ i =>
      have hge : (freeN l N)[k] ≤ (freeN l N)[i] := by
        rcases Nat.lt_or_ge k i with h | h
        · exact Nat.le_of_lt (hs k i hk (by omega) h)
        · have : k = i := by omega
          subst this
          exact Nat.le_refl _
      have hqi' : q[i]?.getD 0 = (freeN l N)[i] := by
        subst hq
        rw [List.getElem?_take, if_pos (by rw [List.length_take] at hi; omega), List.getElem?_eq_getElem (by omega)]
        rfl
      have h1' : q[i]?.getD 0 + 1 ≤ j := h1
      rw [hqi'] at h1'
      omega

theorem q_free {l : List UInt8} {N M : Nat} {i : Nat} (q : List Nat) (hq : q = (freeN l N).take M) (hi : i < q.length) : q[i] < N ∧ bitB l q[i] = false := by
  have hm : q[i] ∈ freeN l N := by
    have hm := List.getElem_mem hi
    have hs : q.Sublist (freeN l N) := by rw [hq]; exact List.take_sublist _ _
    exact hs.subset hm
  exact (mem_freeN l N _).1 hm

theorem q_new {l : List UInt8} {N M : Nat} {i : Nat} (q : List Nat) (hq : q = (freeN l N).take M) (hi : i < q.length) : q[i] ∉ q.take i := by
  intro hm
  obtain ⟨k, hk, hkj⟩ := List.getElem_of_mem hm
  rw [List.length_take] at hk
  rw [List.getElem_take] at hkj
  have hs : q.Pairwise (· < ·) := by rw [hq]; exact (freeN_sorted l N).sublist (List.take_sublist _ _)
  have := List.pairwise_iff_getElem.1 hs k i (by omega) hi (by omega)
  omega

/-- as many as there are below N -/
theorem count_all (L : List UInt8) (N : Nat) : countB L N = ((List.range N).filter fun k => bitB L k).length := by
  unfold countB
  rw [Int.toNat_natCast]
  congr 1
  have := filter_range_le (fun k => bitB L k) (min N (8 * L.length)) (N - min N (8 * L.length))
  rcases Nat.le_total N (8 * L.length) with h | h
  · rw [Nat.min_eq_left h]
  · rw [Nat.min_eq_right h] at this ⊢
    have h2 := this (fun j hj => by unfold bitB; rw [List.getElem?_eq_none (by omega)])
    rw [show 8 * L.length + (N - 8 * L.length) = N by omega] at h2
    exact h2.symm

theorem count_free (l : List UInt8) (N : Nat) : countB l N + (freeB l N).length = N := by
  rw [count_all]
  unfold freeB
  rw [List.length_map]
  have : ∀ (r : List Nat), (r.filter fun k => bitB l k).length + (r.filter fun k => !bitB l k).length = r.length := by
    intro r
    induction r with
    | nil => rfl
    | cons x r ih =>
      cases h : bitB l x
      · simp [h]; omega
      · simp [h]; omega
  have := this (List.range N)
  rwa [List.length_range] at this

/-- the bits behind taking the first i -/
theorem take_bits {l C : List UInt8} {q : List Nat} {i : Nat} (hi : i < q.length) (h : ∀ j, bitB C j = (bitB l j || decide (j ∈ q.take i))) : ∀ j, bitB (withB C (q[i] : Int) true) j = (bitB l j || decide (j ∈ q.take (i + 1))) := by
  intro j
  have e : q.take (i + 1) = q.take i ++ [q[i]] := List.take_succ_eq_append_getElem hi
  rw [bitB_with, h, e]
  generalize q[i] = x
  by_cases hj : j = x
  · subst hj; simp
  · simp [hj]

theorem take_count {l C : List UInt8} {N M : Nat} {i : Nat} (q : List Nat) (hq : q = (freeN l N).take M) (hi : i < q.length) (h : ∀ j, bitB C j = (bitB l j || decide (j ∈ q.take i))) (hc : countB C N = countB l N + i) :
    countB (withB C (q[i] : Int) true) N = countB l N + (i + 1) := by
  obtain ⟨h1, h2⟩ := q_free q hq hi
  have h3 := q_new q hq hi
  rw [count_all] at hc ⊢
  have := filter_one (fun k => bitB C k) (fun k => bitB (withB C (q[i] : Int) true) k) q[i] (List.range N) List.nodup_range (List.mem_range.2 h1) (by rw [h, h2]; simp [h3]) (by rw [bitB_with, if_pos rfl]) (fun x hx => by rw [bitB_with, if_neg hx])
  rw [this, hc]
  omega

/-- the bits behind giving back the first i -/
theorem give_bits {l C : List UInt8} {N M : Nat} {i : Nat} (q : List Nat) (hq : q = (freeN l N).take M) (hi : i < q.length) (h : ∀ j, bitB C j = (bitB l j || decide (j ∈ q.drop i))) :
    ∀ j, bitB (withB C (q[i] : Int) false) j = (bitB l j || decide (j ∈ q.drop (i + 1))) := by
  intro j
  obtain ⟨_, h2⟩ := q_free q hq hi
  have e : q.drop i = q[i] :: q.drop (i + 1) := List.drop_eq_getElem_cons hi
  rw [bitB_with, h, e]
  have hs : q.Pairwise (· < ·) := by rw [hq]; exact (freeN_sorted l N).sublist (List.take_sublist _ _)
  by_cases hj : j = q[i]
  · subst hj
    rw [if_pos rfl, h2]
    have : q[i] ∉ q.drop (i + 1) := by
      intro hm
      obtain ⟨k, hk, hkj⟩ := List.getElem_of_mem hm
      rw [List.getElem_drop] at hkj
      rw [List.length_drop] at hk
      have := List.pairwise_iff_getElem.1 hs i (i + 1 + k) hi (by omega) (by omega)
      omega
    simp [this]
  · rw [if_neg hj]
    congr 1
    generalize q.drop (i + 1) = r
    generalize q[i] = x at hj
    simp [hj]

theorem back (l C : List UInt8) (q : List Nat) (h : ∀ j, bitB C j = (bitB l j || decide (j ∈ q.drop q.length))) (hc : Canon C) : C = cutL l :=
  canon_ext _ _ (fun k => by rw [h, bitB_cutL]; simp) hc (cutL_canon l)

end Go.Proofs.Ytfijihjbjifhdaa
