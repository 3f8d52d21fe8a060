/- The walk of Count of layer 6: it comes to the plain countB; lists shorter than 2^40. -/
import Derived.Test.YtfijihjbjifhdaaHas
namespace Go.Proofs.Ytfijihjbjifhdaa
open Go.RowKit

def cnt (l : List UInt8) (k : Nat) : Nat := ((List.range k).filter fun k => bitB l k).length
theorem cnt_hit (l : List UInt8) (k : Nat) (h : bitB l k = true) : cnt l (k + 1) = cnt l k + 1 := by simp [cnt, List.range_succ, h]
theorem cnt_miss (l : List UInt8) (k : Nat) (h : bitB l k = false) : cnt l (k + 1) = cnt l k := by simp [cnt, List.range_succ, h]
theorem cnt_le (l : List UInt8) (k : Nat) : cnt l k ≤ k := by
  have := List.length_filter_le (fun k => bitB l k) (List.range k)
  simpa [cnt] using this
theorem countB_cnt (l : List UInt8) (n : Int) : countB l n = cnt l (min n.toNat (8 * l.length)) := rfl

def CountPost (c : Nat) (w : World) (e : Ending) (w' : World) : Prop := e = .returned (.int .i64 c) ∧ ∃ k, w' = w.drewN k

theorem draws_trans {w : World} {a b : Nat} : (w.drewN a).drewN b = w.drewN (a + b) := World.drewN_drewN w a b

theorem count_neg (v : Value) (l : List UInt8) (n : Int) (w : World) (hr : Rd w w.heap.size v (bv l)) (hn : l.length ≤ 1099511627776) (h0 : n < 0) :
    Calls Try.prog 15 #[v, .int .i64 n] w (CountPost (countB l n) w) := by
  obtain ⟨A, c, rfl, _⟩ := hr.form
  rw [bv_length] at *
  clear hr
  have HC := Lib.hid (show countB l n = 0 by rw [countB_cnt, show n.toNat = 0 from by omega, Nat.zero_min]; rfl)
  go_enter Try.func15, Try.ntmps15
  go_wp2
  go_loopw [5, 13] (fun t i wr => i = .int .i64 0 ∧ t = .int .i64 0 ∧ wr = w) (fun _ _ _ => 0)
  case atStart => exact ⟨rfl, rfl, rfl⟩
  case round =>
    obtain ⟨rfl, rfl, rfl⟩ := hrel
    go_wp2
    go_ret
    exact ⟨by rw [HC.out]; rfl, 0, rfl⟩

set_option maxHeartbeats 400000 in
theorem count_pos (v : Value) (l : List UInt8) (n : Int) (w : World) (hr : Rd w w.heap.size v (bv l)) (hn : l.length ≤ 1099511627776) (h0 : 0 ≤ n) :
    Calls Try.prog 15 #[v, .int .i64 n] w (CountPost (countB l n) w) := by
  have HR := Lib.hid hr
  obtain ⟨A, c, rfl, _⟩ := hr.form
  rw [bv_length] at *
  clear hr
  obtain ⟨M, hM⟩ : ∃ M, M = min n.toNat (8 * l.length) := ⟨_, rfl⟩
  have HC := Lib.hid (show countB l n = cnt l M by rw [countB_cnt, hM])
  have hMl : M ≤ 8 * l.length := by omega
  have hcases : (n ≤ 8 * (l.length : Int) ∧ (M : Int) ≤ n ∧ n ≤ (M : Int)) ∨ (8 * (l.length : Int) < n ∧ 8 * l.length ≤ M) := by omega
  clear hM
  rcases hcases with ⟨c2, c3, c4⟩ | ⟨c2, c3⟩
  all_goals
    go_enter Try.func15, Try.ntmps15
    go_wp2
    go_loopw [5, 13] (fun t i wr => ∃ k m : Nat, k ≤ M ∧ i = .int .i64 k ∧ t = .int .i64 (cnt l k) ∧ wr = w.drewN m) (fun _ i _ => M - (intOf i).toNat)
    case atStart => exact ⟨0, 0, Nat.zero_le _, rfl, rfl, rfl⟩
    case round =>
      obtain ⟨k, m, hk, rfl, rfl, rfl⟩ := hrel
      have hle := cnt_le l k
      rcases Nat.lt_or_ge k M with hlt | hge
      · have hhas : hasB l (k : Int) = bitB l k := by simp [hasB]
        cases hb : bitB l k with
        | true =>
          have hb' := hhas.trans hb
          have HB := Lib.hid (cnt_hit l k hb)
          clear hb hhas
          go_wp2_with (go_at_call 11; refine (has_any (.slice A l.length c) l k w.heap.size _ (HR.out.drewN m) (by omega)).mono ?_; rintro e w1 ⟨rfl, m1, rfl⟩; rw [hb'])
          go_roundw
          case rel => exact ⟨k + 1, m + m1, by omega, by go_num, by rw [HB.out]; go_num, (by first | rfl | exact draws_trans)⟩
          case measure => simp [intOf]; omega
        | false =>
          have hb' := hhas.trans hb
          have HB := Lib.hid (cnt_miss l k hb)
          clear hb hhas
          go_wp2_with (go_at_call 11; refine (has_any (.slice A l.length c) l k w.heap.size _ (HR.out.drewN m) (by omega)).mono ?_; rintro e w1 ⟨rfl, m1, rfl⟩; rw [hb'])
          go_roundw
          case rel => exact ⟨k + 1, m + m1, by omega, by go_num, by rw [HB.out], (by first | rfl | exact draws_trans)⟩
          case measure => simp [intOf]; omega
      · obtain rfl : k = M := by omega
        go_wp2
        go_ret
        exact ⟨by rw [HC.out]; rfl, _, rfl⟩

/-- 'Count', whatever it is given -/
theorem count_any (v : Value) (l : List UInt8) (n : Int) (w : World) (hr : Rd w w.heap.size v (bv l)) (hn : l.length ≤ 1099511627776) :
    Calls Try.prog 15 #[v, .int .i64 n] w (CountPost (countB l n) w) := by
  rcases Int.lt_or_le n 0 with h | h
  · exact count_neg v l n w hr hn h
  · exact count_pos v l n w hr hn h

end Go.Proofs.Ytfijihjbjifhdaa
