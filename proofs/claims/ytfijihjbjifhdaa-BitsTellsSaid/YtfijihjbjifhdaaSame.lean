/- The walk of the document's Same for layer 6: two slices of the same ints are the same. -/
import Derived.Test.YtfijihjbjifhdaaRef
namespace Go.Proofs.Ytfijihjbjifhdaa
open Go.RowKit

def SamePost (w : World) (e : Ending) (w' : World) : Prop := e = .returned (.bool true) ∧ ∃ k, w' = w.drewN k

set_option maxHeartbeats 400000 in
theorem same_any (v v' : Value) (xs : List Int) (B : Nat) (w : World) (hr : Rd w B v (iv xs)) (hr' : Rd w B v' (iv xs)) (hn : xs.length ≤ 1099511627776) :
    Calls Try.prog 17 #[v, v'] w (SamePost w) := by
  obtain ⟨A, c, rfl, _, _, _, h4⟩ := hr
  obtain ⟨A', c', rfl, _, _, _, h4'⟩ := hr'
  rw [iv_length] at *
  go_enter Try.func17, Try.ntmps17
  go_wp2
  go_loopw [5] (fun i wr => ∃ k m : Nat, k ≤ xs.length ∧ i = .int .i64 k ∧ wr = w.drewN m) (fun i _ => xs.length - (intOf i).toNat)
  case atStart => exact ⟨0, 0, Nat.zero_le _, rfl, rfl⟩
  case round =>
    obtain ⟨k, m, hk, rfl, rfl⟩ := hrel
    rcases Nat.lt_or_ge k xs.length with hlt | hge
    · have hne : iv xs ≠ [] := by intro e; have := iv_length xs; rw [e] at this; simp at this; omega
      obtain ⟨b, o, rfl, _, hc⟩ := h4 hne
      obtain ⟨b', o', rfl, _, hc'⟩ := h4' hne
      have hx : xs[k]? = some xs[k] := List.getElem?_eq_getElem hlt
      have c1 := hc _ _ (iv_get hx)
      have c2 := hc' _ _ (iv_get hx)
      clear hc hc' hx h4 h4' hne
      generalize xs[k] = x at *
      have hlt' : (k : Int) < (xs.length : Int) := by omega
      have h0 : (0 : Int) ≤ (k : Int) := by omega
      go_wp2
      go_quiet (fail)
      go_wp2
      go_roundw
      case rel => exact ⟨k + 1, m + nq, by omega, by go_num, (by first | rfl | exact draws_trans)⟩
      case measure => simp [intOf]; omega
    · obtain rfl : k = xs.length := by omega
      go_wp2
      go_ret
      exact ⟨rfl, _, rfl⟩

end Go.Proofs.Ytfijihjbjifhdaa
