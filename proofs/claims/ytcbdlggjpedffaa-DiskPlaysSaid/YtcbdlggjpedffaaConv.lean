/- 'string(b)' of a slice that reads as a list of bytes is the string of these bytes. No condition. -/
import Derived.Test.YtcbdlggjpedffaaProg
import Derived.Test.YtcbdlggjpedffaaWords
import Derived.Laws.IdiomStrings
import Derived.Lib.BufferRead
namespace Go.Proofs.Ytcbdlggjpedffaa
open Go.RowKit

/-- the string of these bytes -/
def strOf (l : List UInt8) : Value := .string ⟨l.toArray⟩

theorem conv_rd {w : World} {B : Nat} {v : Value} {l : List UInt8} (h : Rd w B v (bv l)) : (convert 22 9 v).run Try.prog w = .ok (.string ⟨l.toArray⟩) w := by
  obtain ⟨A, c, rfl, h1, h2, h3, h4⟩ := h
  rw [bv_length] at *
  rcases A with _ | ad
  · have hc := h3 rfl
    subst hc
    have hl : l = [] := List.eq_nil_of_length_eq_zero (by omega)
    subst hl
    exact Lib.run_convert_nil_bytes w 22 9 5 0 Try.underlying22 Try.underlying5 Try.underlying9
  · refine run_convert_bytes_back w 22 9 5 ad c l Try.underlying22 Try.underlying5 Try.underlying9 (fun j hj => ?_)
    obtain ⟨b, o, e, _, hc⟩ := h4 (by intro e; have := bv_length l; rw [e] at this; simp at this; omega)
    injection e with e
    subst e
    rw [show (⟨b, o, none⟩ : Addr).add j = ⟨b, o + j, none⟩ from by unfold Addr.add; split <;> simp_all]
    exact hc j _ (bv_get (List.getElem?_eq_getElem hj))

end Go.Proofs.Ytcbdlggjpedffaa
