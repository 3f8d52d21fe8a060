/- What the rows of this seat share: an argument's reading stays where nothing below the world's end has turned; a []byte that came in reads as a list of bytes. No condition. -/
import Derived.Test.YtcbdlggjpedffaaRows
import Derived.Test.YtcbdlggjpedffaaWords
import Derived.ProofKit
import Derived.OpenShut
import Derived.Carry
namespace Go.Proofs.Ytcbdlggjpedffaa
open Go.ChangeShapes Go.WideShapes Go.ChangeAt Go.RowKit

theorem own : ownKnob Try.prog.godebug = none := by kernel_rfl
theorem Try.laidOut : laidOutB Try.prog = true := by kernel_rfl
theorem Try.cells5 : Try.prog.cellsOf 5 = 1 := by kernel_rfl

theorem trod_keep {H : Type} {enc : TypeId × Value → H} {P : Program} {t : TypeId} (hl : laidOutB P = true) (hr : P.readableRec t = true) (hrow : t < P.types.size) {W W' : World} {v : Value} {d : DataW H} {ps : List MemPlace}
    (h : DataW.Trod enc P W 0 (fun _ => true) true t v d ps) (hb : Below W.heap.size W W') (hlt : ∀ x ∈ ps, x.block < W.heap.size) (sp : Nat → Bool) (hsp : ∀ x ∈ ps, sp x.block = true) :
    DataW.Trod enc P W' 0 sp true t v d ps :=
  WideElems.Trod_stays hl hr hrow h (fun x hx => hb.same (hlt x hx)) hsp

theorem addr_cell {w : World} {a : Addr} {v : Value} (h : w.cell? (a.add 0) = some v) : ∃ b o, a = ⟨b, o, none⟩ := by
  rcases a with ⟨b, o, s⟩
  cases s with
  | none => exact ⟨b, o, rfl⟩
  | some s => exfalso; simp [Addr.add, World.cell?] at h; split at h <;> cases h

/-- a []byte that came in, as bytes -/
theorem open_bytes {H : Type} {enc : TypeId × Value → H} {W : World} {base : Nat} {v : Value} {d : DataW H} {p : List MemPlace}
    (hv : Value.okWide Try.prog W .any base 22 v) (h : DataW.Trod enc Try.prog W 0 (fun _ => true) true 22 v d p) : ∃ l : List UInt8, Rd W W.heap.size v (bv l) := by
  obtain ⟨a0, len, cap, rfl⟩ := okWide_slice Try.underlying22 hv
  obtain ⟨fuel, hf⟩ := h
  rcases open_ints Try.underlying22 Try.underlying5 Try.cells5 hf with ⟨hcs, _⟩ | ⟨a, len', cap', zs, hcs, _, hl, hm, hz, _, hcell, hwz⟩
  · have e : Value.slice a0 len cap = .slice none 0 0 := by simpa [Value.cells] using hcs
    rw [e]
    exact ⟨[], Rd.nil _ _⟩
  · have e : Value.slice a0 len cap = .slice (some a) len' cap' := by simpa [Value.cells] using hcs
    rw [e]
    simp only [if_true] at hz
    have hu : ∀ z ∈ zs, ((UInt8.ofNat z.toNat).toNat : Int) = z := by
      intro z hz
      have hw := hwz z hz
      have hx : 0 ≤ z ∧ z ≤ 255 := by simpa [Lit.wf, IntKind.min, IntKind.max, IntKind.signed, IntKind.bits] using hw
      rw [UInt8.toNat_ofNat']
      omega
    have hlen : ((zs.take len').map fun z => UInt8.ofNat z.toNat).length = len' := by rw [List.length_map, List.length_take]; omega
    refine ⟨(zs.take len').map fun z => UInt8.ofNat z.toNat, some a, cap', by rw [bv_length, hlen], by rw [bv_length, hlen]; exact hl, hm, (fun h => by cases h), fun hne => ?_⟩
    have hpos : 0 < len' := by
      rcases Nat.eq_zero_or_pos len' with h0 | h0
      · exfalso; apply hne; apply List.eq_nil_of_length_eq_zero; rw [bv_length, hlen, h0]
      · exact h0
    obtain ⟨b, o, rfl⟩ := addr_cell (hcell 0 (by omega))
    have hb := block_lt_of_cell (hcell 0 (by omega))
    refine ⟨b, o, rfl, by simpa [Addr.add] using hb, fun j u hju => ?_⟩
    have hj : j < len' := by have := (List.getElem?_eq_some_iff.1 hju).1; rw [bv_length, hlen] at this; exact this
    have hc := hcell j (by omega)
    rw [show (⟨b, o, none⟩ : Addr).add j = ⟨b, o + j, none⟩ from by unfold Addr.add; split <;> simp_all] at hc
    rw [hc]
    have hz' : zs[j]? = some (zs.getD j 0) := by rw [List.getD_eq_getElem?_getD, List.getElem?_eq_getElem (by omega)]; rfl
    simp only [bv, List.map_map, List.getElem?_map, List.getElem?_take, if_pos hj, hz', Option.map_some, Function.comp] at hju
    rw [← hju, hu _ (List.mem_of_getElem? hz')]

end Go.Proofs.Ytcbdlggjpedffaa
