/- What the laws' drawn regions use: a write of bytes that 'full' has just made, in any order with what is read besides. No condition. -/
import Derived.Test.YtcbdlggjpedffaaUse
namespace Go.Proofs.Ytcbdlggjpedffaa
open Go.RowKit
set_option linter.unusedSimpArgs false

/-- what 'full' has handed back, in a block of its own -/
def FullV (n : Nat) (s : List UInt8) (v : Value) (w : World) : Prop := Rd w w.heap.size v (bv s) ∧ ∀ b, v.ownBlock = some b → n ≤ b

theorem FullV.stays {n : Nat} {s : List UInt8} {v : Value} {w w' : World} (h : FullV n s v w) (hz : w.heap.size ≤ w'.heap.size) (hk : ∀ k, k < w.heap.size → n ≤ k → w'.heap[k]? = w.heap[k]?) : FullV n s v w' := by
  obtain ⟨⟨A, c, rfl, h1, h2, h3, h4⟩, h5⟩ := h
  refine ⟨⟨A, c, rfl, h1, h2, h3, fun hne => ?_⟩, h5⟩
  obtain ⟨b, o, rfl, hlt, hc⟩ := h4 hne
  exact ⟨b, o, rfl, Nat.lt_of_lt_of_le hlt hz, fun j u hu => (World.cell?_of_block (hk b hlt (h5 b rfl))).trans (hc j u hu)⟩

section
variable {B : Nat} {w w1 : World} {g : Nat} {d : DK} {M : Nat}
theorem write_reg (h : DiskB B w g d M) (hB : B ≤ w.heap.size) (hb : Below w.heap.size w w1) (i : Int) (v : Value) (s : List UInt8) (hv : FullV w.heap.size s v w1) (hl : d.waits.length ≤ 1048576) :
    Calls Try.prog 12 #[.pointer (some ⟨g, 0, none⟩), .int .i64 i, v] w1 fun e w' => e = .returned (.int .i64 (writeE d i s.length)) ∧ DiskB B w' g (writeD d i s) M ∧ Below B w w' ∧ w1.heap.size ≤ w'.heap.size ∧ ∀ k, k < w1.heap.size → w.heap.size ≤ k → w'.heap[k]? = w1.heap[k]? := by
  have h1 : DiskHas (fun k => B ≤ k ∧ k < w.heap.size) w1 g d M := (h.mono fun k hk hF => ⟨hF, hk⟩).below hb
  refine (write_any h1 i v s hv.1 hl (fun b hb2 e => by have := hv.2 b hb2; omega)).mono ?_
  rintro e w' ⟨rfl, hD, hK⟩
  refine ⟨rfl, hD.mono fun k _ hk => ?_, (hb.mono hB).trans (hK.below (Nat.le_trans hB hb.size) fun k hk => hk.1), hK.size, fun k hk hge => hK.block k hk fun e => by omega⟩
  rcases hk with hk | hk
  · exact hk.1
  · exact Nat.le_trans (Nat.le_trans hB hb.size) hk
end

theorem Staged.either {k1 k2 : Nat} {A C : World → Prop} {l : Nat → Bool} {w : World} (h : Staged k1 k2 A A C l w) (h2 : l k2 = false) : A w := by
  unfold Staged at h
  rw [h2, if_neg (by simp)] at h
  split at h <;> exact h

theorem Staged.keepE {k1 k2 i : Nat} {A C : World → Prop} {l : Nat → Bool} {w : World} (h : A w) (h2 : l k2 = false) (hne : k2 ≠ i) : Staged k1 k2 A A C (upd l i) w := by
  unfold Staged upd
  rw [if_neg hne, h2, if_neg (by simp), ite_self]
  exact h

theorem fullL_nil : fullL [] false = zeroS := rfl
theorem and3 : ∀ x : Fin 256, bits BinOp.and IntKind.u8 (x.val : Int) 3 = ((x.val % 4 : Nat) : Int) := by decide +kernel
theorem bits3 (x : UInt8) : bits BinOp.and IntKind.u8 (x.toNat : Int) 3 = ((x.toNat % 4 : Nat) : Int) := and3 ⟨x.toNat, x.toNat_lt⟩

end Go.Proofs.Ytcbdlggjpedffaa
