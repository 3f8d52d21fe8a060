/- A variable that holds the document's disk; a result that lies in such a one. No condition. -/
import Derived.Test.YtcbdlggjpedffaaRefPut
import Derived.Deep.DeepCutAuto
import Derived.Deep.CutBlock
namespace Go.Proofs.Ytcbdlggjpedffaa
open Go.RowKit
set_option linter.unusedSimpArgs false

theorem Try.size46 : (Try.prog.info? 46).map (·.size) = some 4 := by kernel_rfl

/-- the variable at block n holds these four -/
def BoxD (w : World) (n : Nat) (cs : Array Value) : Prop := w.heap[n]? = some (.cells cs 46 (0, 0))

section
variable {w w' : World} {n k : Nat} {cs cs' : Array Value}
theorem BoxD.new (w : World) (cs : Array Value) : BoxD (w.alloc (.cells cs 46)) w.heap.size cs := heap_alloc_last w _
theorem BoxD.below {B : Nat} (h : BoxD w n cs) (hb : Below B w w') (hn : n < B) : BoxD w' n cs := (hb.block n hn).trans h
theorem BoxD.lt (h : BoxD w n cs) : n < w.heap.size := (Array.getElem?_eq_some_iff.1 h).1
theorem BoxD.cell (h : BoxD w n cs) (j : Nat) : w.cell? ⟨n, j, none⟩ = cs[j]? := cell_of_row w n j cs 46 (0, 0) h
theorem BoxD.frozen (h : BoxD w n cs) (j : Nat) : w.frozen? ⟨n, j, none⟩ = false := frozen_of_row w n j _ 46 h
theorem BoxD.four {a b c d : Value} (h : BoxD w n #[a, b, c, d]) : w.cell? ⟨n, 0, none⟩ = some a ∧ w.cell? ⟨n, 1, none⟩ = some b ∧ w.cell? ⟨n, 2, none⟩ = some c ∧ w.cell? ⟨n, 3, none⟩ = some d := ⟨h.cell 0, h.cell 1, h.cell 2, h.cell 3⟩
theorem BoxD.row (h : BoxD w n cs) (cs' : Array Value) : BoxD (w.setRow n cs') n cs' := by
  unfold BoxD World.setRow at *
  simp [Array.getElem?_modify, h]
theorem setRow_other (hk : k ≠ n) (cs : Array Value) : (w.setRow n cs).heap[k]? = w.heap[k]? := by
  unfold World.setRow
  simp only [Array.getElem?_modify]
  rw [if_neg (fun e => hk e.symm)]
theorem setRow_size (w : World) (n : Nat) (cs : Array Value) : (w.setRow n cs).heap.size = w.heap.size := by simp [World.setRow]
theorem below_box (w : World) (n : Nat) (cs : Array Value) : Below n w (w.setRow n cs) := ⟨rfl, rfl, rfl, by rw [setRow_size]; exact Nat.le_refl _, fun _ hk => setRow_other (by omega) cs⟩
theorem BoxD.set (h : BoxD w n cs) (j : Nat) (v : Value) : BoxD (w.setCell ⟨n, j, none⟩ v) n (cs.setIfInBounds j v) := heap_setCell_same w n j cs 46 v h
theorem own_box {B e size m : Nat} {u : Value} {xs : List Value} (h : w.ownsRow B e size u m xs) (hb : BoxD w n cs) (he : e ≠ 46) (cs' : Array Value) : (w.setRow n cs').ownsRow B e size u m xs :=
  ownsRow_on h fun _ hk => setRow_other (own_ne_blk h hb he hk) cs'
theorem own_boxc {B e size m j : Nat} {u v : Value} {xs : List Value} (h : w.ownsRow B e size u m xs) (hb : BoxD w n cs) (he : e ≠ 46) : (w.setCell ⟨n, j, none⟩ v).ownsRow B e size u m xs :=
  ownsRow_on h fun k hk => heap_setCell_other w ⟨n, j, none⟩ k _ (own_ne_blk h hb he hk)
theorem RefB.row {B : Nat} {v : Value} {d : DK} (h : RefB B w v d) (hb : BoxD w n cs) (cs' : Array Value) : RefB B (w.setRow n cs') v d := by
  obtain ⟨Lv, Wv, rfl, h1, h2⟩ := h
  exact ⟨Lv, Wv, rfl, own_box h1 hb (by decide) cs', own_box h2 hb (by decide) cs'⟩

theorem load46 (h : BoxD w n cs) (hs : cs.size = 4) : (loadVar 46 ⟨n, 0, none⟩).run Try.prog w = .ok (.agg cs) w :=
  run_loadVar_row w n 46 46 cs (0, 0) _ h Try.underlying46 rfl (by rw [Try.size46, hs])
theorem res2 {fn : Func} {t u : Tmp} (h : fn.results = #[.cell t 46, .tmp u]) (tmps : Array Value) (ht : tmps.getD t undef = .pointer (some ⟨n, 0, none⟩)) (hb : BoxD w n cs) (hs : cs.size = 4) :
    (results fn tmps).run Try.prog w = .ok (.tuple #[.agg cs, tmps.getD u undef]) w := by
  have hl := load46 hb hs
  rw [Array.getD_eq_getD_getElem?] at ht
  simp [results, h, ht, asAddr, hl, Result.andThen]
end

end Go.Proofs.Ytcbdlggjpedffaa
