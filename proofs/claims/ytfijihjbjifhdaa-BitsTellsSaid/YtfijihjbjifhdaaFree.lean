/- The walk of free of layer 6 and of its iterator: it hands the loop the free places, lowest first, whatever the loop does with memory of its own. -/
import Derived.RangeFuncNested
import Derived.RangeFuncBound
import Derived.RangeFuncCalls
import Derived.RangeFuncLeaves
import Derived.RangeFuncBox
import Derived.Shelf.Abstract
import Derived.OwnWalkIn
import Derived.TacticsInMore
import Derived.LoopNIn
import Derived.LoopIn
import Derived.Test.YtfijihjbjifhdaaHas
namespace Go.Proofs.Ytfijihjbjifhdaa
open Go.RowKit Go.Shelf

attribute [local go_sem] Oper.semAt_some

/-- what a round keeps: all below B0, and the block Bb -/
def KpF (B0 Bb : Nat) (A C : World) : Prop := Below B0 A C ∧ C.heap[Bb]? = A.heap[Bb]?

theorem KpF.t {B0 Bb : Nat} {A B C : World} (h : KpF B0 Bb A B) (k : KpF B0 Bb B C) : KpF B0 Bb A C := ⟨h.1.trans k.1, k.2.trans h.2⟩
theorem KpF.b {B0 Bb : Nat} {w : World} (h0 : B0 ≤ w.heap.size) (hb : Bb < w.heap.size) (W : World) (l : Nat) (o o' : Obj) (hl : w.heap.size ≤ l) (h : W.heap[l]? = some o) (h1 : o.isCells = false) (h2 : o.isWalk = false) : KpF B0 Bb W (W.putObj l o') :=
  ⟨belowK_b h0 W l o o' hl h h1 h2, World.putObj_heap_other (by omega)⟩

theorem freeB_succ_hit (l : List UInt8) (k : Nat) (h : bitB l k = true) : freeB l (k + 1) = freeB l k := by
  simp [freeB, List.range_succ, h]
theorem freeB_succ_miss (l : List UInt8) (k : Nat) (h : bitB l k = false) : freeB l (k + 1) = freeB l k ++ [(k : Int)] := by
  simp [freeB, List.range_succ, h]
theorem freeB_add (l : List UInt8) (k j : Nat) : freeB l k <+: freeB l (k + j) := by
  induction j with
  | zero => exact List.prefix_refl _
  | succ j ih =>
    cases h : bitB l (k + j) with
    | true => rw [← Nat.add_assoc, freeB_succ_hit _ _ h]; exact ih
    | false => rw [← Nat.add_assoc, freeB_succ_miss _ _ h]; exact ih.trans (List.prefix_append _ _)
theorem freeB_le (l : List UInt8) {k n : Nat} (h : k ≤ n) : freeB l k <+: freeB l n := by
  obtain ⟨j, rfl⟩ := Nat.exists_eq_add_of_le h
  exact freeB_add l k j
theorem freeB_length (l : List UInt8) (k : Nat) : (freeB l k).length ≤ k := by
  unfold freeB
  rw [List.length_map]
  have := List.length_filter_le (fun k => !bitB l k) (List.range k)
  simpa using this

theorem grown_drewN (W : World) (m : Nat) : W.grownBy (W.drewN m) none := ⟨rfl, rfl, rfl, Nat.le_refl _, fun _ _ _ => rfl⟩

set_option maxRecDepth 100000 in
set_option maxHeartbeats 1000000 in
theorem free1_in (n : Nat) (hn : 1 ≤ n) (yl Bn Bb B0 : Nat) (v : Value) (l : List UInt8) (N : Nat) (hN : N ≤ 1099511627776) (J Jx : List Int → World → Prop)
    (hY : ∀ pre x W, J pre W → pre.length < (freeB l N).length → YieldAt Fence.wide (n - 1) Try.prog yl #[.int .i64 x] W fun e W' =>
      (e = .returned (.bool true) ∧ J (pre ++ [x]) W' ∧ KpF B0 Bb W W') ∨ (e = .returned (.bool false) ∧ Jx (pre ++ [x]) W'))
    (W : World) (hJ : AbidesFrom W.heap.size J) (hBn : W.cell? ⟨Bn, 0, none⟩ = some (.int .i64 N)) (hBb : W.cell? ⟨Bb, 0, none⟩ = some v) (hL : Rd W B0 v (bv l)) (h0 : J [] W) :
    CallsIn Fence.wide n Try.prog 23 #[.func (.yield yl) #[] #[], .pointer (some ⟨Bn, 0, none⟩), .pointer (some ⟨Bb, 0, none⟩)] W fun e W' => (∃ v, e = .returned v) ∧
      ((∃ ys, ys = freeB l N ∧ J ys W') ∨ (∃ pre, pre <+: freeB l N ∧ Jx pre W')) := by
  have hfn : Fence.wide.fn 11 := trivial
  refine callsIn_of_wp Try.func23 rfl trivial ?_ rfl
  simp only [Try.ntmps23, List.size_toArray, List.length_cons, List.length_nil, Nat.reduceAdd, Nat.reduceSub, Array.replicate_succ, Array.replicate_zero, List.push_toArray, List.append_toArray, List.nil_append, List.cons_append]
  gi_wp2
  gi_loopw [7] (fun p wr => ∃ k : Nat, k ≤ N ∧ p = .int .i64 k ∧ J (freeB l k) wr ∧ KpF B0 Bb W wr) (fun p _ => N - (intOf p).toNat)
  case atStart =>
    exact ⟨0, Nat.zero_le _, rfl, h0, Below.refl _ _, rfl⟩
  case round =>
    obtain ⟨k, hk, rfl, hJs, hKs⟩ := hrel
    have hc1 : wr.cell? ⟨Bb, 0, none⟩ = some v := (World.cell?_of_block hKs.2).trans hBb
    have HL := Lib.hid (hL.below hKs.1)
    rcases Nat.lt_or_ge k N with hlt | hge
    · have hpl : (freeB l k).length < (freeB l N).length ∨ bitB l k = true := by
        cases hb : bitB l k with
        | true => exact .inr rfl
        | false =>
          have := (freeB_le l (show k + 1 ≤ N from hlt)).length_le
          rw [freeB_succ_miss l k hb, List.length_append] at this
          simp at this
          exact .inl (by omega)
      have hhas : hasB l (k : Int) = bitB l k := by simp [hasB]
      have HH := Lib.hid hhas
      clear hhas hBn hBb hL h0
      cases hb : bitB l k with
      | true =>
        have hb' := HH.out.trans hb
        have HB := Lib.hid hb
        clear hb hpl HH
        gi_wp2_with (gi_at_call 11; refine (callsIn_wide.2 (has_any v l k B0 _ HL.out (by omega))).mono ?_; rintro e w1 ⟨rfl, m, rfl⟩; rw [hb'])
        refine ⟨fun _ h => (by cases h), ?_⟩
        gi_wp2
        go_roundw
        case rel => exact ⟨k + 1, by omega, by go_num, by rw [freeB_succ_hit l k HB.out]; exact hJ _ _ _ none hJs (grown_drewN _ _) (fun r h => by cases h), below_drewN hKs.1 _, hKs.2⟩
        case measure => simp [intOf]; omega
      | false =>
        have hb' := HH.out.trans hb
        have hp := hpl.resolve_right (by rw [hb]; simp)
        have HB := Lib.hid hb
        clear hb hpl HH
        gi_wp2_with (gi_at_call 11; refine (callsIn_wide.2 (has_any v l k B0 _ HL.out (by omega))).mono ?_; rintro e w1 ⟨rfl, m, rfl⟩; rw [hb']; obtain ⟨fn, tmps, assign, body, hy, hR⟩ := hY (freeB l k) k (wr.drewN m) (hJ _ _ _ none hJs (grown_drewN _ _) (fun r h => by cases h)) hp)
        refine hR.mono ?_
        rintro e W3 (⟨rfl, hJ3, hk3⟩ | ⟨rfl, hJx3⟩)
        · gi_wp2
          go_roundw
          case rel => exact ⟨k + 1, by omega, by go_num, by rw [freeB_succ_miss l k HB.out]; exact hJ3, (below_drewN hKs.1 m).trans hk3.1, hk3.2.trans hKs.2⟩
          case measure => simp [intOf]; omega
        · gi_wp2
          refine bodyPost_ret (results_none rfl _ _ _) rfl ?_
          exact ⟨⟨_, rfl⟩, .inr ⟨_, by have := freeB_le l (show k + 1 ≤ N from hlt); rw [freeB_succ_miss l k HB.out] at this; exact this, hJx3⟩⟩
    · obtain rfl : k = N := by omega
      gi_wp2
      go_end0
      exact ⟨⟨_, rfl⟩, .inl ⟨_, rfl, hJs⟩⟩

set_option maxRecDepth 100000 in
set_option maxHeartbeats 1000000 in
theorem free1_neg (n : Nat) (yl Bn Bb : Nat) (l : List UInt8) (n0 : Int) (hn0 : n0 < 0) (J Jx : List Int → World → Prop)
    (W : World) (hBn : W.cell? ⟨Bn, 0, none⟩ = some (.int .i64 n0)) (h0 : J [] W) :
    CallsIn Fence.wide n Try.prog 23 #[.func (.yield yl) #[] #[], .pointer (some ⟨Bn, 0, none⟩), .pointer (some ⟨Bb, 0, none⟩)] W fun e W' => (∃ v, e = .returned v) ∧
      ((∃ ys, ys = freeB l n0.toNat ∧ J ys W') ∨ (∃ pre, pre <+: freeB l n0.toNat ∧ Jx pre W')) := by
  have hz : freeB l n0.toNat = [] := by
    rw [show n0.toNat = 0 from by omega]
    rfl
  have HZ := Lib.hid hz
  clear hz
  have hmx : max n0 0 = 0 := by omega
  refine callsIn_of_wp Try.func23 rfl trivial ?_ rfl
  simp only [Try.ntmps23, List.size_toArray, List.length_cons, List.length_nil, Nat.reduceAdd, Nat.reduceSub, Array.replicate_succ, Array.replicate_zero, List.push_toArray, List.append_toArray, List.nil_append, List.cons_append]
  gi_wp2
  gi_loopw [7] (fun p wr => p = .int .i64 0 ∧ wr = W) (fun _ _ => 0)
  case atStart =>
    exact ⟨rfl, rfl⟩
  case round =>
    obtain ⟨rfl, rfl⟩ := hrel
    gi_wp2
    go_end0
    exact ⟨⟨_, rfl⟩, .inl ⟨[], HZ.out.symm, h0⟩⟩

theorem free_in (n : Nat) (A : Option Addr) (m c : Nat) (n0 : Int) (w : World) :
    CallsIn Fence.wide n Try.prog 18 #[.slice A m c, .int .i64 n0] w fun e w' => e = .returned (.func (.func 23) #[] #[.pointer (some ⟨w.heap.size + 1, 0, none⟩), .pointer (some ⟨w.heap.size, 0, none⟩)]) ∧
      w' = (w.alloc (.cells #[.slice A m c] 22)).alloc (.cells #[.int .i64 n0] 3) := by
  refine callsIn_of_wp Try.func18 rfl trivial ?_ rfl
  simp only [Try.ntmps18, List.size_toArray, List.length_cons, List.length_nil, Nat.reduceAdd, Nat.reduceSub, Array.replicate_succ, Array.replicate_zero, List.push_toArray, List.append_toArray, List.nil_append, List.cons_append]
  gi_wp2
  go_ret
  exact ⟨rfl, rfl⟩

/-- **free's value hands on what is free, lowest first** -/
theorem free_stops (n : Nat) (hn : 1 ≤ n) (Bn Bb B0 : Nat) (v : Value) (l : List UInt8) (n0 : Int) (hN : n0 ≤ 1099511627776) (w : World) (hB0 : B0 ≤ w.heap.size)
    (hBn : w.cell? ⟨Bn, 0, none⟩ = some (.int .i64 n0)) (hBb : w.cell? ⟨Bb, 0, none⟩ = some v) (hL : Rd w B0 v (bv l)) :
    SeqStopsK Fence.wide n Try.prog 23 #[.pointer (some ⟨Bn, 0, none⟩), .pointer (some ⟨Bb, 0, none⟩)] (fun x : Int => #[Value.int .i64 x]) (KpF B0 Bb) (fun ys => ys = freeB l n0.toNat) (fun pre => pre <+: freeB l n0.toNat) (freeB l n0.toNat).length w := by
  intro yl J Jx W hW hJ _ hY h0
  have e1 : W.cell? ⟨Bn, 0, none⟩ = some (.int .i64 n0) := (hW.cell (p := ⟨Bn, 0, none⟩) (by simpa using block_lt_of_cell hBn)).trans hBn
  have e2 : W.cell? ⟨Bb, 0, none⟩ = some v := (hW.cell (p := ⟨Bb, 0, none⟩) (by simpa using block_lt_of_cell hBb)).trans hBb
  rcases Int.lt_or_le n0 0 with h | h
  · exact free1_neg n yl Bn Bb l n0 h J Jx W e1 h0
  · obtain ⟨N, rfl⟩ := Int.eq_ofNat_of_zero_le h
    simp only [Int.toNat_natCast] at *
    exact free1_in n hn yl Bn Bb B0 v l N (by omega) J Jx hY W hJ e1 e2 (hL.below (hW.mono hB0)) h0

end Go.Proofs.Ytfijihjbjifhdaa
