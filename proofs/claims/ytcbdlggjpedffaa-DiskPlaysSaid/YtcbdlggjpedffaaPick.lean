/- The walk of 'picked' of layer 3 and of its iterator: it hands the loop the places that are picked, lowest first, whatever the loop does with memory of its own. -/
import Derived.RangeFuncNested
import Derived.RangeFuncBound
import Derived.RangeFuncCalls
import Derived.RangeFuncLeaves
import Derived.RangeFuncBox
import Derived.RangeFuncWrites
import Derived.Shelf.Abstract
import Derived.OwnWalkIn
import Derived.TacticsInMore
import Derived.LoopNIn
import Derived.LoopIn
import Derived.Laws.ShiftsVarLaws
import Derived.Test.YtcbdlggjpedffaaFlush
namespace Go.Proofs.Ytcbdlggjpedffaa
open Go.RowKit Go.Shelf
set_option linter.unusedSimpArgs false

attribute [local go_sem] Oper.semAt_some

def bitV (x : UInt8) (k : Nat) : Bool := x.toNat / 2 ^ (k % 8) % 2 == 1
theorem pickB_at {l : List UInt8} {k : Nat} {x : UInt8} (h : l[k / 8]? = some x) : pickB l k = bitV x k := by unfold pickB bitV; rw [h]
theorem pickB_out {l : List UInt8} {k : Nat} (h : l.length ≤ k / 8) : pickB l k = false := by unfold pickB; rw [List.getElem?_eq_none h]

theorem picks_succ_hit (l : List UInt8) (k : Nat) (h : pickB l k = true) : picks l (k + 1) = picks l k ++ [k] := by simp [picks, List.range_succ, h]
theorem picks_succ_miss (l : List UInt8) (k : Nat) (h : pickB l k = false) : picks l (k + 1) = picks l k := by simp [picks, List.range_succ, h]
theorem picks_add (l : List UInt8) (k j : Nat) : picks l k <+: picks l (k + j) := by
  induction j with
  | zero => exact List.prefix_refl _
  | succ j ih =>
    cases h : pickB l (k + j) with
    | false => rw [← Nat.add_assoc, picks_succ_miss _ _ h]; exact ih
    | true => rw [← Nat.add_assoc, picks_succ_hit _ _ h]; exact ih.trans (List.prefix_append _ _)
theorem picks_le (l : List UInt8) {k n : Nat} (h : k ≤ n) : picks l k <+: picks l n := by
  obtain ⟨j, rfl⟩ := Nat.exists_eq_add_of_le h
  exact picks_add l k j
theorem picks_cut (l : List UInt8) (n : Nat) : picks l (min n (8 * l.length)) = picks l n := by
  rcases Nat.le_total n (8 * l.length) with h | h
  · rw [Nat.min_eq_left h]
  · rw [Nat.min_eq_right h]
    obtain ⟨j, rfl⟩ := Nat.exists_eq_add_of_le h
    clear h
    induction j with
    | zero => rfl
    | succ j ih => rw [← Nat.add_assoc, picks_succ_miss _ _ (pickB_out (by omega))]; exact ih
theorem mem_picks {l : List UInt8} {n k : Nat} (h : k ∈ picks l n) : k < n ∧ pickB l k = true := by
  unfold picks at h
  rw [List.mem_filter, List.mem_range] at h
  exact h

/-- what is picked of the first k of N -/
def picksF (l : List UInt8) (N : Nat) : (k : Nat) → k ≤ N → List (Fin N)
  | 0, _ => []
  | k + 1, h => if pickB l k = true then picksF l N k (Nat.le_of_succ_le h) ++ [⟨k, h⟩] else picksF l N k (Nat.le_of_succ_le h)
theorem picksF_val (l : List UInt8) (N : Nat) : ∀ (k : Nat) (h : k ≤ N), (picksF l N k h).map (·.val) = picks l k
  | 0, _ => rfl
  | k + 1, h => by
    unfold picksF
    cases hb : pickB l k with
    | true => rw [if_pos rfl, List.map_append, picksF_val l N k, picks_succ_hit l k hb]; rfl
    | false => rw [if_neg (by simp), picksF_val l N k, picks_succ_miss l k hb]
theorem picksF_add (l : List UInt8) (N k j : Nat) (h1 : k ≤ N) (h2 : k + j ≤ N) : picksF l N k h1 <+: picksF l N (k + j) h2 := by
  induction j with
  | zero => exact List.prefix_refl _
  | succ j ih =>
    refine (ih (by omega)).trans ?_
    show _ <+: picksF l N (k + j + 1) h2
    rw [picksF]
    split
    · exact List.prefix_append _ _
    · exact List.prefix_refl _
theorem picksF_le (l : List UInt8) (N : Nat) {k n : Nat} (h1 : k ≤ N) (h2 : n ≤ N) (h : k ≤ n) : picksF l N k h1 <+: picksF l N n h2 := by
  obtain ⟨j, rfl⟩ := Nat.exists_eq_add_of_le h
  exact picksF_add l N k j h1 h2
theorem picksF_end (l : List UInt8) (N m : Nat) (h : m ≤ N) (hm : m = min N (8 * l.length)) : picksF l N m h = picksF l N N (Nat.le_refl _) := by
  refine (picksF_le l N h (Nat.le_refl _) h).eq_of_length ?_
  have h1 := congrArg List.length (picksF_val l N m h)
  have h2 := congrArg List.length (picksF_val l N N (Nat.le_refl _))
  rw [List.length_map] at h1 h2
  rw [h1, h2, hm, picks_cut]

theorem grown_drewN (W : World) (m : Nat) : W.grownBy (W.drewN m) none := ⟨rfl, rfl, rfl, Nat.le_refl _, fun _ _ _ => rfl⟩

theorem bits_pick_all : ∀ (x : Fin 256) (r : Fin 8), (bits BinOp.and IntKind.u8 ((x.val : Int) / 2 ^ r.val) 1 == 1) = (x.val / 2 ^ r.val % 2 == 1) := by decide +kernel

theorem bits_pick (x : UInt8) (k : Nat) : (bits BinOp.and IntKind.u8 ((x.toNat : Int) / 2 ^ (k % 8)) 1 == 1) = bitV x k := bits_pick_all ⟨x.toNat, x.toNat_lt⟩ ⟨k % 8, Nat.mod_lt _ (by omega)⟩

/-- what a round keeps: all below B0 but block mb, and the blocks of the two boxes -/
def KpP (B0 mb b1 b2 : Nat) (A C : World) : Prop := Kept (fun k => k = mb ∨ (B0 ≤ k ∧ k ≠ b1 ∧ k ≠ b2)) A C

theorem ne_map {w : World} {b o mb : Nat} {u : Value} (h : w.cell? ⟨b, o, none⟩ = some u) (hm : ∃ es clock, w.heap[mb]? = some (.map es clock)) : b ≠ mb := by
  rintro rfl
  obtain ⟨es, clock, hm⟩ := hm
  simp [World.cell?, hm] at h

theorem KpP.t {B0 mb b1 b2 : Nat} {A B C : World} (h : KpP B0 mb b1 b2 A B) (k : KpP B0 mb b1 b2 B C) : KpP B0 mb b1 b2 A C := Kept.then h k

/-- '8*len(b)', of a list of L bytes, speaks of these first ones -/
def Effect (L : Nat) (l : List UInt8) : Prop := l.length ≤ L ∧ (IntKind.i64.wrap (8 * (L : Int)) = ((8 * l.length : Nat) : Int) ∨ (IntKind.i64.wrap (8 * (L : Int)) ≤ 0 ∧ l = []))
theorem wrap8 (L : Nat) : (∃ n : Nat, n ≤ L ∧ IntKind.i64.wrap (8 * (L : Int)) = ((8 * n : Nat) : Int)) ∨ IntKind.i64.wrap (8 * (L : Int)) ≤ 0 := by
  unfold IntKind.wrap
  simp only [IntKind.bits, IntKind.signed]
  by_cases h : (8 * (L : Int)) % 18446744073709551616 < 9223372036854775808
  · left
    refine ⟨(8 * L) % 18446744073709551616 / 8, by omega, ?_⟩
    simp
    omega
  · right
    simp
    omega
theorem effect_of (l : List UInt8) : ∃ n, Effect l.length (l.take n) := by
  rcases wrap8 l.length with ⟨n, hn, h⟩ | h
  · exact ⟨n, by rw [List.length_take]; omega, .inl (by rw [h, List.length_take, Nat.min_eq_left hn])⟩
  · exact ⟨0, by simp, .inr ⟨h, by simp⟩⟩
theorem effect_all (l : List UInt8) (h : l.length ≤ 1099511627776) : Effect l.length l := by
  refine ⟨Nat.le_refl _, .inl ?_⟩
  unfold IntKind.wrap
  simp [IntKind.bits, IntKind.signed]
  omega
theorem pickB_take {l : List UInt8} {n k : Nat} (h : pickB (l.take n) k = true) : pickB l k = true := by
  unfold pickB at *
  rw [List.getElem?_take] at h
  split at h
  · rename_i x hx
    split at hx
    · rw [hx]; exact h
    · cases hx
  · cases h

set_option maxRecDepth 100000 in
set_option maxHeartbeats 1000000 in
theorem picked1_in (n : Nat) (hn : 1 ≤ n) (yl Bn Bb B0 mb : Nat) (A : Option Addr) (L c : Nat) (l : List UInt8) (N : Nat) (hN : N ≤ 1099511627776) (hE : Effect L l) (J Jx : List (Fin N) → World → Prop)
    (hY : ∀ (pre : List (Fin N)) (x : Fin N) W, J pre W → pre.length < (picksF l N N (Nat.le_refl _)).length → YieldAt Fence.wide (n - 1) Try.prog yl #[.int .i64 (x.val : Int)] W fun e W' =>
      (e = .returned (.bool true) ∧ J (pre ++ [x]) W' ∧ KpP B0 mb Bn Bb W W') ∨ (e = .returned (.bool false) ∧ Jx (pre ++ [x]) W'))
    (W : World) (hBn : W.cell? ⟨Bn, 0, none⟩ = some (.int .i64 N)) (hBb : W.cell? ⟨Bb, 0, none⟩ = some (.slice A L c)) (hL : Rd W B0 (.slice A l.length c) (bv l)) (hmap : ∃ es clock, W.heap[mb]? = some (.map es clock)) (hB0 : B0 ≤ W.heap.size) (h0 : J [] W) :
    CallsIn Fence.wide n Try.prog 34 #[.func (.yield yl) #[] #[], .pointer (some ⟨Bn, 0, none⟩), .pointer (some ⟨Bb, 0, none⟩)] W fun e W' => (∃ v, e = .returned v) ∧
      ((∃ ys, ys = picksF l N N (Nat.le_refl _) ∧ J ys W') ∨ (∃ pre, pre <+: picksF l N N (Nat.le_refl _) ∧ Jx pre W')) := by
  obtain ⟨m, hm⟩ : ∃ m, m = min N (8 * l.length) := ⟨_, rfl⟩
  have hm1 : min (N : Int) (8 * (l.length : Int)) = (m : Int) := by omega
  have hmN : m ≤ N := by omega
  have hml : m ≤ 8 * l.length := by omega
  have HCUT := Lib.hid (picksF_end l N m (by omega) hm)
  clear hm
  refine callsIn_of_wp Try.func34 rfl trivial ?_ rfl
  simp only [Try.ntmps34, List.size_toArray, List.length_cons, List.length_nil, Nat.reduceAdd, Nat.reduceSub, Array.replicate_succ, Array.replicate_zero, List.push_toArray, List.append_toArray, List.nil_append, List.cons_append]
  have HL := Lib.hid hL
  have HMAP := Lib.hid hmap
  have HBB := Lib.hid (show Bb < W.heap.size ∧ ¬ (Bb = mb ∨ (B0 ≤ Bb ∧ Bb ≠ Bn ∧ Bb ≠ Bb)) from ⟨by have := block_lt_of_cell hBb; simpa using this, by rintro (h | h); exact ne_map hBb hmap h; exact h.2.2 rfl⟩)
  have HFAR := Lib.hid hB0
  clear hL hmap hB0
  obtain ⟨hlL, hE⟩ := hE
  rcases hE with hq | ⟨hq, rfl⟩

  · skip
    rcases Nat.lt_or_ge (8 * l.length) N with hle | hle
    · have hle' : 8 * (l.length : Int) < (N : Int) := by omega
      gi_wp2
      rw [show 8 * (l.length : Int) = (m : Int) by omega]
      gi_loopw [10] (fun p wr => ∃ (k : Nat) (hkN : k ≤ N), k ≤ m ∧ p = .int .i64 k ∧ J (picksF l N k hkN) wr ∧ KpP B0 mb Bn Bb W wr) (fun p _ => m - (intOf p).toNat)
      case atStart => exact ⟨0, Nat.zero_le _, Nat.zero_le _, rfl, h0, Kept.refl _ _⟩
      case round =>
        obtain ⟨k, hkN, hk, rfl, hJs, hKs⟩ := hrel
        have hc1 : wr.cell? ⟨Bb, 0, none⟩ = some (.slice A L c) := (World.cell?_of_block (hKs.block Bb HBB.out.1 HBB.out.2)).trans hBb
        rcases Nat.lt_or_ge k m with hlt | hge
        · have hlt' : (k : Int) < (m : Int) := by omega
          have hx : l[k / 8]? = some l[k / 8] := List.getElem?_eq_getElem (by omega)
          have HPB := Lib.hid (pickB_at hx)
          obtain ⟨gb, o, rfl, hgb, hc⟩ := HL.out.open_ (by intro e; have := bv_length l; rw [e] at this; simp at this; omega)
          have hcx : wr.cell? ⟨gb, o + k / 8, none⟩ = some (.int .u8 (l[k / 8].toNat : Int)) := (World.cell?_of_block (hKs.block gb (Nat.lt_of_lt_of_le hgb HFAR.out) (by rintro (h | h); exact ne_map (hc _ _ (bv_get hx)) HMAP.out h; omega))).trans (hc _ _ (bv_get hx))
          have hxl : l[k / 8].toNat < 256 := l[k / 8].toNat_lt
          have hpl : (picksF l N k hkN).length < (picksF l N N (Nat.le_refl _)).length ∨ pickB l k = false := by
            cases hb : pickB l k with
            | false => exact .inr rfl
            | true =>
              have := (picksF_le l N (show k + 1 ≤ N by omega) (Nat.le_refl N) (by omega)).length_le
              rw [picksF, if_pos hb, List.length_append] at this
              simp at this
              exact .inl (by omega)
          have hkd : (k : Int) / 8 < (L : Int) := by omega
          have hkd0 : (0 : Int) ≤ (k : Int) / 8 := by omega
          have hkn : ((k : Int) / 8).toNat = k / 8 := by omega
          clear hx hc
          generalize l[k / 8] = x at *
          have hbit := bits_pick x k
          cases hb : bitV x k with
          | false =>
            rw [hb] at hbit
            have hb' := HPB.out.trans hb
            have HB := Lib.hid hb'
            clear hb hb' hpl HPB
            gi_wp2
            refine ⟨fun _ h => (by cases h), ?_⟩
            gi_wp2
            go_roundw
            case rel => exact ⟨k + 1, by omega, by omega, by go_num, by rw [picksF, if_neg (by rw [HB.out]; simp)]; exact hJs, hKs⟩
            case measure => simp [intOf]; omega
          | true =>
            rw [hb] at hbit
            have hb' := HPB.out.trans hb
            have hp := hpl.resolve_right (by rw [hb']; simp)
            have HB := Lib.hid hb'
            clear hb hb' hpl HPB
            obtain ⟨fn, tmps, assign, body, hy, hR⟩ := hY (picksF l N k hkN) ⟨k, by omega⟩ wr hJs hp
            gi_wp2
            refine hR.mono ?_
            rintro e W3 (⟨rfl, hJ3, hk3⟩ | ⟨rfl, hJx3⟩)
            · gi_wp2
              go_roundw
              case rel => exact ⟨k + 1, by omega, by omega, by go_num, by rw [picksF, if_pos HB.out]; exact hJ3, hKs.then hk3⟩
              case measure => simp [intOf]; omega
            · gi_wp2
              refine bodyPost_ret (results_none rfl _ _ _) rfl ?_
              exact ⟨⟨_, rfl⟩, .inr ⟨_, by have := picksF_le l N (show k + 1 ≤ N by omega) (Nat.le_refl N) (by omega); rw [picksF, if_pos HB.out] at this; exact this, hJx3⟩⟩
        · obtain rfl : k = m := by omega
          gi_wp2
          go_end0
          exact ⟨⟨_, rfl⟩, .inl ⟨_, HCUT.out, hJs⟩⟩
    · have hle' : (N : Int) ≤ 8 * (l.length : Int) := by omega
      gi_wp2
      rw [show (N : Int) = (m : Int) by omega]
      gi_loopw [10] (fun p wr => ∃ (k : Nat) (hkN : k ≤ N), k ≤ m ∧ p = .int .i64 k ∧ J (picksF l N k hkN) wr ∧ KpP B0 mb Bn Bb W wr) (fun p _ => m - (intOf p).toNat)
      case atStart => exact ⟨0, Nat.zero_le _, Nat.zero_le _, rfl, h0, Kept.refl _ _⟩
      case round =>
        obtain ⟨k, hkN, hk, rfl, hJs, hKs⟩ := hrel
        have hc1 : wr.cell? ⟨Bb, 0, none⟩ = some (.slice A L c) := (World.cell?_of_block (hKs.block Bb HBB.out.1 HBB.out.2)).trans hBb
        rcases Nat.lt_or_ge k m with hlt | hge
        · have hlt' : (k : Int) < (m : Int) := by omega
          have hx : l[k / 8]? = some l[k / 8] := List.getElem?_eq_getElem (by omega)
          have HPB := Lib.hid (pickB_at hx)
          obtain ⟨gb, o, rfl, hgb, hc⟩ := HL.out.open_ (by intro e; have := bv_length l; rw [e] at this; simp at this; omega)
          have hcx : wr.cell? ⟨gb, o + k / 8, none⟩ = some (.int .u8 (l[k / 8].toNat : Int)) := (World.cell?_of_block (hKs.block gb (Nat.lt_of_lt_of_le hgb HFAR.out) (by rintro (h | h); exact ne_map (hc _ _ (bv_get hx)) HMAP.out h; omega))).trans (hc _ _ (bv_get hx))
          have hxl : l[k / 8].toNat < 256 := l[k / 8].toNat_lt
          have hpl : (picksF l N k hkN).length < (picksF l N N (Nat.le_refl _)).length ∨ pickB l k = false := by
            cases hb : pickB l k with
            | false => exact .inr rfl
            | true =>
              have := (picksF_le l N (show k + 1 ≤ N by omega) (Nat.le_refl N) (by omega)).length_le
              rw [picksF, if_pos hb, List.length_append] at this
              simp at this
              exact .inl (by omega)
          have hkd : (k : Int) / 8 < (L : Int) := by omega
          have hkd0 : (0 : Int) ≤ (k : Int) / 8 := by omega
          have hkn : ((k : Int) / 8).toNat = k / 8 := by omega
          clear hx hc
          generalize l[k / 8] = x at *
          have hbit := bits_pick x k
          cases hb : bitV x k with
          | false =>
            rw [hb] at hbit
            have hb' := HPB.out.trans hb
            have HB := Lib.hid hb'
            clear hb hb' hpl HPB
            gi_wp2
            refine ⟨fun _ h => (by cases h), ?_⟩
            gi_wp2
            go_roundw
            case rel => exact ⟨k + 1, by omega, by omega, by go_num, by rw [picksF, if_neg (by rw [HB.out]; simp)]; exact hJs, hKs⟩
            case measure => simp [intOf]; omega
          | true =>
            rw [hb] at hbit
            have hb' := HPB.out.trans hb
            have hp := hpl.resolve_right (by rw [hb']; simp)
            have HB := Lib.hid hb'
            clear hb hb' hpl HPB
            obtain ⟨fn, tmps, assign, body, hy, hR⟩ := hY (picksF l N k hkN) ⟨k, by omega⟩ wr hJs hp
            gi_wp2
            refine hR.mono ?_
            rintro e W3 (⟨rfl, hJ3, hk3⟩ | ⟨rfl, hJx3⟩)
            · gi_wp2
              go_roundw
              case rel => exact ⟨k + 1, by omega, by omega, by go_num, by rw [picksF, if_pos HB.out]; exact hJ3, hKs.then hk3⟩
              case measure => simp [intOf]; omega
            · gi_wp2
              refine bodyPost_ret (results_none rfl _ _ _) rfl ?_
              exact ⟨⟨_, rfl⟩, .inr ⟨_, by have := picksF_le l N (show k + 1 ≤ N by omega) (Nat.le_refl N) (by omega); rw [picksF, if_pos HB.out] at this; exact this, hJx3⟩⟩
        · obtain rfl : k = m := by omega
          gi_wp2
          go_end0
          exact ⟨⟨_, rfl⟩, .inl ⟨_, HCUT.out, hJs⟩⟩
  · obtain ⟨q, hqe⟩ : ∃ q, IntKind.i64.wrap (8 * (L : Int)) = q := ⟨_, rfl⟩
    rw [hqe] at hq
    obtain rfl : m = 0 := by simpa using hml
    have hq0 : ¬ (0 : Int) < q := by omega
    have hqd : decide ((0 : Int) < q) = false := by simpa using hq
    clear hm1
    rcases Int.lt_or_le q (N : Int) with hqN | hqN
    · gi_wp2
      gi_loopw [10] (fun p wr => p = .int .i64 0 ∧ wr = W) (fun _ _ => 0)
      case atStart => exact ⟨rfl, rfl⟩
      case round =>
        obtain ⟨rfl, rfl⟩ := hrel
        gi_wp2
        go_end0
        exact ⟨⟨_, rfl⟩, .inl ⟨_, HCUT.out, h0⟩⟩
    · obtain rfl : N = 0 := by omega
      obtain rfl : q = 0 := by omega
      clear hq0 hqd hqN hq
      gi_wp2
      gi_loopw [10] (fun p wr => p = .int .i64 0 ∧ wr = W) (fun _ _ => 0)
      case atStart => exact ⟨rfl, rfl⟩
      case round =>
        obtain ⟨rfl, rfl⟩ := hrel
        gi_wp2
        go_end0
        exact ⟨⟨_, rfl⟩, .inl ⟨_, rfl, h0⟩⟩

theorem picked_in (n : Nat) (A : Option Addr) (m c : Nat) (k : Int) (w : World) :
    CallsIn Fence.wide n Try.prog 29 #[.slice A m c, .int .i64 k] w fun e w' => e = .returned (.func (.func 34) #[] #[.pointer (some ⟨w.heap.size + 1, 0, none⟩), .pointer (some ⟨w.heap.size, 0, none⟩)]) ∧
      w' = (w.alloc (.cells #[.slice A m c] 22)).alloc (.cells #[.int .i64 k] 3) := by
  refine callsIn_of_wp Try.func29 rfl trivial ?_ rfl
  simp only [Try.ntmps29, List.size_toArray, List.length_cons, List.length_nil, Nat.reduceAdd, Nat.reduceSub, Array.replicate_succ, Array.replicate_zero, List.push_toArray, List.append_toArray, List.nil_append, List.cons_append]
  gi_wp2
  go_ret
  exact ⟨rfl, rfl⟩

/-- **the value of 'picked' hands on what is picked, lowest first** -/
theorem picked_stops (n : Nat) (hn : 1 ≤ n) (Bn Bb B0 mb : Nat) (A : Option Addr) (L c : Nat) (l : List UInt8) (N : Nat) (hN : N ≤ 1099511627776) (hE : Effect L l) (w : World) (hB0 : B0 ≤ w.heap.size)
    (hBn : w.cell? ⟨Bn, 0, none⟩ = some (.int .i64 N)) (hBb : w.cell? ⟨Bb, 0, none⟩ = some (.slice A L c)) (hL : Rd w B0 (.slice A l.length c) (bv l)) (hmap : ∃ es clock, w.heap[mb]? = some (.map es clock)) :
    SeqStopsK Fence.wide n Try.prog 34 #[.pointer (some ⟨Bn, 0, none⟩), .pointer (some ⟨Bb, 0, none⟩)] (fun x : Fin N => #[Value.int .i64 (x.val : Int)]) (KpP B0 mb Bn Bb) (fun ys => ys = picksF l N N (Nat.le_refl _)) (fun pre => pre <+: picksF l N N (Nat.le_refl _)) (picksF l N N (Nat.le_refl _)).length w := by
  intro yl J Jx W hW _ _ hY h0
  have e1 : W.cell? ⟨Bn, 0, none⟩ = some (.int .i64 N) := (hW.cell (p := ⟨Bn, 0, none⟩) (by simpa using block_lt_of_cell hBn)).trans hBn
  have e2 : W.cell? ⟨Bb, 0, none⟩ = some (.slice A L c) := (hW.cell (p := ⟨Bb, 0, none⟩) (by simpa using block_lt_of_cell hBb)).trans hBb
  obtain ⟨es, clock, hm⟩ := hmap
  exact picked1_in n hn yl Bn Bb B0 mb A L c l N hN hE J Jx hY W e1 e2 (hL.below (hW.mono hB0)) ⟨es, clock, (hW.block mb (Array.getElem?_eq_some_iff.1 hm).1).trans hm⟩ (Nat.le_trans hB0 hW.size) h0

end Go.Proofs.Ytcbdlggjpedffaa
