/- 'full' of the statements of layer 3: 128 bytes, or 127, out of a list. No condition. -/
import Derived.Test.YtcbdlggjpedffaaBase
import Derived.Laws.OwnMore
namespace Go.Proofs.Ytcbdlggjpedffaa
open Go.RowKit
set_option linter.unusedSimpArgs false

/-- a sector out of raw bytes -/
def fullS (l : List UInt8) : List UInt8 := l.take 128 ++ List.replicate (128 - l.length) 0
def fullL (l : List UInt8) (odd : Bool) : List UInt8 := if odd = true then (fullS l).take 127 else fullS l
theorem fullS_length (l : List UInt8) : (fullS l).length = 128 := by unfold fullS; rw [List.length_append, List.length_take, List.length_replicate]; omega
theorem fullL_length (l : List UInt8) (odd : Bool) : (fullL l odd).length = if odd = true then 127 else 128 := by
  unfold fullL
  split
  · rw [List.length_take, fullS_length]; rfl
  · exact fullS_length l

/-- behind k rounds -/
def fullK (l : List UInt8) (k : Nat) : List UInt8 := l.take k ++ List.replicate (128 - k) 0
theorem fullK_set {l : List UInt8} {k : Nat} {x : UInt8} (hx : l[k]? = some x) (hk : k < 128) : (bv (fullK l k)).set k (.int .u8 (x.toNat : Int)) = bv (fullK l (k + 1)) := by
  have hkl := (List.getElem?_eq_some_iff.1 hx).1
  apply List.ext_getElem?
  intro j
  rw [List.getElem?_set]
  unfold fullK
  simp only [bv, List.getElem?_map, List.length_map, List.length_append, List.length_take, List.length_replicate]
  by_cases hj : k = j
  · subst hj
    rw [if_pos rfl, if_pos (by omega), List.getElem?_append_left (by rw [List.length_take]; omega), List.getElem?_take, if_pos (by omega), hx]
    rfl
  · rw [if_neg hj]
    congr 1
    by_cases hjk : j < k
    · rw [List.getElem?_append_left (by rw [List.length_take]; omega), List.getElem?_append_left (by rw [List.length_take]; omega), List.getElem?_take, List.getElem?_take, if_pos hjk, if_pos (by omega)]
    · rw [List.getElem?_append_right (by rw [List.length_take]; omega), List.getElem?_append_right (by rw [List.length_take]; omega), List.length_take, List.length_take, List.getElem?_replicate, List.getElem?_replicate]
      by_cases h2 : j < 128
      · rw [if_pos (by omega), if_pos (by omega)]
      · rw [if_neg (by omega), if_neg (by omega)]
theorem fullK_end (l : List UInt8) (k : Nat) (hk : k ≤ 128) (h : k = 128 ∨ l.length ≤ k) (hkl : k ≤ l.length) : fullK l k = fullS l := by
  unfold fullK fullS
  rcases h with rfl | h
  · rw [show 128 - l.length = 0 by omega]
  · obtain rfl : k = l.length := by omega
    rw [List.take_of_length_le (Nat.le_refl _), List.take_of_length_le hk]
theorem fullK_zero (l : List UInt8) : fullK l 0 = zeroS := by simp [fullK, zeroS]
theorem fullK_length (l : List UInt8) (k : Nat) (hk : k ≤ 128) (hkl : k ≤ l.length) : (fullK l k).length = 128 := by unfold fullK; rw [List.length_append, List.length_take, List.length_replicate]; omega

theorem zero_cells : (madeCells #[Value.int .u8 0] 128).toList = bv zeroS := by
  rw [toList_madeCells_one]
  simp [bv, zeroS]

/-- A slice of these bytes comes back, in a block that the call made. -/
def FullPost (w : World) (s : List UInt8) (e : Ending) (w' : World) : Prop :=
  ∃ v', e = .returned v' ∧ Rd w' w'.heap.size v' (bv s) ∧ (∀ b, v'.ownBlock = some b → w.heap.size ≤ b) ∧ Below w.heap.size w w'

theorem rd_own_take {w : World} {B g n c k : Nat} {s : List UInt8} (h : w.ownsRow B 5 1 (.slice (some ⟨g, 0, none⟩) n c) n (bv s)) (hk : k ≤ n) (hs : s.length = n) : Rd w w.heap.size (.slice (some ⟨g, 0, none⟩) k c) (bv (s.take k)) := by
  have hm : n ≤ c ∧ c ≤ maxLen := by
    rcases h.2 with ⟨hv, _⟩ | ⟨g', cap, cur, hv, _, _, h1, h2, _⟩
    · cases hv
    · injection hv with _ _ hv
      subst hv
      exact ⟨h1, h2⟩
  rw [bv_take]
  exact (Rd.of_own h).take k c hk (by omega) hm.2 (fun e => by cases e)

set_option maxRecDepth 100000 in
set_option maxHeartbeats 1000000 in
theorem full_any (v : Value) (l : List UInt8) (odd : Bool) (B : Nat) (w : World) (hr : Rd w B v (bv l)) (hB : B ≤ w.heap.size) :
    Calls Try.prog 13 #[v, .bool odd] w (FullPost w (fullL l odd)) := by
  obtain ⟨i0, hi, hz0, hz1, hz2⟩ := info_parts Try.info5
  have HR := Lib.hid hr
  obtain ⟨A, c, rfl, _, _, _⟩ := hr.form
  rw [bv_length] at *
  have HBW := Lib.hid hB
  clear hr hB
  go_enter Try.func13, Try.ntmps13
  go_wp2_with (refine wpList_make_full _ rfl _ _ 22 rfl w.heap.size 5 i0 (.int .u8 0) 1 Try.underlying22 hi hz0 hz1 .i64 .i64 128 128 128 rfl rfl rfl rfl (by omega) (by unfold maxLen; omega) (Nat.le_refl _) ?_; intro w2 hown2 hg2; have HO2 := Lib.hid hown2; have HG2 := Lib.hid hg2; clear hown2 hg2)
  have hb2 : Below w.heap.size w w2 := (Below.refl _ _).grown HG2.out (Nat.le_refl _) (fun k hk => by cases hk)
  have HB2 := Lib.hid hb2
  have hsz : w.heap.size < w2.heap.size := (HO2.out.lt w.heap.size rfl).2
  have hown := HO2.out
  rw [show (128 * 1 : Nat) = 128 from rfl, show (Value.int .u8 0).cells = #[Value.int .u8 0] from rfl, zero_cells, ← fullK_zero l] at hown
  have HO := Lib.hid hown
  clear hown hb2 HO2 HG2 hsz
  go_loopw [6] (fun t wr => ∃ k : Nat, k ≤ 128 ∧ k ≤ l.length ∧ t = .int .i64 k ∧ wr.ownsRow w.heap.size 5 1 (.slice (some ⟨w.heap.size, 0, none⟩) 128 128) 128 (bv (fullK l k)) ∧ Below w.heap.size w wr) (fun t _ => 128 - (intOf t).toNat)
  case atStart => exact ⟨0, Nat.zero_le _, Nat.zero_le _, rfl, HO.out, HB2.out⟩
  case round =>
    obtain ⟨k, hk, hkl, rfl, hrow, hb⟩ := hrel
    have HROW := Lib.hid hrow
    have HB := Lib.hid hb
    by_cases h1 : k < 128
    · have h1' : (k : Int) < 128 := by omega
      by_cases h2 : k < l.length
      · have h2' : (k : Int) < (l.length : Int) := by omega
        obtain ⟨b, o, rfl, hbl, hc⟩ := HR.out.open_ (by intro e; have := bv_length l; rw [e] at this; simp at this; omega)
        have hx : l[k]? = some l[k] := List.getElem?_eq_getElem h2
        have hbw : b < w.heap.size := Nat.lt_of_lt_of_le hbl HBW.out
        have hcx := (hb.cell (p := ⟨b, o + k, none⟩) hbw).trans (hc k _ (bv_get hx))
        have HSET := Lib.hid (fullK_set hx h1)
        generalize l[k] = x at *
        have hco : ∃ u, wr.cell? ⟨w.heap.size, k, none⟩ = some u := ⟨_, by rw [hrow.cellAt k (by omega)]; exact List.getElem?_eq_getElem (by rw [bv_length, fullK_length l k hk hkl]; exact h1)⟩
        obtain ⟨u, hcu⟩ := hco
        have hfu := hrow.frozenAt k
        have hst := (hrow.stored k (.int .u8 (x.toNat : Int))).1
        rw [HSET.out] at hst
        have HST := Lib.hid hst
        clear hrow hb hc hx hst
        go_wp2
        go_roundw
        case rel => exact ⟨k + 1, by omega, by omega, by go_num, HST.out, HB.out.setCell (p := ⟨w.heap.size, k, none⟩) (Nat.le_refl _) _⟩
        case measure => simp [intOf]; omega
      · have h2' : ¬ (k : Int) < (l.length : Int) := by omega
        have h2d : decide ((k : Int) < (l.length : Int)) = false := by simpa using h2'
        have HE := Lib.hid (fullK_end l k hk (.inr (by omega)) hkl)
        have hF : FullPost w (fullL l odd) (.returned (.slice (some ⟨w.heap.size, 0, none⟩) (if odd = true then 127 else 128) 128)) wr := by
          refine ⟨_, rfl, ?_, (fun b hb => by have hb' : some w.heap.size = some b := hb; injection hb' with e; omega), hb⟩
          rw [HE.out] at hrow
          unfold fullL
          split
          · exact rd_own_take hrow (by omega) (fullS_length l)
          · exact Rd.of_own hrow
        have HF := Lib.hid hF
        clear hrow hb hF
        cases odd with
        | true => go_wp2; go_ret; exact HF.out
        | false => go_wp2; go_ret; exact HF.out
    · have h1' : ¬ (k : Int) < 128 := by omega
      have h1d : decide ((k : Int) < 128) = false := by simpa using h1'
      have HE := Lib.hid (fullK_end l k hk (.inl (by omega)) hkl)
      have hF : FullPost w (fullL l odd) (.returned (.slice (some ⟨w.heap.size, 0, none⟩) (if odd = true then 127 else 128) 128)) wr := by
        refine ⟨_, rfl, ?_, (fun b hb => by have hb' : some w.heap.size = some b := hb; injection hb' with e; omega), hb⟩
        rw [HE.out] at hrow
        unfold fullL
        split
        · exact rd_own_take hrow (by omega) (fullS_length l)
        · exact Rd.of_own hrow
      have HF := Lib.hid hF
      clear hrow hb hF
      cases odd with
      | true => go_wp2; go_ret; exact HF.out
      | false => go_wp2; go_ret; exact HF.out

end Go.Proofs.Ytcbdlggjpedffaa
