/- The walk of the statement BitsCount: for every list of bytes and every number it is true, and what was there before stands. -/
import Derived.Test.YtfijihjbjifhdaaAwake
import Derived.Test.YtfijihjbjifhdaaCountP
import Derived.Laws.OwnMore
namespace Go.Proofs.Ytfijihjbjifhdaa.bitsCount
open Go.RowKit

theorem info4 : (Try.prog.info? 4).map (fun i => (i.zero, i.size, i.bytes)) = some (some (.bool false), 1, 1) := by kernel_rfl

/-- the cells of 'in' -/
def inV (s : List UInt8) : List Value := (List.range 256).map fun j => Value.bool (isIn s j)
theorem inV_get (s : List UInt8) (x : UInt8) : (inV s)[x.toNat]? = some (.bool (isIn s x.toNat)) := by
  have := x.toNat_lt
  simp only [inV, List.getElem?_map]
  rw [List.getElem?_range (by omega)]
  rfl
theorem inV_set (s : List UInt8) (x : UInt8) : (inV s).set x.toNat (.bool true) = inV (s ++ [x]) := by
  apply List.ext_getElem?
  intro j
  rw [List.getElem?_set]
  simp only [inV, List.getElem?_map, List.length_map, List.length_range]
  have := x.toNat_lt
  by_cases hj : x.toNat = j
  · subst hj
    rw [if_pos rfl, if_pos (by omega), List.getElem?_range (by omega)]
    simp [isIn_snoc]
  · rw [if_neg hj]
    by_cases h2 : j < 256
    · rw [List.getElem?_range h2]
      simp [isIn_snoc, show j ≠ x.toNat from fun e => hj e.symm]
    · rw [List.getElem?_eq_none (by simp; omega)]
      rfl

theorem inV_nil : (madeCells #[Value.bool false] 256).toList = inV [] := by
  rw [toList_madeCells_one]
  simp [inV, isIn, List.map_const']

theorem long (v : Value) (l : List UInt8) (n : Int) (w : World) (hr : Rd w w.heap.size v (bv l)) (hl : 60 < l.length) :
    Calls Try.prog 6 #[v, .int .u16 n] w (Yes w) := by
  obtain ⟨A, c, rfl, _⟩ := hr.form
  rw [bv_length] at *
  clear hr
  have h1 : (60 : Int) < (l.length : Int) := by omega
  go_enter Try.func6, Try.ntmps6
  go_wp2_with fail
  refine (awake_any w).mono ?_
  rintro e w1 ⟨rfl, hb1⟩
  have HB1 := Lib.hid hb1
  clear hb1
  go_wp2
  go_ret
  exact ⟨rfl, HB1.out⟩

set_option maxRecDepth 100000 in
set_option maxHeartbeats 1000000 in
theorem short (v : Value) (l : List UInt8) (n : Nat) (w : World) (hr : Rd w w.heap.size v (bv l)) (hl : l.length ≤ 60) (hn : n ≤ 65535) :
    Calls Try.prog 6 #[v, .int .u16 n] w (Yes w) := by
  obtain ⟨i0, hi, hz0, hz1, hz2⟩ := info_parts info4
  have HR := Lib.hid hr
  obtain ⟨A, c, rfl, _, _, _⟩ := hr.form
  rw [bv_length] at *
  clear hr
  have h1 : ¬ (60 : Int) < (l.length : Int) := by omega
  have hd1 : decide ((60 : Int) < (l.length : Int)) = false := by simpa using h1
  go_enter Try.func6, Try.ntmps6
  go_wp2_with fail
  refine (awake_any w).mono ?_
  rintro e w1 ⟨rfl, hb1⟩
  have HB1 := Lib.hid hb1
  have HR1 := Lib.hid (HR.out.on hb1)
  clear hb1
  go_wp2_with (refine wpList_make_full _ rfl _ _ 40 rfl w1.heap.size 4 i0 (.bool false) 1 Try.underlying40 hi hz0 hz1 .i64 .i64 256 256 256 rfl rfl rfl rfl (by omega) (by unfold maxLen; omega) (Nat.le_refl _) ?_; intro w2 hown2 hg2; have HO2 := Lib.hid hown2; have HG2 := Lib.hid hg2; clear hown2 hg2)
  have hb2 : Below w1.heap.size w1 w2 := (Below.refl _ _).grown HG2.out (Nat.le_refl _) (fun k hk => by cases hk)
  have HB2 := Lib.hid hb2
  have HR2 := Lib.hid (HR1.out.on hb2)
  have hsz : w1.heap.size < w2.heap.size := (HO2.out.lt w1.heap.size rfl).2
  have hown := HO2.out
  rw [show (256 * 1 : Nat) = 256 from rfl, show (Value.bool false).cells = #[Value.bool false] from rfl, inV_nil] at hown
  have HO := Lib.hid hown
  clear hown hb2 HO2
  go_loopw [6, 8, 9] (fun b t i wr => ∃ (k : Nat) (L : List UInt8), k ≤ l.length ∧ i = .int .i64 k ∧ t = .int .i64 (manyOf (l.take k) n) ∧ Rd wr wr.heap.size b (bv L) ∧ (∀ g, b.ownBlock = some g → w1.heap.size < g) ∧
      Hid (∀ j, bitB L j = isIn (l.take k) j) ∧ L.length ≤ 32 ∧ wr.ownsRow w1.heap.size 4 1 (.slice (some ⟨w1.heap.size, 0, none⟩) 256 256) 256 (inV (l.take k)) ∧ Below w1.heap.size w1 wr ∧ w1.heap.size < wr.heap.size) (fun _ _ i _ => l.length - (intOf i).toNat)
  case atStart => exact ⟨0, [], Nat.zero_le _, rfl, rfl, Rd.nil _ _, (fun g hg => by cases hg), (fun j => by simp [bitB, isIn]), by simp, HO.out, HB2.out, hsz⟩
  case round =>
    obtain ⟨k, L, hk, rfl, rfl, hrb, hfar, HBIT, hlen, hown, hb, hsz3⟩ := hrel
    have hml := manyOf_le (l.take k) n
    have HRB := Lib.hid hrb
    have HFAR := Lib.hid hfar
    have HOW := Lib.hid hown
    have HB := Lib.hid hb
    clear hrb hfar
    rcases Nat.lt_or_ge k l.length with hlt | hge
    · have hne : bv l ≠ [] := by intro e; have := bv_length l; rw [e] at this; simp at this; omega
      obtain ⟨g, o, rfl, hg, hc⟩ := HR1.out.open_ hne
      have hx : l[k]? = some l[k] := List.getElem?_eq_getElem hlt
      have hc1 := (hb.cell (p := ⟨g, o + k, none⟩) hg).trans (hc k _ (bv_get hx))
      have htk : l.take (k + 1) = l.take k ++ [l[k]] := take_succ_get l k _ hx
      have HTK := Lib.hid htk
      have hxl : l[k].toNat < 256 := l[k].toNat_lt
      clear hx htk hc hne
      generalize l[k] = x at *
      have hci := (hown.cellAt x.toNat (by omega)).trans (inV_get (l.take k) x)
      have hfi := hown.frozenAt x.toNat
      have hxs : (x.toNat : Int) < 256 := by omega
      clear hb hown
      go_wp2_with fail
      refine (with_new _ L (x.toNat : Int) true _ HRB.out (by omega) (by omega) (by omega)).mono ?_
      rintro e w9 ⟨v9, rfl, hr9, hb9, hf9⟩
      have HR9 := Lib.hid hr9
      have HB9 := Lib.hid hb9
      have HF9 := Lib.hid hf9
      have c1 := (hb9.cell (p := ⟨g, o + k, none⟩) (by simp; omega)).trans hc1
      have c2 := (hb9.cell (p := ⟨w1.heap.size, x.toNat, none⟩) hsz3).trans hci
      have c3 := (hb9.frozen (p := ⟨w1.heap.size, x.toNat, none⟩) hsz3).trans hfi
      clear hr9 hb9 hf9 hc1 hci hfi
      have HOW9 := Lib.hid (ownsRow_below HOW.out HB9.out)
      have hst := HOW9.out.stored x.toNat (.bool true)
      have HST := Lib.hid hst
      clear hst
      have hne9 : g ≠ w1.heap.size := by omega
      have hfin : ∀ m : Nat, m = manyOf (l.take (k + 1)) n → (∃ (k' : Nat) (L' : List UInt8), k' ≤ l.length ∧ Value.int .i64 ((k : Int) + 1) = .int .i64 k' ∧ Value.int .i64 (m : Int) = .int .i64 (manyOf (l.take k') n) ∧ Rd (w9.setCell ⟨w1.heap.size, x.toNat, none⟩ (.bool true)) (w9.setCell ⟨w1.heap.size, x.toNat, none⟩ (.bool true)).heap.size v9 (bv L') ∧ (∀ g, v9.ownBlock = some g → w1.heap.size < g) ∧
          Hid (∀ j, bitB L' j = isIn (l.take k') j) ∧ L'.length ≤ 32 ∧ (w9.setCell ⟨w1.heap.size, x.toNat, none⟩ (.bool true)).ownsRow w1.heap.size 4 1 (.slice (some ⟨w1.heap.size, 0, none⟩) 256 256) 256 (inV (l.take k')) ∧ Below w1.heap.size w1 (w9.setCell ⟨w1.heap.size, x.toNat, none⟩ (.bool true)) ∧ w1.heap.size < (w9.setCell ⟨w1.heap.size, x.toNat, none⟩ (.bool true)).heap.size) := by
        intro m hm
        refine ⟨k + 1, withB L (x.toNat : Int) true, by omega, by go_num, by rw [hm], ?_, ?_, ?_, ?_, ?_, ?_, ?_⟩
        · have hz : (w9.setCell ⟨w1.heap.size, x.toNat, none⟩ (.bool true)).heap.size = w9.heap.size := by simp [World.setCell]
          rw [hz]
          exact HR9.out.setFar (fun g hg e => by have := HF9.out g hg; simp at e; omega) _
        · intro g hg
          have := HF9.out g hg
          omega
        · rw [HTK.out]
          exact bits_next L (l.take k) x HBIT.out
        · have := with_length L (x.toNat : Int) true
          omega
        · have := HST.out.1
          rw [inV_set] at this
          rw [HTK.out]
          exact this
        · exact (bthen HB.out HB9.out).setCell (p := ⟨w1.heap.size, x.toNat, none⟩) (Nat.le_refl _) _
        · have := HB9.out.size
          simp [World.setCell]
          omega
      have HFIN := Lib.hid hfin
      clear hfin
      by_cases hin : isIn (l.take k) x.toNat = true
      · have hold := Lib.hid (manyOf_old (l.take k) x n (.inl hin))
        rw [hin] at c2
        clear hin
        go_wp2
        go_roundw
        case rel => exact HFIN.out _ (by rw [HTK.out, hold.out])
        case measure => simp [intOf]; omega
      · have hin' : isIn (l.take k) x.toNat = false := by simpa using hin
        rw [hin'] at c2
        have HIN := Lib.hid hin'
        clear hin hin'
        by_cases hxn : x.toNat < n
        · have hxn' : (x.toNat : Int) < (n : Int) := by omega
          have hnew := Lib.hid (manyOf_new (l.take k) x n HIN.out hxn)
          go_wp2
          go_roundw
          case rel => exact HFIN.out (manyOf (l.take k) n + 1) (by rw [HTK.out, hnew.out])
          case measure => simp [intOf]; omega
        · have hxn' : ¬ (x.toNat : Int) < (n : Int) := by omega
          have hold := Lib.hid (manyOf_old (l.take k) x n (.inr (by omega)))
          go_wp2
          go_roundw
          case rel => exact HFIN.out _ (by rw [HTK.out, hold.out])
          case measure => simp [intOf]; omega
    · obtain rfl : l.length = k := by omega
      have HCNT := Lib.hid (count_many L _ n HBIT.out hlen)
      have hlen' : (L.length : Int) ≤ 32 := by omega
      obtain ⟨AM, cM, hvM, _⟩ := HRB.out.form
      rw [bv_length] at hvM
      subst hvM
      clear hb hown
      go_wp2_with fail
      refine (count_any _ L (n : Int) _ HRB.out (by omega)).mono ?_
      rintro e w4 ⟨rfl, k4, rfl⟩
      rw [HCNT.out]
      go_wp2_with fail
      refine (count_any (.slice none 0 0) [] (n : Int) _ (Rd.nil _ _) (by simp)).mono ?_
      rintro e w5 ⟨rfl, k5, rfl⟩
      rw [countB_nil]
      go_wp2
      go_ret
      exact ⟨rfl, below_drewN (bthen HB1.out HB.out) _⟩

theorem law_any (v : Value) (l : List UInt8) (n : Int) (w : World) (hr : Rd w w.heap.size v (bv l)) (n0 : 0 ≤ n) (n1 : n ≤ 65535) :
    Calls Try.prog 6 #[v, .int .u16 n] w (Yes w) := by
  obtain ⟨N, rfl⟩ := Int.eq_ofNat_of_zero_le n0
  rcases Nat.lt_or_ge 60 l.length with h | h
  · exact long v l N w hr h
  · exact short v l N w hr h (by omega)

end Go.Proofs.Ytfijihjbjifhdaa.bitsCount
