/- The walk of the statement DiskPicks: for every byte and every list of bytes it is true, and what was there before stands. -/
import Derived.Test.YtcbdlggjpedffaaUse
namespace Go.Proofs.Ytcbdlggjpedffaa.diskPicks
open Go.RowKit
set_option linter.unusedSimpArgs false

/-- sector i's bytes -/
def s9 (i : Nat) : List UInt8 := fullL [9, UInt8.ofNat i] false
theorem s9_len (i : Nat) : (s9 i).length = 128 := fullL_length _ false
/-- behind i writes -/
def dP (k i : Nat) : DK := ⟨List.replicate k zeroS, (List.range i).map fun j => (j, s9 j), -1, false⟩
theorem dP_zero (k : Nat) : dP k 0 = newD k := rfl
theorem dP_live (k i : Nat) : Live (dP k i) := ⟨rfl, rfl⟩
theorem dP_succ (k i : Nat) (h : i < k) : writeD (dP k i) i (s9 i) = dP k (i + 1) := by
  rw [live_writeD (dP_live k i) (by simp [dP]; omega) (s9_len i)]
  simp [dP, List.range_succ]
theorem dP_waits (k i : Nat) : (dP k i).waits.length = i := by simp [dP]

theorem laidL_get (f : Nat → List UInt8) (i : Nat) : ∀ (js : List Nat) (L : List (List UInt8)), (laidL (js.map fun j => (j, f j)) L)[i]? = if i ∈ js ∧ i < L.length then some (f i) else L[i]?
  | [], L => by simp [laidL]
  | j :: js, L => by
    show (laidL (js.map fun j => (j, f j)) (L.set j (f j)))[i]? = _
    rw [laidL_get f i js (L.set j (f j)), List.length_set, List.getElem?_set]
    by_cases hi : i < L.length
    · by_cases hm : i ∈ js
      · rw [if_pos ⟨hm, hi⟩, if_pos ⟨List.mem_cons_of_mem _ hm, hi⟩]
      · rw [if_neg (fun h => hm h.1)]
        by_cases hj : j = i
        · subst hj
          rw [if_pos rfl, if_pos hi, if_pos ⟨List.mem_cons_self, hi⟩]
        · rw [if_neg hj, if_neg (fun h => by rcases List.mem_cons.1 h.1 with h1 | h1; exact hj h1.symm; exact hm h1)]
    · rw [if_neg (show ¬ (i ∈ js ∧ i < L.length) from fun h => hi h.2), if_neg (show ¬ (i ∈ j :: js ∧ i < L.length) from fun h => hi h.2)]
      by_cases hj : j = i
      · subst hj
        rw [if_pos rfl, if_neg hi, List.getElem?_eq_none (by omega)]
      · rw [if_neg hj]

/-- behind the crash -/
def dC (k : Nat) (pick : List UInt8) : DK := crashD (dP k k) pick
theorem dC_waits (k : Nat) (pick : List UInt8) : (dC k pick).waits = [] := rfl
theorem dC_len (k : Nat) (pick : List UInt8) : (dC k pick).L.length = k := by unfold dC crashD; rw [laidL_len]; simp [dP]
theorem dC_up (k i : Nat) (pick : List UInt8) (h : i < k) : upE (dC k pick) (i : Int) = 0 := live_up ⟨rfl, rfl⟩ ⟨by omega, by rw [dC_len]; omega⟩
theorem dC_N (k : Nat) (pick : List UInt8) : crashN (dP k k) pick = (picks pick k).length := by unfold crashN; rw [dP_waits]
theorem dC_read (k i : Nat) (pick : List UInt8) (h : i < k) : readD (dC k pick) i = if pickB pick i = true then s9 i else zeroS := by
  unfold readD
  rw [dC_waits]
  show (dC k pick).L[i]?.getD [] = _
  have e : (dC k pick).L = laidL ((picks pick k).map fun j => (j, s9 j)) (List.replicate k zeroS) := by
    have hf : ∀ js : List Nat, (∀ j ∈ js, (dP k k).waits[j]? = some (j, s9 j)) → js.filterMap (fun x => (dP k k).waits[x]?) = js.map fun j => (j, s9 j) := by
      intro js hm
      induction js with
      | nil => rfl
      | cons j js ih =>
        have h1 := hm j (List.mem_cons_self)
        have h2 := ih (fun x hx => hm x (List.mem_cons_of_mem _ hx))
        rw [List.filterMap_cons, h1, List.map_cons, ← h2]
    unfold dC crashD
    simp only
    rw [dP_waits, hf _ (fun j hj => by have := (mem_picks hj).1; simp [dP, this])]
    rfl
  rw [e, laidL_get]
  have hmem : i ∈ picks pick k ↔ pickB pick i = true := by
    unfold picks
    rw [List.mem_filter, List.mem_range]
    exact ⟨fun h => h.2, fun hb => ⟨h, hb⟩⟩
  by_cases hb : pickB pick i = true
  · rw [if_pos ⟨hmem.2 hb, by simpa using h⟩, if_pos hb]
    rfl
  · rw [if_neg (fun e => hb (hmem.1 e.1)), if_neg hb]
    simp [h]

theorem rd_lit2 {w : World} {b : Nat} {x y : Nat} {fr : Nat × Nat} (hx : x < 256) (hy : y < 256) (h : w.heap[b]? = some (.cells #[.int .u8 x, .int .u8 y] 5 fr)) : Rd w w.heap.size (.slice (some ⟨b, 0, none⟩) 2 2) (bv [UInt8.ofNat x, UInt8.ofNat y]) := by
  have ex : (((UInt8.ofNat x).toNat : Nat) : Int) = (x : Int) := by rw [UInt8.toNat_ofNat']; omega
  have ey : (((UInt8.ofNat y).toNat : Nat) : Int) = (y : Int) := by rw [UInt8.toNat_ofNat']; omega
  refine ⟨_, _, rfl, Nat.le_refl _, by unfold maxLen; simp [bv], (fun h => by cases h), fun _ => ⟨b, 0, rfl, (Array.getElem?_eq_some_iff.1 h).1, fun j u hu => ?_⟩⟩
  match j, hu with
  | 0, hu => simp only [bv, List.map_cons, ex, List.getElem?_cons_zero, Option.some.injEq] at hu; subst hu; rw [cell_of_row w b _ _ 5 fr h]; rfl
  | 1, hu => simp only [bv, List.map_cons, ey, List.getElem?_cons_succ, List.getElem?_cons_zero, Option.some.injEq] at hu; subst hu; rw [cell_of_row w b _ _ 5 fr h]; rfl
  | j + 2, hu => simp [bv] at hu

theorem long (v : Value) (pick : List UInt8) (n : Nat) (w : World) (hr : Rd w w.heap.size v (bv pick)) (hl : 8 < pick.length) : Calls Try.prog 3 #[.int .u8 n, v] w (Yes w) := by
  obtain ⟨A, c, rfl, _⟩ := hr.form
  rw [bv_length] at *
  clear hr
  have h1 : (8 : Int) < (pick.length : Int) := by omega
  go_enter Try.func3, Try.ntmps3
  go_wp2_with fail
  refine (awake_any w).mono ?_
  rintro e w1 ⟨rfl, hb1⟩
  have HB1 := Lib.hid hb1
  clear hb1
  go_wp2
  go_ret
  exact ⟨rfl, HB1.out⟩

set_option maxRecDepth 100000 in
set_option maxHeartbeats 4000000 in
theorem short (v : Value) (pick : List UInt8) (n : Nat) (w : World) (hr : Rd w w.heap.size v (bv pick)) (hl : pick.length ≤ 8) (hn : n < 256) : Calls Try.prog 3 #[.int .u8 n, v] w (Yes w) := by
  have HR := Lib.hid hr
  obtain ⟨A, c, rfl, _, _, _⟩ := hr.form
  rw [bv_length] at *
  clear hr
  have h1 : ¬ (8 : Int) < (pick.length : Int) := by omega
  obtain ⟨k, hk⟩ : ∃ k : Nat, k = n % 20 + 1 := ⟨_, rfl⟩
  have hk1 : ((n : Int) % 20) + 1 = (k : Int) := by omega
  have hk2 : 1 ≤ k ∧ k ≤ 20 := by omega
  have HK1 := Lib.hid hk1
  clear hk hk1
  go_enter Try.func3, Try.ntmps3
  go_wp2_with fail
  refine (awake_any w).mono ?_
  rintro e w1 ⟨rfl, hb1⟩
  have HB1 := Lib.hid hb1
  have HR1 := Lib.hid (HR.out.on hb1)
  clear hb1
  have hk1 := HK1.out
  go_wp2_with fail
  clear hk1
  refine (new_at k w1 hk2.1 (by omega)).mono ?_
  rintro e w2 ⟨g, rfl, hd2, hb2⟩
  rw [← dP_zero] at hd2
  have HD2 := Lib.hid hd2
  have HB2 := Lib.hid hb2
  clear hd2 hb2
  go_wp2
  go_loopw [9] (fun t wr => ∃ i : Nat, i ≤ k ∧ t = .int .i64 i ∧ DiskB w1.heap.size wr g (dP k i) 0 ∧ Below w1.heap.size w1 wr) (fun t _ => k - (intOf t).toNat)
  case atStart => exact ⟨0, Nat.zero_le _, rfl, HD2.out, HB2.out⟩
  case round =>
    obtain ⟨i, hi, rfl, hd, hb⟩ := hrel
    have HDK := Lib.hid hd
    have HBK := Lib.hid hb
    clear hd hb
    rcases Nat.lt_or_ge i k with hlt | hge
    · have hlt' : (i : Int) < (k : Int) := by omega
      have hb3 : Below wr.heap.size wr (wr.alloc (.cells #[.int .u8 9, .int .u8 i] 5)) := (Below.refl _ _).alloc (Nat.le_refl _) _
      have HD3 := Lib.hid (HDK.out.below hb3)
      have HB3 := Lib.hid (HBK.out.trans (hb3.mono HBK.out.size))
      have HR3 := Lib.hid (rd_lit2 (x := 9) (y := i) (by omega) (by omega) (heap_alloc_last wr (.cells #[.int .u8 9, .int .u8 i] 5)))
      clear hb3
      go_wp2_with fail
      refine (full_any _ _ false _ _ HR3.out (Nat.le_refl _)).mono ?_
      rintro e w4 ⟨v4, rfl, hr4, hv4, hb4⟩
      have HR4 := Lib.hid hr4
      have HV4 := Lib.hid hv4
      have HB4 := Lib.hid hb4
      clear hr4 hv4 hb4
      go_wp2_with fail
      refine (write_at HD3.out HB3.out.size HB4.out (i : Int) v4 (s9 i) HR4.out HV4.out (by rw [dP_waits]; omega)).mono ?_
      rintro e w5 ⟨rfl, hd5, hb5⟩
      rw [show writeE (dP k i) (i : Int) (s9 i).length = 0 from live_writeE (dP_live k i) ⟨by omega, by simp [dP]; omega⟩ (s9_len i)]
      rw [dP_succ k i hlt] at hd5
      have HD5 := Lib.hid hd5
      have HB5 := Lib.hid (HB3.out.trans hb5)
      clear hd5 hb5
      go_wp2
      go_roundw
      case rel => exact ⟨i + 1, by omega, by go_num, HD5.out, HB5.out⟩
      case measure => simp [intOf]; omega
    · obtain rfl : i = k := by omega
      obtain ⟨k, rfl⟩ : ∃ k, k = i := ⟨_, rfl⟩
      clear hge hi
      go_wp2_with fail
      refine (crash_at HDK.out HBK.out.size _ pick ((HR1.out.below HBK.out).mono HBK.out.size) (by omega) (by rw [dP_waits]; omega)).mono ?_
      rintro e w3 ⟨rfl, ⟨M3, _, hd3⟩, hb3⟩
      rw [dC_N]
      have hpk : (picks pick k).length ≤ k := by unfold picks; have := List.length_filter_le (pickB pick) (List.range k); simpa using this
      have HD3 := Lib.hid (show DiskB w1.heap.size w3 g (dC k pick) M3 from hd3)
      have HB3 := Lib.hid (HBK.out.trans hb3)
      clear hd3 hb3
      go_wp2
      go_loopw [10, 11] (fun m t wr => ∃ i : Nat, i ≤ k ∧ t = .int .i64 i ∧ m = .int .i64 (((picks pick k).length : Int) - ((picks pick i).length : Int)) ∧ DiskB w1.heap.size wr g (dC k pick) M3 ∧ Below w1.heap.size w1 wr) (fun _ t _ => k - (intOf t).toNat)
      case atStart => exact ⟨0, Nat.zero_le _, rfl, by simp [picks], HD3.out, HB3.out⟩
      case round =>
        obtain ⟨i, hi, rfl, rfl, hd, hb⟩ := hrel
        have HDK := Lib.hid hd
        have HBK := Lib.hid hb
        clear hd hb
        have hpi := (picks_le pick hi).length_le
        rcases Nat.lt_or_ge i k with hlt | hge
        · have hlt' : (i : Int) < (k : Int) := by omega
          have HUP := Lib.hid (dC_up k i pick hlt)
          have hrdk := dC_read k i pick hlt
          have hid0 : (0 : Int) ≤ (i : Int) / 8 := by omega
          have hidn : ((i : Int) / 8).toNat = i / 8 := by omega
          by_cases hin : i / 8 < pick.length
          · have hin' : (i : Int) / 8 < (pick.length : Int) := by omega
            have hx : pick[i / 8]? = some pick[i / 8] := List.getElem?_eq_getElem hin
            have HPB0 := Lib.hid (pickB_at hx)
            obtain ⟨gb, o, rfl, hgb, hc⟩ := HR1.out.open_ (by intro e; have := bv_length pick; rw [e] at this; simp at this; omega)
            have hcx := (HBK.out.cell (p := ⟨gb, o + i / 8, none⟩) hgb).trans (hc _ _ (bv_get hx))
            have hxl : pick[i / 8].toNat < 256 := pick[i / 8].toNat_lt
            clear hx hc
            generalize pick[i / 8] = x at *
            have hbit := bits_pick x i
            cases hb : bitV x i with
            | true =>
              rw [hb] at hbit
              have HPB := Lib.hid (HPB0.out.trans hb)
              rw [HPB.out, if_pos rfl] at hrdk
              have HRDK := Lib.hid hrdk
              clear hrdk hb
              go_wp2_with fail
              clear hcx hbit

              refine (read_in HDK.out i HUP.out).mono ?_
              rintro e w5 ⟨v5, rfl, ho5, hb5⟩
              rw [HRDK.out, s9_len] at ho5
              obtain ⟨b5, c5, hv5, _, hbl5⟩ := ho5.form (by omega)
              subst hv5
              have hx0 := own_nth ho5 (j := 0) (x := 9) rfl
              have hx1 := own_nth ho5 (j := 1) (x := UInt8.ofNat i) rfl
              rw [show (((UInt8.ofNat i).toNat : Nat) : Int) = (i : Int) by rw [UInt8.toNat_ofNat']; omega] at hx1
              have HD5 := Lib.hid (HDK.out.below hb5)
              have HB5 := Lib.hid (HBK.out.trans (hb5.mono HBK.out.size))
              clear ho5 hb5
              go_wp2
              go_roundw
              case rel => exact ⟨i + 1, by omega, by go_num, by rw [picks_succ_hit pick i HPB.out, List.length_append]; go_num, HD5.out, HB5.out⟩
              case measure => simp [intOf]; omega
            | false =>
              rw [hb] at hbit
              have HPB := Lib.hid (HPB0.out.trans hb)
              rw [HPB.out, if_neg (by simp)] at hrdk
              have HRDK := Lib.hid hrdk
              clear hrdk hb
              go_wp2_with fail
              clear hcx hbit

              refine (read_in HDK.out i HUP.out).mono ?_
              rintro e w5 ⟨v5, rfl, ho5, hb5⟩
              rw [HRDK.out, zeroS_length] at ho5
              obtain ⟨b5, c5, hv5, _, hbl5⟩ := ho5.form (by omega)
              subst hv5
              have hx0 := own_nth ho5 (j := 0) (x := 0) rfl
              have hx1 := own_nth ho5 (j := 1) (x := 0) rfl
              have HD5 := Lib.hid (HDK.out.below hb5)
              have HB5 := Lib.hid (HBK.out.trans (hb5.mono HBK.out.size))
              clear ho5 hb5
              go_wp2
              go_roundw
              case rel => exact ⟨i + 1, by omega, by go_num, by rw [picks_succ_miss pick i HPB.out], HD5.out, HB5.out⟩
              case measure => simp [intOf]; omega
          · have hin' : ¬ (i : Int) / 8 < (pick.length : Int) := by omega
            have hind : decide ((i : Int) / 8 < (pick.length : Int)) = false := by simpa using hin'
            have HPB := Lib.hid (pickB_out (l := pick) (k := i) (by omega))
            rw [HPB.out, if_neg (by simp)] at hrdk
            have HRDK := Lib.hid hrdk
            clear hrdk
            go_wp2_with fail
            refine (read_in HDK.out i HUP.out).mono ?_
            rintro e w5 ⟨v5, rfl, ho5, hb5⟩
            rw [HRDK.out, zeroS_length] at ho5
            obtain ⟨b5, c5, hv5, _, hbl5⟩ := ho5.form (by omega)
            subst hv5
            have hx0 := own_nth ho5 (j := 0) (x := 0) rfl
            have hx1 := own_nth ho5 (j := 1) (x := 0) rfl
            have HD5 := Lib.hid (HDK.out.below hb5)
            have HB5 := Lib.hid (HBK.out.trans (hb5.mono HBK.out.size))
            clear ho5 hb5
            go_wp2
            go_roundw
            case rel => exact ⟨i + 1, by omega, by go_num, by rw [picks_succ_miss pick i HPB.out], HD5.out, HB5.out⟩
            case measure => simp [intOf]; omega
        · obtain rfl : i = k := by omega
          go_wp2
          go_ret
          exact ⟨by simp, bthen HB1.out HBK.out⟩

theorem law_any (n : Int) (v : Value) (pick : List UInt8) (w : World) (n0 : 0 ≤ n) (n1 : n ≤ 255) (hr : Rd w w.heap.size v (bv pick)) : Calls Try.prog 3 #[.int .u8 n, v] w (Yes w) := by
  obtain ⟨N, rfl⟩ := Int.eq_ofNat_of_zero_le n0
  rcases Nat.lt_or_ge 8 pick.length with h | h
  · exact long v pick N w hr h
  · exact short v pick N w hr h (by omega)

end Go.Proofs.Ytcbdlggjpedffaa.diskPicks
