/- The walk of the statement NetOrder: for every list of lists of bytes and every byte it is true, and what was there before stands. -/
import Derived.Test.YtckcagklojpfhaaOrderP
import Derived.BigQuiet
import Derived.StillTailTactics
namespace Go.Proofs.Ytckcagklojpfhaa.netOrder
open Go.RowKit netFull
set_option linter.unusedSimpArgs false

theorem long (v : Value) (L : List (List UInt8)) (x : Int) (w : World) (hr : Rd2 w v L) (hl : 30 < L.length) : Calls Try.prog 4 #[v, .int .u8 x] w (Yes w) := by
  obtain ⟨A, c, rfl⟩ := hr.form
  clear hr
  have h1 : (30 : Int) < (L.length : Int) := by omega
  go_enter Try.func4, Try.ntmps4
  go_wp2_with fail
  refine (awake_any w).mono ?_
  rintro e w1 ⟨rfl, hb1⟩
  have HB1 := Lib.hid hb1
  clear hb1
  go_wp2
  go_ret
  exact ⟨rfl, HB1.out⟩

theorem at_zero {w : World} {b c : Nat} {d : List UInt8} (hr : Rd w w.heap.size (.slice (some ⟨b, 0, none⟩) d.length c) (bv d)) (hp : 0 < d.length) : ∃ y : UInt8, w.cell? ⟨b, 0, none⟩ = some (.int .u8 (y.toNat : Int)) := by
  obtain ⟨b', o', e, _, hc⟩ := hr.open_ (by intro e; have := bv_length d; rw [e] at this; simp at this; omega)
  injection e with e
  injection e with e1 e2 e3
  subst e1
  subst e2
  exact ⟨_, by have := hc 0 _ (bv_get (List.getElem?_eq_getElem hp)); simpa using this⟩

set_option maxRecDepth 100000 in
set_option maxHeartbeats 4000000 in
theorem short (v : Value) (L : List (List UInt8)) (x : Int) (w : World) (hr : Rd2 w v L) (hl : L.length ≤ 30) : Calls Try.prog 4 #[v, .int .u8 x] w (Yes w) := by
  have HR := Lib.hid hr
  obtain ⟨A, c, rfl⟩ := hr.form
  clear hr
  have h1 : ¬ (30 : Int) < (L.length : Int) := by omega
  have hd1 : decide ((30 : Int) < (L.length : Int)) = false := by simpa using h1
  go_enter Try.func4, Try.ntmps4
  go_wp2_with fail
  refine (awake_any w).mono ?_
  rintro e w1 ⟨rfl, hb1⟩
  have HB1 := Lib.hid hb1
  have HR1 := Lib.hid (HR.out.on hb1)
  clear hb1
  go_wp2_with fail
  refine (new_at w1).mono ?_
  rintro e w2 ⟨g, rfl, hn2, hb2⟩
  have HN2 := Lib.hid hn2
  have HB2 := Lib.hid hb2
  clear hn2 hb2
  go_wp2
  go_loopw [7] (fun i wr => ∃ k : Nat, k ≤ L.length ∧ i = .int .i64 k ∧ NetB w1.heap.size wr g (PT L k) ∧ Below w1.heap.size w1 wr ∧ Hid (∀ i, i < k → ∀ d, L[i]? = some d → d.length ≤ 50)) (fun i _ => L.length - (intOf i).toNat)
  case atStart => exact ⟨0, Nat.zero_le _, rfl, HN2.out, HB2.out, fun i hi => by omega⟩
  case round =>
    obtain ⟨k, hk, rfl, hnk, hbk, HS⟩ := hrel
    have HBK := Lib.hid hbk
    rcases Nat.lt_or_ge k L.length with hlt | hge
    · have hlt' : (k : Int) < (L.length : Int) := by omega
      have hd : L[k]? = some L[k] := List.getElem?_eq_getElem hlt
      have HD := Lib.hid hd
      obtain ⟨b, o, A', c', hA, hbl, hcell, hrd⟩ := HR1.out.get hd
      subst hA
      have hci := (hbk.cell (p := ⟨b, o + k, none⟩) hbl).trans hcell
      have HRD := Lib.hid ((hrd.below hbk).mono hbk.size)
      clear hcell hrd hd
      generalize L[k] = d at *
      rcases Nat.lt_or_ge 50 d.length with hbig | hsm
      · have hbig' : (50 : Int) < (d.length : Int) := by omega
        clear hnk hbk
        go_wp2
        go_ret
        exact ⟨rfl, bthen HB1.out HBK.out⟩
      · have hsm' : ¬ (50 : Int) < (d.length : Int) := by omega
        have ha := and15 k (by omega)
        have hr16 : k % 16 < 16 := Nat.mod_lt _ (by omega)
        obtain ⟨r, hrk⟩ : ∃ r, r = k % 16 := ⟨_, rfl⟩
        rw [← hrk] at ha hr16
        have HRK := Lib.hid hrk
        have hcv := conv_rd HRD.out
        obtain ⟨cap, wc, htb, hbc, hszc, hrc, hfz⟩ := to_bytes wr d (by omega)
        have HTN := Lib.hid (show NetHas (fun j => w1.heap.size ≤ j ∧ j < wr.heap.size) wc g (PT L k) from NetHas.below (hnk.mono (fun j hj h => ⟨h, hj⟩)) hbc)
        have HBC := Lib.hid (hbk.trans (hbc.mono hbk.size))
        have HSZ := Lib.hid hszc
        have HRC := Lib.hid hrc
        have HFZ := Lib.hid hfz
        have HBN := Lib.hid hbk.size
        have HE := Lib.hid (putE_in (PT L k) (r : Int) (15 - (r : Int)) (by rw [PT_length L k hk]; omega) (by omega) (by omega))
        clear hnk hbk hbc hszc hrc hfz hrk
        go_wp2_with fail
        clear hci hcv htb ha
        refine (put_any HTN.out (r : Int) (15 - (r : Int)) _ d HRC.out (by omega)).mono ?_
        rintro e w3 ⟨rfl, hn3, hK3⟩
        rw [HE.out]
        rw [show putL (PT L k) ((r : Int), 15 - (r : Int), d) = PT L (k + 1) by rw [putL_in _ _ _ _ HE.out, PT_succ HD.out, HRK.out]; rfl] at hn3
        have HK3 := Lib.hid hK3
        have HN3 := Lib.hid hn3
        have HB3 := Lib.hid (show Below w1.heap.size w1 w3 from HBC.out.trans (hK3.below HBC.out.size (fun j h => h.1)))
        clear hn3 hK3
        rcases Nat.eq_zero_or_pos d.length with hz | hpos
        · have hz' : ¬ (0 : Int) < (d.length : Int) := by omega
          clear hz
          go_wp2
          go_roundw
          case rel => exact ⟨k + 1, by omega, by go_num, HN3.out.mono (fun j _ h => by rcases h with h | h; exact h.1; have h1 := HSZ.out; have h2 := HBN.out; omega), HB3.out, fun i hi d' hd' => by
            rcases Nat.lt_or_ge i k with h | h
            · exact HS.out i h d' hd'
            · obtain rfl : i = k := by omega
              have := HD.out
              rw [hd'] at this
              injection this with this
              subst this
              omega⟩
          case measure => simp [intOf]; omega
        · have hpos' : (0 : Int) < (d.length : Int) := by omega
          obtain ⟨y, hy⟩ := at_zero HRC.out hpos
          have hfr := HFZ.out hpos
          have hblk : w3.heap[wr.heap.size]? = wc.heap[wr.heap.size]? := HK3.out.block _ HSZ.out (fun h => by have := h.2; omega)
          have hc3 : w3.cell? ⟨wr.heap.size, 0, none⟩ = some (.int .u8 (y.toNat : Int)) := (World.cell?_of_block hblk).trans hy
          have hf3 : w3.frozen? ⟨wr.heap.size, 0, none⟩ = false := by
            have : w3.frozen? ⟨wr.heap.size, 0, none⟩ = wc.frozen? ⟨wr.heap.size, 0, none⟩ := by simp only [World.frozen?, hblk]
            rw [this]; exact hfr
          clear hy hfr hblk
          go_wp2
          go_roundw
          case rel => exact ⟨k + 1, by omega, by go_num, (HN3.out.on (fun j hj h => heap_setCell_other _ _ _ _ (fun e => by subst e; rcases h with h | h; exact absurd h.2 (by simp); have h1 := HSZ.out; simp at h; omega))).mono (fun j _ h => by rcases h with h | h; exact h.1; have h1 := HSZ.out; have h2 := HBN.out; omega), HB3.out.setCell (p := ⟨wr.heap.size, 0, none⟩) HBN.out _, fun i hi d' hd' => by
            rcases Nat.lt_or_ge i k with h | h
            · exact HS.out i h d' hd'
            · obtain rfl : i = k := by omega
              have := HD.out
              rw [hd'] at this
              injection this with this
              subst this
              omega⟩
          case measure => simp [intOf]; omega
    · obtain rfl : L.length = k := by omega
      rw [PT_all] at hnk
      have HNK := Lib.hid hnk
      clear hnk hbk hk hge
      go_wp2
      go_loopw [9] (fun i wr => ∃ k : Nat, k ≤ L.length ∧ i = .int .i64 k ∧ NetB w1.heap.size wr g (PD L k) ∧ Below w1.heap.size w1 wr) (fun i _ => L.length - (intOf i).toNat)
      case atStart => exact ⟨0, Nat.zero_le _, rfl, HNK.out, HBK.out⟩
      case round =>
        clear HNK HBK
        obtain ⟨k, hk, rfl, hnk, hbk⟩ := hrel
        have HBK := Lib.hid hbk
        rcases Nat.lt_or_ge k L.length with hlt | hge
        · have hlt' : (k : Int) < (L.length : Int) := by omega
          have hd : L[k]? = some L[k] := List.getElem?_eq_getElem hlt
          have hsm : L[k].length ≤ 50 := HS.out k hlt _ hd
          have HHEAD := Lib.hid (PD_head hd)
          have HTL := Lib.hid (PD_succ hlt)
          obtain ⟨b, o, A', c', hA, hbl, hcell, hrd⟩ := HR1.out.get hd
          subst hA
          have hci := (hbk.cell (p := ⟨b, o + k, none⟩) hbl).trans hcell
          have HCI := Lib.hid hci
          have HRD := Lib.hid ((hrd.below hbk).mono hbk.size)
          have HBL := Lib.hid (Nat.lt_of_lt_of_le hbl hbk.size)
          clear hcell hrd hd hci
          generalize L[k] = d at *
          have ha := and15 k (by omega)
          have hr16 : k % 16 < 16 := Nat.mod_lt _ (by omega)
          obtain ⟨r, hrk⟩ : ∃ r, r = k % 16 := ⟨_, rfl⟩
          rw [← hrk] at ha hr16
          have hpk : pkO k d = ((r : Int), 15 - (r : Int), d) := by rw [hrk]; rfl
          have hhd := HHEAD.out
          rw [hpk] at hhd
          have HHD := Lib.hid hhd
          have HA := Lib.hid ha
          have HTN := Lib.hid (show NetHas (fun j => w1.heap.size ≤ j ∧ j < wr.heap.size) wr g (PD L k) from hnk.mono (fun j hj h => ⟨h, hj⟩))
          have HBN := Lib.hid hbk.size
          clear hnk hbk hrk hpk hhd HHEAD ha
          go_wp2_with fail
          refine (look_in HTN.out 0 _ HHD.out).mono ?_
          rintro e w5 ⟨v5, rfl, ho5, hb5⟩
          obtain ⟨A5, c5, hv5⟩ := ownsRow_form ho5
          change v5 = .slice A5 d.length c5 at hv5
          subst hv5
          have hb6 : Below w5.heap.size w5 (w5.alloc (.cells #[.int .i64 r, .int .i64 (15 - (r : Int)), .slice A5 d.length c5] 33)) := (Below.refl _ _).alloc (Nat.le_refl _) _
          have hb56 := bthen hb5 hb6
          have hci := (hb56.cell (p := ⟨b, o + k, none⟩) HBL.out).trans HCI.out
          have HRD6 := Lib.hid (HRD.out.on hb56)
          have ho6 := ownsRow_below ho5 hb6
          have HO6 := Lib.hid ho6
          have HB56 := Lib.hid hb56
          have hq0 := conv_rd (Rd.of_own ho6)
          have hq1 := conv_rd HRD6.out
          have hq2 := fun n => conv_rd ((Rd.of_own ho6).drewN n)
          have hq3 := fun n => conv_rd (HRD6.out.drewN n)
          have ha := HA.out
          have hsub : IntKind.i64.wrap (15 - (r : Int)) = 15 - (r : Int) := IntWalk.i64_in _ (by omega)
          clear hb5 ho5 hb6 hb56 ho6
          go_wp2_with fail
          go_quiet (fail)
          have HT6 := Lib.hid (HTN.out.below HB56.out)
          have HCI6 := Lib.hid hci
          have HS6 := Lib.hid HB56.out.size
          clear hq0 hq1 hq2 hq3 hci hsub ha
          rcases Nat.eq_zero_or_pos d.length with hz | hpos
          · have hz' : ¬ (0 : Int) < (d.length : Int) := by omega
            clear hz
            go_wp2_with fail
            refine (look_in (HT6.out.below (below_of_drewN _ _ _)) 0 _ HHD.out).mono ?_
            have HT7 := Lib.hid (HT6.out.below (below_of_drewN _ nq _))
            have HB7 := Lib.hid (below_drewN (HBK.out.trans (HB56.out.mono HBK.out.size)) nq)
            have HCI7 := Lib.hid (show ((w5.alloc (.cells #[.int .i64 r, .int .i64 (15 - (r : Int)), .slice A5 d.length c5] 33)).drewN nq).cell? ⟨b, o + k, none⟩ = some (.slice A' d.length c') from HCI6.out)
            have HRD7 := Lib.hid (HRD6.out.drewN nq)
            have HBL7 := Lib.hid (show b < ((w5.alloc (.cells #[.int .i64 r, .int .i64 (15 - (r : Int)), .slice A5 d.length c5] 33)).drewN nq).heap.size from Nat.lt_of_lt_of_le HBL.out HS6.out)
            rintro e w8 ⟨v8, rfl, ho8, hb8⟩
            obtain ⟨A8, c8, hv8⟩ := ownsRow_form ho8
            change v8 = .slice A8 d.length c8 at hv8
            subst hv8
            have hb9 : Below w8.heap.size w8 (w8.alloc (.cells #[.int .i64 r, .int .i64 (15 - (r : Int)), .slice A8 d.length c8] 33)) := (Below.refl _ _).alloc (Nat.le_refl _) _
            have hb89 := bthen hb8 hb9
            have HT9 := Lib.hid (HT7.out.below hb89)
            have HB9 := Lib.hid (HB7.out.trans (hb89.mono HB7.out.size))
            have hci := (hb89.cell (p := ⟨b, o + k, none⟩) HBL7.out).trans HCI7.out
            have HRD9 := Lib.hid (HRD7.out.on hb89)
            have ho9 := ownsRow_below ho8 hb9
            have hq0 := conv_rd (Rd.of_own ho9)
            have hq1 := conv_rd HRD9.out
            have hq2 := fun n => conv_rd ((Rd.of_own ho9).drewN n)
            have hq3 := fun n => conv_rd (HRD9.out.drewN n)
            have hcl : (w8.alloc (.cells #[.int .i64 r, .int .i64 (15 - (r : Int)), .slice A8 d.length c8] 33)).cell? ⟨w8.heap.size, 2, none⟩ = some (.slice A8 d.length c8) := by go_simp
            have hq4 := hq2 1
            have hq5 := hq3 1
            clear hb8 ho8 hb9 hb89 ho9
            go_wp2_with fail
            generalize w8.alloc (.cells #[.int .i64 r, .int .i64 (15 - (r : Int)), .slice A8 d.length c8] 33) = W9 at *
            have hq6 : (convert 27 9 (.slice A8 d.length c8)).run Try.prog W9.drew = .ok (.string ⟨d.toArray⟩) W9.drew := hq4
            have hq7 : (convert 27 9 (.slice A' d.length c')).run Try.prog W9.drew = .ok (.string ⟨d.toArray⟩) W9.drew := hq5
            clear hq0 hq1 hq2 hq3 hq4 hq5
            go_still_tail 11, (by kernel_rfl)
            change wpList _ _ _ _ _ (World.drew _)
            clear hq6 hq7 hcl hci
            go_wp2_with fail
            refine (drop_any (w := World.drew _) (HT9.out.below (below_of_drewN _ 1 _)) 0 (by rw [PD_length]; omega)).mono ?_
            rintro e w10 ⟨rfl, hn10, hk10⟩
            rw [show thereE (PD L k).length [0] = 0 by rw [thereE_one, PD_length, if_pos (by omega)]]
            rw [HTL.out] at hn10
            have HN10 := Lib.hid (show NetB w1.heap.size w10 g (PD L (k + 1)) from hn10.mono fun j _ h => h.1)
            have HB10 := Lib.hid (show Below w1.heap.size w1 w10 from (below_drewN HB9.out 1).trans (hk10.below (below_drewN HB9.out 1).size fun j h => h.1))
            clear hn10 hk10
            go_wp2
            go_roundw
            case rel => exact ⟨k + 1, by omega, by go_num, HN10.out, HB10.out⟩
            case measure => simp [intOf]; omega
          · have hpos' : (0 : Int) < (d.length : Int) := by omega
            obtain ⟨g5, c5', hv5, hg5, hgl5⟩ := HO6.out.form hpos
            injection hv5 with hv5 _ hv6
            subst hv5
            subst hv6
            obtain ⟨y, hy⟩ := at_zero (Rd.of_own HO6.out) hpos
            have hfr := HO6.out.frozenAt 0
            have hg5 : wr.heap.size ≤ g5 := by assumption
            obtain ⟨z, hz⟩ : ∃ z, bits .xor .u8 (y.toNat : Int) x = z := ⟨_, rfl⟩
            have HZ := Lib.hid hz
            go_wp2_with fail
            clear hy hfr hz
            have HG5 := Lib.hid hg5
            have HB6 := Lib.hid (HBK.out.trans (HB56.out.mono HBK.out.size))
            have HT7 := Lib.hid (show NetHas (fun j => w1.heap.size ≤ j ∧ j < wr.heap.size) (((w5.alloc (.cells #[.int .i64 r, .int .i64 (15 - (r : Int)), .slice (some ⟨g5, 0, none⟩) d.length c5] 33)).drewN nq).setCell ⟨g5, 0, none⟩ (.int .u8 z)) g (PD L k) from NetHas.on HT6.out (fun j hj h => heap_setCell_other ((w5.alloc (.cells #[.int .i64 r, .int .i64 (15 - (r : Int)), .slice (some ⟨g5, 0, none⟩) d.length c5] 33)).drewN nq) ⟨g5, 0, none⟩ j _ (fun e => by have h1 := HG5.out; have h2 := h.2; simp only at e; omega)))
            have HB7 := Lib.hid (show Below w1.heap.size w1 (((w5.alloc (.cells #[.int .i64 r, .int .i64 (15 - (r : Int)), .slice (some ⟨g5, 0, none⟩) d.length c5] 33)).drewN nq).setCell ⟨g5, 0, none⟩ (.int .u8 z)) from (below_drewN HB6.out nq).setCell (p := ⟨g5, 0, none⟩) (Nat.le_trans HBN.out HG5.out) _)
            have HCI7 := Lib.hid (show (((w5.alloc (.cells #[.int .i64 r, .int .i64 (15 - (r : Int)), .slice (some ⟨g5, 0, none⟩) d.length c5] 33)).drewN nq).setCell ⟨g5, 0, none⟩ (.int .u8 z)).cell? ⟨b, o + k, none⟩ = some (.slice A' d.length c') from (World.cell?_setCell_other ((w5.alloc (.cells #[.int .i64 r, .int .i64 (15 - (r : Int)), .slice (some ⟨g5, 0, none⟩) d.length c5] 33)).drewN nq) ⟨g5, 0, none⟩ ⟨b, o + k, none⟩ _ (fun e => by have h1 := HG5.out; have h2 := HBN.out; first | (injection e with e; omega) | (have e := congrArg Addr.block e; simp only at e; omega))).trans HCI6.out)
            have HRD7 := Lib.hid (show Rd (((w5.alloc (.cells #[.int .i64 r, .int .i64 (15 - (r : Int)), .slice (some ⟨g5, 0, none⟩) d.length c5] 33)).drewN nq).setCell ⟨g5, 0, none⟩ (.int .u8 z)) (((w5.alloc (.cells #[.int .i64 r, .int .i64 (15 - (r : Int)), .slice (some ⟨g5, 0, none⟩) d.length c5] 33)).drewN nq).setCell ⟨g5, 0, none⟩ (.int .u8 z)).heap.size (.slice A' d.length c') (bv d) from by
              have h1 := (HRD6.out.drewN nq).setFar (p := ⟨g5, 0, none⟩) (fun gg hgg => by
                obtain ⟨b', o', e, hb', _⟩ := HRD.out.open_ (by intro e; have := bv_length d; rw [e] at this; simp at this; omega)
                subst e
                injection hgg with hgg
                have h1 := HG5.out
                show gg ≠ g5
                have : b' = gg := hgg
                omega) (.int .u8 z)
              exact h1.mono (by simp [World.setCell]))
            have HBL7 := Lib.hid (show b < (((w5.alloc (.cells #[.int .i64 r, .int .i64 (15 - (r : Int)), .slice (some ⟨g5, 0, none⟩) d.length c5] 33)).drewN nq).setCell ⟨g5, 0, none⟩ (.int .u8 z)).heap.size from Nat.lt_of_lt_of_le HBL.out (Nat.le_trans HS6.out (by simp [World.setCell])))
            refine (look_in HT7.out 0 _ HHD.out).mono ?_
            rintro e w8 ⟨v8, rfl, ho8, hb8⟩
            obtain ⟨A8, c8, hv8⟩ := ownsRow_form ho8
            change v8 = .slice A8 d.length c8 at hv8
            subst hv8
            have hb9 : Below w8.heap.size w8 (w8.alloc (.cells #[.int .i64 r, .int .i64 (15 - (r : Int)), .slice A8 d.length c8] 33)) := (Below.refl _ _).alloc (Nat.le_refl _) _
            have hb89 := bthen hb8 hb9
            have HT9 := Lib.hid (HT7.out.below hb89)
            have HB9 := Lib.hid (HB7.out.trans (hb89.mono HB7.out.size))
            have hci := (hb89.cell (p := ⟨b, o + k, none⟩) HBL7.out).trans HCI7.out
            have HRD9 := Lib.hid (HRD7.out.on hb89)
            have ho9 := ownsRow_below ho8 hb9
            have hq0 := conv_rd (Rd.of_own ho9)
            have hq1 := conv_rd HRD9.out
            have hq2 := fun n => conv_rd ((Rd.of_own ho9).drewN n)
            have hq3 := fun n => conv_rd (HRD9.out.drewN n)
            have hcl : (w8.alloc (.cells #[.int .i64 r, .int .i64 (15 - (r : Int)), .slice A8 d.length c8] 33)).cell? ⟨w8.heap.size, 2, none⟩ = some (.slice A8 d.length c8) := by go_simp
            have hq4 := hq2 1
            have hq5 := hq3 1
            clear hb8 ho8 hb9 hb89 ho9
            go_wp2_with fail
            generalize w8.alloc (.cells #[.int .i64 r, .int .i64 (15 - (r : Int)), .slice A8 d.length c8] 33) = W9 at *
            have hq6 : (convert 27 9 (.slice A8 d.length c8)).run Try.prog W9.drew = .ok (.string ⟨d.toArray⟩) W9.drew := hq4
            have hq7 : (convert 27 9 (.slice A' d.length c')).run Try.prog W9.drew = .ok (.string ⟨d.toArray⟩) W9.drew := hq5
            clear hq0 hq1 hq2 hq3 hq4 hq5
            go_still_tail 11, (by kernel_rfl)
            change wpList _ _ _ _ _ (World.drew _)
            clear hq6 hq7 hcl hci
            go_wp2_with fail
            refine (drop_any (w := World.drew _) (HT9.out.below (below_of_drewN _ 1 _)) 0 (by rw [PD_length]; omega)).mono ?_
            rintro e w10 ⟨rfl, hn10, hk10⟩
            rw [show thereE (PD L k).length [0] = 0 by rw [thereE_one, PD_length, if_pos (by omega)]]
            rw [HTL.out] at hn10
            have HN10 := Lib.hid (show NetB w1.heap.size w10 g (PD L (k + 1)) from hn10.mono fun j _ h => h.1)
            have HB10 := Lib.hid (show Below w1.heap.size w1 w10 from (below_drewN HB9.out 1).trans (hk10.below (below_drewN HB9.out 1).size fun j h => h.1))
            clear hn10 hk10
            go_wp2
            go_roundw
            case rel => exact ⟨k + 1, by omega, by go_num, HN10.out, HB10.out⟩
            case measure => simp [intOf]; omega
        · obtain rfl : L.length = k := by omega
          have HL0 := Lib.hid (show (PD L L.length).length = 0 by rw [PD_length]; omega)
          clear hbk hk hge
          go_wp2_with fail
          refine (len_any hnk).mono ?_
          rintro e w8 ⟨rfl, rfl⟩
          rw [HL0.out]
          go_wp2
          go_ret
          exact ⟨rfl, bthen HB1.out HBK.out⟩

theorem law_any (v : Value) (L : List (List UInt8)) (x : Int) (w : World) (hr : Rd2 w v L) (_h0 : 0 ≤ x) (_h1 : x ≤ 255) : Calls Try.prog 4 #[v, .int .u8 x] w (Yes w) := by
  rcases Nat.lt_or_ge 30 L.length with h | h
  · exact long v L x w hr h
  · exact short v L x w hr h

end Go.Proofs.Ytckcagklojpfhaa.netOrder
