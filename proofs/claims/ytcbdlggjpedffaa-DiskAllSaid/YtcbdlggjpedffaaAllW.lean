/- The walk of the statement DiskAll: for every list of bytes it is true, and what was there before stands. -/
import Derived.Test.YtcbdlggjpedffaaTri
import Derived.Test.YtcbdlggjpedffaaConv
import Derived.Test.YtcbdlggjpedffaaPicksW
namespace Go.Proofs.Ytcbdlggjpedffaa.diskAll
open Go.RowKit
open Go.Proofs.Ytcbdlggjpedffaa.diskPicks (rd_lit2)
set_option linter.unusedSimpArgs false

def LZ : List (List UInt8) := List.replicate 4 zeroS
def tA (ls : List UInt8) (j : Nat) : Wt := ((ls.getD j 0).toNat % 4, fullL [ls.getD j 0, UInt8.ofNat j] false)
def d0 (ls : List UInt8) (k : Nat) : DK := runD LZ (tA ls) k
def aK (k : Nat) : List UInt8 := List.replicate k 255 ++ List.replicate (8 - k) 0
theorem aK_set {k : Nat} (hk : k < 8) : (bv (aK k)).set k (.int .u8 255) = bv (aK (k + 1)) := by
  have h : ∀ k : Fin 8, (aK k.val).set k.val 255 = aK (k.val + 1) := by decide
  rw [← h ⟨k, hk⟩]
  simp [bv, List.map_set]
theorem aK_len {k : Nat} (hk : k ≤ 8) : (aK k).length = 8 := by simp [aK]; omega
theorem aK_pick : ∀ k : Fin 64, pickB (aK 8) k.val = true := by decide +kernel

theorem zero_8 : (madeCells #[Value.int .u8 0] 8).toList = bv (aK 0) := by
  rw [toList_madeCells_one]
  simp [bv, aK]

/-- behind the flush; behind the crash of which all are picked; of which none is -/
def dAf (ls : List UInt8) : DK := ⟨laidL (d0 ls ls.length).waits LZ, [], -1, false⟩
theorem flush_is (ls : List UInt8) : flushD (d0 ls ls.length) = dAf ls := by
  unfold d0
  rw [live_flushD (runD_live _ _ _) (by simp [runD, LZ])]
  rfl
theorem flush_E (ls : List UInt8) : flushE (d0 ls ls.length) = 0 := live_flushE (runD_live _ _ _) (by simp [d0, runD, LZ])
theorem picks_all {m : Nat} (h : m ≤ 40) : picks (aK 8) m = List.range m := by
  unfold picks
  rw [List.filter_eq_self]
  intro k hk
  exact aK_pick ⟨k, by have := List.mem_range.1 hk; omega⟩
theorem filterMap_take (ws : List Wt) : ∀ n, n ≤ ws.length → (List.range n).filterMap (fun k => ws[k]?) = ws.take n
  | 0, _ => by simp
  | n + 1, h => by
    rw [List.range_succ, List.filterMap_append, filterMap_take ws n (by omega), List.take_add_one]
    have hx : ws[n]? = some ws[n] := List.getElem?_eq_getElem (by omega)
    simp [hx]
theorem filterMap_range (ws : List Wt) : (List.range ws.length).filterMap (fun k => ws[k]?) = ws := by
  rw [filterMap_take ws _ (Nat.le_refl _), List.take_length]
theorem crash_all (ls : List UInt8) (h : ls.length ≤ 40) : crashD (d0 ls ls.length) (aK 8) = dAf ls := by
  unfold crashD dAf
  rw [show (d0 ls ls.length).waits.length = ls.length from runD_waits _ _ _, picks_all h]
  have := filterMap_range (d0 ls ls.length).waits
  rw [show (d0 ls ls.length).waits.length = ls.length from runD_waits _ _ _] at this
  rw [this]
  rfl
theorem crash_all_N (ls : List UInt8) (h : ls.length ≤ 40) : crashN (d0 ls ls.length) (aK 8) = ls.length := by
  unfold crashN
  rw [show (d0 ls ls.length).waits.length = ls.length from runD_waits _ _ _, picks_all h, List.length_range]
def dNo : DK := ⟨LZ, [], -1, false⟩
theorem picks_nil (m : Nat) : picks [] m = [] := by
  unfold picks
  rw [List.filter_eq_nil_iff]
  intro k _
  simp [pickB]
theorem crash_no (ls : List UInt8) : crashD (d0 ls ls.length) [] = dNo := by
  unfold crashD
  rw [picks_nil]
  rfl
theorem crash_no_N (ls : List UInt8) : crashN (d0 ls ls.length) [] = 0 := by
  unfold crashN
  rw [picks_nil]
  rfl
theorem dAf_up (ls : List UInt8) {i : Nat} (h : i < 4) : upE (dAf ls) (i : Int) = 0 := live_up ⟨rfl, rfl⟩ ⟨by omega, by show (i : Int) < ((laidL _ LZ).length : Int); rw [laidL_len]; simp [LZ]; omega⟩
theorem dNo_up {i : Nat} (h : i < 4) : upE dNo (i : Int) = 0 := live_up ⟨rfl, rfl⟩ ⟨by omega, by simp [dNo, LZ]; omega⟩
theorem dNo_read {i : Nat} (h : i < 4) : readD dNo i = zeroS := by
  show LZ[i]?.getD [] = zeroS
  unfold LZ
  rw [List.getElem?_replicate, if_pos h]
  rfl

theorem row_on {B : Nat} {P : Nat → Prop} {w w' : World} {g n c : Nat} {xs : List Value} (h : w.ownsRow B 5 1 (.slice (some ⟨g, 0, none⟩) n c) n xs) (hs : Spares B P w w') (hP : P g) : w'.ownsRow B 5 1 (.slice (some ⟨g, 0, none⟩) n c) n xs :=
  ownsRow_on h fun k e => hs.2.2 k (h.lt k e).2 (by have e' : some g = some k := e; injection e' with e'; subst e'; exact hP)

set_option maxRecDepth 100000 in
theorem long (v : Value) (ls : List UInt8) (w : World) (hr : Rd w w.heap.size v (bv ls)) (hl : 40 < ls.length) : Calls Try.prog 6 #[v] w (Yes w) := by
  obtain ⟨A, c, rfl, _⟩ := hr.form
  rw [bv_length] at *
  clear hr
  have h1 : (40 : Int) < (ls.length : Int) := by omega
  go_enter Try.func6, Try.ntmps6
  go_wp2_with fail
  refine (awake_any w).mono ?_
  rintro e w1 ⟨rfl, hb1⟩
  have HB1 := Lib.hid hb1
  clear hb1
  go_wp2
  go_ret
  exact ⟨rfl, HB1.out⟩

set_option maxRecDepth 100000 in
set_option maxHeartbeats 4000000 in
theorem short (v : Value) (ls : List UInt8) (w : World) (hr : Rd w w.heap.size v (bv ls)) (hl : ls.length ≤ 40) : Calls Try.prog 6 #[v] w (Yes w) := by
  obtain ⟨i0, hi0, hz0, hz1, hz2⟩ := info_parts Try.info5
  have HR := Lib.hid hr
  obtain ⟨A, c, rfl, _, _, _⟩ := hr.form
  rw [bv_length] at *
  clear hr
  have h1 : ¬ (40 : Int) < (ls.length : Int) := by omega
  go_enter Try.func6, Try.ntmps6
  go_wp2_with fail
  refine (awake_any w).mono ?_
  rintro e w1 ⟨rfl, hb1⟩
  have HB1 := Lib.hid hb1
  have HR1 := Lib.hid (HR.out.on hb1)
  clear hb1
  go_wp2_with (refine wpList_make_full _ rfl _ _ 22 rfl w1.heap.size 5 i0 (.int .u8 0) 1 Try.underlying22 hi0 hz0 hz1 .i64 .i64 8 8 8 rfl rfl rfl rfl (by rw [hz2]; omega) (by unfold maxLen; omega) (Nat.le_refl _) ?_; intro w2 hown2 hg2; have HO2 := Lib.hid hown2; have HG2 := Lib.hid hg2; clear hown2 hg2)
  have hb2 : Below w1.heap.size w1 w2 := (Below.refl _ _).grown HG2.out (Nat.le_refl _) (fun k hk => by cases hk)
  have HB2 := Lib.hid hb2
  have hown := HO2.out
  rw [show (8 * 1 : Nat) = 8 from rfl, show (Value.int .u8 0).cells = #[Value.int .u8 0] from rfl, zero_8] at hown
  have HO := Lib.hid hown
  clear hown hb2 HO2 HG2
  go_loopw [5] (fun t wr => ∃ k : Nat, k ≤ 8 ∧ t = .int .i64 k ∧ wr.ownsRow w1.heap.size 5 1 (.slice (some ⟨w1.heap.size, 0, none⟩) 8 8) 8 (bv (aK k)) ∧ Below w1.heap.size w1 wr) (fun t _ => 8 - (intOf t).toNat)
  case atStart => exact ⟨0, Nat.zero_le _, rfl, HO.out, HB2.out⟩
  case round =>
    obtain ⟨k, hk, rfl, hrow, hb⟩ := hrel
    have HBK := Lib.hid hb
    rcases Nat.lt_or_ge k 8 with hlt | hge
    · have hlt' : (k : Int) < 8 := by omega
      have HSET := Lib.hid (aK_set hlt)
      have hco : ∃ u, wr.cell? ⟨w1.heap.size, k, none⟩ = some u := ⟨_, by rw [hrow.cellAt k (by omega)]; exact List.getElem?_eq_getElem (by rw [bv_length, aK_len hk]; exact hlt)⟩
      obtain ⟨u, hcu⟩ := hco
      have hfu := hrow.frozenAt k
      have hst := (hrow.stored k (.int .u8 255)).1
      rw [HSET.out] at hst
      have HST := Lib.hid hst
      clear hrow hb hst
      go_wp2
      go_roundw
      case rel => exact ⟨k + 1, by omega, by go_num, HST.out, HBK.out.setCell (p := ⟨w1.heap.size, k, none⟩) (Nat.le_refl _) _⟩
      case measure => simp [intOf]; omega
    · obtain rfl : k = 8 := by omega
      have HROW := Lib.hid hrow
      have hgl := (hrow.lt w1.heap.size rfl).2
      have HGL := Lib.hid hgl
      clear hge hk hrow hb hgl
      go_wp2_with fail
      refine (new_at 4 wr (by omega) (by omega)).mono ?_
      rintro e wa ⟨ga, rfl, hda, hba⟩
      have HDA := Lib.hid hda
      have HBA := Lib.hid hba
      clear hda hba
      go_wp2_with fail
      refine (new_at 4 wa (by omega) (by omega)).mono ?_
      rintro e wb ⟨gb, rfl, hdb, hbb⟩
      have HDB := Lib.hid hdb
      have HBB := Lib.hid hbb
      clear hdb hbb
      go_wp2_with fail
      refine (new_at 4 wb (by omega) (by omega)).mono ?_
      rintro e wc ⟨gc, rfl, hdc, hbc⟩
      have HT := Lib.hid (show Tri w1.heap.size (fun k => k = w1.heap.size) wc (ga, d0 ls 0, 0) (gb, d0 ls 0, 0) (gc, d0 ls 0, 0) from Tri.three HGL.out (by have := HGL.out; omega) HDA.out HBA.out HDB.out HBB.out hdc hbc)
      have hbx := bthen (bthen HBA.out HBB.out) hbc
      have HROWC := Lib.hid (ownsRow_on HROW.out fun k e => hbx.block k (HROW.out.lt k e).2)
      have HBC := Lib.hid (bthen HBK.out hbx)
      clear hdc hbc hbx HDA HBA HDB HBB HROW
      go_wp2
      go_loopw [12] (fun t wr => ∃ k : Nat, k ≤ ls.length ∧ t = .int .i64 k ∧ Tri w1.heap.size (fun k => k = w1.heap.size) wr (ga, d0 ls k, 0) (gb, d0 ls k, 0) (gc, d0 ls k, 0) ∧ wr.ownsRow w1.heap.size 5 1 (.slice (some ⟨w1.heap.size, 0, none⟩) 8 8) 8 (bv (aK 8)) ∧ Below w1.heap.size w1 wr) (fun t _ => ls.length - (intOf t).toNat)
      case atStart => exact ⟨0, Nat.zero_le _, rfl, HT.out, HROWC.out, HBC.out⟩
      case round =>
        obtain ⟨k, hk, rfl, ht, hrow, hb⟩ := hrel
        have HTK := Lib.hid ht
        have HROW := Lib.hid hrow
        have HBK := Lib.hid hb
        clear ht hrow hb HT HROWC HBC
        rcases Nat.lt_or_ge k ls.length with hlt | hge
        · have hkl : (k : Int) < (ls.length : Int) := by omega
          have hx : ls[k]? = some ls[k] := List.getElem?_eq_getElem hlt
          have HZ := Lib.hid (show ls.getD k 0 = ls[k] by rw [List.getD_eq_getElem?_getD, hx]; rfl)
          obtain ⟨gr, o, rfl, hgr, hc⟩ := HR1.out.open_ (by intro e; have := bv_length ls; rw [e] at this; simp at this; omega)
          have HCX := Lib.hid (show gr < w1.heap.size ∧ w1.cell? ⟨gr, o + k, none⟩ = some (.int .u8 (ls[k].toNat : Int)) from ⟨hgr, hc _ _ (bv_get hx)⟩)
          clear hx hc
          generalize ls[k] = z at *
          have hzl : z.toNat < 256 := z.toNat_lt
          obtain ⟨j, hj⟩ : ∃ j : Nat, j = z.toNat % 4 := ⟨_, rfl⟩
          have hjl : j < 4 := by omega
          have HBT := Lib.hid (show bits BinOp.and IntKind.u8 (z.toNat : Int) 3 = (j : Int) by rw [bits3, hj])
          have HTA := Lib.hid (show tA ls k = (j, fullL [z, UInt8.ofNat k] false) by unfold tA; rw [HZ.out, hj])
          clear hj
          have HSUC := Lib.hid (runD_succ HTA.out (L := LZ) (by simpa [LZ] using hjl) (fullL_length _ false))
          have HE := Lib.hid (runD_E (L := LZ) (t := tA ls) (k := k) (j := j) (s := fullL [z, UInt8.ofNat k] false) (by simpa [LZ] using hjl) (fullL_length _ false))
          have hb3 : Below wr.heap.size wr (wr.alloc (.cells #[.int .u8 z.toNat, .int .u8 k] 5)) := (Below.refl _ _).alloc (Nat.le_refl _) _
          have HB3 := Lib.hid hb3
          have hr3 := rd_lit2 (x := z.toNat) (y := k) hzl (by omega) (heap_alloc_last wr (.cells #[.int .u8 z.toNat, .int .u8 k] 5))
          rw [UInt8.ofNat_toNat] at hr3
          have HR3 := Lib.hid hr3
          have hcx := (HBK.out.cell (p := ⟨gr, o + k, none⟩) HCX.out.1).trans HCX.out.2
          clear hb3 hr3
          go_wp2_with fail
          clear hcx
          refine (full_any _ _ false _ _ HR3.out (Nat.le_refl _)).mono ?_
          rintro e w4 ⟨v4, rfl, hr4, hv4, hb4⟩
          have hb4' := HB3.out.trans (hb4.mono HB3.out.size)
          have HT4 := Lib.hid (HTK.out.grow hb4')
          have HR4 := Lib.hid hr4
          have HV4 := Lib.hid (show ∀ b, v4.ownBlock = some b → b = w1.heap.size ∨ (wr.heap.size ≤ b ∧ b < w4.heap.size) from fun b e => .inr ⟨Nat.le_trans HB3.out.size (hv4 b e), hr4.own_lt (by intro e; have := bv_length (fullL [z, UInt8.ofNat k] false); rw [e, fullL_length] at this; simp at this) e⟩)
          have HROW4 := Lib.hid (ownsRow_on HROW.out fun k e => hb4'.block k (HROW.out.lt k e).2)
          have HB4 := Lib.hid (bthen HBK.out hb4')
          have HGR4 := Lib.hid (HROW4.out.lt w1.heap.size rfl).2
          have hcx := (HB4.out.cell (p := ⟨gr, o + k, none⟩) HCX.out.1).trans HCX.out.2
          have hbt := HBT.out
          clear hr4 hv4 hb4 hb4' HTK HROW HBK HB3 HR3
          go_wp2_with fail
          clear hcx hbt
          refine (HT4.out.write (j : Int) v4 _ HR4.out HV4.out (by unfold d0; rw [runD_waits]; omega)).mono ?_
          rintro e w5 ⟨rfl, ht5, hs5⟩
          rw [show writeE (d0 ls k) (j : Int) (fullL [z, UInt8.ofNat k] false).length = 0 from HE.out]
          rw [show writeD (d0 ls k) (j : Int) (fullL [z, UInt8.ofNat k] false) = d0 ls (k + 1) from HSUC.out] at ht5
          have HT5 := Lib.hid ht5.rot
          have HR5 := Lib.hid (HR4.out.same hs5.2.1 (fun b hb hlt => hs5.2.2 b hlt (HV4.out b hb)))
          have HROW5 := Lib.hid (row_on HROW4.out hs5 (.inl rfl))
          have HB5 := Lib.hid (HB4.out.trans hs5.1)
          clear ht5 hs5 HT4 HR4 HROW4 HB4
          go_wp2_with fail

          refine (HT5.out.write (j : Int) v4 _ HR5.out HV4.out (by unfold d0; rw [runD_waits]; omega)).mono ?_
          rintro e w6 ⟨rfl, ht6, hs6⟩
          rw [show writeE (d0 ls k) (j : Int) (fullL [z, UInt8.ofNat k] false).length = 0 from HE.out]
          rw [show writeD (d0 ls k) (j : Int) (fullL [z, UInt8.ofNat k] false) = d0 ls (k + 1) from HSUC.out] at ht6
          have HT6 := Lib.hid ht6.rot
          have HR6 := Lib.hid (HR5.out.same hs6.2.1 (fun b hb hlt => hs6.2.2 b hlt (HV4.out b hb)))
          have HROW6 := Lib.hid (row_on HROW5.out hs6 (.inl rfl))
          have HB6 := Lib.hid (HB5.out.trans hs6.1)
          clear ht6 hs6 HT5 HR5 HROW5 HB5
          go_wp2_with fail

          refine (HT6.out.write (j : Int) v4 _ HR6.out HV4.out (by unfold d0; rw [runD_waits]; omega)).mono ?_
          rintro e w7 ⟨rfl, ht7, hs7⟩
          rw [show writeE (d0 ls k) (j : Int) (fullL [z, UInt8.ofNat k] false).length = 0 from HE.out]
          rw [show writeD (d0 ls k) (j : Int) (fullL [z, UInt8.ofNat k] false) = d0 ls (k + 1) from HSUC.out] at ht7
          have HT7 := Lib.hid ht7.rot
          have HR7 := Lib.hid (HR6.out.same hs7.2.1 (fun b hb hlt => hs7.2.2 b hlt (HV4.out b hb)))
          have HROW7 := Lib.hid (row_on HROW6.out hs7 (.inl rfl))
          have HB7 := Lib.hid (HB6.out.trans hs7.1)
          clear ht7 hs7 HT6 HR6 HROW6 HB6
          go_wp2
          go_roundw
          case rel => exact ⟨k + 1, by omega, by go_num, HT7.out.weak (fun k hk => .inl hk), HROW7.out, HB7.out⟩
          case measure => simp [intOf]; omega
        · obtain rfl : k = ls.length := by omega
          clear hge hk
          go_wp2_with fail
          refine (HTK.out.flush (by unfold d0; rw [runD_waits]; omega)).mono ?_
          rintro e w3 ⟨rfl, ⟨M3, ht3⟩, hs3⟩
          rw [flush_E]
          rw [flush_is] at ht3
          have HT3 := Lib.hid ht3.rot
          have HROW3 := Lib.hid (row_on HROW.out hs3 rfl)
          have HB3 := Lib.hid (HBK.out.trans hs3.1)
          clear ht3 hs3 HTK HROW HBK
          go_wp2_with fail
          refine (HT3.out.crash _ (aK 8) (Rd.of_own HROW3.out) (by rw [aK_len (by omega)]; omega) (by unfold d0; rw [runD_waits]; omega)).mono ?_
          rintro e w4 ⟨rfl, ⟨M4, ht4⟩, hs4⟩
          rw [crash_all_N ls hl]
          rw [crash_all ls hl] at ht4
          have HT4 := Lib.hid ht4.rot
          have HB4 := Lib.hid (HB3.out.trans hs4.1)
          clear ht4 hs4 HT3 HROW3 HB3
          go_wp2_with fail
          refine (HT4.out.crash _ [] (Rd.nil _ _) (by simp) (by unfold d0; rw [runD_waits]; omega)).mono ?_
          rintro e w5 ⟨rfl, ⟨M5, ht5⟩, hs5⟩
          rw [crash_no_N]
          rw [crash_no] at ht5
          have HT5 := Lib.hid ht5.rot
          have HB5 := Lib.hid (HB4.out.trans hs5.1)
          clear ht5 hs5 HT4 HB4
          go_wp2
          go_loopw [15] (fun t wr => ∃ i : Nat, i ≤ 4 ∧ t = .int .i64 i ∧ Tri w1.heap.size (fun k => k = w1.heap.size) wr (ga, dAf ls, M3) (gb, dAf ls, M4) (gc, dNo, M5) ∧ Below w1.heap.size w1 wr) (fun t _ => 4 - (intOf t).toNat)
          case atStart => exact ⟨0, Nat.zero_le _, rfl, HT5.out, HB5.out⟩
          case round =>
            obtain ⟨i, hi, rfl, ht, hb⟩ := hrel
            have HTK := Lib.hid ht
            have HBK := Lib.hid hb
            clear ht hb HT5 HB5
            rcases Nat.lt_or_ge i 4 with hlt | hge
            · have hlt' : (i : Int) < 4 := by omega
              go_wp2_with fail
              refine (HTK.out.read i (dAf_up ls hlt)).mono ?_
              rintro e w5 ⟨v5, rfl, ho5, hb5⟩
              obtain ⟨A5, c5, hv5⟩ := ownsRow_form ho5
              subst hv5
              have HRA5 := Lib.hid (Rd.of_own ho5)
              have HT5 := Lib.hid (HTK.out.below hb5).rot
              have HB5 := Lib.hid (bthen HBK.out hb5)
              clear ho5 hb5 HTK HBK
              go_wp2_with fail
              refine (HT5.out.read i (dAf_up ls hlt)).mono ?_
              rintro e w6 ⟨v6, rfl, ho6, hb6⟩
              obtain ⟨A6, c6, hv6⟩ := ownsRow_form ho6
              subst hv6
              have HRA6 := Lib.hid (HRA5.out.on hb6)
              have HRB6 := Lib.hid (Rd.of_own ho6)
              have HT6 := Lib.hid (HT5.out.below hb6).rot
              have HB6 := Lib.hid (bthen HB5.out hb6)
              clear ho6 hb6 HT5 HB5 HRA5
              go_wp2_with fail
              refine (HT6.out.read i (dNo_up hlt)).mono ?_
              rintro e w7 ⟨v7, rfl, ho7, hb7⟩
              rw [dNo_read hlt] at ho7
              obtain ⟨A7, c7, hv7⟩ := ownsRow_form ho7
              subst hv7
              have HRA := Lib.hid (HRA6.out.on hb7)
              have HRB := Lib.hid (HRB6.out.on hb7)
              have HRC := Lib.hid (Rd.of_own ho7)
              have HT7 := Lib.hid (HT6.out.below hb7).rot
              have HB7 := Lib.hid (bthen HB6.out hb7)
              clear ho7 hb7 HT6 HB6 HRA6 HRB6
              go_wp2
              refine region_any (by kernel_rfl) [127, 128, 129, 130, 131, 132, 133, 134, 135, 136, 137, 138, 139, 140, 141, 142] rfl (by simp) (by kernel_rfl) (fun x y => Below x.heap.size x y) (Says (fun q_ => match q_ with | 127 => some (.int .i64 0) | 128 => some (.bool false) | 129 => some (.bool false) | 130 => some (.slice A5 (readD (dAf ls) i).length c5) | 131 => some (.string ⟨(readD (dAf ls) i).toArray⟩) | 132 => some (.slice A6 (readD (dAf ls) i).length c6) | 133 => some (.string ⟨(readD (dAf ls) i).toArray⟩) | 134 => some (.bool false) | 135 => some (.bool false) | 136 => some (.bool false) | 137 => some (.slice A7 zeroS.length c7) | 138 => some (.string ⟨zeroS.toArray⟩) | 140 => some (.string ⟨zeroS.toArray⟩) | 141 => some (.bool false) | 142 => some (.bool false) | _ => none) (fun q_ v w => (q_ = 139 → Rd w w.heap.size v (bv zeroS)) ∧ True)) (fun x => Below.refl _ x) ?_ (fun _ _ _ h k => bthen h k) (hops_of_all rfl ?_) ?_
              · rintro q_ v w w' hR ⟨h1, h2⟩
                obtain ⟨s139, _⟩ := h2
                exact ⟨h1, fun e => (s139 e).on hR, trivial⟩
              · refine ⟨?_, ?_, ?_, ?_, ?_, ?_, ?_, ?_, ?_, ?_, ?_, ?_, ?_, ?_, ?_, ?_, trivial⟩
                · intro a w K hR hs hK
                  have g21 : a.tmps[21]? = some (.int .i64 0) := unfed hs 21 (by kernel_rfl) (by kernel_rfl) rfl
                  exact op_value rfl (wanted_none rfl) (run_move' (v := .int .i64 0) rfl (eval_of g21) w) (hK _ w (Below.refl _ w) (says_exact 127 rfl (by simp)))
                · intro a w K hR hs hK
                  have g127 := fedX hs 127 (.int .i64 0) (by kernel_rfl) (by kernel_rfl) rfl
                  exact op_value (v := .bool false) rfl (wanted_none rfl) (by simp [go_sem, g127]) (hK _ w (Below.refl _ w) (says_exact 128 rfl (by simp)))
                · intro a w K hR hs hK
                  have g128 := fedX hs 128 (.bool false) (by kernel_rfl) (by kernel_rfl) rfl
                  exact op_value rfl (wanted_none rfl) (run_move' (v := .bool false) rfl (eval_of g128) w) (hK _ w (Below.refl _ w) (says_exact 129 rfl (by simp)))
                · intro a w K hR hs hK
                  have g16 : a.tmps[16]? = some (.slice A5 (readD (dAf ls) i).length c5) := unfed hs 16 (by kernel_rfl) (by kernel_rfl) rfl
                  have g129 := fedX hs 129 (.bool false) (by kernel_rfl) (by kernel_rfl) rfl
                  exact op_value rfl (wanted_yes rfl rfl g129) (run_move' (v := .slice A5 (readD (dAf ls) i).length c5) rfl (eval_of g16) w) (hK _ w (Below.refl _ w) (says_exact 130 rfl (by simp)))
                · intro a w K hR hs hK
                  have g130 := fedX hs 130 (.slice A5 (readD (dAf ls) i).length c5) (by kernel_rfl) (by kernel_rfl) rfl
                  have g129 := fedX hs 129 (.bool false) (by kernel_rfl) (by kernel_rfl) rfl
                  have hcv := conv_rd (HRA.out.on ((below_of_drewN w7 1 _).trans hR))
                  exact op_value (v := .string ⟨(readD (dAf ls) i).toArray⟩) rfl (wanted_yes rfl rfl g129) (by simp [go_sem, g130, hcv]) (hK _ w (Below.refl _ w) (says_exact 131 rfl (by simp)))
                · intro a w K hR hs hK
                  have g18 : a.tmps[18]? = some (.slice A6 (readD (dAf ls) i).length c6) := unfed hs 18 (by kernel_rfl) (by kernel_rfl) rfl
                  have g129 := fedX hs 129 (.bool false) (by kernel_rfl) (by kernel_rfl) rfl
                  exact op_value rfl (wanted_yes rfl rfl g129) (run_move' (v := .slice A6 (readD (dAf ls) i).length c6) rfl (eval_of g18) w) (hK _ w (Below.refl _ w) (says_exact 132 rfl (by simp)))
                · intro a w K hR hs hK
                  have g132 := fedX hs 132 (.slice A6 (readD (dAf ls) i).length c6) (by kernel_rfl) (by kernel_rfl) rfl
                  have g129 := fedX hs 129 (.bool false) (by kernel_rfl) (by kernel_rfl) rfl
                  have hcv := conv_rd (HRB.out.on ((below_of_drewN w7 1 _).trans hR))
                  exact op_value (v := .string ⟨(readD (dAf ls) i).toArray⟩) rfl (wanted_yes rfl rfl g129) (by simp [go_sem, g132, hcv]) (hK _ w (Below.refl _ w) (says_exact 133 rfl (by simp)))
                · intro a w K hR hs hK
                  have g131 := fedX hs 131 (.string ⟨(readD (dAf ls) i).toArray⟩) (by kernel_rfl) (by kernel_rfl) rfl
                  have g133 := fedX hs 133 (.string ⟨(readD (dAf ls) i).toArray⟩) (by kernel_rfl) (by kernel_rfl) rfl
                  have g129 := fedX hs 129 (.bool false) (by kernel_rfl) (by kernel_rfl) rfl
                  exact op_value (v := .bool false) rfl (wanted_yes rfl rfl g129) (by simp [go_sem, g131, g133]) (hK _ w (Below.refl _ w) (says_exact 134 rfl (by simp)))
                · intro a w K hR hs hK
                  have g129 := fedX hs 129 (.bool false) (by kernel_rfl) (by kernel_rfl) rfl
                  have g134 := fedX hs 134 (.bool false) (by kernel_rfl) (by kernel_rfl) rfl
                  exact op_value (v := .bool false) rfl (wanted_none rfl) (by simp [go_sem, g129, g134]) (hK _ w (Below.refl _ w) (says_exact 135 rfl (by simp)))
                · intro a w K hR hs hK
                  have g135 := fedX hs 135 (.bool false) (by kernel_rfl) (by kernel_rfl) rfl
                  exact op_value rfl (wanted_none rfl) (run_move' (v := .bool false) rfl (eval_of g135) w) (hK _ w (Below.refl _ w) (says_exact 136 rfl (by simp)))
                · intro a w K hR hs hK
                  have g20 : a.tmps[20]? = some (.slice A7 zeroS.length c7) := unfed hs 20 (by kernel_rfl) (by kernel_rfl) rfl
                  have g136 := fedX hs 136 (.bool false) (by kernel_rfl) (by kernel_rfl) rfl
                  exact op_value rfl (wanted_yes rfl rfl g136) (run_move' (v := .slice A7 zeroS.length c7) rfl (eval_of g20) w) (hK _ w (Below.refl _ w) (says_exact 137 rfl (by simp)))
                · intro a w K hR hs hK
                  have g137 := fedX hs 137 (.slice A7 zeroS.length c7) (by kernel_rfl) (by kernel_rfl) rfl
                  have g136 := fedX hs 136 (.bool false) (by kernel_rfl) (by kernel_rfl) rfl
                  have hcv := conv_rd (HRC.out.on ((below_of_drewN w7 1 _).trans hR))
                  exact op_value (v := .string ⟨zeroS.toArray⟩) rfl (wanted_yes rfl rfl g136) (by simp [go_sem, g137, hcv]) (hK _ w (Below.refl _ w) (says_exact 138 rfl (by simp)))
                · intro a w K hR hs hK
                  have g136 := fedX hs 136 (.bool false) (by kernel_rfl) (by kernel_rfl) rfl
                  refine op_call (g := 13) (args := #[(Value.slice none 0 0), (Value.bool false)]) rfl (wanted_yes rfl rfl g136) (by simp [go_sem, g136]) ?_
                  refine (full_any _ [] false _ _ (Rd.nil w w.heap.size) (Nat.le_refl _)).mono ?_
                  rintro e w9 ⟨v9, rfl, hr9, hv9, hb9⟩
                  exact ⟨v9, rfl, hK v9 w9 hb9 (says_special 139 rfl (by simp; exact hr9))⟩
                · intro a w K hR hs hK
                  obtain ⟨v139, g139, s1390⟩ := fed hs 139 (by kernel_rfl) (by kernel_rfl)
                  have s139 : Rd w w.heap.size v139 (bv zeroS) := s1390.2.1 rfl
                  have g136 := fedX hs 136 (.bool false) (by kernel_rfl) (by kernel_rfl) rfl
                  have hcv := conv_rd (s139)
                  exact op_value (v := .string ⟨zeroS.toArray⟩) rfl (wanted_yes rfl rfl g136) (by simp [go_sem, g139, hcv]) (hK _ w (Below.refl _ w) (says_exact 140 rfl (by simp)))
                · intro a w K hR hs hK
                  have g138 := fedX hs 138 (.string ⟨zeroS.toArray⟩) (by kernel_rfl) (by kernel_rfl) rfl
                  have g140 := fedX hs 140 (.string ⟨zeroS.toArray⟩) (by kernel_rfl) (by kernel_rfl) rfl
                  have g136 := fedX hs 136 (.bool false) (by kernel_rfl) (by kernel_rfl) rfl
                  exact op_value (v := .bool false) rfl (wanted_yes rfl rfl g136) (by simp [go_sem, g138, g140]) (hK _ w (Below.refl _ w) (says_exact 141 rfl (by simp)))
                · intro a w K hR hs hK
                  have g136 := fedX hs 136 (.bool false) (by kernel_rfl) (by kernel_rfl) rfl
                  have g141 := fedX hs 141 (.bool false) (by kernel_rfl) (by kernel_rfl) rfl
                  exact op_value (v := .bool false) rfl (wanted_none rfl) (by simp [go_sem, g136, g141]) (hK _ w (Below.refl _ w) (says_exact 142 rfl (by simp)))
              · intro f w hR hf
                have f127 : f 127 = .int .i64 0 := (hf 127 (by simp)).1 _ rfl
                have f128 : f 128 = .bool false := (hf 128 (by simp)).1 _ rfl
                have f129 : f 129 = .bool false := (hf 129 (by simp)).1 _ rfl
                have f130 : f 130 = .slice A5 (readD (dAf ls) i).length c5 := (hf 130 (by simp)).1 _ rfl
                have f131 : f 131 = .string ⟨(readD (dAf ls) i).toArray⟩ := (hf 131 (by simp)).1 _ rfl
                have f132 : f 132 = .slice A6 (readD (dAf ls) i).length c6 := (hf 132 (by simp)).1 _ rfl
                have f133 : f 133 = .string ⟨(readD (dAf ls) i).toArray⟩ := (hf 133 (by simp)).1 _ rfl
                have f134 : f 134 = .bool false := (hf 134 (by simp)).1 _ rfl
                have f135 : f 135 = .bool false := (hf 135 (by simp)).1 _ rfl
                have f136 : f 136 = .bool false := (hf 136 (by simp)).1 _ rfl
                have f137 : f 137 = .slice A7 zeroS.length c7 := (hf 137 (by simp)).1 _ rfl
                have f138 : f 138 = .string ⟨zeroS.toArray⟩ := (hf 138 (by simp)).1 _ rfl
                have f139 : Rd w w.heap.size (f 139) (bv zeroS) := (hf 139 (by simp)).2.1 rfl
                have f140 : f 140 = .string ⟨zeroS.toArray⟩ := (hf 140 (by simp)).1 _ rfl
                have f141 : f 141 = .bool false := (hf 141 (by simp)).1 _ rfl
                have f142 : f 142 = .bool false := (hf 142 (by simp)).1 _ rfl
                simp only [putAll, List.foldl_cons, List.foldl_nil, List.setIfInBounds_toArray, List.set_cons_succ, List.set_cons_zero, f127, f128, f129, f130, f131, f132, f133, f134, f135, f136, f137, f138, f140, f141, f142]
                clear f127 f128 f129 f130 f131 f132 f133 f134 f135 f136 f137 f138 f140 f141 f142 hf
                clear f139
                have hbz := (below_of_drewN w7 1 _).trans hR
                have HTZ := Lib.hid (HT7.out.below hbz)
                have HBZ := Lib.hid (bthen HB7.out hbz)
                clear hbz
                go_wp2
                go_roundw
                case rel => exact ⟨i + 1, by omega, by go_num, HTZ.out, HBZ.out⟩
                case measure => simp [intOf]; omega
            · obtain rfl : i = 4 := by omega
              go_wp2
              go_ret
              exact ⟨rfl, bthen HB1.out HBK.out⟩

theorem law_any (v : Value) (ls : List UInt8) (w : World) (hr : Rd w w.heap.size v (bv ls)) : Calls Try.prog 6 #[v] w (Yes w) := by
  rcases Nat.lt_or_ge 40 ls.length with h | h
  · exact long v ls w hr h
  · exact short v ls w hr h

end Go.Proofs.Ytcbdlggjpedffaa.diskAll
