/- The walk of the statement DiskPlays: for every number and every script it is true, and what was there before stands. -/
import Derived.Test.YtcbdlggjpedffaaPlaysP
import Derived.BigQuiet
import Derived.Deep.DeepCutAuto
import Derived.Deep.CutBlock
namespace Go.Proofs.Ytcbdlggjpedffaa.diskPlays
open Go.RowKit
set_option linter.unusedSimpArgs false

theorem writeD_waits (d : DK) (i : Int) (s : List UInt8) : (writeD d i s).waits.length ≤ d.waits.length + 1 := by
  unfold writeD
  split
  · omega
  · split
    · rw [countD_waits]; omega
    · simp
theorem flushD_waits (d : DK) : (flushD d).waits.length ≤ d.waits.length := by
  unfold flushD
  split
  · omega
  · split
    · rw [countD_waits]; omega
    · simp

set_option maxRecDepth 100000 in
theorem long (n : Int) (v : Value) (w : World) (h : 40 < n) : Calls Try.prog 9 #[.int .i64 n, v] w (Yes w) := by
  go_enter Try.func9, Try.ntmps9
  go_wp2_with fail
  refine (awake_any w).mono ?_
  rintro e w1 ⟨rfl, hb1⟩
  have HB1 := Lib.hid hb1
  clear hb1
  go_wp2
  go_ret
  exact ⟨rfl, HB1.out⟩

set_option maxRecDepth 100000 in
set_option maxHeartbeats 4000000 in
theorem none_any (n : Int) (v : Value) (L : List AC) (w : World) (hr : RdActs w v L) (h1 : n < 1) : Calls Try.prog 9 #[.int .i64 n, v] w (Yes w) := by
  obtain ⟨A, c, rfl, _⟩ := hr
  have h40 : ¬ 40 < n := by omega
  have h40d : decide (40 < n) = false := by simpa using h40
  go_enter Try.func9, Try.ntmps9
  go_wp2_with fail
  refine (awake_any w).mono ?_
  rintro e w1 ⟨rfl, hb1⟩
  have HB1 := Lib.hid hb1
  clear hb1
  go_wp2_with fail
  refine (new_out n w1 (.inl h1)).mono ?_
  rintro e w2 ⟨rfl, rfl⟩
  go_wp2_with fail
  refine (refnew_out n w2 h1).mono ?_
  rintro e w3 ⟨rfl, hb3⟩
  have HB3 := Lib.hid (bthen HB1.out hb3)
  have HB4 := Lib.hid (HB3.out.alloc HB3.out.size (.cells #[.slice none 0 0, .slice none 0 0, .int .i64 0, .bool false] 46))
  clear hb3
  go_wp2
  go_loopw [10] (fun t wr => t = .int .i64 0 ∧ Below w.heap.size w wr) (fun _ _ => 0)
  case atStart => exact ⟨rfl, HB4.out⟩
  case round =>
    obtain ⟨rfl, hb⟩ := hrel
    have HBK := Lib.hid hb
    clear hb
    by_cases hL : 0 < L.length
    · have hL' : (0 : Int) < (L.length : Int) := by omega
      go_wp2_with fail
      refine (stop_nil 1 _).mono ?_
      rintro e w8 ⟨rfl, rfl⟩
      go_wp2_with fail
      refine (read_nil 0 _).mono ?_
      rintro e w8 ⟨rfl, rfl⟩
      go_wp2_with fail
      refine (write_nil 0 _ _).mono ?_
      rintro e w8 ⟨rfl, rfl⟩
      go_wp2_with fail
      refine (flush_nil _).mono ?_
      rintro e w8 ⟨rfl, rfl⟩
      go_wp2_with fail
      refine (len_nil _).mono ?_
      rintro e w8 ⟨rfl, rfl⟩
      go_wp2_with fail
      refine (waits_nil _).mono ?_
      rintro e w8 ⟨rfl, rfl⟩
      go_wp2_with fail
      refine (crash_nil _ _).mono ?_
      rintro e w9 ⟨rfl, hb9⟩
      have HB9 := Lib.hid (bthen HBK.out hb9)
      clear hb9
      go_wp2_with fail
      refine (down_nil _).mono ?_
      rintro e w10 ⟨rfl, rfl⟩
      go_wp2
      go_ret
      exact ⟨rfl, HB9.out⟩
    · have hL' : decide ((0 : Int) < (L.length : Int)) = false := decide_eq_false (by omega)
      have hL2 : ¬ 0 < L.length := hL
      have hL3 : decide (0 < L.length) = false := by simpa using hL
      go_wp2_with fail
      refine (stop_nil 1 _).mono ?_
      rintro e w8 ⟨rfl, rfl⟩
      go_wp2_with fail
      refine (read_nil 0 _).mono ?_
      rintro e w8 ⟨rfl, rfl⟩
      go_wp2_with fail
      refine (write_nil 0 _ _).mono ?_
      rintro e w8 ⟨rfl, rfl⟩
      go_wp2_with fail
      refine (flush_nil _).mono ?_
      rintro e w8 ⟨rfl, rfl⟩
      go_wp2_with fail
      refine (len_nil _).mono ?_
      rintro e w8 ⟨rfl, rfl⟩
      go_wp2_with fail
      refine (waits_nil _).mono ?_
      rintro e w8 ⟨rfl, rfl⟩
      go_wp2_with fail
      refine (crash_nil _ _).mono ?_
      rintro e w9 ⟨rfl, hb9⟩
      have HB9 := Lib.hid (bthen HBK.out hb9)
      clear hb9
      go_wp2_with fail
      refine (down_nil _).mono ?_
      rintro e w10 ⟨rfl, rfl⟩
      go_wp2
      go_ret
      exact ⟨rfl, HB9.out⟩

set_option maxRecDepth 100000 in
set_option maxHeartbeats 4000000 in
theorem some_any (n : Nat) (v : Value) (L : List AC) (w : World) (hr : RdActs w v L) (h1 : 1 ≤ n) (h2 : n ≤ 40) : Calls Try.prog 9 #[.int .i64 (n : Int), v] w (Yes w) := by
  have HR := Lib.hid hr
  obtain ⟨A, c, rfl, _⟩ := hr
  have h40 : ¬ 40 < (n : Int) := by omega
  have h40d : decide (40 < (n : Int)) = false := by simpa using h40
  go_enter Try.func9, Try.ntmps9
  go_wp2_with fail
  refine (awake_any w).mono ?_
  rintro e w1 ⟨rfl, hb1⟩
  have HB1 := Lib.hid hb1
  have HR1 := Lib.hid (HR.out.on hb1)
  clear hb1
  go_wp2_with fail
  clear h40 h40d
  refine (new_at n w1 h1 (by omega)).mono ?_
  rintro e w2 ⟨g, rfl, hd2, hb2⟩
  have HD2 := Lib.hid hd2
  have HB2 := Lib.hid hb2
  clear hd2 hb2
  go_wp2_with fail
  refine (refnew_any n w2 h1 (by omega)).mono ?_
  rintro e w3 ⟨v3, rfl, hr3, hb3⟩
  obtain ⟨Lv3, Wv3, hv3, g1, g2⟩ := id hr3
  obtain ⟨A3, c3, rfl⟩ := ownsRow_form g1
  obtain ⟨A4, c4, rfl⟩ := ownsRow_form g2
  subst hv3
  have hb4 : Below w3.heap.size w3 (w3.alloc (.cells #[.slice A3 (newD n).L.length c3, .slice A4 (newD n).waits.length c4, .int .i64 (newD n).left, .bool (newD n).down] 46)) := (Below.refl _ _).alloc (Nat.le_refl _) _
  have HD4 := Lib.hid ((HD2.out.below hb3).below hb4)
  have HR4 := Lib.hid (RefB.from ((RefB.below hr3 hb4)) HB2.out.size)
  have HX4 := Lib.hid (BoxD.new w3 #[.slice A3 (newD n).L.length c3, .slice A4 (newD n).waits.length c4, .int .i64 (newD n).left, .bool (newD n).down])
  have HB4 := Lib.hid (bthen (bthen HB2.out hb3) hb4)
  have HLO := Lib.hid (Nat.le_trans HB2.out.size hb3.size)
  clear g1 g2 hr3 hb3 hb4 HD2 HB2
  have HW0 := Lib.hid (show (newD n).waits.length ≤ 0 from Nat.le_refl _)

  generalize newD n = d0 at *
  go_wp2
  generalize w3.heap.size = nW at *
  go_loopw [10] (fun t wr => ∃ (k M : Nat) (d : DK) (A5 A6 : Option Addr) (c5 c6 : Nat), k ≤ 40 ∧ t = .int .i64 k ∧ d.waits.length ≤ k ∧ M ≤ 60 * k ∧ DiskB w1.heap.size wr g d M ∧ RefB w1.heap.size wr (.agg #[.slice A5 d.L.length c5, .slice A6 d.waits.length c6, .int .i64 d.left, .bool d.down]) d ∧ BoxD wr nW #[.slice A5 d.L.length c5, .slice A6 d.waits.length c6, .int .i64 d.left, .bool d.down] ∧ Below w1.heap.size w1 wr) (fun t _ => 41 - (intOf t).toNat)
  case atStart => exact ⟨0, 0, d0, A3, A4, c3, c4, Nat.zero_le _, rfl, HW0.out, Nat.zero_le _, HD4.out, HR4.out, HX4.out, HB4.out⟩
  case round =>
    obtain ⟨k, M, d, A5, A6, c5, c6, hk, rfl, hwl, hM, hd, hr2, hx, hb⟩ := hrel
    have HDK := Lib.hid hd
    have HRK := Lib.hid hr2
    have HXK := Lib.hid hx
    have HBK := Lib.hid hb
    have HWK := Lib.hid (show d.waits.length ≤ k ∧ k ≤ 40 from ⟨hwl, hk⟩)
    have HMK := Lib.hid (show M ≤ 60 * k ∧ k ≤ 40 from ⟨hM, hk⟩)
    have HFA := Lib.hid hd.facts
    clear hd hr2 hx hb hwl hM HD4 HR4 HX4 HB4
    by_cases hlt : k < L.length
    · have hlt' : (k : Int) < (L.length : Int) := by omega
      by_cases h40 : k < 40
      · have h40' : (k : Int) < 40 := by omega
        have hd : L[k]? = some L[k] := List.getElem?_eq_getElem hlt
        obtain ⟨b, o, hA, hbl, hac⟩ := HR1.out.get hd
        subst hA
        generalize L[k] = a at *
        obtain ⟨c0', c1', c2', ⟨A7, c7, c3', hrd⟩, han⟩ := hac
        have HRD1 := Lib.hid hrd
        have HAN := Lib.hid han
        have hcc := fun (j : Nat) => HBK.out.cell (p := ⟨b, j, none⟩) hbl
        have m0 := (hcc _).trans c0'
        have m1 := (hcc _).trans c1'
        have m2 := (hcc _).trans c2'
        have m3 := (hcc _).trans c3'
        clear hrd hcc han c0' c1' c2' c3'
        rcases Nat.lt_or_ge 140 a.d.length with hbig | hsm
        · have hbig' : (140 : Int) < (a.d.length : Int) := by omega
          go_wp2
          go_ret
          exact ⟨rfl, bthen HB1.out (HBK.out.alloc HBK.out.size _)⟩
        · have hsm' : ¬ (140 : Int) < (a.d.length : Int) := by omega
          obtain ⟨q, hq⟩ : ∃ q, bits .and .i64 a.kind 15 = q := ⟨_, rfl⟩
          go_upto_block 2 with (fail)
          clear hq m0 m1 m2 m3 hbl hd hsm'
          have hb2 : Below wr.heap.size wr (wr.alloc (.cells #[.int .i64 a.kind, .int .i64 a.i, .int .i64 a.n, .slice A7 a.d.length c7] 50)) := (Below.refl _ _).alloc (Nat.le_refl _) _
          have HDQ := Lib.hid (DiskHas.below (F := fun j => w1.heap.size ≤ j ∧ j < wr.heap.size) (HDK.out.mono (fun j hj h => ⟨h, hj⟩)) hb2)
          have HRQ := Lib.hid (HRK.out.below hb2)
          have HXQ := Lib.hid (HXK.out.below hb2 HXK.out.lt)
          have HBQ := Lib.hid (bthen HBK.out hb2)
          have HRD := Lib.hid ((HRD1.out.below HBQ.out).mono HBQ.out.size)
          have HA := Lib.hid (heap_alloc_last wr (.cells #[.int .i64 a.kind, .int .i64 a.i, .int .i64 a.n, .slice A7 a.d.length c7] 50))
          have HLT := Lib.hid (show wr.heap.size < (wr.alloc (.cells #[.int .i64 a.kind, .int .i64 a.i, .int .i64 a.n, .slice A7 a.d.length c7] 50)).heap.size by simp)
          have HLQ := Lib.hid hb2.size
          clear hb2 HDK HRK HXK HBK
          generalize (wr.alloc (.cells #[.int .i64 a.kind, .int .i64 a.i, .int .i64 a.n, .slice A7 a.d.length c7] 50)) = wq at *
          generalize wr.heap.size = nA at *
          go_cut [7, 9] (fun ev fv wx => ∃ (d' : DK) (M' : Nat) (A8 A9 : Option Addr) (c8 c9 : Nat) (er : Int), ev = .int .i64 er ∧ fv = .int .i64 er ∧ d'.waits.length ≤ k + 1 ∧ M' ≤ 60 * (k + 1) ∧ DiskB w1.heap.size wx g d' M' ∧ RefB w1.heap.size wx (.agg #[.slice A8 d'.L.length c8, .slice A9 d'.waits.length c9, .int .i64 d'.left, .bool d'.down]) d' ∧ BoxD wx nW #[.slice A8 d'.L.length c8, .slice A9 d'.waits.length c9, .int .i64 d'.left, .bool d'.down] ∧ Below w1.heap.size w1 wx)
          case first =>
            have e1 : wq.cell? ⟨nA, 1, none⟩ = some (.int .i64 a.i) := by rw [cell_of_row wq _ _ _ 50 (0, 0) HA.out]; rfl
            have e2 : wq.cell? ⟨nA, 2, none⟩ = some (.int .i64 a.n) := by rw [cell_of_row wq _ _ _ 50 (0, 0) HA.out]; rfl
            have e3 : wq.cell? ⟨nA, 3, none⟩ = some (.slice A7 a.d.length c7) := by rw [cell_of_row wq _ _ _ 50 (0, 0) HA.out]; rfl
            by_cases hp : q = 0 ∨ q = 1 ∨ q = 2 ∨ q = 3 ∨ q = 4 ∨ q = 5 ∨ q = 6
            · rcases hp with rfl | rfl | rfl | rfl | rfl | rfl | rfl
              all_goals
                go_wp2_with fail
                clear e1 e2 e3
                refine (full_any _ a.d (a.n == 1) _ _ HRD.out (Nat.le_refl _)).mono ?_
                rintro e w4 ⟨v4, rfl, hr4, hv4, hb4⟩
                have HD4 := Lib.hid (HDQ.out.below hb4)
                have HR4 := Lib.hid (HRQ.out.below hb4)
                have HX4 := Lib.hid (HXQ.out.below hb4 HXQ.out.lt)
                have HA4 := Lib.hid ((hb4.block nA HLT.out).trans HA.out)
                have HB4 := Lib.hid (bthen HBQ.out hb4)
                have HV4 := Lib.hid (show FullV wq.heap.size (fullL a.d (a.n == 1)) v4 w4 from ⟨hr4, hv4⟩)
                have e1 : w4.cell? ⟨nA, 1, none⟩ = some (.int .i64 a.i) := by rw [cell_of_row w4 _ _ _ 50 (0, 0) HA4.out]; rfl
                clear hr4 hv4 hb4
                go_wp2_with fail
                clear e1
                refine (disk_write HD4.out a.i v4 _ HV4.out.1 (by have := HWK.out; omega) (fun b hb e => by have h1 := HV4.out.2 b hb; have h2 := e.2; have := HLQ.out; omega)).mono ?_
                rintro e w5 ⟨rfl, hd5, hk5, ho5⟩

                have HD5 := Lib.hid (show DiskB w1.heap.size w5 g (writeD d a.i (fullL a.d (a.n == 1))) M from hd5.mono (fun j _ h => by rcases h with h | h; exact h.1; exact Nat.le_trans HB4.out.size h))
                have HB5 := Lib.hid (HB4.out.trans (hk5.below HB4.out.size (fun j h => h.1)))
                have HX5 := Lib.hid (HX4.out.oth ho5)
                have HR5 := Lib.hid (HR4.out.oth ho5)
                have HA5 := Lib.hid ((ho5 _ ⟨_, 50, _, HA4.out, by decide, by decide⟩).trans HA4.out)
                obtain ⟨q0, q1, q2, q3⟩ := HX5.out.four
                have e1 : w5.cell? ⟨nA, 1, none⟩ = some (.int .i64 a.i) := by rw [cell_of_row w5 _ _ _ 50 (0, 0) HA5.out]; rfl
                have e2 : w5.cell? ⟨nA, 2, none⟩ = some (.int .i64 a.n) := by rw [cell_of_row w5 _ _ _ 50 (0, 0) HA5.out]; rfl
                have e3 : w5.cell? ⟨nA, 3, none⟩ = some (.slice A7 a.d.length c7) := by rw [cell_of_row w5 _ _ _ 50 (0, 0) HA5.out]; rfl

                have hcv := conv_rd (HV4.out.1.same hk5.size (fun b hb hlt => hk5.block b hlt (fun e => by have h1 := HV4.out.2 b hb; have h2 := e.2; have := HLQ.out; omega)))
                clear hd5 hk5 ho5 e2 e3
                go_wp2_with fail
                clear hcv q0 q1 q2 q3 e1
                refine (refwrite_any w1.heap.size w5 _ d a.i _ HR5.out HB5.out.size (by have := HWK.out; omega) HFA.out.2.2).mono ?_
                rintro e w6 ⟨v6, rfl, hr6, hb6⟩

                obtain ⟨Lv6, Wv6, hv6, g1, g2⟩ := id hr6
                obtain ⟨A8, c8, rfl⟩ := ownsRow_form g1
                obtain ⟨A9, c9, rfl⟩ := ownsRow_form g2
                subst hv6
                have HX6 := Lib.hid (HX5.out.below hb6 HX5.out.lt)
                have HD6 := Lib.hid (HD5.out.below hb6)
                have HR6 := Lib.hid hr6
                have HB6 := Lib.hid (bthen HB5.out hb6)
                clear g1 g2 hr6 hb6
                go_wp2_with (refine wpList_store_row rfl 46 (.tmp 8) (.tmp 111) rfl nW #[.slice A8 ((writeD d a.i (fullL a.d (a.n == 1)))).L.length c8, .slice A9 ((writeD d a.i (fullL a.d (a.n == 1)))).waits.length c9, .int .i64 ((writeD d a.i (fullL a.d (a.n == 1)))).left, .bool ((writeD d a.i (fullL a.d (a.n == 1)))).down] rfl rfl 46 #[.slice A5 d.L.length c5, .slice A6 d.waits.length c6, .int .i64 d.left, .bool d.down] HX6.out (by rw [Try.size46]; rfl) rfl (by simp [Value.oneCell']) ?_)
                go_meet
                exact ⟨(writeD d a.i (fullL a.d (a.n == 1))), M, A8, A9, c8, c9, writeE d a.i (fullL a.d (a.n == 1)).length, rfl, rfl, Nat.le_trans (writeD_waits d a.i _) (by have := HWK.out; omega), by have := HMK.out; omega, HD6.out.setRow HX6.out, HR6.out.row HX6.out _, HX6.out.row _, HB6.out.trans ((below_box _ _ _).mono HLO.out)⟩
            · have p0 : (q == 0) = false := by rw [beq_eq_false_iff_ne]; omega
              have p1 : (q == 1) = false := by rw [beq_eq_false_iff_ne]; omega
              have p2 : (q == 2) = false := by rw [beq_eq_false_iff_ne]; omega
              have p3 : (q == 3) = false := by rw [beq_eq_false_iff_ne]; omega
              have p4 : (q == 4) = false := by rw [beq_eq_false_iff_ne]; omega
              have p5 : (q == 5) = false := by rw [beq_eq_false_iff_ne]; omega
              have p6 : (q == 6) = false := by rw [beq_eq_false_iff_ne]; omega
              by_cases hp2 : q = 7 ∨ q = 8 ∨ q = 9
              · clear hp
                rcases hp2 with rfl | rfl | rfl
                all_goals
                  clear e1 e2 e3
                  go_wp2_with fail
                  refine (disk_flush HDQ.out (by have := HWK.out; have := HMK.out; omega)).mono ?_
                  rintro e w5 ⟨rfl, ⟨M5, hM5, hd5⟩, hk5, ho5⟩

                  have HD5 := Lib.hid (show DiskB w1.heap.size w5 g (flushD d) M5 from hd5.mono (fun j _ h => h.1))
                  have HB5 := Lib.hid (HBQ.out.trans (hk5.below HBQ.out.size (fun j h => h.1)))
                  have HX5 := Lib.hid (HXQ.out.oth ho5)
                  have HR5 := Lib.hid (HRQ.out.oth ho5)
                  have HA5 := Lib.hid ((ho5 _ ⟨_, 50, _, HA.out, by decide, by decide⟩).trans HA.out)
                  obtain ⟨q0, q1, q2, q3⟩ := HX5.out.four
                  have e1 : w5.cell? ⟨nA, 1, none⟩ = some (.int .i64 a.i) := by rw [cell_of_row w5 _ _ _ 50 (0, 0) HA5.out]; rfl
                  have e2 : w5.cell? ⟨nA, 2, none⟩ = some (.int .i64 a.n) := by rw [cell_of_row w5 _ _ _ 50 (0, 0) HA5.out]; rfl
                  have e3 : w5.cell? ⟨nA, 3, none⟩ = some (.slice A7 a.d.length c7) := by rw [cell_of_row w5 _ _ _ 50 (0, 0) HA5.out]; rfl

                  clear hd5 hk5 ho5 e1 e2 e3
                  go_wp2_with fail
                  clear q0 q1 q2 q3
                  refine (refflush_any w1.heap.size w5 _ d HR5.out HB5.out.size (by have := HWK.out; omega) (by have := HFA.out.2.1; omega) HFA.out.2.2 HFA.out.1).mono ?_
                  rintro e w6 ⟨v6, rfl, hr6, hb6⟩

                  obtain ⟨Lv6, Wv6, hv6, g1, g2⟩ := id hr6
                  obtain ⟨A8, c8, rfl⟩ := ownsRow_form g1
                  obtain ⟨A9, c9, rfl⟩ := ownsRow_form g2
                  subst hv6
                  have HX6 := Lib.hid (HX5.out.below hb6 HX5.out.lt)
                  have HD6 := Lib.hid (HD5.out.below hb6)
                  have HR6 := Lib.hid hr6
                  have HB6 := Lib.hid (bthen HB5.out hb6)
                  clear g1 g2 hr6 hb6
                  go_wp2_with (refine wpList_store_row rfl 46 (.tmp 8) (.tmp 122) rfl nW #[.slice A8 (flushD d).L.length c8, .slice A9 (flushD d).waits.length c9, .int .i64 (flushD d).left, .bool (flushD d).down] rfl rfl 46 #[.slice A5 d.L.length c5, .slice A6 d.waits.length c6, .int .i64 d.left, .bool d.down] HX6.out (by rw [Try.size46]; rfl) rfl (by simp [Value.oneCell']) ?_)
                  go_meet
                  exact ⟨flushD d, M5, A8, A9, c8, c9, flushE d, rfl, rfl, Nat.le_trans (flushD_waits d) (by have := HWK.out; omega), by have := HMK.out; have := HWK.out; omega, HD6.out.setRow HX6.out, HR6.out.row HX6.out _, HX6.out.row _, HB6.out.trans ((below_box _ _ _).mono HLO.out)⟩
              · have p7 : (q == 7) = false := by rw [beq_eq_false_iff_ne]; omega
                have p8 : (q == 8) = false := by rw [beq_eq_false_iff_ne]; omega
                have p9 : (q == 9) = false := by rw [beq_eq_false_iff_ne]; omega
                by_cases hp3 : q = 10 ∨ q = 11
                · clear hp hp2
                  rcases hp3 with rfl | rfl
                  all_goals
                    go_wp2_with fail
                    clear e1 e2 e3
                    refine (disk_stop HDQ.out a.n HAN.out.2).mono ?_
                    rintro e w5 ⟨rfl, hd5, hk5, ho5⟩

                    have HD5 := Lib.hid (show DiskB w1.heap.size w5 g (stopD d a.n) M from hd5.mono (fun j _ h => h.1))
                    have HB5 := Lib.hid (HBQ.out.trans (hk5.below HBQ.out.size (fun j h => h.1)))
                    have HX5 := Lib.hid (HXQ.out.oth ho5)
                    have HR5 := Lib.hid (HRQ.out.oth ho5)
                    have HA5 := Lib.hid ((ho5 _ ⟨_, 50, _, HA.out, by decide, by decide⟩).trans HA.out)
                    obtain ⟨q0, q1, q2, q3⟩ := HX5.out.four
                    have e1 : w5.cell? ⟨nA, 1, none⟩ = some (.int .i64 a.i) := by rw [cell_of_row w5 _ _ _ 50 (0, 0) HA5.out]; rfl
                    have e2 : w5.cell? ⟨nA, 2, none⟩ = some (.int .i64 a.n) := by rw [cell_of_row w5 _ _ _ 50 (0, 0) HA5.out]; rfl
                    have e3 : w5.cell? ⟨nA, 3, none⟩ = some (.slice A7 a.d.length c7) := by rw [cell_of_row w5 _ _ _ 50 (0, 0) HA5.out]; rfl

                    clear hd5 hk5 ho5 e1 e3
                    go_wp2_with fail
                    clear q0 q1 q2 q3 e2
                    refine (refstop_any w1.heap.size w5 _ d a.n HR5.out HAN.out.1 HAN.out.2).mono ?_
                    rintro e w6 ⟨v6, rfl, hr6, hb6⟩

                    obtain ⟨Lv6, Wv6, hv6, g1, g2⟩ := id hr6
                    obtain ⟨A8, c8, rfl⟩ := ownsRow_form g1
                    obtain ⟨A9, c9, rfl⟩ := ownsRow_form g2
                    subst hv6
                    have HX6 := Lib.hid (HX5.out.below hb6 HX5.out.lt)
                    have HD6 := Lib.hid (HD5.out.below hb6)
                    have HR6 := Lib.hid hr6
                    have HB6 := Lib.hid (bthen HB5.out hb6)
                    clear g1 g2 hr6 hb6
                    go_wp2_with (refine wpList_store_row rfl 46 (.tmp 8) (.tmp 134) rfl nW #[.slice A8 (stopD d a.n).L.length c8, .slice A9 (stopD d a.n).waits.length c9, .int .i64 (stopD d a.n).left, .bool (stopD d a.n).down] rfl rfl 46 #[.slice A5 d.L.length c5, .slice A6 d.waits.length c6, .int .i64 d.left, .bool d.down] HX6.out (by rw [Try.size46]; rfl) rfl (by simp [Value.oneCell']) ?_)
                    go_meet
                    exact ⟨stopD d a.n, M, A8, A9, c8, c9, 0, rfl, rfl, by have := HWK.out; simp [stopD]; omega, by have := HMK.out; omega, HD6.out.setRow HX6.out, HR6.out.row HX6.out _, HX6.out.row _, HB6.out.trans ((below_box _ _ _).mono HLO.out)⟩
                · have p10 : (q == 10) = false := by rw [beq_eq_false_iff_ne]; omega
                  have p11 : (q == 11) = false := by rw [beq_eq_false_iff_ne]; omega
                  clear hp hp2 hp3
                  go_wp2_with fail
                  clear e1 e2 e3
                  refine (disk_crash HDQ.out _ a.d HRD.out (by omega) (by have := HWK.out; have := HMK.out; omega)).mono ?_
                  rintro e w5 ⟨rfl, ⟨M5, hM5, hd5⟩, hk5, ho5⟩

                  have HD5 := Lib.hid (show DiskB w1.heap.size w5 g (crashD d a.d) M5 from hd5.mono (fun j _ h => h.1))
                  have HB5 := Lib.hid (HBQ.out.trans (hk5.below HBQ.out.size (fun j h => h.1)))
                  have HX5 := Lib.hid (HXQ.out.oth ho5)
                  have HR5 := Lib.hid (HRQ.out.oth ho5)
                  have HA5 := Lib.hid ((ho5 _ ⟨_, 50, _, HA.out, by decide, by decide⟩).trans HA.out)
                  obtain ⟨q0, q1, q2, q3⟩ := HX5.out.four
                  have e1 : w5.cell? ⟨nA, 1, none⟩ = some (.int .i64 a.i) := by rw [cell_of_row w5 _ _ _ 50 (0, 0) HA5.out]; rfl
                  have e2 : w5.cell? ⟨nA, 2, none⟩ = some (.int .i64 a.n) := by rw [cell_of_row w5 _ _ _ 50 (0, 0) HA5.out]; rfl
                  have e3 : w5.cell? ⟨nA, 3, none⟩ = some (.slice A7 a.d.length c7) := by rw [cell_of_row w5 _ _ _ 50 (0, 0) HA5.out]; rfl

                  have hcv := conv_rd (HRD1.out.below HB5.out)
                  clear hd5 hk5 ho5 e1 e2
                  go_wp2_with fail
                  clear q0 q1 q2 q3 e3 hcv
                  refine (refcrash_any w1.heap.size w5 _ d a.d HR5.out HB5.out.size (by have := HWK.out; omega) (by have := HFA.out.2.1; omega) HFA.out.1 (by omega)).mono ?_
                  rintro e w6 ⟨v6, rfl, hr6, hb6⟩
                  obtain ⟨Lv6, Wv6, hv6, g1, g2⟩ := id hr6
                  obtain ⟨A8, c8, rfl⟩ := ownsRow_form g1
                  obtain ⟨A9, c9, rfl⟩ := ownsRow_form g2
                  subst hv6
                  have hb7 : Below w6.heap.size w6 (w6.alloc (.cells #[.slice A8 (crashD d a.d).L.length c8, .slice A9 (crashD d a.d).waits.length c9, .int .i64 (crashD d a.d).left, .bool (crashD d a.d).down] 46)) := (Below.refl _ _).alloc (Nat.le_refl _) _
                  have HX6 := Lib.hid ((HX5.out.below hb6 HX5.out.lt).below hb7 (HX5.out.below hb6 HX5.out.lt).lt)
                  have HD6 := Lib.hid ((HD5.out.below hb6).below hb7)
                  have HR6 := Lib.hid (hr6.below hb7)
                  have HB6 := Lib.hid (bthen (bthen HB5.out hb6) hb7)
                  clear g1 g2 hr6 hb6 hb7
                  generalize crashN d a.d = cn at *
                  go_wp2_with (refine wpList_store_row rfl 46 (.tmp 8) (.tmp 81) rfl nW #[.slice A8 (crashD d a.d).L.length c8, .slice A9 (crashD d a.d).waits.length c9, .int .i64 (crashD d a.d).left, .bool (crashD d a.d).down] rfl rfl 46 #[.slice A5 d.L.length c5, .slice A6 d.waits.length c6, .int .i64 d.left, .bool d.down] HX6.out (by rw [Try.size46]; rfl) rfl (by simp [Value.oneCell']) ?_)
                  go_meet
                  exact ⟨crashD d a.d, M5, A8, A9, c8, c9, 0, rfl, rfl, Nat.zero_le _, by have := HMK.out; have := HWK.out; omega, HD6.out.setRow HX6.out, HR6.out.row HX6.out _, HX6.out.row _, HB6.out.trans ((below_box _ _ _).mono HLO.out)⟩
          case rest =>
            obtain ⟨d', M', A8, A9, c8, c9, er, rfl, rfl, hwl', hM', hdk, hrk, hxk, hbk⟩ := hcut
            clear HDQ HRQ HXQ HBQ HRD HA HLT HLQ
            have HDX := Lib.hid hdk
            have HRX := Lib.hid hrk
            have HXX := Lib.hid hxk
            have HBX := Lib.hid hbk
            have HWX := Lib.hid hwl'
            have HMX := Lib.hid hM'
            have HFX := Lib.hid hdk.facts
            obtain ⟨q0, q1, q2, q3⟩ := hxk.four
            clear hdk hrk hxk hbk hwl' hM'
            go_wp2_with fail
            clear q0 q1 q2 q3
            refine (alike_any w1.heap.size wc _ HDX.out HRX.out (by have := HWX.out; omega) (by have := HFX.out.2.1; omega)).mono ?_
            rintro e w5 ⟨rfl, hb5⟩
            have HDY := Lib.hid (HDX.out.below hb5)
            have HRY := Lib.hid (HRX.out.below hb5)
            have HXY := Lib.hid (HXX.out.below hb5 HXX.out.lt)
            have HBY := Lib.hid (bthen HBX.out hb5)
            clear hb5
            go_wp2
            go_roundw
            case rel => exact ⟨k + 1, M', d', A8, A9, c8, c9, by omega, by go_num, HWX.out, HMX.out, HDY.out, HRY.out, HXY.out, HBY.out⟩
            case measure => simp [intOf]; omega
      · have h40' : ¬ (k : Int) < 40 := by omega
        have h40d : decide ((k : Int) < 40) = false := by simpa using h40'
        go_wp2_with fail
        refine (stop_nil 1 _).mono ?_
        rintro e w8 ⟨rfl, rfl⟩
        go_wp2_with fail
        refine (read_nil 0 _).mono ?_
        rintro e w8 ⟨rfl, rfl⟩
        go_wp2_with fail
        refine (write_nil 0 _ _).mono ?_
        rintro e w8 ⟨rfl, rfl⟩
        go_wp2_with fail
        refine (flush_nil _).mono ?_
        rintro e w8 ⟨rfl, rfl⟩
        go_wp2_with fail
        refine (len_nil _).mono ?_
        rintro e w8 ⟨rfl, rfl⟩
        go_wp2_with fail
        refine (waits_nil _).mono ?_
        rintro e w8 ⟨rfl, rfl⟩
        go_wp2_with fail
        refine (crash_nil _ _).mono ?_
        rintro e w9 ⟨rfl, hb9⟩
        have HB9 := Lib.hid (bthen (bthen HB1.out HBK.out) hb9)
        clear hb9
        go_wp2_with fail
        refine (down_nil _).mono ?_
        rintro e w10 ⟨rfl, rfl⟩
        go_wp2
        go_ret
        exact ⟨rfl, HB9.out⟩
    · have hlt' : ¬ (k : Int) < (L.length : Int) := by omega
      have hltd : decide ((k : Int) < (L.length : Int)) = false := by simpa using hlt'
      go_wp2_with fail
      refine (stop_nil 1 _).mono ?_
      rintro e w8 ⟨rfl, rfl⟩
      go_wp2_with fail
      refine (read_nil 0 _).mono ?_
      rintro e w8 ⟨rfl, rfl⟩
      go_wp2_with fail
      refine (write_nil 0 _ _).mono ?_
      rintro e w8 ⟨rfl, rfl⟩
      go_wp2_with fail
      refine (flush_nil _).mono ?_
      rintro e w8 ⟨rfl, rfl⟩
      go_wp2_with fail
      refine (len_nil _).mono ?_
      rintro e w8 ⟨rfl, rfl⟩
      go_wp2_with fail
      refine (waits_nil _).mono ?_
      rintro e w8 ⟨rfl, rfl⟩
      go_wp2_with fail
      refine (crash_nil _ _).mono ?_
      rintro e w9 ⟨rfl, hb9⟩
      have HB9 := Lib.hid (bthen (bthen HB1.out HBK.out) hb9)
      clear hb9
      go_wp2_with fail
      refine (down_nil _).mono ?_
      rintro e w10 ⟨rfl, rfl⟩
      go_wp2
      go_ret
      exact ⟨rfl, HB9.out⟩

theorem law_any (n : Int) (v : Value) (L : List AC) (w : World) (_ : -9223372036854775808 ≤ n) (_ : n ≤ 9223372036854775807) (hr : RdActs w v L) : Calls Try.prog 9 #[.int .i64 n, v] w (Yes w) := by
  rcases Int.lt_or_le 40 n with h | h
  · exact long n v w h
  · rcases Int.lt_or_le n 1 with h1 | h1
    · exact none_any n v L w hr h1
    · obtain ⟨m, rfl⟩ := Int.eq_ofNat_of_zero_le (show 0 ≤ n by omega)
      exact some_any m v L w hr (by omega) (by omega)

end Go.Proofs.Ytcbdlggjpedffaa.diskPlays
