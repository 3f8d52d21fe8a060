/- The walk of the statement DiskStops: for every byte and every list of bytes it is true, and what was there before stands. -/
import Derived.Test.YtcbdlggjpedffaaReg
namespace Go.Proofs.Ytcbdlggjpedffaa.diskStops
open Go.RowKit
set_option linter.unusedSimpArgs false

/-- behind i calls of a disk of three sectors that stops at the call k -/
def okD (d : DK) (k i : Nat) : Prop := d.L.length = 3 ∧ (i ≤ k → d.down = false ∧ d.left = (k : Int) - i) ∧ (k < i → d.down = true)

theorem laidL_len3 (ws : List Wt) (L : List (List UInt8)) (h : L.length = 3) : (laidL ws L).length = 3 := by rw [laidL_len]; exact h

theorem ok_start (k : Nat) : okD (stopD (newD 3) (k : Int)) k 0 := ⟨by simp [stopD, newD], fun _ => ⟨rfl, by simp [stopD]; omega⟩, fun h => by omega⟩

theorem flush_lt {d : DK} {k i : Nat} (h : okD d k i) (hk : i < k) : okD (flushD d) k (i + 1) ∧ flushE d = 0 ∧ (flushD d).waits.length = 0 ∧ (flushD d).down = false := by
  obtain ⟨h1, h2, _⟩ := h
  obtain ⟨h2, h3⟩ := h2 (by omega)
  have hu : upE d 0 = 0 := by unfold upE; rw [h2, if_neg (by simp), if_neg (by omega)]
  have hc : countE d = 0 := by unfold countE; rw [if_neg (by omega)]
  have hd : countD d = { d with left := d.left - 1 } := by unfold countD; rw [if_neg (by omega), if_pos (by omega)]
  have hf : flushD d = { countD d with L := laidL d.waits d.L, waits := [] } := by unfold flushD; rw [if_neg (by simp [hu]), if_neg (by simp [hc])]
  rw [hf, hd]
  refine ⟨⟨laidL_len3 _ _ h1, fun _ => ⟨h2, by simp; omega⟩, fun h => by omega⟩, by unfold flushE; simp [hu, hc], rfl, h2⟩

theorem flush_ge {d : DK} {k i : Nat} (h : okD d k i) (hk : k ≤ i) : okD (flushD d) k (i + 1) ∧ flushE d = 20 ∧ (flushD d).waits.length = d.waits.length ∧ (flushD d).down = true := by
  obtain ⟨h1, h2, h4⟩ := h
  rcases Nat.eq_or_lt_of_le hk with he | hlt
  · subst he
    obtain ⟨h2, h3⟩ := h2 (Nat.le_refl _)
    have hu : upE d 0 = 0 := by unfold upE; rw [h2, if_neg (by simp), if_neg (by omega)]
    have hc : countE d = 20 := by unfold countE; rw [if_pos (by omega)]
    have hd : countD d = { d with down := true } := by unfold countD; rw [if_pos (by omega)]
    have hf : flushD d = countD d := by unfold flushD; rw [if_neg (by simp [hu]), if_pos (by simp [hc])]
    rw [hf, hd]
    exact ⟨⟨h1, fun h => by omega, fun _ => rfl⟩, by unfold flushE; simp [hu, hc], rfl, rfl⟩
  · have h5 := h4 hlt
    have hu : upE d 0 = 20 := by unfold upE; rw [h5, if_pos rfl]
    have hf : flushD d = d := by unfold flushD; rw [if_pos (by simp [hu])]
    rw [hf]
    exact ⟨⟨h1, fun h => by omega, fun _ => h5⟩, by unfold flushE; simp [hu], rfl, h5⟩

theorem write_lt {d : DK} {k i j : Nat} (h : okD d k i) (hk : i < k) (hj : j < 3) : okD (writeD d (j : Int) zeroS) k (i + 1) ∧ writeE d (j : Int) 128 = 0 ∧ (writeD d (j : Int) zeroS).waits.length = d.waits.length + 1 ∧ (writeD d (j : Int) zeroS).down = false := by
  obtain ⟨h1, h2, _⟩ := h
  obtain ⟨h2, h3⟩ := h2 (by omega)
  have hu : upE d j = 0 := by unfold upE; rw [h2, if_neg (by simp), if_neg (by omega)]
  have hc : countE d = 0 := by unfold countE; rw [if_neg (by omega)]
  have hd : countD d = { d with left := d.left - 1 } := by unfold countD; rw [if_neg (by omega), if_pos (by omega)]
  have hf : writeD d (j : Int) zeroS = { countD d with waits := d.waits ++ [((j : Int).toNat, zeroS)] } := by unfold writeD; rw [if_neg (by simp [hu, zeroS_length]), if_neg (by simp [hc])]
  rw [hf, hd]
  exact ⟨⟨h1, fun _ => ⟨h2, by simp; omega⟩, fun h => by omega⟩, by unfold writeE; simp [hu, hc], by simp, h2⟩

theorem write_ge {d : DK} {k i j : Nat} (h : okD d k i) (hk : k ≤ i) (hj : j < 3) : okD (writeD d (j : Int) zeroS) k (i + 1) ∧ writeE d (j : Int) 128 = 20 ∧ (writeD d (j : Int) zeroS).waits.length = d.waits.length ∧ (writeD d (j : Int) zeroS).down = true := by
  obtain ⟨h1, h2, h4⟩ := h
  rcases Nat.eq_or_lt_of_le hk with he | hlt
  · subst he
    obtain ⟨h2, h3⟩ := h2 (Nat.le_refl _)
    have hu : upE d j = 0 := by unfold upE; rw [h2, if_neg (by simp), if_neg (by omega)]
    have hc : countE d = 20 := by unfold countE; rw [if_pos (by omega)]
    have hd : countD d = { d with down := true } := by unfold countD; rw [if_pos (by omega)]
    have hf : writeD d (j : Int) zeroS = countD d := by unfold writeD; rw [if_neg (by simp [hu, zeroS_length]), if_pos (by simp [hc])]
    rw [hf, hd]
    exact ⟨⟨h1, fun h => by omega, fun _ => rfl⟩, by unfold writeE; simp [hu, hc], rfl, rfl⟩
  · have h5 := h4 hlt
    have hu : upE d j = 20 := by unfold upE; rw [h5, if_pos rfl]
    have hf : writeD d (j : Int) zeroS = d := by unfold writeD; rw [if_pos (.inl (by simp [hu]))]
    rw [hf]
    exact ⟨⟨h1, fun h => by omega, fun _ => h5⟩, by unfold writeE; simp [hu], rfl, h5⟩

theorem crash_ok {d : DK} {k i : Nat} (h : okD d k i) : (crashD d []).L.length = 3 ∧ Live (crashD d []) ∧ (crashD d []).waits = [] := ⟨by unfold crashD; exact laidL_len3 _ _ h.1, ⟨rfl, rfl⟩, rfl⟩

theorem long (v : Value) (cs : List UInt8) (n : Nat) (w : World) (hr : Rd w w.heap.size v (bv cs)) (hl : 40 < cs.length) : Calls Try.prog 8 #[.int .u8 n, v] w (Yes w) := by
  obtain ⟨A, c, rfl, _⟩ := hr.form
  rw [bv_length] at *
  clear hr
  have h1 : (40 : Int) < (cs.length : Int) := by omega
  go_enter Try.func8, Try.ntmps8
  go_wp2_with fail
  refine (awake_any w).mono ?_
  rintro e w1 ⟨rfl, hb1⟩
  have HB1 := Lib.hid hb1
  clear hb1
  go_wp2
  go_ret
  exact ⟨rfl, HB1.out⟩

set_option maxRecDepth 100000 in
set_option maxHeartbeats 4000000 in
theorem short (v : Value) (cs : List UInt8) (n : Nat) (w : World) (hr : Rd w w.heap.size v (bv cs)) (hl : cs.length ≤ 40) (hn : n < 256) : Calls Try.prog 8 #[.int .u8 n, v] w (Yes w) := by
  have HR := Lib.hid hr
  obtain ⟨A, c, rfl, _, _, _⟩ := hr.form
  rw [bv_length] at *
  clear hr
  have h1 : ¬ (40 : Int) < (cs.length : Int) := by omega
  obtain ⟨k, hk⟩ : ∃ k : Nat, k = n % 30 := ⟨_, rfl⟩
  have hk1 : ((n : Int) % 30) = (k : Int) := by omega
  have hk2 : k < 30 := by omega
  have HK1 := Lib.hid hk1
  clear hk hk1
  go_enter Try.func8, Try.ntmps8
  go_wp2_with fail
  refine (awake_any w).mono ?_
  rintro e w1 ⟨rfl, hb1⟩
  have HB1 := Lib.hid hb1
  have HR1 := Lib.hid (HR.out.on hb1)
  clear hb1
  go_wp2_with fail
  refine (new_at 3 w1 (by omega) (by omega)).mono ?_
  rintro e w2 ⟨g, rfl, hd2, hb2⟩
  have HD2 := Lib.hid hd2
  have HB2 := Lib.hid hb2
  clear hd2 hb2
  have hk1 := HK1.out
  go_wp2_with fail
  clear hk1
  refine (stop_at HD2.out HB2.out.size (k : Int) (by omega)).mono ?_
  rintro e w3 ⟨rfl, hd3, hb3⟩
  have HD3 := Lib.hid hd3
  have HB3 := Lib.hid (HB2.out.trans hb3)
  clear hd3 hb3
  go_wp2
  go_loopw [9, 10] (fun q t wr => ∃ (i : Nat) (d : DK) (M : Nat), i ≤ cs.length ∧ t = .int .i64 i ∧ q = .int .i64 (d.waits.length : Int) ∧ okD d k i ∧ d.waits.length ≤ i ∧ M ≤ 40 * i ∧ DiskB w1.heap.size wr g d M ∧ Below w1.heap.size w1 wr) (fun _ t _ => cs.length - (intOf t).toNat)
  case atStart => exact ⟨0, _, 0, Nat.zero_le _, rfl, rfl, ok_start k, Nat.le_refl _, Nat.le_refl _, HD3.out, HB3.out⟩
  case round =>
    obtain ⟨i, d, M, hi, rfl, rfl, hok, hwi, hMi, hd, hb⟩ := hrel
    have HDK := Lib.hid hd
    have HBK := Lib.hid hb
    have HOK := Lib.hid hok
    have HWI := Lib.hid (show d.waits.length ≤ 40 by omega)
    clear hd hb hok
    rcases Nat.lt_or_ge i cs.length with hlt | hge
    · have hil : (i : Int) < (cs.length : Int) := by omega
      have hi0 : (0 : Int) ≤ (i : Int) := by omega
      have hx : cs[i]? = some cs[i] := List.getElem?_eq_getElem hlt
      obtain ⟨gb, o, rfl, hgb, hc⟩ := HR1.out.open_ (by intro e; have := bv_length cs; rw [e] at this; simp at this; omega)
      have hcx := (HBK.out.cell (p := ⟨gb, o + i, none⟩) hgb).trans (hc _ _ (bv_get hx))
      have hgw : gb < wr.heap.size := Nat.lt_of_lt_of_le hgb HBK.out.size
      clear hx hc
      generalize cs[i] = x at *
      have hxl : x.toNat < 256 := x.toNat_lt
      have hbt := bits3 x
      by_cases hz : x.toNat % 4 = 0
      · have hbz : bits BinOp.and IntKind.u8 (x.toNat : Int) 3 = 0 := by rw [hbt, hz]; rfl
        clear hbt hz
        rcases Nat.lt_or_ge i k with hik | hik
        · have hik' : (i : Int) < (k : Int) := by omega
          have hikg : decide ((k : Int) ≤ (i : Int)) = false := by simp; omega
          have hsf := flush_lt HOK.out hik
          have HE := Lib.hid (hsf.2.1)
          have HS5 := Lib.hid hsf
          clear hsf
          go_wp2_with fail
          refine (flush_at HDK.out HBK.out.size (by omega)).mono ?_
          rintro e w5 ⟨rfl, ⟨M5, hM5, hd5⟩, hb5⟩
          rw [HE.out]
          clear HE

          have HD5 := Lib.hid hd5
          have HB5 := Lib.hid (HBK.out.trans hb5)
          have hcx5 := (hb5.cell (p := ⟨gb, o + i, none⟩) hgb).trans hcx
          clear hd5 hb5
          go_wp2_with fail
          refine (down_any HD5.out).mono ?_
          rintro e w6 ⟨rfl, rfl⟩
          rw [HS5.out.2.2.2]
          go_wp2_with fail
          refine (waits_any HD5.out).mono ?_
          rintro e w7 ⟨rfl, rfl⟩
          rw [HS5.out.2.2.1]
          clear hcx5
          go_wp2
          go_roundw
          case rel => exact ⟨i + 1, flushD d, M5, by omega, by go_num, by rw [HS5.out.2.2.1] <;> first | rfl | go_num, HS5.out.1, by rw [HS5.out.2.2.1]; omega, by omega, HD5.out, HB5.out⟩
          case measure => simp [intOf]; omega
        · have hik' : decide ((i : Int) < (k : Int)) = false := by simp; omega
          have hikg : (k : Int) ≤ (i : Int) := by omega
          have hsf := flush_ge HOK.out hik
          have HE := Lib.hid (hsf.2.1)
          have HS5 := Lib.hid hsf
          clear hsf
          go_wp2_with fail
          refine (flush_at HDK.out HBK.out.size (by omega)).mono ?_
          rintro e w5 ⟨rfl, ⟨M5, hM5, hd5⟩, hb5⟩
          rw [HE.out]
          clear HE

          have HD5 := Lib.hid hd5
          have HB5 := Lib.hid (HBK.out.trans hb5)
          have hcx5 := (hb5.cell (p := ⟨gb, o + i, none⟩) hgb).trans hcx
          clear hd5 hb5
          go_wp2_with fail
          refine (down_any HD5.out).mono ?_
          rintro e w6 ⟨rfl, rfl⟩
          rw [HS5.out.2.2.2]
          go_wp2_with fail
          refine (waits_any HD5.out).mono ?_
          rintro e w7 ⟨rfl, rfl⟩
          rw [HS5.out.2.2.1]
          clear hcx5
          go_wp2
          go_roundw
          case rel => exact ⟨i + 1, flushD d, M5, by omega, by go_num, by rw [HS5.out.2.2.1] <;> first | rfl | go_num, HS5.out.1, by rw [HS5.out.2.2.1]; omega, by omega, HD5.out, HB5.out⟩
          case measure => simp [intOf]; omega
      · have hbz : (bits BinOp.and IntKind.u8 (x.toNat : Int) 3 == 0) = false := by rw [hbt]; simp; omega
        clear hbt hz
        obtain ⟨j, hj⟩ : ∃ j : Nat, j = x.toNat % 3 := ⟨_, rfl⟩
        have hm3 : (x.toNat : Int).tmod 3 = (j : Int) := by rw [hj]; rfl
        have hjl : j < 3 := by omega
        have hjw : IntKind.i64.wrap (j : Int) = (j : Int) := by rw [IntKind.wrap]; simp [IntKind.bits, IntKind.signed]; omega
        clear hj
        rcases Nat.lt_or_ge i k with hik | hik
        · have hik' : (i : Int) < (k : Int) := by omega
          have hikg : decide ((k : Int) ≤ (i : Int)) = false := by simp; omega
          have hsf := write_lt HOK.out hik hjl
          have HE := Lib.hid (show writeE d (j : Int) zeroS.length = 0 by rw [zeroS_length]; exact hsf.2.1)
          have HS5 := Lib.hid hsf
          clear hsf
          go_wp2
          refine region_turns (by kernel_rfl) [44, 45, 46, 47, 48, 49, 50, 51, 52, 11] rfl (by simp) (by kernel_rfl) (Staged 7 8 (fun w' => Below wr.heap.size wr w') (fun w' => Below wr.heap.size wr w') (fun w' => DiskB w1.heap.size w' g (writeD d (j : Int) zeroS) M ∧ Below w1.heap.size wr w')) (Moved (fun i k => i = 8 ∧ k < wr.heap.size)) (Says (fun q_ => match q_ with | 44 => some (.pointer (some ⟨g, 0, none⟩)) | 45 => some (.slice (some ⟨gb, o, none⟩) cs.length c) | 46 => some (.int .i64 (i : Int)) | 47 => some (.pointer (some ⟨gb, o + i, none⟩)) | 48 => some (.int .u8 (x.toNat : Int)) | 49 => some (.int .u8 (j : Int)) | 50 => some (.int .i64 (j : Int)) | 52 => some (.int .i64 0) | 11 => some (.int .i64 0) | _ => none) (fun q_ v w => (q_ = 51 → FullV wr.heap.size zeroS v w) ∧ True)) ?_ ?_ (turns_of_all rfl ?_) ?_
          · intro l hl
            refine Staged.start ?_ (hl _) (hl _)
            exact below_of_drewN wr 1 _
          · rintro i tt v w w' hnw hM ⟨h1, h2⟩
            obtain ⟨s51, _⟩ := h2
            exact ⟨h1, fun e => (s51 e).stays hM.1 fun k hk hk0 => hM.2 k hk (fun e => by omega), trivial⟩
          · refine ⟨?_, ?_, ?_, ?_, ?_, ?_, ?_, ?_, ?_, ?_, trivial⟩
            · intro l a w K hbf haf hun hS hF hK
              have g6 : a.tmps[6]? = some (.pointer (some ⟨g, 0, none⟩)) := unfed hF 6 (by kernel_rfl) (by kernel_rfl) rfl
              exact op_value rfl (wanted_none rfl) (run_move' (v := .pointer (some ⟨g, 0, none⟩)) rfl (eval_of g6) w) (hK _ w (Moved.refl _ _ w) (hS.same (by decide) (by decide)) (says_exact 44 rfl (by simp)))
            · intro l a w K hbf haf hun hS hF hK
              have g1 : a.tmps[1]? = some (.slice (some ⟨gb, o, none⟩) cs.length c) := unfed hF 1 (by kernel_rfl) (by kernel_rfl) rfl
              exact op_value rfl (wanted_none rfl) (run_move' (v := .slice (some ⟨gb, o, none⟩) cs.length c) rfl (eval_of g1) w) (hK _ w (Moved.refl _ _ w) (hS.same (by decide) (by decide)) (says_exact 45 rfl (by simp)))
            · intro l a w K hbf haf hun hS hF hK
              have g10 : a.tmps[10]? = some (.int .i64 (i : Int)) := unfed hF 10 (by kernel_rfl) (by kernel_rfl) rfl
              exact op_value rfl (wanted_none rfl) (run_move' (v := .int .i64 (i : Int)) rfl (eval_of g10) w) (hK _ w (Moved.refl _ _ w) (hS.same (by decide) (by decide)) (says_exact 46 rfl (by simp)))
            · intro l a w K hbf haf hun hS hF hK
              have g45 := fedX hF 45 (.slice (some ⟨gb, o, none⟩) cs.length c) (by kernel_rfl) (by kernel_rfl) rfl
              have g46 := fedX hF 46 (.int .i64 (i : Int)) (by kernel_rfl) (by kernel_rfl) rfl
              exact op_value (v := .pointer (some ⟨gb, o + i, none⟩)) rfl (wanted_none rfl) (by simp [go_sem, g45, g46, hil, hi0]) (hK _ w (Moved.refl _ _ w) (hS.same (by decide) (by decide)) (says_exact 47 rfl (by simp)))
            · intro l a w K hbf haf hun hS hF hK
              have g47 := fedX hF 47 (.pointer (some ⟨gb, o + i, none⟩)) (by kernel_rfl) (by kernel_rfl) rfl
              have hA := hS.either (hbf 8 (by kernel_rfl))
              have hc := (hA.cell (p := ⟨gb, o + i, none⟩) hgw).trans hcx
              exact op_value (v := .int .u8 (x.toNat : Int)) rfl (wanted_none rfl) (by simp [go_sem, g47, hc]) (hK _ w (Moved.refl _ _ w) (hS.same (by decide) (by decide)) (says_exact 48 rfl (by simp)))
            · intro l a w K hbf haf hun hS hF hK
              have g48 := fedX hF 48 (.int .u8 (x.toNat : Int)) (by kernel_rfl) (by kernel_rfl) rfl
              exact op_value (v := .int .u8 (j : Int)) rfl (wanted_none rfl) (by simp [go_sem, g48, hm3]) (hK _ w (Moved.refl _ _ w) (hS.same (by decide) (by decide)) (says_exact 49 rfl (by simp)))
            · intro l a w K hbf haf hun hS hF hK
              have g49 := fedX hF 49 (.int .u8 (j : Int)) (by kernel_rfl) (by kernel_rfl) rfl
              exact op_value (v := .int .i64 (j : Int)) rfl (wanted_none rfl) (by simp [go_sem, g49, hjw]) (hK _ w (Moved.refl _ _ w) (hS.same (by decide) (by decide)) (says_exact 50 rfl (by simp)))
            · intro l a w K hbf haf hun hS hF hK
              have hA := hS.either (hbf 8 (by kernel_rfl))
              refine op_call (g := 13) (args := #[.slice none 0 0, .bool false]) rfl (wanted_none rfl) (by simp [go_sem]) ?_
              refine (full_any _ [] false _ _ (Rd.nil w w.heap.size) (Nat.le_refl _)).mono ?_
              rintro e w9 ⟨v9, rfl, hr9, hv9, hb9⟩
              exact ⟨_, rfl, hK _ w9 ⟨hb9.size, fun k hk _ => hb9.block k hk⟩ (Staged.toMid (bthen hA hb9) (hbf 8 (by kernel_rfl)) (by decide)) (says_special 51 rfl (by simp; exact ⟨hr9, fun b hb => Nat.le_trans hA.size (hv9 b hb)⟩))⟩
            · intro l a w K hbf haf hun hS hF hK
              have g44 := fedX hF 44 (.pointer (some ⟨g, 0, none⟩)) (by kernel_rfl) (by kernel_rfl) rfl
              have g50 := fedX hF 50 (.int .i64 (j : Int)) (by kernel_rfl) (by kernel_rfl) rfl
              obtain ⟨v51, g51, s510⟩ := fed hF 51 (by kernel_rfl) (by kernel_rfl)
              have s51 : FullV wr.heap.size zeroS v51 w := s510.2.1 rfl
              have hB := hS.mid (haf 7 (by kernel_rfl)) hun
              refine op_call (g := 12) (args := #[.pointer (some ⟨g, 0, none⟩), .int .i64 (j : Int), v51]) rfl (wanted_none rfl) (by simp [go_sem, g44, g50, g51]) ?_
              refine (write_reg HDK.out HBK.out.size hB (j : Int) v51 zeroS s51 (by have := HWI.out; omega)).mono ?_
              rintro e w9 ⟨rfl, hd9, hb9, hz9, hk9⟩
              rw [HE.out]
              exact ⟨_, rfl, hK _ w9 ⟨hz9, fun k hk hn => hk9 k hk (by omega)⟩ (Staged.toLast ⟨hd9, hb9⟩) (says_exact 52 rfl (by simp))⟩
            · intro l a w K hbf haf hun hS hF hK
              have g52 := fedX hF 52 (.int .i64 0) (by kernel_rfl) (by kernel_rfl) rfl
              exact op_value rfl (wanted_none rfl) (run_assign' (v := .int .i64 0) rfl (eval_of g52) w) (hK _ w (Moved.refl _ _ w) (hS.same (by decide) (by decide)) (says_exact 11 rfl (by simp)))
          · intro l fv_ w hl hS hf
            have hC := hS.last (hl 8 (by simp))
            have f44 : fv_ 44 = .pointer (some ⟨g, 0, none⟩) := (hf 44 (by simp)).1 _ rfl
            have f45 : fv_ 45 = .slice (some ⟨gb, o, none⟩) cs.length c := (hf 45 (by simp)).1 _ rfl
            have f46 : fv_ 46 = .int .i64 (i : Int) := (hf 46 (by simp)).1 _ rfl
            have f47 : fv_ 47 = .pointer (some ⟨gb, o + i, none⟩) := (hf 47 (by simp)).1 _ rfl
            have f48 : fv_ 48 = .int .u8 (x.toNat : Int) := (hf 48 (by simp)).1 _ rfl
            have f49 : fv_ 49 = .int .u8 (j : Int) := (hf 49 (by simp)).1 _ rfl
            have f50 : fv_ 50 = .int .i64 (j : Int) := (hf 50 (by simp)).1 _ rfl
            have f51 : FullV wr.heap.size zeroS (fv_ 51) w := (hf 51 (by simp)).2.1 rfl
            have f52 : fv_ 52 = .int .i64 0 := (hf 52 (by simp)).1 _ rfl
            have f11 : fv_ 11 = .int .i64 0 := (hf 11 (by simp)).1 _ rfl
            simp only [putAll, List.foldl_cons, List.foldl_nil, List.setIfInBounds_toArray, List.set_cons_succ, List.set_cons_zero, f44, f45, f46, f47, f48, f49, f50, f52, f11]
            clear f44 f45 f46 f47 f48 f49 f50 f52 f11 hf
            clear f51
            obtain ⟨hd5, hb5⟩ := hC
            obtain ⟨w5, rfl⟩ : ∃ w5, w5 = w := ⟨_, rfl⟩
            
            have HD5 := Lib.hid hd5
            have HB5 := Lib.hid (HBK.out.trans hb5)
            have hcx5 := (hb5.cell (p := ⟨gb, o + i, none⟩) hgb).trans hcx
            clear hd5 hb5
            go_wp2_with fail
            refine (down_any HD5.out).mono ?_
            rintro e w6 ⟨rfl, rfl⟩
            rw [HS5.out.2.2.2]
            go_wp2_with fail
            refine (waits_any HD5.out).mono ?_
            rintro e w7 ⟨rfl, rfl⟩
            rw [HS5.out.2.2.1]
            clear hcx5
            go_wp2
            go_roundw
            case rel => exact ⟨i + 1, writeD d (j : Int) zeroS, M, by omega, by go_num, by rw [HS5.out.2.2.1] <;> first | rfl | go_num, HS5.out.1, by rw [HS5.out.2.2.1]; omega, by omega, HD5.out, HB5.out⟩
            case measure => simp [intOf]; omega
        · have hik' : decide ((i : Int) < (k : Int)) = false := by simp; omega
          have hikg : (k : Int) ≤ (i : Int) := by omega
          have hsf := write_ge HOK.out hik hjl
          have HE := Lib.hid (show writeE d (j : Int) zeroS.length = 20 by rw [zeroS_length]; exact hsf.2.1)
          have HS5 := Lib.hid hsf
          clear hsf
          go_wp2
          refine region_turns (by kernel_rfl) [44, 45, 46, 47, 48, 49, 50, 51, 52, 11] rfl (by simp) (by kernel_rfl) (Staged 7 8 (fun w' => Below wr.heap.size wr w') (fun w' => Below wr.heap.size wr w') (fun w' => DiskB w1.heap.size w' g (writeD d (j : Int) zeroS) M ∧ Below w1.heap.size wr w')) (Moved (fun i k => i = 8 ∧ k < wr.heap.size)) (Says (fun q_ => match q_ with | 44 => some (.pointer (some ⟨g, 0, none⟩)) | 45 => some (.slice (some ⟨gb, o, none⟩) cs.length c) | 46 => some (.int .i64 (i : Int)) | 47 => some (.pointer (some ⟨gb, o + i, none⟩)) | 48 => some (.int .u8 (x.toNat : Int)) | 49 => some (.int .u8 (j : Int)) | 50 => some (.int .i64 (j : Int)) | 52 => some (.int .i64 20) | 11 => some (.int .i64 20) | _ => none) (fun q_ v w => (q_ = 51 → FullV wr.heap.size zeroS v w) ∧ True)) ?_ ?_ (turns_of_all rfl ?_) ?_
          · intro l hl
            refine Staged.start ?_ (hl _) (hl _)
            exact below_of_drewN wr 1 _
          · rintro i tt v w w' hnw hM ⟨h1, h2⟩
            obtain ⟨s51, _⟩ := h2
            exact ⟨h1, fun e => (s51 e).stays hM.1 fun k hk hk0 => hM.2 k hk (fun e => by omega), trivial⟩
          · refine ⟨?_, ?_, ?_, ?_, ?_, ?_, ?_, ?_, ?_, ?_, trivial⟩
            · intro l a w K hbf haf hun hS hF hK
              have g6 : a.tmps[6]? = some (.pointer (some ⟨g, 0, none⟩)) := unfed hF 6 (by kernel_rfl) (by kernel_rfl) rfl
              exact op_value rfl (wanted_none rfl) (run_move' (v := .pointer (some ⟨g, 0, none⟩)) rfl (eval_of g6) w) (hK _ w (Moved.refl _ _ w) (hS.same (by decide) (by decide)) (says_exact 44 rfl (by simp)))
            · intro l a w K hbf haf hun hS hF hK
              have g1 : a.tmps[1]? = some (.slice (some ⟨gb, o, none⟩) cs.length c) := unfed hF 1 (by kernel_rfl) (by kernel_rfl) rfl
              exact op_value rfl (wanted_none rfl) (run_move' (v := .slice (some ⟨gb, o, none⟩) cs.length c) rfl (eval_of g1) w) (hK _ w (Moved.refl _ _ w) (hS.same (by decide) (by decide)) (says_exact 45 rfl (by simp)))
            · intro l a w K hbf haf hun hS hF hK
              have g10 : a.tmps[10]? = some (.int .i64 (i : Int)) := unfed hF 10 (by kernel_rfl) (by kernel_rfl) rfl
              exact op_value rfl (wanted_none rfl) (run_move' (v := .int .i64 (i : Int)) rfl (eval_of g10) w) (hK _ w (Moved.refl _ _ w) (hS.same (by decide) (by decide)) (says_exact 46 rfl (by simp)))
            · intro l a w K hbf haf hun hS hF hK
              have g45 := fedX hF 45 (.slice (some ⟨gb, o, none⟩) cs.length c) (by kernel_rfl) (by kernel_rfl) rfl
              have g46 := fedX hF 46 (.int .i64 (i : Int)) (by kernel_rfl) (by kernel_rfl) rfl
              exact op_value (v := .pointer (some ⟨gb, o + i, none⟩)) rfl (wanted_none rfl) (by simp [go_sem, g45, g46, hil, hi0]) (hK _ w (Moved.refl _ _ w) (hS.same (by decide) (by decide)) (says_exact 47 rfl (by simp)))
            · intro l a w K hbf haf hun hS hF hK
              have g47 := fedX hF 47 (.pointer (some ⟨gb, o + i, none⟩)) (by kernel_rfl) (by kernel_rfl) rfl
              have hA := hS.either (hbf 8 (by kernel_rfl))
              have hc := (hA.cell (p := ⟨gb, o + i, none⟩) hgw).trans hcx
              exact op_value (v := .int .u8 (x.toNat : Int)) rfl (wanted_none rfl) (by simp [go_sem, g47, hc]) (hK _ w (Moved.refl _ _ w) (hS.same (by decide) (by decide)) (says_exact 48 rfl (by simp)))
            · intro l a w K hbf haf hun hS hF hK
              have g48 := fedX hF 48 (.int .u8 (x.toNat : Int)) (by kernel_rfl) (by kernel_rfl) rfl
              exact op_value (v := .int .u8 (j : Int)) rfl (wanted_none rfl) (by simp [go_sem, g48, hm3]) (hK _ w (Moved.refl _ _ w) (hS.same (by decide) (by decide)) (says_exact 49 rfl (by simp)))
            · intro l a w K hbf haf hun hS hF hK
              have g49 := fedX hF 49 (.int .u8 (j : Int)) (by kernel_rfl) (by kernel_rfl) rfl
              exact op_value (v := .int .i64 (j : Int)) rfl (wanted_none rfl) (by simp [go_sem, g49, hjw]) (hK _ w (Moved.refl _ _ w) (hS.same (by decide) (by decide)) (says_exact 50 rfl (by simp)))
            · intro l a w K hbf haf hun hS hF hK
              have hA := hS.either (hbf 8 (by kernel_rfl))
              refine op_call (g := 13) (args := #[.slice none 0 0, .bool false]) rfl (wanted_none rfl) (by simp [go_sem]) ?_
              refine (full_any _ [] false _ _ (Rd.nil w w.heap.size) (Nat.le_refl _)).mono ?_
              rintro e w9 ⟨v9, rfl, hr9, hv9, hb9⟩
              exact ⟨_, rfl, hK _ w9 ⟨hb9.size, fun k hk _ => hb9.block k hk⟩ (Staged.toMid (bthen hA hb9) (hbf 8 (by kernel_rfl)) (by decide)) (says_special 51 rfl (by simp; exact ⟨hr9, fun b hb => Nat.le_trans hA.size (hv9 b hb)⟩))⟩
            · intro l a w K hbf haf hun hS hF hK
              have g44 := fedX hF 44 (.pointer (some ⟨g, 0, none⟩)) (by kernel_rfl) (by kernel_rfl) rfl
              have g50 := fedX hF 50 (.int .i64 (j : Int)) (by kernel_rfl) (by kernel_rfl) rfl
              obtain ⟨v51, g51, s510⟩ := fed hF 51 (by kernel_rfl) (by kernel_rfl)
              have s51 : FullV wr.heap.size zeroS v51 w := s510.2.1 rfl
              have hB := hS.mid (haf 7 (by kernel_rfl)) hun
              refine op_call (g := 12) (args := #[.pointer (some ⟨g, 0, none⟩), .int .i64 (j : Int), v51]) rfl (wanted_none rfl) (by simp [go_sem, g44, g50, g51]) ?_
              refine (write_reg HDK.out HBK.out.size hB (j : Int) v51 zeroS s51 (by have := HWI.out; omega)).mono ?_
              rintro e w9 ⟨rfl, hd9, hb9, hz9, hk9⟩
              rw [HE.out]
              exact ⟨_, rfl, hK _ w9 ⟨hz9, fun k hk hn => hk9 k hk (by omega)⟩ (Staged.toLast ⟨hd9, hb9⟩) (says_exact 52 rfl (by simp))⟩
            · intro l a w K hbf haf hun hS hF hK
              have g52 := fedX hF 52 (.int .i64 20) (by kernel_rfl) (by kernel_rfl) rfl
              exact op_value rfl (wanted_none rfl) (run_assign' (v := .int .i64 20) rfl (eval_of g52) w) (hK _ w (Moved.refl _ _ w) (hS.same (by decide) (by decide)) (says_exact 11 rfl (by simp)))
          · intro l fv_ w hl hS hf
            have hC := hS.last (hl 8 (by simp))
            have f44 : fv_ 44 = .pointer (some ⟨g, 0, none⟩) := (hf 44 (by simp)).1 _ rfl
            have f45 : fv_ 45 = .slice (some ⟨gb, o, none⟩) cs.length c := (hf 45 (by simp)).1 _ rfl
            have f46 : fv_ 46 = .int .i64 (i : Int) := (hf 46 (by simp)).1 _ rfl
            have f47 : fv_ 47 = .pointer (some ⟨gb, o + i, none⟩) := (hf 47 (by simp)).1 _ rfl
            have f48 : fv_ 48 = .int .u8 (x.toNat : Int) := (hf 48 (by simp)).1 _ rfl
            have f49 : fv_ 49 = .int .u8 (j : Int) := (hf 49 (by simp)).1 _ rfl
            have f50 : fv_ 50 = .int .i64 (j : Int) := (hf 50 (by simp)).1 _ rfl
            have f51 : FullV wr.heap.size zeroS (fv_ 51) w := (hf 51 (by simp)).2.1 rfl
            have f52 : fv_ 52 = .int .i64 20 := (hf 52 (by simp)).1 _ rfl
            have f11 : fv_ 11 = .int .i64 20 := (hf 11 (by simp)).1 _ rfl
            simp only [putAll, List.foldl_cons, List.foldl_nil, List.setIfInBounds_toArray, List.set_cons_succ, List.set_cons_zero, f44, f45, f46, f47, f48, f49, f50, f52, f11]
            clear f44 f45 f46 f47 f48 f49 f50 f52 f11 hf
            clear f51
            obtain ⟨hd5, hb5⟩ := hC
            obtain ⟨w5, rfl⟩ : ∃ w5, w5 = w := ⟨_, rfl⟩
            
            have HD5 := Lib.hid hd5
            have HB5 := Lib.hid (HBK.out.trans hb5)
            have hcx5 := (hb5.cell (p := ⟨gb, o + i, none⟩) hgb).trans hcx
            clear hd5 hb5
            go_wp2_with fail
            refine (down_any HD5.out).mono ?_
            rintro e w6 ⟨rfl, rfl⟩
            rw [HS5.out.2.2.2]
            go_wp2_with fail
            refine (waits_any HD5.out).mono ?_
            rintro e w7 ⟨rfl, rfl⟩
            rw [HS5.out.2.2.1]
            clear hcx5
            go_wp2
            go_roundw
            case rel => exact ⟨i + 1, writeD d (j : Int) zeroS, M, by omega, by go_num, by rw [HS5.out.2.2.1] <;> first | rfl | go_num, HS5.out.1, by rw [HS5.out.2.2.1]; omega, by omega, HD5.out, HB5.out⟩
            case measure => simp [intOf]; omega
    · obtain rfl : i = cs.length := by omega
      go_wp2_with fail
      refine (crash_at HDK.out HBK.out.size _ [] (Rd.nil _ _) (by simp) (by have := HWI.out; omega)).mono ?_
      rintro e w3 ⟨rfl, ⟨M3, hM3, hd3⟩, hb3⟩
      have HC := Lib.hid (crash_ok HOK.out)
      have HD3 := Lib.hid hd3
      have HB3 := Lib.hid (HBK.out.trans hb3)
      clear hd3 hb3
      go_wp2_with fail
      refine (down_any HD3.out).mono ?_
      rintro e w6 ⟨rfl, rfl⟩
      rw [HC.out.2.1.2]
      go_wp2_with fail
      refine (flush_at HD3.out HB3.out.size (by rw [HC.out.2.2]; have := HWI.out; simp; omega)).mono ?_
      rintro e w7 ⟨rfl, ⟨M7, _, hd7⟩, hb7⟩
      rw [live_flushE HC.out.2.1 (by rw [HC.out.1]; omega)]
      rw [live_flushD HC.out.2.1 (by rw [HC.out.1]; omega)] at hd7
      have HD7 := Lib.hid hd7
      have HB7 := Lib.hid (HB3.out.trans hb7)
      clear hd7 hb7
      go_wp2_with fail
      refine (waits_any HD7.out).mono ?_
      rintro e w8 ⟨rfl, rfl⟩
      go_wp2
      go_ret
      exact ⟨rfl, bthen HB1.out HB7.out⟩

theorem law_any (n : Int) (v : Value) (cs : List UInt8) (w : World) (n0 : 0 ≤ n) (n1 : n ≤ 255) (hr : Rd w w.heap.size v (bv cs)) : Calls Try.prog 8 #[.int .u8 n, v] w (Yes w) := by
  obtain ⟨N, rfl⟩ := Int.eq_ofNat_of_zero_le n0
  rcases Nat.lt_or_ge 40 cs.length with h | h
  · exact long v cs N w hr h
  · exact short v cs N w hr h (by omega)

end Go.Proofs.Ytcbdlggjpedffaa.diskStops
