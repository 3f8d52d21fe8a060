/- The walk of the statement BitsWith: for every list of bytes, every place and both answers it is true, and what was there before stands. -/
import Derived.Test.YtfijihjbjifhdaaAwake
import Derived.Test.YtfijihjbjifhdaaLaws
import Derived.Test.YtfijihjbjifhdaaConv
import Derived.Test.YtfijihjbjifhdaaAny
namespace Go.Proofs.Ytfijihjbjifhdaa.bitsWith
open Go.RowKit
set_option linter.unusedSimpArgs false

theorem hasB_nat (l : List UInt8) (k : Nat) : hasB l (k : Int) = bitB l k := by simp [hasB]

theorem again (l : List UInt8) (i : Nat) (t : Bool) : withB (withB l (i : Int) t) (i : Int) t = withB l (i : Int) t :=
  canon_ext _ _ (fun k => by rw [bitB_with]; by_cases h : k = i <;> simp [h, bitB_with]) (with_canon _ _ _) (with_canon _ _ _)

theorem long (v : Value) (l : List UInt8) (i : Int) (t : Bool) (w : World) (hr : Rd w w.heap.size v (bv l)) (hl : 40 < l.length) :
    Calls Try.prog 5 #[v, .int .u8 i, .bool t] w (Yes w) := by
  obtain ⟨A, c, rfl, _⟩ := hr.form
  rw [bv_length] at *
  clear hr
  have h1 : (40 : Int) < (l.length : Int) := by omega
  go_enter Try.func5, Try.ntmps5
  go_wp2_with fail
  refine (awake_any w).mono ?_
  rintro e w1 ⟨rfl, hb1⟩
  have HB1 := Lib.hid hb1
  clear hb1
  go_wp2
  go_ret
  exact ⟨rfl, HB1.out⟩

set_option maxRecDepth 100000 in
set_option maxHeartbeats 1000000 in
theorem short (v : Value) (l : List UInt8) (i : Nat) (t : Bool) (w : World) (hr : Rd w w.heap.size v (bv l)) (hl : l.length ≤ 40) (hi : i ≤ 255) :
    Calls Try.prog 5 #[v, .int .u8 i, .bool t] w (Yes w) := by
  have HR := Lib.hid hr
  obtain ⟨A, c, rfl, _, _, _⟩ := hr.form
  rw [bv_length] at *
  clear hr
  have h1 : ¬ (40 : Int) < (l.length : Int) := by omega
  have hd1 : decide ((40 : Int) < (l.length : Int)) = false := by simpa using h1
  go_enter Try.func5, Try.ntmps5
  go_wp2_with fail
  refine (awake_any w).mono ?_
  rintro e w1 ⟨rfl, hb1⟩
  have HB1 := Lib.hid hb1
  have HR1 := Lib.hid (HR.out.on hb1)
  clear hb1
  go_wp2_with fail
  refine (with_any _ l (i : Int) t _ HR1.out (by omega) (by omega) (by omega)).mono ?_
  rintro e w2 ⟨v2, rfl, hr2, hb2⟩
  have HB2 := Lib.hid hb2
  have HR2 := Lib.hid hr2
  have HRL := Lib.hid (HR1.out.on hb2)
  have HBW := Lib.hid (fun k => bitB_with l i t k)
  have HC := Lib.hid (with_canon l (i : Int) t)
  have HA := Lib.hid (again l i t)
  have hlen : (withB l (i : Int) t).length ≤ 40 := by have := with_length l (i : Int) t; omega
  obtain ⟨A2, c2, rfl, _, _, _⟩ := hr2.form
  clear hr2 hb2
  generalize withB l (i : Int) t = L at *
  rw [bv_length] at *
  go_wp2
  go_loopw [9] (fun k wr => ∃ j m : Nat, j ≤ 400 ∧ k = .int .i64 j ∧ wr = w2.drewN m) (fun k _ => 400 - (intOf k).toNat)
  case atStart => exact ⟨0, 0, Nat.zero_le _, rfl, rfl⟩
  case round =>
    obtain ⟨j, m, hj, rfl, rfl⟩ := hrel
    rcases Nat.lt_or_ge j 400 with hlt | hge
    · have hlt' : (j : Int) < 400 := by omega
      go_wp2_with fail
      refine (has_any _ l (j : Int) w2.heap.size _ (HRL.out.drewN m) (by omega)).mono ?_
      rintro e w3 ⟨rfl, k3, rfl⟩
      rw [hasB_nat]
      have hbw := HBW.out j
      by_cases hji : j = i
      · have hji' : ((j : Int) == (i : Int)) = true := by simp; omega
        rw [if_pos hji] at hbw
        have HBWJ := Lib.hid hbw
        clear hbw hji
        go_wp2_with fail
        refine (has_any _ L (j : Int) w2.heap.size _ (HR2.out.drewN _) (by omega)).mono ?_
        rintro e w4 ⟨rfl, k4, rfl⟩
        rw [hasB_nat, HBWJ.out]
        go_wp2
        go_roundw
        case rel => exact ⟨j + 1, _, by omega, by go_num, rfl⟩
        case measure => simp [intOf]; omega
      · have hji' : ((j : Int) == (i : Int)) = false := by simp; omega
        rw [if_neg hji] at hbw
        have HBWJ := Lib.hid hbw
        clear hbw hji
        go_wp2_with fail
        refine (has_any _ L (j : Int) w2.heap.size _ (HR2.out.drewN _) (by omega)).mono ?_
        rintro e w4 ⟨rfl, k4, rfl⟩
        rw [hasB_nat, HBWJ.out]
        go_wp2
        go_roundw
        case rel => exact ⟨j + 1, _, by omega, by go_num, rfl⟩
        case measure => simp [intOf]; omega
    · obtain rfl : 400 = j := by omega
      clear HBW
      go_wp2
      have HRD := Lib.hid (show Rd (w2.drewN m).drew (w2.drewN m).drew.heap.size (.slice A2 L.length c2) (bv L) from HR2.out)
      have q0 := conv_rd HRD.out
      have hwi : IntKind.i64.wrap (i : Int) = (i : Int) := IntWalk.i64_in _ (by omega)
      by_cases hL : L = []
      · subst hL
        simp only [List.length_nil] at *
        refine region_any (by kernel_rfl) [39, 40, 41, 42, 43, 44, 45, 46, 47, 48, 49, 50, 51, 52, 53, 54, 55, 56, 57, 58, 59, 60, 61, 6] rfl (by simp) (by kernel_rfl) (fun x y => Below x.heap.size x y) (Says (fun q_ => match q_ with | 39 => some (.slice A2 0 c2) | 40 => some (.int .i64 0) | 41 => some (.bool true) | 42 => some (.bool true) | 43 => some (undef) | 44 => some (undef) | 45 => some (undef) | 46 => some (undef) | 47 => some (undef) | 48 => some (undef) | 49 => some (undef) | 50 => some (.bool true) | 51 => some (.bool true) | 52 => some (.slice A2 0 c2) | 53 => some (.int .u8 i) | 54 => some (.int .i64 i) | 55 => some (.bool t) | 57 => some (.string ⟨([] : List UInt8).toArray⟩) | 58 => some (.slice A2 0 c2) | 59 => some (.string ⟨([] : List UInt8).toArray⟩) | 60 => some (.bool true) | 61 => some (.bool true) | 6 => some (.bool true) | _ => none) (fun q_ v w => (q_ = 56 → Rd w w.heap.size v (bv [])) ∧ True)) (fun x => Below.refl _ x) ?_ (fun _ _ _ h k => bthen h k) (hops_of_all rfl ?_) ?_
        · rintro q_ v w w' hR ⟨h1, h2⟩
          obtain ⟨s56, _⟩ := h2
          exact ⟨h1, fun e => (s56 e).on hR, trivial⟩
        · refine ⟨?_, ?_, ?_, ?_, ?_, ?_, ?_, ?_, ?_, ?_, ?_, ?_, ?_, ?_, ?_, ?_, ?_, ?_, ?_, ?_, ?_, ?_, ?_, ?_, trivial⟩
          · intro a w K hR hs hK
            have g8 : a.tmps[8]? = some (.slice A2 0 c2) := unfed hs 8 (by kernel_rfl) (by kernel_rfl) rfl
            exact op_value rfl (wanted_none rfl) (run_move' (v := .slice A2 0 c2) rfl (eval_of g8) w) (hK _ w (Below.refl _ w) (says_exact 39 rfl (by simp)))
          · intro a w K hR hs hK
            have g39 := fedX hs 39 (.slice A2 0 c2) (by kernel_rfl) (by kernel_rfl) rfl
            exact op_value (v := .int .i64 0) rfl (wanted_none rfl) (by simp [go_sem, g39, hwi]) (hK _ w (Below.refl _ w) (says_exact 40 rfl (by simp)))
          · intro a w K hR hs hK
            have g40 := fedX hs 40 (.int .i64 0) (by kernel_rfl) (by kernel_rfl) rfl
            exact op_value (v := .bool true) rfl (wanted_none rfl) (by simp [go_sem, g40, hwi]) (hK _ w (Below.refl _ w) (says_exact 41 rfl (by simp)))
          · intro a w K hR hs hK
            have g41 := fedX hs 41 (.bool true) (by kernel_rfl) (by kernel_rfl) rfl
            exact op_value rfl (wanted_none rfl) (run_move' (v := .bool true) rfl (eval_of g41) w) (hK _ w (Below.refl _ w) (says_exact 42 rfl (by simp)))
          · intro a w K hR hs hK
            have g42 := fedX hs 42 (.bool true) (by kernel_rfl) (by kernel_rfl) rfl
            exact op_skip rfl (wanted_no rfl rfl rfl g42) (hK undef w (Below.refl _ w) (says_exact 43 rfl (by simp)))
          · intro a w K hR hs hK
            have g42 := fedX hs 42 (.bool true) (by kernel_rfl) (by kernel_rfl) rfl
            exact op_skip rfl (wanted_no rfl rfl rfl g42) (hK undef w (Below.refl _ w) (says_exact 44 rfl (by simp)))
          · intro a w K hR hs hK
            have g42 := fedX hs 42 (.bool true) (by kernel_rfl) (by kernel_rfl) rfl
            exact op_skip rfl (wanted_no rfl rfl rfl g42) (hK undef w (Below.refl _ w) (says_exact 45 rfl (by simp)))
          · intro a w K hR hs hK
            have g42 := fedX hs 42 (.bool true) (by kernel_rfl) (by kernel_rfl) rfl
            exact op_skip rfl (wanted_no rfl rfl rfl g42) (hK undef w (Below.refl _ w) (says_exact 46 rfl (by simp)))
          · intro a w K hR hs hK
            have g42 := fedX hs 42 (.bool true) (by kernel_rfl) (by kernel_rfl) rfl
            exact op_skip rfl (wanted_no rfl rfl rfl g42) (hK undef w (Below.refl _ w) (says_exact 47 rfl (by simp)))
          · intro a w K hR hs hK
            have g42 := fedX hs 42 (.bool true) (by kernel_rfl) (by kernel_rfl) rfl
            exact op_skip rfl (wanted_no rfl rfl rfl g42) (hK undef w (Below.refl _ w) (says_exact 48 rfl (by simp)))
          · intro a w K hR hs hK
            have g42 := fedX hs 42 (.bool true) (by kernel_rfl) (by kernel_rfl) rfl
            exact op_skip rfl (wanted_no rfl rfl rfl g42) (hK undef w (Below.refl _ w) (says_exact 49 rfl (by simp)))
          · intro a w K hR hs hK
            have g42 := fedX hs 42 (.bool true) (by kernel_rfl) (by kernel_rfl) rfl
            have g49 := fedX hs 49 (undef) (by kernel_rfl) (by kernel_rfl) rfl
            exact op_value (v := .bool true) rfl (wanted_none rfl) (by simp [go_sem, g42, g49, hwi]) (hK _ w (Below.refl _ w) (says_exact 50 rfl (by simp)))
          · intro a w K hR hs hK
            have g50 := fedX hs 50 (.bool true) (by kernel_rfl) (by kernel_rfl) rfl
            exact op_value rfl (wanted_none rfl) (run_move' (v := .bool true) rfl (eval_of g50) w) (hK _ w (Below.refl _ w) (says_exact 51 rfl (by simp)))
          · intro a w K hR hs hK
            have g8 : a.tmps[8]? = some (.slice A2 0 c2) := unfed hs 8 (by kernel_rfl) (by kernel_rfl) rfl
            have g51 := fedX hs 51 (.bool true) (by kernel_rfl) (by kernel_rfl) rfl
            exact op_value rfl (wanted_yes rfl rfl g51) (run_move' (v := .slice A2 0 c2) rfl (eval_of g8) w) (hK _ w (Below.refl _ w) (says_exact 52 rfl (by simp)))
          · intro a w K hR hs hK
            have g1 : a.tmps[1]? = some (.int .u8 i) := unfed hs 1 (by kernel_rfl) (by kernel_rfl) rfl
            have g51 := fedX hs 51 (.bool true) (by kernel_rfl) (by kernel_rfl) rfl
            exact op_value rfl (wanted_yes rfl rfl g51) (run_move' (v := .int .u8 i) rfl (eval_of g1) w) (hK _ w (Below.refl _ w) (says_exact 53 rfl (by simp)))
          · intro a w K hR hs hK
            have g53 := fedX hs 53 (.int .u8 i) (by kernel_rfl) (by kernel_rfl) rfl
            have g51 := fedX hs 51 (.bool true) (by kernel_rfl) (by kernel_rfl) rfl
            exact op_value (v := .int .i64 i) rfl (wanted_yes rfl rfl g51) (by simp [go_sem, g53, hwi]) (hK _ w (Below.refl _ w) (says_exact 54 rfl (by simp)))
          · intro a w K hR hs hK
            have g2 : a.tmps[2]? = some (.bool t) := unfed hs 2 (by kernel_rfl) (by kernel_rfl) rfl
            have g51 := fedX hs 51 (.bool true) (by kernel_rfl) (by kernel_rfl) rfl
            exact op_value rfl (wanted_yes rfl rfl g51) (run_move' (v := .bool t) rfl (eval_of g2) w) (hK _ w (Below.refl _ w) (says_exact 55 rfl (by simp)))
          · intro a w K hR hs hK
            have g52 := fedX hs 52 (.slice A2 0 c2) (by kernel_rfl) (by kernel_rfl) rfl
            have g54 := fedX hs 54 (.int .i64 i) (by kernel_rfl) (by kernel_rfl) rfl
            have g55 := fedX hs 55 (.bool t) (by kernel_rfl) (by kernel_rfl) rfl
            have g51 := fedX hs 51 (.bool true) (by kernel_rfl) (by kernel_rfl) rfl
            refine op_call (g := 13) (args := #[.slice A2 0 c2, .int .i64 i, .bool t]) rfl (wanted_yes rfl rfl g51) (by simp [go_sem, g52, g54, g55, g51]) ?_
            refine (with_any (.slice A2 0 c2) [] (i : Int) t w (HRD.out.on hR) (by first | simp | omega) (by omega) (by omega)).mono ?_
            rintro e w9 ⟨v9, rfl, hr9, hb9⟩
            rw [HA.out] at hr9
            exact ⟨v9, rfl, hK v9 w9 hb9 (says_special 56 rfl (by simp; exact hr9))⟩
          · intro a w K hR hs hK
            obtain ⟨v56, g56, s560⟩ := fed hs 56 (by kernel_rfl) (by kernel_rfl)
            have s56 : Rd w w.heap.size v56 (bv []) := s560.2.1 rfl
            have g51 := fedX hs 51 (.bool true) (by kernel_rfl) (by kernel_rfl) rfl
            have hcv := conv_rd (s56)
            exact op_value (v := .string ⟨([] : List UInt8).toArray⟩) rfl (wanted_yes rfl rfl g51) (by simp [go_sem, g56, hcv]) (hK _ w (Below.refl _ w) (says_exact 57 rfl (by simp)))
          · intro a w K hR hs hK
            have g8 : a.tmps[8]? = some (.slice A2 0 c2) := unfed hs 8 (by kernel_rfl) (by kernel_rfl) rfl
            have g51 := fedX hs 51 (.bool true) (by kernel_rfl) (by kernel_rfl) rfl
            exact op_value rfl (wanted_yes rfl rfl g51) (run_move' (v := .slice A2 0 c2) rfl (eval_of g8) w) (hK _ w (Below.refl _ w) (says_exact 58 rfl (by simp)))
          · intro a w K hR hs hK
            have g58 := fedX hs 58 (.slice A2 0 c2) (by kernel_rfl) (by kernel_rfl) rfl
            have g51 := fedX hs 51 (.bool true) (by kernel_rfl) (by kernel_rfl) rfl
            have hcv := conv_rd (HRD.out.on hR)
            exact op_value (v := .string ⟨([] : List UInt8).toArray⟩) rfl (wanted_yes rfl rfl g51) (by simp [go_sem, g58, hcv]) (hK _ w (Below.refl _ w) (says_exact 59 rfl (by simp)))
          · intro a w K hR hs hK
            have g57 := fedX hs 57 (.string ⟨([] : List UInt8).toArray⟩) (by kernel_rfl) (by kernel_rfl) rfl
            have g59 := fedX hs 59 (.string ⟨([] : List UInt8).toArray⟩) (by kernel_rfl) (by kernel_rfl) rfl
            have g51 := fedX hs 51 (.bool true) (by kernel_rfl) (by kernel_rfl) rfl
            exact op_value (v := .bool true) rfl (wanted_yes rfl rfl g51) (by simp [go_sem, g57, g59, hwi]) (hK _ w (Below.refl _ w) (says_exact 60 rfl (by simp)))
          · intro a w K hR hs hK
            have g51 := fedX hs 51 (.bool true) (by kernel_rfl) (by kernel_rfl) rfl
            have g60 := fedX hs 60 (.bool true) (by kernel_rfl) (by kernel_rfl) rfl
            exact op_value (v := .bool true) rfl (wanted_none rfl) (by simp [go_sem, g51, g60, hwi]) (hK _ w (Below.refl _ w) (says_exact 61 rfl (by simp)))
          · intro a w K hR hs hK
            have g61 := fedX hs 61 (.bool true) (by kernel_rfl) (by kernel_rfl) rfl
            exact op_value rfl (wanted_none rfl) (run_assign' (v := .bool true) rfl (eval_of g61) w) (hK _ w (Below.refl _ w) (says_exact 6 rfl (by simp)))
        · intro f w hR hf
          have f39 : f 39 = .slice A2 0 c2 := (hf 39 (by simp)).1 _ rfl
          have f40 : f 40 = .int .i64 0 := (hf 40 (by simp)).1 _ rfl
          have f41 : f 41 = .bool true := (hf 41 (by simp)).1 _ rfl
          have f42 : f 42 = .bool true := (hf 42 (by simp)).1 _ rfl
          have f43 : f 43 = undef := (hf 43 (by simp)).1 _ rfl
          have f44 : f 44 = undef := (hf 44 (by simp)).1 _ rfl
          have f45 : f 45 = undef := (hf 45 (by simp)).1 _ rfl
          have f46 : f 46 = undef := (hf 46 (by simp)).1 _ rfl
          have f47 : f 47 = undef := (hf 47 (by simp)).1 _ rfl
          have f48 : f 48 = undef := (hf 48 (by simp)).1 _ rfl
          have f49 : f 49 = undef := (hf 49 (by simp)).1 _ rfl
          have f50 : f 50 = .bool true := (hf 50 (by simp)).1 _ rfl
          have f51 : f 51 = .bool true := (hf 51 (by simp)).1 _ rfl
          have f52 : f 52 = .slice A2 0 c2 := (hf 52 (by simp)).1 _ rfl
          have f53 : f 53 = .int .u8 i := (hf 53 (by simp)).1 _ rfl
          have f54 : f 54 = .int .i64 i := (hf 54 (by simp)).1 _ rfl
          have f55 : f 55 = .bool t := (hf 55 (by simp)).1 _ rfl
          have f56 : Rd w w.heap.size (f 56) (bv []) := (hf 56 (by simp)).2.1 rfl
          have f57 : f 57 = .string ⟨([] : List UInt8).toArray⟩ := (hf 57 (by simp)).1 _ rfl
          have f58 : f 58 = .slice A2 0 c2 := (hf 58 (by simp)).1 _ rfl
          have f59 : f 59 = .string ⟨([] : List UInt8).toArray⟩ := (hf 59 (by simp)).1 _ rfl
          have f60 : f 60 = .bool true := (hf 60 (by simp)).1 _ rfl
          have f61 : f 61 = .bool true := (hf 61 (by simp)).1 _ rfl
          have f6 : f 6 = .bool true := (hf 6 (by simp)).1 _ rfl
          simp only [putAll, List.foldl_cons, List.foldl_nil, List.setIfInBounds_toArray, List.set_cons_succ, List.set_cons_zero, f39, f40, f41, f42, f43, f44, f45, f46, f47, f48, f49, f50, f51, f52, f53, f54, f55, f57, f58, f59, f60, f61, f6]
          clear f39 f40 f41 f42 f43 f44 f45 f46 f47 f48 f49 f50 f51 f52 f53 f54 f55 f57 f58 f59 f60 f61 f6 hf
          go_wp2
          go_ret
          exact ⟨rfl, (bthen HB1.out HB2.out).trans ((below_drewN (Below.refl w2.heap.size w2) m).drew.trans hR |>.mono (Nat.le_trans HB1.out.size HB2.out.size))⟩
      · have hpos : 0 < L.length := List.length_pos_iff.2 hL
        obtain ⟨g, o, rfl, hg, hc⟩ := HR2.out.open_ (by intro e; have := bv_length L; rw [e] at this; simp at this; omega)
        have hx : L[L.length - 1]? = some L[L.length - 1] := List.getElem?_eq_getElem (by omega)
        have hcx := hc _ _ (bv_get hx)
        have hxz : L[L.length - 1] ≠ 0 := HC.out _ (by rw [List.getLast?_eq_getElem?]; exact hx)
        have hxn : ((L[L.length - 1].toNat : Int) != 0) = true := by
          rw [bne_iff_ne]; intro e; apply hxz; apply UInt8.toNat.inj; simpa using e
        clear hc hx hxz hL
        generalize L[L.length - 1] = x at *
        have hl0 : ((L.length : Int) == 0) = false := by rw [beq_eq_false_iff_ne]; omega
        have hw1 : IntKind.i64.wrap ((L.length : Int) - 1) = (L.length : Int) - 1 := IntWalk.i64_in _ (by omega)
        have hw2 : (1 : Int) ≤ (L.length : Int) := by omega
        have hw3 : (L.length : Int) - 1 < (L.length : Int) := by omega
        have hw4 : ((L.length : Int) - 1).toNat = L.length - 1 := by omega
        have hw5 : (0 : Int) ≤ (L.length : Int) - 1 := by omega
        have hcd : (w2.drewN m).drew.cell? ⟨g, o + (L.length - 1), none⟩ = some (.int .u8 x.toNat) := hcx
        clear hcx
        refine region_any (by kernel_rfl) [39, 40, 41, 42, 43, 44, 45, 46, 47, 48, 49, 50, 51, 52, 53, 54, 55, 56, 57, 58, 59, 60, 61, 6] rfl (by simp) (by kernel_rfl) (fun x y => Below x.heap.size x y) (Says (fun q_ => match q_ with | 39 => some (.slice (some ⟨g, o, none⟩) L.length c2) | 40 => some (.int .i64 L.length) | 41 => some (.bool false) | 42 => some (.bool false) | 43 => some (.slice (some ⟨g, o, none⟩) L.length c2) | 44 => some (.slice (some ⟨g, o, none⟩) L.length c2) | 45 => some (.int .i64 L.length) | 46 => some (.int .i64 ((L.length : Int) - 1)) | 47 => some (.pointer (some ⟨g, o + (L.length - 1), none⟩)) | 48 => some (.int .u8 x.toNat) | 49 => some (.bool true) | 50 => some (.bool true) | 51 => some (.bool true) | 52 => some (.slice (some ⟨g, o, none⟩) L.length c2) | 53 => some (.int .u8 i) | 54 => some (.int .i64 i) | 55 => some (.bool t) | 57 => some (.string ⟨(L : List UInt8).toArray⟩) | 58 => some (.slice (some ⟨g, o, none⟩) L.length c2) | 59 => some (.string ⟨(L : List UInt8).toArray⟩) | 60 => some (.bool true) | 61 => some (.bool true) | 6 => some (.bool true) | _ => none) (fun q_ v w => (q_ = 56 → Rd w w.heap.size v (bv L)) ∧ True)) (fun x => Below.refl _ x) ?_ (fun _ _ _ h k => bthen h k) (hops_of_all rfl ?_) ?_
        · rintro q_ v w w' hR ⟨h1, h2⟩
          obtain ⟨s56, _⟩ := h2
          exact ⟨h1, fun e => (s56 e).on hR, trivial⟩
        · refine ⟨?_, ?_, ?_, ?_, ?_, ?_, ?_, ?_, ?_, ?_, ?_, ?_, ?_, ?_, ?_, ?_, ?_, ?_, ?_, ?_, ?_, ?_, ?_, ?_, trivial⟩
          · intro a w K hR hs hK
            have g8 : a.tmps[8]? = some (.slice (some ⟨g, o, none⟩) L.length c2) := unfed hs 8 (by kernel_rfl) (by kernel_rfl) rfl
            exact op_value rfl (wanted_none rfl) (run_move' (v := .slice (some ⟨g, o, none⟩) L.length c2) rfl (eval_of g8) w) (hK _ w (Below.refl _ w) (says_exact 39 rfl (by simp)))
          · intro a w K hR hs hK
            have g39 := fedX hs 39 (.slice (some ⟨g, o, none⟩) L.length c2) (by kernel_rfl) (by kernel_rfl) rfl
            exact op_value (v := .int .i64 L.length) rfl (wanted_none rfl) (by simp [go_sem, g39, hwi, hl0, hw1, hw2, hw3, hw4, hw5, hxn]) (hK _ w (Below.refl _ w) (says_exact 40 rfl (by simp)))
          · intro a w K hR hs hK
            have g40 := fedX hs 40 (.int .i64 L.length) (by kernel_rfl) (by kernel_rfl) rfl
            exact op_value (v := .bool false) rfl (wanted_none rfl) (by simp [go_sem, g40, hwi, hl0, hw1, hw2, hw3, hw4, hw5, hxn]) (hK _ w (Below.refl _ w) (says_exact 41 rfl (by simp)))
          · intro a w K hR hs hK
            have g41 := fedX hs 41 (.bool false) (by kernel_rfl) (by kernel_rfl) rfl
            exact op_value rfl (wanted_none rfl) (run_move' (v := .bool false) rfl (eval_of g41) w) (hK _ w (Below.refl _ w) (says_exact 42 rfl (by simp)))
          · intro a w K hR hs hK
            have g8 : a.tmps[8]? = some (.slice (some ⟨g, o, none⟩) L.length c2) := unfed hs 8 (by kernel_rfl) (by kernel_rfl) rfl
            have g42 := fedX hs 42 (.bool false) (by kernel_rfl) (by kernel_rfl) rfl
            exact op_value rfl (wanted_yes rfl rfl g42) (run_move' (v := .slice (some ⟨g, o, none⟩) L.length c2) rfl (eval_of g8) w) (hK _ w (Below.refl _ w) (says_exact 43 rfl (by simp)))
          · intro a w K hR hs hK
            have g8 : a.tmps[8]? = some (.slice (some ⟨g, o, none⟩) L.length c2) := unfed hs 8 (by kernel_rfl) (by kernel_rfl) rfl
            have g42 := fedX hs 42 (.bool false) (by kernel_rfl) (by kernel_rfl) rfl
            exact op_value rfl (wanted_yes rfl rfl g42) (run_move' (v := .slice (some ⟨g, o, none⟩) L.length c2) rfl (eval_of g8) w) (hK _ w (Below.refl _ w) (says_exact 44 rfl (by simp)))
          · intro a w K hR hs hK
            have g44 := fedX hs 44 (.slice (some ⟨g, o, none⟩) L.length c2) (by kernel_rfl) (by kernel_rfl) rfl
            have g42 := fedX hs 42 (.bool false) (by kernel_rfl) (by kernel_rfl) rfl
            exact op_value (v := .int .i64 L.length) rfl (wanted_yes rfl rfl g42) (by simp [go_sem, g44, hwi, hl0, hw1, hw2, hw3, hw4, hw5, hxn]) (hK _ w (Below.refl _ w) (says_exact 45 rfl (by simp)))
          · intro a w K hR hs hK
            have g45 := fedX hs 45 (.int .i64 L.length) (by kernel_rfl) (by kernel_rfl) rfl
            have g42 := fedX hs 42 (.bool false) (by kernel_rfl) (by kernel_rfl) rfl
            exact op_value (v := .int .i64 ((L.length : Int) - 1)) rfl (wanted_yes rfl rfl g42) (by simp [go_sem, g45, hwi, hl0, hw1, hw2, hw3, hw4, hw5, hxn]) (hK _ w (Below.refl _ w) (says_exact 46 rfl (by simp)))
          · intro a w K hR hs hK
            have g43 := fedX hs 43 (.slice (some ⟨g, o, none⟩) L.length c2) (by kernel_rfl) (by kernel_rfl) rfl
            have g46 := fedX hs 46 (.int .i64 ((L.length : Int) - 1)) (by kernel_rfl) (by kernel_rfl) rfl
            have g42 := fedX hs 42 (.bool false) (by kernel_rfl) (by kernel_rfl) rfl
            exact op_value (v := .pointer (some ⟨g, o + (L.length - 1), none⟩)) rfl (wanted_yes rfl rfl g42) (by simp [go_sem, g43, g46, hwi, hl0, hw1, hw2, hw3, hw4, hw5, hxn]) (hK _ w (Below.refl _ w) (says_exact 47 rfl (by simp)))
          · intro a w K hR hs hK
            have g47 := fedX hs 47 (.pointer (some ⟨g, o + (L.length - 1), none⟩)) (by kernel_rfl) (by kernel_rfl) rfl
            have g42 := fedX hs 42 (.bool false) (by kernel_rfl) (by kernel_rfl) rfl
            have hcx := (hR.cell (p := ⟨g, o + (L.length - 1), none⟩) hg).trans hcd
            exact op_value (v := .int .u8 x.toNat) rfl (wanted_yes rfl rfl g42) (by simp [go_sem, g47, hcx]) (hK _ w (Below.refl _ w) (says_exact 48 rfl (by simp)))
          · intro a w K hR hs hK
            have g48 := fedX hs 48 (.int .u8 x.toNat) (by kernel_rfl) (by kernel_rfl) rfl
            have g42 := fedX hs 42 (.bool false) (by kernel_rfl) (by kernel_rfl) rfl
            exact op_value (v := .bool true) rfl (wanted_yes rfl rfl g42) (by simp [go_sem, g48, hwi, hl0, hw1, hw2, hw3, hw4, hw5, hxn]) (hK _ w (Below.refl _ w) (says_exact 49 rfl (by simp)))
          · intro a w K hR hs hK
            have g42 := fedX hs 42 (.bool false) (by kernel_rfl) (by kernel_rfl) rfl
            have g49 := fedX hs 49 (.bool true) (by kernel_rfl) (by kernel_rfl) rfl
            exact op_value (v := .bool true) rfl (wanted_none rfl) (by simp [go_sem, g42, g49, hwi, hl0, hw1, hw2, hw3, hw4, hw5, hxn]) (hK _ w (Below.refl _ w) (says_exact 50 rfl (by simp)))
          · intro a w K hR hs hK
            have g50 := fedX hs 50 (.bool true) (by kernel_rfl) (by kernel_rfl) rfl
            exact op_value rfl (wanted_none rfl) (run_move' (v := .bool true) rfl (eval_of g50) w) (hK _ w (Below.refl _ w) (says_exact 51 rfl (by simp)))
          · intro a w K hR hs hK
            have g8 : a.tmps[8]? = some (.slice (some ⟨g, o, none⟩) L.length c2) := unfed hs 8 (by kernel_rfl) (by kernel_rfl) rfl
            have g51 := fedX hs 51 (.bool true) (by kernel_rfl) (by kernel_rfl) rfl
            exact op_value rfl (wanted_yes rfl rfl g51) (run_move' (v := .slice (some ⟨g, o, none⟩) L.length c2) rfl (eval_of g8) w) (hK _ w (Below.refl _ w) (says_exact 52 rfl (by simp)))
          · intro a w K hR hs hK
            have g1 : a.tmps[1]? = some (.int .u8 i) := unfed hs 1 (by kernel_rfl) (by kernel_rfl) rfl
            have g51 := fedX hs 51 (.bool true) (by kernel_rfl) (by kernel_rfl) rfl
            exact op_value rfl (wanted_yes rfl rfl g51) (run_move' (v := .int .u8 i) rfl (eval_of g1) w) (hK _ w (Below.refl _ w) (says_exact 53 rfl (by simp)))
          · intro a w K hR hs hK
            have g53 := fedX hs 53 (.int .u8 i) (by kernel_rfl) (by kernel_rfl) rfl
            have g51 := fedX hs 51 (.bool true) (by kernel_rfl) (by kernel_rfl) rfl
            exact op_value (v := .int .i64 i) rfl (wanted_yes rfl rfl g51) (by simp [go_sem, g53, hwi, hl0, hw1, hw2, hw3, hw4, hw5, hxn]) (hK _ w (Below.refl _ w) (says_exact 54 rfl (by simp)))
          · intro a w K hR hs hK
            have g2 : a.tmps[2]? = some (.bool t) := unfed hs 2 (by kernel_rfl) (by kernel_rfl) rfl
            have g51 := fedX hs 51 (.bool true) (by kernel_rfl) (by kernel_rfl) rfl
            exact op_value rfl (wanted_yes rfl rfl g51) (run_move' (v := .bool t) rfl (eval_of g2) w) (hK _ w (Below.refl _ w) (says_exact 55 rfl (by simp)))
          · intro a w K hR hs hK
            have g52 := fedX hs 52 (.slice (some ⟨g, o, none⟩) L.length c2) (by kernel_rfl) (by kernel_rfl) rfl
            have g54 := fedX hs 54 (.int .i64 i) (by kernel_rfl) (by kernel_rfl) rfl
            have g55 := fedX hs 55 (.bool t) (by kernel_rfl) (by kernel_rfl) rfl
            have g51 := fedX hs 51 (.bool true) (by kernel_rfl) (by kernel_rfl) rfl
            refine op_call (g := 13) (args := #[.slice (some ⟨g, o, none⟩) L.length c2, .int .i64 i, .bool t]) rfl (wanted_yes rfl rfl g51) (by simp [go_sem, g52, g54, g55, g51]) ?_
            refine (with_any (.slice (some ⟨g, o, none⟩) L.length c2) L (i : Int) t w (HRD.out.on hR) (by first | simp | omega) (by omega) (by omega)).mono ?_
            rintro e w9 ⟨v9, rfl, hr9, hb9⟩
            rw [HA.out] at hr9
            exact ⟨v9, rfl, hK v9 w9 hb9 (says_special 56 rfl (by simp; exact hr9))⟩
          · intro a w K hR hs hK
            obtain ⟨v56, g56, s560⟩ := fed hs 56 (by kernel_rfl) (by kernel_rfl)
            have s56 : Rd w w.heap.size v56 (bv L) := s560.2.1 rfl
            have g51 := fedX hs 51 (.bool true) (by kernel_rfl) (by kernel_rfl) rfl
            have hcv := conv_rd (s56)
            exact op_value (v := .string ⟨(L : List UInt8).toArray⟩) rfl (wanted_yes rfl rfl g51) (by simp [go_sem, g56, hcv]) (hK _ w (Below.refl _ w) (says_exact 57 rfl (by simp)))
          · intro a w K hR hs hK
            have g8 : a.tmps[8]? = some (.slice (some ⟨g, o, none⟩) L.length c2) := unfed hs 8 (by kernel_rfl) (by kernel_rfl) rfl
            have g51 := fedX hs 51 (.bool true) (by kernel_rfl) (by kernel_rfl) rfl
            exact op_value rfl (wanted_yes rfl rfl g51) (run_move' (v := .slice (some ⟨g, o, none⟩) L.length c2) rfl (eval_of g8) w) (hK _ w (Below.refl _ w) (says_exact 58 rfl (by simp)))
          · intro a w K hR hs hK
            have g58 := fedX hs 58 (.slice (some ⟨g, o, none⟩) L.length c2) (by kernel_rfl) (by kernel_rfl) rfl
            have g51 := fedX hs 51 (.bool true) (by kernel_rfl) (by kernel_rfl) rfl
            have hcv := conv_rd (HRD.out.on hR)
            exact op_value (v := .string ⟨(L : List UInt8).toArray⟩) rfl (wanted_yes rfl rfl g51) (by simp [go_sem, g58, hcv]) (hK _ w (Below.refl _ w) (says_exact 59 rfl (by simp)))
          · intro a w K hR hs hK
            have g57 := fedX hs 57 (.string ⟨(L : List UInt8).toArray⟩) (by kernel_rfl) (by kernel_rfl) rfl
            have g59 := fedX hs 59 (.string ⟨(L : List UInt8).toArray⟩) (by kernel_rfl) (by kernel_rfl) rfl
            have g51 := fedX hs 51 (.bool true) (by kernel_rfl) (by kernel_rfl) rfl
            exact op_value (v := .bool true) rfl (wanted_yes rfl rfl g51) (by simp [go_sem, g57, g59, hwi, hl0, hw1, hw2, hw3, hw4, hw5, hxn]) (hK _ w (Below.refl _ w) (says_exact 60 rfl (by simp)))
          · intro a w K hR hs hK
            have g51 := fedX hs 51 (.bool true) (by kernel_rfl) (by kernel_rfl) rfl
            have g60 := fedX hs 60 (.bool true) (by kernel_rfl) (by kernel_rfl) rfl
            exact op_value (v := .bool true) rfl (wanted_none rfl) (by simp [go_sem, g51, g60, hwi, hl0, hw1, hw2, hw3, hw4, hw5, hxn]) (hK _ w (Below.refl _ w) (says_exact 61 rfl (by simp)))
          · intro a w K hR hs hK
            have g61 := fedX hs 61 (.bool true) (by kernel_rfl) (by kernel_rfl) rfl
            exact op_value rfl (wanted_none rfl) (run_assign' (v := .bool true) rfl (eval_of g61) w) (hK _ w (Below.refl _ w) (says_exact 6 rfl (by simp)))
        · intro f w hR hf
          have f39 : f 39 = .slice (some ⟨g, o, none⟩) L.length c2 := (hf 39 (by simp)).1 _ rfl
          have f40 : f 40 = .int .i64 L.length := (hf 40 (by simp)).1 _ rfl
          have f41 : f 41 = .bool false := (hf 41 (by simp)).1 _ rfl
          have f42 : f 42 = .bool false := (hf 42 (by simp)).1 _ rfl
          have f43 : f 43 = .slice (some ⟨g, o, none⟩) L.length c2 := (hf 43 (by simp)).1 _ rfl
          have f44 : f 44 = .slice (some ⟨g, o, none⟩) L.length c2 := (hf 44 (by simp)).1 _ rfl
          have f45 : f 45 = .int .i64 L.length := (hf 45 (by simp)).1 _ rfl
          have f46 : f 46 = .int .i64 ((L.length : Int) - 1) := (hf 46 (by simp)).1 _ rfl
          have f47 : f 47 = .pointer (some ⟨g, o + (L.length - 1), none⟩) := (hf 47 (by simp)).1 _ rfl
          have f48 : f 48 = .int .u8 x.toNat := (hf 48 (by simp)).1 _ rfl
          have f49 : f 49 = .bool true := (hf 49 (by simp)).1 _ rfl
          have f50 : f 50 = .bool true := (hf 50 (by simp)).1 _ rfl
          have f51 : f 51 = .bool true := (hf 51 (by simp)).1 _ rfl
          have f52 : f 52 = .slice (some ⟨g, o, none⟩) L.length c2 := (hf 52 (by simp)).1 _ rfl
          have f53 : f 53 = .int .u8 i := (hf 53 (by simp)).1 _ rfl
          have f54 : f 54 = .int .i64 i := (hf 54 (by simp)).1 _ rfl
          have f55 : f 55 = .bool t := (hf 55 (by simp)).1 _ rfl
          have f56 : Rd w w.heap.size (f 56) (bv L) := (hf 56 (by simp)).2.1 rfl
          have f57 : f 57 = .string ⟨(L : List UInt8).toArray⟩ := (hf 57 (by simp)).1 _ rfl
          have f58 : f 58 = .slice (some ⟨g, o, none⟩) L.length c2 := (hf 58 (by simp)).1 _ rfl
          have f59 : f 59 = .string ⟨(L : List UInt8).toArray⟩ := (hf 59 (by simp)).1 _ rfl
          have f60 : f 60 = .bool true := (hf 60 (by simp)).1 _ rfl
          have f61 : f 61 = .bool true := (hf 61 (by simp)).1 _ rfl
          have f6 : f 6 = .bool true := (hf 6 (by simp)).1 _ rfl
          simp only [putAll, List.foldl_cons, List.foldl_nil, List.setIfInBounds_toArray, List.set_cons_succ, List.set_cons_zero, f39, f40, f41, f42, f43, f44, f45, f46, f47, f48, f49, f50, f51, f52, f53, f54, f55, f57, f58, f59, f60, f61, f6]
          clear f39 f40 f41 f42 f43 f44 f45 f46 f47 f48 f49 f50 f51 f52 f53 f54 f55 f57 f58 f59 f60 f61 f6 hf
          go_wp2
          go_ret
          exact ⟨rfl, (bthen HB1.out HB2.out).trans ((below_drewN (Below.refl w2.heap.size w2) m).drew.trans hR |>.mono (Nat.le_trans HB1.out.size HB2.out.size))⟩

theorem law_any (v : Value) (l : List UInt8) (i : Int) (t : Bool) (w : World) (hr : Rd w w.heap.size v (bv l)) (i0 : 0 ≤ i) (i1 : i ≤ 255) :
    Calls Try.prog 5 #[v, .int .u8 i, .bool t] w (Yes w) := by
  obtain ⟨N, rfl⟩ := Int.eq_ofNat_of_zero_le i0
  rcases Nat.lt_or_ge 40 l.length with h | h
  · exact long v l N t w hr h
  · exact short v l N t w hr h (by omega)

end Go.Proofs.Ytfijihjbjifhdaa.bitsWith
