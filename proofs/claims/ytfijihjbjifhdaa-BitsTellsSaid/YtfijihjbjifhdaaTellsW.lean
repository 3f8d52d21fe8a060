/- The walk of the statement BitsTells: for every list of bytes and all numbers it is true, and what was there before stands. -/
import Derived.Test.YtfijihjbjifhdaaAwake
import Derived.Test.YtfijihjbjifhdaaLaws
import Derived.Test.YtfijihjbjifhdaaConv
import Derived.Test.YtfijihjbjifhdaaAny
import Derived.Test.YtfijihjbjifhdaaSame
import Derived.Test.YtfijihjbjifhdaaRef
import Derived.Test.YtfijihjbjifhdaaRefDraw
import Derived.Test.YtfijihjbjifhdaaRefWith
namespace Go.Proofs.Ytfijihjbjifhdaa.bitsTells
open Go.RowKit
set_option linter.unusedSimpArgs false

theorem str_eq {t : ByteArray} {l : List UInt8} (h : t.data.toList = l) : t = ⟨l.toArray⟩ := by
  subst h
  rfl

theorem drawB_length (l : List UInt8) (n m : Int) : (drawB l n m).length ≤ m.toNat := by
  unfold drawB
  split
  · exact Nat.zero_le _
  · rw [List.length_take]; exact Nat.min_le_left _ _

theorem out0 (v : Value) (l : List UInt8) (i : Int) (t : Bool) (n m : Int) (w : World) (hr : Rd w w.heap.size v (bv l)) (h0 : (60 : Int) < (l.length : Int)) :
    Calls Try.prog 3 #[v, .int .i64 i, .bool t, .int .i64 n, .int .i64 m] w (Yes w) := by
  obtain ⟨A, c, rfl, _⟩ := hr.form
  rw [bv_length] at *
  clear hr
  go_enter Try.func3, Try.ntmps3
  go_wp2_with fail
  refine (awake_any w).mono ?_
  rintro e w1 ⟨rfl, hb1⟩
  have HB1 := Lib.hid hb1
  clear hb1
  go_wp2
  go_ret
  exact ⟨rfl, HB1.out⟩

theorem out1 (v : Value) (l : List UInt8) (i : Int) (t : Bool) (n m : Int) (w : World) (hr : Rd w w.heap.size v (bv l)) (h0 : ¬ (60 : Int) < (l.length : Int)) (h1 : (2000 : Int) < i) :
    Calls Try.prog 3 #[v, .int .i64 i, .bool t, .int .i64 n, .int .i64 m] w (Yes w) := by
  obtain ⟨A, c, rfl, _⟩ := hr.form
  rw [bv_length] at *
  clear hr
  have d0 : decide ((60 : Int) < (l.length : Int)) = false := by simpa using h0
  go_enter Try.func3, Try.ntmps3
  go_wp2_with fail
  refine (awake_any w).mono ?_
  rintro e w1 ⟨rfl, hb1⟩
  have HB1 := Lib.hid hb1
  clear hb1
  go_wp2
  go_ret
  exact ⟨rfl, HB1.out⟩

theorem out2 (v : Value) (l : List UInt8) (i : Int) (t : Bool) (n m : Int) (w : World) (hr : Rd w w.heap.size v (bv l)) (h0 : ¬ (60 : Int) < (l.length : Int)) (h1 : ¬ (2000 : Int) < i) (h2 : (2000 : Int) < n) :
    Calls Try.prog 3 #[v, .int .i64 i, .bool t, .int .i64 n, .int .i64 m] w (Yes w) := by
  obtain ⟨A, c, rfl, _⟩ := hr.form
  rw [bv_length] at *
  clear hr
  have d0 : decide ((60 : Int) < (l.length : Int)) = false := by simpa using h0
  have d1 : decide ((2000 : Int) < i) = false := by simpa using h1
  go_enter Try.func3, Try.ntmps3
  go_wp2_with fail
  refine (awake_any w).mono ?_
  rintro e w1 ⟨rfl, hb1⟩
  have HB1 := Lib.hid hb1
  clear hb1
  go_wp2
  go_ret
  exact ⟨rfl, HB1.out⟩

theorem out3 (v : Value) (l : List UInt8) (i : Int) (t : Bool) (n m : Int) (w : World) (hr : Rd w w.heap.size v (bv l)) (h0 : ¬ (60 : Int) < (l.length : Int)) (h1 : ¬ (2000 : Int) < i) (h2 : ¬ (2000 : Int) < n) (h3 : (2000 : Int) < m) :
    Calls Try.prog 3 #[v, .int .i64 i, .bool t, .int .i64 n, .int .i64 m] w (Yes w) := by
  obtain ⟨A, c, rfl, _⟩ := hr.form
  rw [bv_length] at *
  clear hr
  have d0 : decide ((60 : Int) < (l.length : Int)) = false := by simpa using h0
  have d1 : decide ((2000 : Int) < i) = false := by simpa using h1
  have d2 : decide ((2000 : Int) < n) = false := by simpa using h2
  go_enter Try.func3, Try.ntmps3
  go_wp2_with fail
  refine (awake_any w).mono ?_
  rintro e w1 ⟨rfl, hb1⟩
  have HB1 := Lib.hid hb1
  clear hb1
  go_wp2
  go_ret
  exact ⟨rfl, HB1.out⟩

set_option maxRecDepth 100000 in
set_option maxHeartbeats 2000000 in
theorem within (v : Value) (l : List UInt8) (i : Int) (t : Bool) (n m : Int) (w : World) (hr : Rd w w.heap.size v (bv l)) (h0 : ¬ (60 : Int) < (l.length : Int)) (h1 : ¬ (2000 : Int) < i) (h2 : ¬ (2000 : Int) < n) (h3 : ¬ (2000 : Int) < m) (hi : -9223372036854775808 ≤ i) :
    Calls Try.prog 3 #[v, .int .i64 i, .bool t, .int .i64 n, .int .i64 m] w (Yes w) := by
  have HR := Lib.hid hr
  obtain ⟨A, c, rfl, _, _, _⟩ := hr.form
  rw [bv_length] at *
  clear hr
  have d0 : decide ((60 : Int) < (l.length : Int)) = false := by simpa using h0
  have d1 : decide ((2000 : Int) < i) = false := by simpa using h1
  have d2 : decide ((2000 : Int) < n) = false := by simpa using h2
  have d3 : decide ((2000 : Int) < m) = false := by simpa using h3
  go_enter Try.func3, Try.ntmps3
  go_wp2_with fail
  refine (awake_any w).mono ?_
  rintro e w1 ⟨rfl, hb1⟩
  have HB1 := Lib.hid hb1
  have HR1 := Lib.hid (HR.out.on hb1)
  have hcv := conv_rd HR1.out
  clear hb1
  go_wp2_with fail
  clear hcv
  refine (draw_any _ l n m (by omega) (by omega) _ HR1.out).mono ?_
  rintro e w2 ⟨v7, rfl, hr2, hb2⟩
  have HL2 := Lib.hid hr2
  have HB2 := Lib.hid hb2
  have HR2 := Lib.hid (HR1.out.on hb2)
  clear hr2 hb2
  go_wp2_with fail
  refine (rdraw_any ⟨l.toArray⟩ n m (by omega) (by omega) _).mono ?_
  rintro e w3 ⟨v8, rfl, hr3, hb3⟩
  change Rd w3 w3.heap.size v8 (iv (drawB l n m)) at hr3
  have HM3 := Lib.hid hr3
  have HBX := Lib.hid (bthen HB1.out (bthen HB2.out hb3))
  have HL3 := Lib.hid (HL2.out.on hb3)
  have HR3 := Lib.hid (HR2.out.on hb3)
  clear hr3 hb3
  go_wp2
  have HRD := Lib.hid (show Rd w3.drew w3.drew.heap.size (.slice A l.length c) (bv l) from HR3.out)
  have HL := Lib.hid (show Rd w3.drew w3.drew.heap.size v7 (iv (drawB l n m)) from HL3.out)
  have HM := Lib.hid (show Rd w3.drew w3.drew.heap.size v8 (iv (drawB l n m)) from HM3.out)
  refine region_any (by kernel_rfl) [51, 52, 53, 54, 55, 56, 57, 58, 59, 60, 61, 62, 63, 64, 65, 66, 67, 68, 69, 70, 71, 72, 73, 74, 75, 76, 77, 78, 79, 80, 81, 82, 83, 84, 85, 86, 87, 88, 10] rfl (by simp) (by kernel_rfl) (fun x y => Below x.heap.size x y) (Says (fun q_ => match q_ with | 51 => some (.slice A l.length c) | 52 => some (.int .i64 i) | 53 => some (.bool (hasB l i)) | 54 => some (.string ⟨l.toArray⟩) | 55 => some (.int .i64 i) | 56 => some (.bool (hasB l i)) | 57 => some (.bool true) | 58 => some (.bool true) | 59 => some (.slice A l.length c) | 60 => some (.int .i64 i) | 61 => some (.bool t) | 63 => some (.string ⟨(withB l i t).toArray⟩) | 64 => some (.string ⟨l.toArray⟩) | 65 => some (.int .i64 i) | 66 => some (.bool t) | 67 => some (.string ⟨(withB l i t).toArray⟩) | 68 => some (.bool true) | 69 => some (.bool true) | 70 => some (.bool true) | 71 => some (.slice A l.length c) | 72 => some (.int .i64 n) | 73 => some (.int .i64 (countB l n : Int)) | 74 => some (.string ⟨l.toArray⟩) | 75 => some (.int .i64 n) | 76 => some (.int .i64 (countB l n : Int)) | 77 => some (.bool true) | 78 => some (.bool true) | 79 => some (.bool true) | 80 => some (.int .i64 (drawE l n m)) | 81 => some (.int .i64 (drawE l n m)) | 82 => some (.bool true) | 83 => some (.bool true) | 84 => some (.bool true) | 85 => some (v7) | 86 => some (v8) | 87 => some (.bool true) | 88 => some (.bool true) | 10 => some (.bool true) | _ => none) (fun q_ v w => (q_ = 62 → Rd w w.heap.size v (bv (withB l i t))) ∧ True)) (fun x => Below.refl _ x) ?_ (fun _ _ _ h k => bthen h k) (hops_of_all rfl ?_) ?_
  · rintro q_ v w w' hR ⟨h1, h2⟩
    obtain ⟨s62, _⟩ := h2
    exact ⟨h1, fun e => (s62 e).on hR, trivial⟩
  · refine ⟨?_, ?_, ?_, ?_, ?_, ?_, ?_, ?_, ?_, ?_, ?_, ?_, ?_, ?_, ?_, ?_, ?_, ?_, ?_, ?_, ?_, ?_, ?_, ?_, ?_, ?_, ?_, ?_, ?_, ?_, ?_, ?_, ?_, ?_, ?_, ?_, ?_, ?_, ?_, trivial⟩
    · intro a w K hR hs hK
      have g0 : a.tmps[0]? = some (.slice A l.length c) := unfed hs 0 (by kernel_rfl) (by kernel_rfl) rfl
      exact op_value rfl (wanted_none rfl) (run_move' (v := .slice A l.length c) rfl (eval_of g0) w) (hK _ w (Below.refl _ w) (says_exact 51 rfl (by simp)))
    · intro a w K hR hs hK
      have g1 : a.tmps[1]? = some (.int .i64 i) := unfed hs 1 (by kernel_rfl) (by kernel_rfl) rfl
      exact op_value rfl (wanted_none rfl) (run_move' (v := .int .i64 i) rfl (eval_of g1) w) (hK _ w (Below.refl _ w) (says_exact 52 rfl (by simp)))
    · intro a w K hR hs hK
      have g51 := fedX hs 51 (.slice A l.length c) (by kernel_rfl) (by kernel_rfl) rfl
      have g52 := fedX hs 52 (.int .i64 i) (by kernel_rfl) (by kernel_rfl) rfl
      refine op_call (g := 11) (args := #[.slice A l.length c, .int .i64 i]) rfl (wanted_none rfl) (by simp [go_sem, g51, g52]) ?_
      refine (has_any (.slice A l.length c) l i w.heap.size w (HRD.out.on hR) (by omega)).mono ?_
      rintro e w9 ⟨rfl, k9, rfl⟩
      exact ⟨_, rfl, hK _ _ (below_of_drewN w k9 _) (says_exact 53 rfl (by simp))⟩
    · intro a w K hR hs hK
      have g12 : a.tmps[12]? = some (.string ⟨l.toArray⟩) := unfed hs 12 (by kernel_rfl) (by kernel_rfl) rfl
      exact op_value rfl (wanted_none rfl) (run_move' (v := .string ⟨l.toArray⟩) rfl (eval_of g12) w) (hK _ w (Below.refl _ w) (says_exact 54 rfl (by simp)))
    · intro a w K hR hs hK
      have g1 : a.tmps[1]? = some (.int .i64 i) := unfed hs 1 (by kernel_rfl) (by kernel_rfl) rfl
      exact op_value rfl (wanted_none rfl) (run_move' (v := .int .i64 i) rfl (eval_of g1) w) (hK _ w (Below.refl _ w) (says_exact 55 rfl (by simp)))
    · intro a w K hR hs hK
      have g54 := fedX hs 54 (.string ⟨l.toArray⟩) (by kernel_rfl) (by kernel_rfl) rfl
      have g55 := fedX hs 55 (.int .i64 i) (by kernel_rfl) (by kernel_rfl) rfl
      refine op_call (g := 12) (args := #[.string ⟨l.toArray⟩, .int .i64 i]) rfl (wanted_none rfl) (by simp [go_sem, g54, g55]) ?_
      refine (rhas_any ⟨l.toArray⟩ i (by omega) w).mono ?_
      rintro e w9 ⟨rfl, rfl⟩
      exact ⟨_, rfl, hK _ _ (Below.refl _ w) (says_exact 56 rfl (by simp))⟩
    · intro a w K hR hs hK
      have g53 := fedX hs 53 (.bool (hasB l i)) (by kernel_rfl) (by kernel_rfl) rfl
      have g56 := fedX hs 56 (.bool (hasB l i)) (by kernel_rfl) (by kernel_rfl) rfl
      exact op_value (v := .bool true) rfl (wanted_none rfl) (by simp [go_sem, g53, g56]) (hK _ w (Below.refl _ w) (says_exact 57 rfl (by simp)))
    · intro a w K hR hs hK
      have g57 := fedX hs 57 (.bool true) (by kernel_rfl) (by kernel_rfl) rfl
      exact op_value rfl (wanted_none rfl) (run_move' (v := .bool true) rfl (eval_of g57) w) (hK _ w (Below.refl _ w) (says_exact 58 rfl (by simp)))
    · intro a w K hR hs hK
      have g0 : a.tmps[0]? = some (.slice A l.length c) := unfed hs 0 (by kernel_rfl) (by kernel_rfl) rfl
      have g58 := fedX hs 58 (.bool true) (by kernel_rfl) (by kernel_rfl) rfl
      exact op_value rfl (wanted_yes rfl rfl g58) (run_move' (v := .slice A l.length c) rfl (eval_of g0) w) (hK _ w (Below.refl _ w) (says_exact 59 rfl (by simp)))
    · intro a w K hR hs hK
      have g1 : a.tmps[1]? = some (.int .i64 i) := unfed hs 1 (by kernel_rfl) (by kernel_rfl) rfl
      have g58 := fedX hs 58 (.bool true) (by kernel_rfl) (by kernel_rfl) rfl
      exact op_value rfl (wanted_yes rfl rfl g58) (run_move' (v := .int .i64 i) rfl (eval_of g1) w) (hK _ w (Below.refl _ w) (says_exact 60 rfl (by simp)))
    · intro a w K hR hs hK
      have g2 : a.tmps[2]? = some (.bool t) := unfed hs 2 (by kernel_rfl) (by kernel_rfl) rfl
      have g58 := fedX hs 58 (.bool true) (by kernel_rfl) (by kernel_rfl) rfl
      exact op_value rfl (wanted_yes rfl rfl g58) (run_move' (v := .bool t) rfl (eval_of g2) w) (hK _ w (Below.refl _ w) (says_exact 61 rfl (by simp)))
    · intro a w K hR hs hK
      have g59 := fedX hs 59 (.slice A l.length c) (by kernel_rfl) (by kernel_rfl) rfl
      have g60 := fedX hs 60 (.int .i64 i) (by kernel_rfl) (by kernel_rfl) rfl
      have g61 := fedX hs 61 (.bool t) (by kernel_rfl) (by kernel_rfl) rfl
      have g58 := fedX hs 58 (.bool true) (by kernel_rfl) (by kernel_rfl) rfl
      refine op_call (g := 13) (args := #[.slice A l.length c, .int .i64 i, .bool t]) rfl (wanted_yes rfl rfl g58) (by simp [go_sem, g59, g60, g61, g58]) ?_
      refine (with_any (.slice A l.length c) l i t w (HRD.out.on hR) (by omega) (by omega) (by omega)).mono ?_
      rintro e w9 ⟨v9, rfl, hr9, hb9⟩
      exact ⟨v9, rfl, hK v9 w9 hb9 (says_special 62 rfl (by simp; exact hr9))⟩
    · intro a w K hR hs hK
      obtain ⟨v62, g62, s620⟩ := fed hs 62 (by kernel_rfl) (by kernel_rfl)
      have s62 : Rd w w.heap.size v62 (bv (withB l i t)) := s620.2.1 rfl
      have g58 := fedX hs 58 (.bool true) (by kernel_rfl) (by kernel_rfl) rfl
      have hcv := conv_rd s62
      exact op_value (v := .string ⟨(withB l i t).toArray⟩) rfl (wanted_yes rfl rfl g58) (by simp [go_sem, g62, hcv]) (hK _ w (Below.refl _ w) (says_exact 63 rfl (by simp)))
    · intro a w K hR hs hK
      have g12 : a.tmps[12]? = some (.string ⟨l.toArray⟩) := unfed hs 12 (by kernel_rfl) (by kernel_rfl) rfl
      have g58 := fedX hs 58 (.bool true) (by kernel_rfl) (by kernel_rfl) rfl
      exact op_value rfl (wanted_yes rfl rfl g58) (run_move' (v := .string ⟨l.toArray⟩) rfl (eval_of g12) w) (hK _ w (Below.refl _ w) (says_exact 64 rfl (by simp)))
    · intro a w K hR hs hK
      have g1 : a.tmps[1]? = some (.int .i64 i) := unfed hs 1 (by kernel_rfl) (by kernel_rfl) rfl
      have g58 := fedX hs 58 (.bool true) (by kernel_rfl) (by kernel_rfl) rfl
      exact op_value rfl (wanted_yes rfl rfl g58) (run_move' (v := .int .i64 i) rfl (eval_of g1) w) (hK _ w (Below.refl _ w) (says_exact 65 rfl (by simp)))
    · intro a w K hR hs hK
      have g2 : a.tmps[2]? = some (.bool t) := unfed hs 2 (by kernel_rfl) (by kernel_rfl) rfl
      have g58 := fedX hs 58 (.bool true) (by kernel_rfl) (by kernel_rfl) rfl
      exact op_value rfl (wanted_yes rfl rfl g58) (run_move' (v := .bool t) rfl (eval_of g2) w) (hK _ w (Below.refl _ w) (says_exact 66 rfl (by simp)))
    · intro a w K hR hs hK
      have g64 := fedX hs 64 (.string ⟨l.toArray⟩) (by kernel_rfl) (by kernel_rfl) rfl
      have g65 := fedX hs 65 (.int .i64 i) (by kernel_rfl) (by kernel_rfl) rfl
      have g66 := fedX hs 66 (.bool t) (by kernel_rfl) (by kernel_rfl) rfl
      have g58 := fedX hs 58 (.bool true) (by kernel_rfl) (by kernel_rfl) rfl
      refine op_call (g := 14) (args := #[.string ⟨l.toArray⟩, .int .i64 i, .bool t]) rfl (wanted_yes rfl rfl g58) (by simp [go_sem, g64, g65, g66, g58]) ?_
      refine (rwith_any ⟨l.toArray⟩ i t (by show l.toArray.size ≤ _; simp; omega) (by omega) w).mono ?_
      rintro e w9 ⟨t9, rfl, ht9, hb9⟩
      obtain rfl : t9 = ⟨(withB l i t).toArray⟩ := str_eq ht9
      exact ⟨_, rfl, hK _ w9 hb9 (says_exact 67 rfl (by simp))⟩
    · intro a w K hR hs hK
      have g63 := fedX hs 63 (.string ⟨(withB l i t).toArray⟩) (by kernel_rfl) (by kernel_rfl) rfl
      have g67 := fedX hs 67 (.string ⟨(withB l i t).toArray⟩) (by kernel_rfl) (by kernel_rfl) rfl
      have g58 := fedX hs 58 (.bool true) (by kernel_rfl) (by kernel_rfl) rfl
      exact op_value (v := .bool true) rfl (wanted_yes rfl rfl g58) (by simp [go_sem, g63, g67]) (hK _ w (Below.refl _ w) (says_exact 68 rfl (by simp)))
    · intro a w K hR hs hK
      have g58 := fedX hs 58 (.bool true) (by kernel_rfl) (by kernel_rfl) rfl
      have g68 := fedX hs 68 (.bool true) (by kernel_rfl) (by kernel_rfl) rfl
      exact op_value (v := .bool true) rfl (wanted_none rfl) (by simp [go_sem, g58, g68]) (hK _ w (Below.refl _ w) (says_exact 69 rfl (by simp)))
    · intro a w K hR hs hK
      have g69 := fedX hs 69 (.bool true) (by kernel_rfl) (by kernel_rfl) rfl
      exact op_value rfl (wanted_none rfl) (run_move' (v := .bool true) rfl (eval_of g69) w) (hK _ w (Below.refl _ w) (says_exact 70 rfl (by simp)))
    · intro a w K hR hs hK
      have g0 : a.tmps[0]? = some (.slice A l.length c) := unfed hs 0 (by kernel_rfl) (by kernel_rfl) rfl
      have g70 := fedX hs 70 (.bool true) (by kernel_rfl) (by kernel_rfl) rfl
      exact op_value rfl (wanted_yes rfl rfl g70) (run_move' (v := .slice A l.length c) rfl (eval_of g0) w) (hK _ w (Below.refl _ w) (says_exact 71 rfl (by simp)))
    · intro a w K hR hs hK
      have g3 : a.tmps[3]? = some (.int .i64 n) := unfed hs 3 (by kernel_rfl) (by kernel_rfl) rfl
      have g70 := fedX hs 70 (.bool true) (by kernel_rfl) (by kernel_rfl) rfl
      exact op_value rfl (wanted_yes rfl rfl g70) (run_move' (v := .int .i64 n) rfl (eval_of g3) w) (hK _ w (Below.refl _ w) (says_exact 72 rfl (by simp)))
    · intro a w K hR hs hK
      have g71 := fedX hs 71 (.slice A l.length c) (by kernel_rfl) (by kernel_rfl) rfl
      have g72 := fedX hs 72 (.int .i64 n) (by kernel_rfl) (by kernel_rfl) rfl
      have g70 := fedX hs 70 (.bool true) (by kernel_rfl) (by kernel_rfl) rfl
      refine op_call (g := 15) (args := #[.slice A l.length c, .int .i64 n]) rfl (wanted_yes rfl rfl g70) (by simp [go_sem, g71, g72, g70]) ?_
      refine (count_any (.slice A l.length c) l n w (HRD.out.on hR) (by omega)).mono ?_
      rintro e w9 ⟨rfl, k9, rfl⟩
      exact ⟨_, rfl, hK _ _ (below_of_drewN w k9 _) (says_exact 73 rfl (by simp))⟩
    · intro a w K hR hs hK
      have g12 : a.tmps[12]? = some (.string ⟨l.toArray⟩) := unfed hs 12 (by kernel_rfl) (by kernel_rfl) rfl
      have g70 := fedX hs 70 (.bool true) (by kernel_rfl) (by kernel_rfl) rfl
      exact op_value rfl (wanted_yes rfl rfl g70) (run_move' (v := .string ⟨l.toArray⟩) rfl (eval_of g12) w) (hK _ w (Below.refl _ w) (says_exact 74 rfl (by simp)))
    · intro a w K hR hs hK
      have g3 : a.tmps[3]? = some (.int .i64 n) := unfed hs 3 (by kernel_rfl) (by kernel_rfl) rfl
      have g70 := fedX hs 70 (.bool true) (by kernel_rfl) (by kernel_rfl) rfl
      exact op_value rfl (wanted_yes rfl rfl g70) (run_move' (v := .int .i64 n) rfl (eval_of g3) w) (hK _ w (Below.refl _ w) (says_exact 75 rfl (by simp)))
    · intro a w K hR hs hK
      have g74 := fedX hs 74 (.string ⟨l.toArray⟩) (by kernel_rfl) (by kernel_rfl) rfl
      have g75 := fedX hs 75 (.int .i64 n) (by kernel_rfl) (by kernel_rfl) rfl
      have g70 := fedX hs 70 (.bool true) (by kernel_rfl) (by kernel_rfl) rfl
      refine op_call (g := 16) (args := #[.string ⟨l.toArray⟩, .int .i64 n]) rfl (wanted_yes rfl rfl g70) (by simp [go_sem, g74, g75, g70]) ?_
      refine (rcount_any ⟨l.toArray⟩ n (by show l.toArray.size ≤ _; simp; omega) w).mono ?_
      rintro e w9 ⟨rfl, rfl⟩
      exact ⟨_, rfl, hK _ _ (Below.refl _ w) (says_exact 76 rfl (by simp))⟩
    · intro a w K hR hs hK
      have g73 := fedX hs 73 (.int .i64 (countB l n : Int)) (by kernel_rfl) (by kernel_rfl) rfl
      have g76 := fedX hs 76 (.int .i64 (countB l n : Int)) (by kernel_rfl) (by kernel_rfl) rfl
      have g70 := fedX hs 70 (.bool true) (by kernel_rfl) (by kernel_rfl) rfl
      exact op_value (v := .bool true) rfl (wanted_yes rfl rfl g70) (by simp [go_sem, g73, g76]) (hK _ w (Below.refl _ w) (says_exact 77 rfl (by simp)))
    · intro a w K hR hs hK
      have g70 := fedX hs 70 (.bool true) (by kernel_rfl) (by kernel_rfl) rfl
      have g77 := fedX hs 77 (.bool true) (by kernel_rfl) (by kernel_rfl) rfl
      exact op_value (v := .bool true) rfl (wanted_none rfl) (by simp [go_sem, g70, g77]) (hK _ w (Below.refl _ w) (says_exact 78 rfl (by simp)))
    · intro a w K hR hs hK
      have g78 := fedX hs 78 (.bool true) (by kernel_rfl) (by kernel_rfl) rfl
      exact op_value rfl (wanted_none rfl) (run_move' (v := .bool true) rfl (eval_of g78) w) (hK _ w (Below.refl _ w) (says_exact 79 rfl (by simp)))
    · intro a w K hR hs hK
      have g14 : a.tmps[14]? = some (.int .i64 (drawE l n m)) := unfed hs 14 (by kernel_rfl) (by kernel_rfl) rfl
      have g79 := fedX hs 79 (.bool true) (by kernel_rfl) (by kernel_rfl) rfl
      exact op_value rfl (wanted_yes rfl rfl g79) (run_move' (v := .int .i64 (drawE l n m)) rfl (eval_of g14) w) (hK _ w (Below.refl _ w) (says_exact 80 rfl (by simp)))
    · intro a w K hR hs hK
      have g16 : a.tmps[16]? = some (.int .i64 (drawE l n m)) := unfed hs 16 (by kernel_rfl) (by kernel_rfl) rfl
      have g79 := fedX hs 79 (.bool true) (by kernel_rfl) (by kernel_rfl) rfl
      exact op_value rfl (wanted_yes rfl rfl g79) (run_move' (v := .int .i64 (drawE l n m)) rfl (eval_of g16) w) (hK _ w (Below.refl _ w) (says_exact 81 rfl (by simp)))
    · intro a w K hR hs hK
      have g80 := fedX hs 80 (.int .i64 (drawE l n m)) (by kernel_rfl) (by kernel_rfl) rfl
      have g81 := fedX hs 81 (.int .i64 (drawE l n m)) (by kernel_rfl) (by kernel_rfl) rfl
      have g79 := fedX hs 79 (.bool true) (by kernel_rfl) (by kernel_rfl) rfl
      exact op_value (v := .bool true) rfl (wanted_yes rfl rfl g79) (by simp [go_sem, g80, g81]) (hK _ w (Below.refl _ w) (says_exact 82 rfl (by simp)))
    · intro a w K hR hs hK
      have g79 := fedX hs 79 (.bool true) (by kernel_rfl) (by kernel_rfl) rfl
      have g82 := fedX hs 82 (.bool true) (by kernel_rfl) (by kernel_rfl) rfl
      exact op_value (v := .bool true) rfl (wanted_none rfl) (by simp [go_sem, g79, g82]) (hK _ w (Below.refl _ w) (says_exact 83 rfl (by simp)))
    · intro a w K hR hs hK
      have g83 := fedX hs 83 (.bool true) (by kernel_rfl) (by kernel_rfl) rfl
      exact op_value rfl (wanted_none rfl) (run_move' (v := .bool true) rfl (eval_of g83) w) (hK _ w (Below.refl _ w) (says_exact 84 rfl (by simp)))
    · intro a w K hR hs hK
      have g13 : a.tmps[13]? = some (v7) := unfed hs 13 (by kernel_rfl) (by kernel_rfl) rfl
      have g84 := fedX hs 84 (.bool true) (by kernel_rfl) (by kernel_rfl) rfl
      exact op_value rfl (wanted_yes rfl rfl g84) (run_move' (v := v7) rfl (eval_of g13) w) (hK _ w (Below.refl _ w) (says_exact 85 rfl (by simp)))
    · intro a w K hR hs hK
      have g15 : a.tmps[15]? = some (v8) := unfed hs 15 (by kernel_rfl) (by kernel_rfl) rfl
      have g84 := fedX hs 84 (.bool true) (by kernel_rfl) (by kernel_rfl) rfl
      exact op_value rfl (wanted_yes rfl rfl g84) (run_move' (v := v8) rfl (eval_of g15) w) (hK _ w (Below.refl _ w) (says_exact 86 rfl (by simp)))
    · intro a w K hR hs hK
      have g85 := fedX hs 85 (v7) (by kernel_rfl) (by kernel_rfl) rfl
      have g86 := fedX hs 86 (v8) (by kernel_rfl) (by kernel_rfl) rfl
      have g84 := fedX hs 84 (.bool true) (by kernel_rfl) (by kernel_rfl) rfl
      refine op_call (g := 17) (args := #[v7, v8]) rfl (wanted_yes rfl rfl g84) (by simp [go_sem, g85, g86, g84]) ?_
      refine (same_any v7 v8 (drawB l n m) w.heap.size w (HL.out.on hR) (HM.out.on hR) (by have := drawB_length l n m; omega)).mono ?_
      rintro e w9 ⟨rfl, k9, rfl⟩
      exact ⟨_, rfl, hK _ _ (below_of_drewN w k9 _) (says_exact 87 rfl (by simp))⟩
    · intro a w K hR hs hK
      have g84 := fedX hs 84 (.bool true) (by kernel_rfl) (by kernel_rfl) rfl
      have g87 := fedX hs 87 (.bool true) (by kernel_rfl) (by kernel_rfl) rfl
      exact op_value (v := .bool true) rfl (wanted_none rfl) (by simp [go_sem, g84, g87]) (hK _ w (Below.refl _ w) (says_exact 88 rfl (by simp)))
    · intro a w K hR hs hK
      have g88 := fedX hs 88 (.bool true) (by kernel_rfl) (by kernel_rfl) rfl
      exact op_value rfl (wanted_none rfl) (run_assign' (v := .bool true) rfl (eval_of g88) w) (hK _ w (Below.refl _ w) (says_exact 10 rfl (by simp)))
  · intro f w hR hf
    have f51 : f 51 = .slice A l.length c := (hf 51 (by simp)).1 _ rfl
    have f52 : f 52 = .int .i64 i := (hf 52 (by simp)).1 _ rfl
    have f53 : f 53 = .bool (hasB l i) := (hf 53 (by simp)).1 _ rfl
    have f54 : f 54 = .string ⟨l.toArray⟩ := (hf 54 (by simp)).1 _ rfl
    have f55 : f 55 = .int .i64 i := (hf 55 (by simp)).1 _ rfl
    have f56 : f 56 = .bool (hasB l i) := (hf 56 (by simp)).1 _ rfl
    have f57 : f 57 = .bool true := (hf 57 (by simp)).1 _ rfl
    have f58 : f 58 = .bool true := (hf 58 (by simp)).1 _ rfl
    have f59 : f 59 = .slice A l.length c := (hf 59 (by simp)).1 _ rfl
    have f60 : f 60 = .int .i64 i := (hf 60 (by simp)).1 _ rfl
    have f61 : f 61 = .bool t := (hf 61 (by simp)).1 _ rfl
    have f62 : Rd w w.heap.size (f 62) (bv (withB l i t)) := (hf 62 (by simp)).2.1 rfl
    have f63 : f 63 = .string ⟨(withB l i t).toArray⟩ := (hf 63 (by simp)).1 _ rfl
    have f64 : f 64 = .string ⟨l.toArray⟩ := (hf 64 (by simp)).1 _ rfl
    have f65 : f 65 = .int .i64 i := (hf 65 (by simp)).1 _ rfl
    have f66 : f 66 = .bool t := (hf 66 (by simp)).1 _ rfl
    have f67 : f 67 = .string ⟨(withB l i t).toArray⟩ := (hf 67 (by simp)).1 _ rfl
    have f68 : f 68 = .bool true := (hf 68 (by simp)).1 _ rfl
    have f69 : f 69 = .bool true := (hf 69 (by simp)).1 _ rfl
    have f70 : f 70 = .bool true := (hf 70 (by simp)).1 _ rfl
    have f71 : f 71 = .slice A l.length c := (hf 71 (by simp)).1 _ rfl
    have f72 : f 72 = .int .i64 n := (hf 72 (by simp)).1 _ rfl
    have f73 : f 73 = .int .i64 (countB l n : Int) := (hf 73 (by simp)).1 _ rfl
    have f74 : f 74 = .string ⟨l.toArray⟩ := (hf 74 (by simp)).1 _ rfl
    have f75 : f 75 = .int .i64 n := (hf 75 (by simp)).1 _ rfl
    have f76 : f 76 = .int .i64 (countB l n : Int) := (hf 76 (by simp)).1 _ rfl
    have f77 : f 77 = .bool true := (hf 77 (by simp)).1 _ rfl
    have f78 : f 78 = .bool true := (hf 78 (by simp)).1 _ rfl
    have f79 : f 79 = .bool true := (hf 79 (by simp)).1 _ rfl
    have f80 : f 80 = .int .i64 (drawE l n m) := (hf 80 (by simp)).1 _ rfl
    have f81 : f 81 = .int .i64 (drawE l n m) := (hf 81 (by simp)).1 _ rfl
    have f82 : f 82 = .bool true := (hf 82 (by simp)).1 _ rfl
    have f83 : f 83 = .bool true := (hf 83 (by simp)).1 _ rfl
    have f84 : f 84 = .bool true := (hf 84 (by simp)).1 _ rfl
    have f85 : f 85 = v7 := (hf 85 (by simp)).1 _ rfl
    have f86 : f 86 = v8 := (hf 86 (by simp)).1 _ rfl
    have f87 : f 87 = .bool true := (hf 87 (by simp)).1 _ rfl
    have f88 : f 88 = .bool true := (hf 88 (by simp)).1 _ rfl
    have f10 : f 10 = .bool true := (hf 10 (by simp)).1 _ rfl
    simp only [putAll, List.foldl_cons, List.foldl_nil, List.setIfInBounds_toArray, List.set_cons_succ, List.set_cons_zero, f51, f52, f53, f54, f55, f56, f57, f58, f59, f60, f61, f63, f64, f65, f66, f67, f68, f69, f70, f71, f72, f73, f74, f75, f76, f77, f78, f79, f80, f81, f82, f83, f84, f85, f86, f87, f88, f10]
    clear f51 f52 f53 f54 f55 f56 f57 f58 f59 f60 f61 f63 f64 f65 f66 f67 f68 f69 f70 f71 f72 f73 f74 f75 f76 f77 f78 f79 f80 f81 f82 f83 f84 f85 f86 f87 f88 f10 hf
    go_wp2
    go_ret
    exact ⟨rfl, bthen HBX.out ((below_of_drewN w3 1 _).trans hR)⟩

theorem law_any (v : Value) (l : List UInt8) (i : Int) (t : Bool) (n m : Int) (w : World) (hr : Rd w w.heap.size v (bv l)) (i0 : -9223372036854775808 ≤ i) (_ : i ≤ 9223372036854775807) (_ : -9223372036854775808 ≤ n) (_ : n ≤ 9223372036854775807) (_ : -9223372036854775808 ≤ m) (_ : m ≤ 9223372036854775807) :
    Calls Try.prog 3 #[v, .int .i64 i, .bool t, .int .i64 n, .int .i64 m] w (Yes w) := by
  by_cases h0 : (60 : Int) < (l.length : Int)
  · exact out0 v l i t n m w hr h0
  by_cases h1 : (2000 : Int) < i
  · exact out1 v l i t n m w hr h0 h1
  by_cases h2 : (2000 : Int) < n
  · exact out2 v l i t n m w hr h0 h1 h2
  by_cases h3 : (2000 : Int) < m
  · exact out3 v l i t n m w hr h0 h1 h2 h3
  exact within v l i t n m w hr h0 h1 h2 h3 i0

end Go.Proofs.Ytfijihjbjifhdaa.bitsTells
