/- The document's disk and the program's are alike. Condition: at most 2^20 writes wait. -/
import Derived.Test.YtcbdlggjpedffaaRefBox
namespace Go.Proofs.Ytcbdlggjpedffaa
open Go.RowKit
set_option linter.unusedSimpArgs false

set_option maxRecDepth 100000 in
set_option maxHeartbeats 2000000 in
theorem alike_any {F : Nat → Prop} {g M : Nat} {d : DK} (B : Nat) (W : World) (v : Value) (hd : DiskHas F W g d M) (h : RefB B W v d) (hW : d.waits.length ≤ 1048576) (hL : d.L.length ≤ 1048576) :
    Calls Try.prog 26 #[.pointer (some ⟨g, 0, none⟩), v] W fun e w' => e = .returned (.bool true) ∧ Below W.heap.size W w' := by
  have hr := h
  obtain ⟨Lv, Wv, hv, h1, h2⟩ := h
  obtain ⟨A1, c1, rfl⟩ := ownsRow_form h1
  obtain ⟨A2, c2, rfl⟩ := ownsRow_form h2
  subst hv
  have hb0 : Below W.heap.size W (W.alloc (.cells #[.slice A1 d.L.length c1, .slice A2 d.waits.length c2, .int .i64 d.left, .bool d.down] 46)) := (Below.refl _ _).alloc (Nat.le_refl _) _
  have HB := Lib.hid hb0
  have HR := Lib.hid (hr.below hb0)
  have HD := Lib.hid (hd.below hb0)
  have HX := Lib.hid (BoxD.new W #[.slice A1 d.L.length c1, .slice A2 d.waits.length c2, .int .i64 d.left, .bool d.down])
  have HW := Lib.hid hW
  clear h1 h2 hb0 hr hd
  go_enter Try.func26, Try.ntmps26
  go_wp2
  generalize (W.alloc (.cells #[.slice A1 d.L.length c1, .slice A2 d.waits.length c2, .int .i64 d.left, .bool d.down] 46)) = w0 at *
  generalize hnb : W.heap.size = nb at *
  have HWN := Lib.hid hnb
  clear hnb
  refine region_any (by kernel_rfl) [10, 11, 12, 13, 14, 15, 16, 17, 18, 19, 20, 21, 22, 23, 24, 25, 26, 27, 28, 29, 30] rfl (by simp) (by kernel_rfl) (fun x y => Below x.heap.size x y) (Says (fun q_ => match q_ with | 10 => some (.pointer (some ⟨g, 0, none⟩)) | 11 => some (.int .i64 (d.L.length : Int)) | 12 => some (.pointer (some ⟨nb, 0, none⟩)) | 13 => some (.slice A1 d.L.length c1) | 14 => some (.int .i64 (d.L.length : Int)) | 15 => some (.bool false) | 16 => some (.bool false) | 17 => some (.pointer (some ⟨g, 0, none⟩)) | 18 => some (.bool d.down) | 19 => some (.pointer (some ⟨nb, 3, none⟩)) | 20 => some (.bool d.down) | 21 => some (.bool false) | 22 => some (.bool false) | 23 => some (.bool false) | 24 => some (.pointer (some ⟨g, 0, none⟩)) | 25 => some (.int .i64 (d.waits.length : Int)) | 26 => some (.pointer (some ⟨nb, 1, none⟩)) | 27 => some (.slice A2 d.waits.length c2) | 28 => some (.int .i64 (d.waits.length : Int)) | 29 => some (.bool false) | 30 => some (.bool false) | _ => none) (fun q_ v w => True)) (fun x => Below.refl _ x) ?_ (fun _ _ _ h k => bthen h k) (hops_of_all rfl ?_) ?_
  · rintro q_ v w w' hR ⟨h1, h2⟩
    skip
    exact ⟨h1, trivial⟩
  · refine ⟨?_, ?_, ?_, ?_, ?_, ?_, ?_, ?_, ?_, ?_, ?_, ?_, ?_, ?_, ?_, ?_, ?_, ?_, ?_, ?_, ?_, trivial⟩
    · intro a w K hR hs hK
      have g0 : a.tmps[0]? = some (.pointer (some ⟨g, 0, none⟩)) := unfed hs 0 (by kernel_rfl) (by kernel_rfl) rfl
      exact op_value rfl (wanted_none rfl) (run_move' (v := .pointer (some ⟨g, 0, none⟩)) rfl (eval_of g0) w) (hK _ w (Below.refl _ w) (says_exact 10 rfl (by simp)))
    · intro a w K hR hs hK
      have g10 := fedX hs 10 (.pointer (some ⟨g, 0, none⟩)) (by kernel_rfl) (by kernel_rfl) rfl
      refine op_call (g := 16) (args := #[.pointer (some ⟨g, 0, none⟩)]) rfl (wanted_none rfl) (by simp [go_sem, g10]) ?_
      have hA := (below_of_drewN w0 1 w0.heap.size).trans hR
      refine (len_any (HD.out.below hA)).mono ?_
      rintro e w9 ⟨rfl, rfl⟩
      exact ⟨_, rfl, hK _ w9 (Below.refl _ _) (says_exact 11 rfl (by simp))⟩
    · intro a w K hR hs hK
      have g3 : a.tmps[3]? = some (.pointer (some ⟨nb, 0, none⟩)) := unfed hs 3 (by kernel_rfl) (by kernel_rfl) rfl
      exact op_value (v := .pointer (some ⟨nb, 0, none⟩)) rfl (wanted_none rfl) (by simp [go_sem, g3]) (hK _ w (Below.refl _ w) (says_exact 12 rfl (by simp)))
    · intro a w K hR hs hK
      have g12 := fedX hs 12 (.pointer (some ⟨nb, 0, none⟩)) (by kernel_rfl) (by kernel_rfl) rfl
      have hA := (below_of_drewN w0 1 w0.heap.size).trans hR
      have hc := (hA.cell (p := ⟨nb, 0, none⟩) HX.out.lt).trans (HX.out.cell 0)
      exact op_value (v := .slice A1 d.L.length c1) rfl (wanted_none rfl) (by simp [go_sem, g12, hc]) (hK _ w (Below.refl _ w) (says_exact 13 rfl (by simp)))
    · intro a w K hR hs hK
      have g13 := fedX hs 13 (.slice A1 d.L.length c1) (by kernel_rfl) (by kernel_rfl) rfl
      exact op_value (v := .int .i64 (d.L.length : Int)) rfl (wanted_none rfl) (by simp [go_sem, g13]) (hK _ w (Below.refl _ w) (says_exact 14 rfl (by simp)))
    · intro a w K hR hs hK
      have g11 := fedX hs 11 (.int .i64 (d.L.length : Int)) (by kernel_rfl) (by kernel_rfl) rfl
      have g14 := fedX hs 14 (.int .i64 (d.L.length : Int)) (by kernel_rfl) (by kernel_rfl) rfl
      exact op_value (v := .bool false) rfl (wanted_none rfl) (by simp [go_sem, g11, g14]) (hK _ w (Below.refl _ w) (says_exact 15 rfl (by simp)))
    · intro a w K hR hs hK
      have g15 := fedX hs 15 (.bool false) (by kernel_rfl) (by kernel_rfl) rfl
      exact op_value rfl (wanted_none rfl) (run_move' (v := .bool false) rfl (eval_of g15) w) (hK _ w (Below.refl _ w) (says_exact 16 rfl (by simp)))
    · intro a w K hR hs hK
      have g0 : a.tmps[0]? = some (.pointer (some ⟨g, 0, none⟩)) := unfed hs 0 (by kernel_rfl) (by kernel_rfl) rfl
      have g16 := fedX hs 16 (.bool false) (by kernel_rfl) (by kernel_rfl) rfl
      exact op_value rfl (wanted_yes rfl rfl g16) (run_move' (v := .pointer (some ⟨g, 0, none⟩)) rfl (eval_of g0) w) (hK _ w (Below.refl _ w) (says_exact 17 rfl (by simp)))
    · intro a w K hR hs hK
      have g17 := fedX hs 17 (.pointer (some ⟨g, 0, none⟩)) (by kernel_rfl) (by kernel_rfl) rfl
      have g16 := fedX hs 16 (.bool false) (by kernel_rfl) (by kernel_rfl) rfl
      refine op_call (g := 20) (args := #[.pointer (some ⟨g, 0, none⟩)]) rfl (wanted_yes rfl rfl g16) (by simp [go_sem, g17, g16]) ?_
      have hA := (below_of_drewN w0 1 w0.heap.size).trans hR
      refine (down_any (HD.out.below hA)).mono ?_
      rintro e w9 ⟨rfl, rfl⟩
      exact ⟨_, rfl, hK _ w9 (Below.refl _ _) (says_exact 18 rfl (by simp))⟩
    · intro a w K hR hs hK
      have g3 : a.tmps[3]? = some (.pointer (some ⟨nb, 0, none⟩)) := unfed hs 3 (by kernel_rfl) (by kernel_rfl) rfl
      have g16 := fedX hs 16 (.bool false) (by kernel_rfl) (by kernel_rfl) rfl
      exact op_value (v := .pointer (some ⟨nb, 3, none⟩)) rfl (wanted_yes rfl rfl g16) (by simp [go_sem, g3]) (hK _ w (Below.refl _ w) (says_exact 19 rfl (by simp)))
    · intro a w K hR hs hK
      have g19 := fedX hs 19 (.pointer (some ⟨nb, 3, none⟩)) (by kernel_rfl) (by kernel_rfl) rfl
      have g16 := fedX hs 16 (.bool false) (by kernel_rfl) (by kernel_rfl) rfl
      have hA := (below_of_drewN w0 1 w0.heap.size).trans hR
      have hc := (hA.cell (p := ⟨nb, 3, none⟩) HX.out.lt).trans (HX.out.cell 3)
      exact op_value (v := .bool d.down) rfl (wanted_yes rfl rfl g16) (by simp [go_sem, g19, hc]) (hK _ w (Below.refl _ w) (says_exact 20 rfl (by simp)))
    · intro a w K hR hs hK
      have g18 := fedX hs 18 (.bool d.down) (by kernel_rfl) (by kernel_rfl) rfl
      have g20 := fedX hs 20 (.bool d.down) (by kernel_rfl) (by kernel_rfl) rfl
      have g16 := fedX hs 16 (.bool false) (by kernel_rfl) (by kernel_rfl) rfl
      exact op_value (v := .bool false) rfl (wanted_yes rfl rfl g16) (by simp [go_sem, g18, g20]) (hK _ w (Below.refl _ w) (says_exact 21 rfl (by simp)))
    · intro a w K hR hs hK
      have g16 := fedX hs 16 (.bool false) (by kernel_rfl) (by kernel_rfl) rfl
      have g21 := fedX hs 21 (.bool false) (by kernel_rfl) (by kernel_rfl) rfl
      exact op_value (v := .bool false) rfl (wanted_none rfl) (by simp [go_sem, g16, g21]) (hK _ w (Below.refl _ w) (says_exact 22 rfl (by simp)))
    · intro a w K hR hs hK
      have g22 := fedX hs 22 (.bool false) (by kernel_rfl) (by kernel_rfl) rfl
      exact op_value rfl (wanted_none rfl) (run_move' (v := .bool false) rfl (eval_of g22) w) (hK _ w (Below.refl _ w) (says_exact 23 rfl (by simp)))
    · intro a w K hR hs hK
      have g0 : a.tmps[0]? = some (.pointer (some ⟨g, 0, none⟩)) := unfed hs 0 (by kernel_rfl) (by kernel_rfl) rfl
      have g23 := fedX hs 23 (.bool false) (by kernel_rfl) (by kernel_rfl) rfl
      exact op_value rfl (wanted_yes rfl rfl g23) (run_move' (v := .pointer (some ⟨g, 0, none⟩)) rfl (eval_of g0) w) (hK _ w (Below.refl _ w) (says_exact 24 rfl (by simp)))
    · intro a w K hR hs hK
      have g24 := fedX hs 24 (.pointer (some ⟨g, 0, none⟩)) (by kernel_rfl) (by kernel_rfl) rfl
      have g23 := fedX hs 23 (.bool false) (by kernel_rfl) (by kernel_rfl) rfl
      refine op_call (g := 17) (args := #[.pointer (some ⟨g, 0, none⟩)]) rfl (wanted_yes rfl rfl g23) (by simp [go_sem, g24, g23]) ?_
      have hA := (below_of_drewN w0 1 w0.heap.size).trans hR
      refine (waits_any (HD.out.below hA)).mono ?_
      rintro e w9 ⟨rfl, rfl⟩
      exact ⟨_, rfl, hK _ w9 (Below.refl _ _) (says_exact 25 rfl (by simp))⟩
    · intro a w K hR hs hK
      have g3 : a.tmps[3]? = some (.pointer (some ⟨nb, 0, none⟩)) := unfed hs 3 (by kernel_rfl) (by kernel_rfl) rfl
      have g23 := fedX hs 23 (.bool false) (by kernel_rfl) (by kernel_rfl) rfl
      exact op_value (v := .pointer (some ⟨nb, 1, none⟩)) rfl (wanted_yes rfl rfl g23) (by simp [go_sem, g3]) (hK _ w (Below.refl _ w) (says_exact 26 rfl (by simp)))
    · intro a w K hR hs hK
      have g26 := fedX hs 26 (.pointer (some ⟨nb, 1, none⟩)) (by kernel_rfl) (by kernel_rfl) rfl
      have g23 := fedX hs 23 (.bool false) (by kernel_rfl) (by kernel_rfl) rfl
      have hA := (below_of_drewN w0 1 w0.heap.size).trans hR
      have hc := (hA.cell (p := ⟨nb, 1, none⟩) HX.out.lt).trans (HX.out.cell 1)
      exact op_value (v := .slice A2 d.waits.length c2) rfl (wanted_yes rfl rfl g23) (by simp [go_sem, g26, hc]) (hK _ w (Below.refl _ w) (says_exact 27 rfl (by simp)))
    · intro a w K hR hs hK
      have g27 := fedX hs 27 (.slice A2 d.waits.length c2) (by kernel_rfl) (by kernel_rfl) rfl
      have g23 := fedX hs 23 (.bool false) (by kernel_rfl) (by kernel_rfl) rfl
      exact op_value (v := .int .i64 (d.waits.length : Int)) rfl (wanted_yes rfl rfl g23) (by simp [go_sem, g27]) (hK _ w (Below.refl _ w) (says_exact 28 rfl (by simp)))
    · intro a w K hR hs hK
      have g25 := fedX hs 25 (.int .i64 (d.waits.length : Int)) (by kernel_rfl) (by kernel_rfl) rfl
      have g28 := fedX hs 28 (.int .i64 (d.waits.length : Int)) (by kernel_rfl) (by kernel_rfl) rfl
      have g23 := fedX hs 23 (.bool false) (by kernel_rfl) (by kernel_rfl) rfl
      exact op_value (v := .bool false) rfl (wanted_yes rfl rfl g23) (by simp [go_sem, g25, g28]) (hK _ w (Below.refl _ w) (says_exact 29 rfl (by simp)))
    · intro a w K hR hs hK
      have g23 := fedX hs 23 (.bool false) (by kernel_rfl) (by kernel_rfl) rfl
      have g29 := fedX hs 29 (.bool false) (by kernel_rfl) (by kernel_rfl) rfl
      exact op_value (v := .bool false) rfl (wanted_none rfl) (by simp [go_sem, g23, g29]) (hK _ w (Below.refl _ w) (says_exact 30 rfl (by simp)))
  · intro f w hR hf
    have f10 : f 10 = .pointer (some ⟨g, 0, none⟩) := (hf 10 (by simp)).1 _ rfl
    have f11 : f 11 = .int .i64 (d.L.length : Int) := (hf 11 (by simp)).1 _ rfl
    have f12 : f 12 = .pointer (some ⟨nb, 0, none⟩) := (hf 12 (by simp)).1 _ rfl
    have f13 : f 13 = .slice A1 d.L.length c1 := (hf 13 (by simp)).1 _ rfl
    have f14 : f 14 = .int .i64 (d.L.length : Int) := (hf 14 (by simp)).1 _ rfl
    have f15 : f 15 = .bool false := (hf 15 (by simp)).1 _ rfl
    have f16 : f 16 = .bool false := (hf 16 (by simp)).1 _ rfl
    have f17 : f 17 = .pointer (some ⟨g, 0, none⟩) := (hf 17 (by simp)).1 _ rfl
    have f18 : f 18 = .bool d.down := (hf 18 (by simp)).1 _ rfl
    have f19 : f 19 = .pointer (some ⟨nb, 3, none⟩) := (hf 19 (by simp)).1 _ rfl
    have f20 : f 20 = .bool d.down := (hf 20 (by simp)).1 _ rfl
    have f21 : f 21 = .bool false := (hf 21 (by simp)).1 _ rfl
    have f22 : f 22 = .bool false := (hf 22 (by simp)).1 _ rfl
    have f23 : f 23 = .bool false := (hf 23 (by simp)).1 _ rfl
    have f24 : f 24 = .pointer (some ⟨g, 0, none⟩) := (hf 24 (by simp)).1 _ rfl
    have f25 : f 25 = .int .i64 (d.waits.length : Int) := (hf 25 (by simp)).1 _ rfl
    have f26 : f 26 = .pointer (some ⟨nb, 1, none⟩) := (hf 26 (by simp)).1 _ rfl
    have f27 : f 27 = .slice A2 d.waits.length c2 := (hf 27 (by simp)).1 _ rfl
    have f28 : f 28 = .int .i64 (d.waits.length : Int) := (hf 28 (by simp)).1 _ rfl
    have f29 : f 29 = .bool false := (hf 29 (by simp)).1 _ rfl
    have f30 : f 30 = .bool false := (hf 30 (by simp)).1 _ rfl
    simp only [putAll, List.foldl_cons, List.foldl_nil, List.setIfInBounds_toArray, List.set_cons_succ, List.set_cons_zero, f10, f11, f12, f13, f14, f15, f16, f17, f18, f19, f20, f21, f22, f23, f24, f25, f26, f27, f28, f29, f30]
    clear f10 f11 f12 f13 f14 f15 f16 f17 f18 f19 f20 f21 f22 f23 f24 f25 f26 f27 f28 f29 f30 hf
    have hbz := (below_of_drewN w0 1 w0.heap.size).trans hR
    have HXZ := Lib.hid (HX.out.below hbz HX.out.lt)
    have HDZ := Lib.hid (HD.out.below hbz)
    have HRZ := Lib.hid (HR.out.below hbz)
    have HBZ := Lib.hid (HB.out.trans (hbz.mono (Nat.le_of_lt HX.out.lt)))
    clear hbz
    go_wp2
    go_loopw [5] (fun t wr => ∃ k : Nat, k ≤ d.L.length + 2 ∧ t = .int .i64 ((k : Int) - 1) ∧ BoxD wr nb #[.slice A1 d.L.length c1, .slice A2 d.waits.length c2, .int .i64 d.left, .bool d.down] ∧ DiskHas F wr g d M ∧ RefB B wr (.agg #[.slice A1 d.L.length c1, .slice A2 d.waits.length c2, .int .i64 d.left, .bool d.down]) d ∧ Below nb W wr) (fun t _ => d.L.length + 2 - (intOf t + 1).toNat)
    case atStart => exact ⟨0, Nat.zero_le _, rfl, HXZ.out, HDZ.out, HRZ.out, HBZ.out⟩
    case round =>
      obtain ⟨k, hk, rfl, hx, hd, hr, hb⟩ := hrel
      have HXK := Lib.hid hx
      have HDK := Lib.hid hd
      have HRK := Lib.hid hr
      have HBK := Lib.hid hb
      obtain ⟨q0, q1, q2, q3⟩ := hx.four
      clear hx hd hr hb HXZ HDZ HRZ HBZ
      obtain ⟨i, hi⟩ : ∃ i : Int, i = (k : Int) - 1 := ⟨_, rfl⟩
      rw [← hi]
      have HI := Lib.hid hi
      have hi1 : -1 ≤ i ∧ i ≤ (d.L.length : Int) + 1 := by omega
      clear hi
      by_cases hle : i ≤ (d.L.length : Int)
      · by_cases he : upE d i = 0
        · obtain ⟨hdn, i0', i1'⟩ := upE_in he
          clear hdn
          obtain ⟨I, rfl⟩ := Int.eq_ofNat_of_zero_le i0'
          go_wp2_with fail
          clear q0
          refine (read_in HDK.out I he).mono ?_
          rintro e w2 ⟨v2, rfl, ho2, hb2⟩
          obtain ⟨q0, q1, q2, q3⟩ := (HXK.out.below hb2 HXK.out.lt).four
          have HX2 := Lib.hid (HXK.out.below hb2 HXK.out.lt)
          have HD2 := Lib.hid (HDK.out.below hb2)
          have HR2 := Lib.hid (HRK.out.below hb2)
          have HB2 := Lib.hid (HBK.out.trans (hb2.mono (Nat.le_of_lt HXK.out.lt)))
          have HV2 := Lib.hid (Rd.of_own ho2)
          have HE := Lib.hid he
          clear hb2 ho2 he
          go_wp2_with fail
          clear q0 q1 q2 q3
          refine (refread_any B w2 _ d (I : Int) HR2.out HW.out).mono ?_
          rintro e w3 ⟨rfl, hb3⟩
          rw [show strOr d (I : Int) = readD d I by unfold strOr; rw [if_pos HE.out]; rfl, HE.out]
          have HX3 := Lib.hid (HX2.out.below hb3 HX2.out.lt)
          have HD3 := Lib.hid (HD2.out.below hb3)
          have HR3 := Lib.hid (HR2.out.below hb3)
          have HB3 := Lib.hid (HB2.out.trans (hb3.mono (Nat.le_of_lt HX2.out.lt)))
          have hcv := conv_rd (HV2.out.on hb3)
          clear hb3
          go_wp2
          clear hcv
          go_roundw
          case rel => exact ⟨k + 1, by have := HI.out; omega, by have := HI.out; first | (congr 1; omega) | go_num, HX3.out, HD3.out, HR3.out, HB3.out⟩
          case measure => have := HI.out; simp [intOf]; omega
        · have HE := Lib.hid he
          go_wp2_with fail
          clear q0
          refine (read_err HDK.out i he).mono ?_
          rintro e w2 ⟨rfl, rfl⟩
          clear he
          obtain ⟨q0, q1, q2, q3⟩ := HXK.out.four
          go_wp2_with fail
          clear q0 q1 q2 q3
          refine (refread_any B _ _ d i HRK.out HW.out).mono ?_
          rintro e w3 ⟨rfl, hb3⟩
          rw [show strOr d i = [] by unfold strOr; rw [if_neg HE.out]]
          have HX3 := Lib.hid (HXK.out.below hb3 HXK.out.lt)
          have HD3 := Lib.hid (HDK.out.below hb3)
          have HR3 := Lib.hid (HRK.out.below hb3)
          have HB3 := Lib.hid (HBK.out.trans (hb3.mono (Nat.le_of_lt HXK.out.lt)))
          have hcv := conv_rd (l := []) (Rd.nil w3 0)
          clear hb3
          go_wp2
          clear hcv
          go_roundw
          case rel => exact ⟨k + 1, by have := HI.out; omega, by have := HI.out; first | (congr 1; omega) | go_num, HX3.out, HD3.out, HR3.out, HB3.out⟩
          case measure => have := HI.out; simp [intOf]; omega
      · go_wp2
        go_ret
        exact ⟨rfl, by rw [HWN.out]; exact HBK.out⟩

end Go.Proofs.Ytcbdlggjpedffaa
