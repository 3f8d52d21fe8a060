/- The walk of the statement BitsDraws: for every list of bytes and every two numbers it is true, and what was there before stands. -/
import Derived.Test.YtfijihjbjifhdaaAwake
import Derived.Test.YtfijihjbjifhdaaConv
import Derived.Test.YtfijihjbjifhdaaAny
import Derived.Test.YtfijihjbjifhdaaDrawsP
namespace Go.Proofs.Ytfijihjbjifhdaa.bitsDraws
open Go.RowKit
set_option linter.unusedSimpArgs false

theorem hasB_nat (l : List UInt8) (k : Nat) : hasB l (k : Int) = bitB l k := by simp [hasB]

theorem long (v : Value) (l : List UInt8) (n m : Int) (w : World) (hr : Rd w w.heap.size v (bv l)) (hl : 40 < l.length) :
    Calls Try.prog 4 #[v, .int .u8 n, .int .u8 m] w (Yes w) := by
  obtain ⟨A, c, rfl, _⟩ := hr.form
  rw [bv_length] at *
  clear hr
  have h1 : (40 : Int) < (l.length : Int) := by omega
  go_enter Try.func4, Try.ntmps4
  go_wp2_with fail
  refine (awake_any w).mono ?_
  rintro e w1 ⟨rfl, hb1⟩
  have HB1 := Lib.hid hb1
  clear hb1
  go_wp2
  go_ret
  exact ⟨rfl, HB1.out⟩

set_option maxRecDepth 100000 in
set_option maxHeartbeats 1000000 in
theorem few (v : Value) (l : List UInt8) (n m : Nat) (w : World) (hr : Rd w w.heap.size v (bv l)) (hl : l.length ≤ 40) (hn : n ≤ 255) (hm : m ≤ 255) (hE : drawE l n m = 66) (hlt : ((freeB l n).length : Int) < (m : Int)) :
    Calls Try.prog 4 #[v, .int .u8 n, .int .u8 m] w (Yes w) := by
  have HR := Lib.hid hr
  obtain ⟨A, c, rfl, _, _, _⟩ := hr.form
  rw [bv_length] at *
  clear hr
  have h1 : ¬ (40 : Int) < (l.length : Int) := by omega
  have hd1 : decide ((40 : Int) < (l.length : Int)) = false := by simpa using h1
  have hcf := count_free l n
  have h2 : (n : Int) - (countB l n : Int) < (m : Int) := by omega
  have h3 : decide ((n : Int) - (countB l n : Int) < (m : Int)) = true := by simpa using h2
  have hw1 : IntKind.i64.wrap ((n : Int) - (countB l n : Int)) = (n : Int) - (countB l n : Int) := IntWalk.i64_in _ (by omega)
  have HE := Lib.hid hE
  clear hE hlt hcf
  go_enter Try.func4, Try.ntmps4
  go_wp2_with fail
  refine (awake_any w).mono ?_
  rintro e w1 ⟨rfl, hb1⟩
  have HB1 := Lib.hid hb1
  have HR1 := Lib.hid (HR.out.on hb1)
  clear hb1
  go_wp2_with fail
  refine (draw_any _ l (n : Int) (m : Int) (by omega) (by omega) _ HR1.out).mono ?_
  rintro e w2 ⟨v2, rfl, hr2, hb2⟩
  rw [HE.out]
  have HB2 := Lib.hid hb2
  have HRL := Lib.hid (HR1.out.on hb2)
  clear hr2 hb2
  go_wp2_with fail
  refine (count_any _ l (n : Int) _ HRL.out (by omega)).mono ?_
  rintro e w4 ⟨rfl, k4, rfl⟩
  go_wp2
  go_ret
  exact ⟨rfl, below_drewN (bthen HB1.out HB2.out) _⟩

set_option maxRecDepth 100000 in
set_option maxHeartbeats 2000000 in
theorem full (v : Value) (l : List UInt8) (n m : Nat) (w : World) (hr : Rd w w.heap.size v (bv l)) (hl : l.length ≤ 40) (hn : n ≤ 255) (hm : m ≤ 255) (hE : drawE l n m = 0) (q : List Nat) (hq : q = (freeN l n).take m) (hqm : q.length = m) (hD : drawB l n m = q.map fun k : Nat => (k : Int)) :
    Calls Try.prog 4 #[v, .int .u8 n, .int .u8 m] w (Yes w) := by
  have HR := Lib.hid hr
  obtain ⟨A, c, rfl, _, _, _⟩ := hr.form
  rw [bv_length] at *
  clear hr
  have h1 : ¬ (40 : Int) < (l.length : Int) := by omega
  have hd1 : decide ((40 : Int) < (l.length : Int)) = false := by simpa using h1
  have HE := Lib.hid hE
  have HD := Lib.hid hD
  have HQ := Lib.hid hq
  have HQM := Lib.hid hqm
  have hql : q.length ≤ 255 := by omega
  clear hE hD hq hqm
  go_enter Try.func4, Try.ntmps4
  go_wp2_with fail
  refine (awake_any w).mono ?_
  rintro e w1 ⟨rfl, hb1⟩
  have HB1 := Lib.hid hb1
  have HR1 := Lib.hid (HR.out.on hb1)
  clear hb1
  go_wp2_with fail
  refine (draw_any _ l (n : Int) (m : Int) (by omega) (by omega) _ HR1.out).mono ?_
  rintro e w2 ⟨v2, rfl, hr2, hb2⟩
  rw [HE.out]
  rw [HD.out] at hr2
  have HR2 := Lib.hid hr2
  have HB2 := Lib.hid hb2
  have HRL2 := Lib.hid (HR1.out.on hb2)
  obtain ⟨A2, c2, hv2, _, _, _⟩ := hr2.form
  rw [iv_length, List.length_map] at hv2
  subst hv2
  clear hr2 hb2
  go_wp2_with fail
  refine (with_any _ l (-1) true _ HRL2.out (by omega) (by omega) (by omega)).mono ?_
  rintro e w3 ⟨v3, rfl, hr3, hb3⟩
  rw [bitB_with_neg l (-1) (by omega)] at hr3
  have HR3 := Lib.hid hr3
  have HB3 := Lib.hid (bthen HB2.out hb3)
  have HRL3 := Lib.hid (HRL2.out.on hb3)
  have HRQ3 := Lib.hid (HR2.out.on hb3)
  clear hr3 hb3
  go_wp2
  go_loopw [10, 11, 12] (fun cc a i wr => ∃ (k : Nat) (C : List UInt8), k ≤ q.length ∧ i = .int .i64 k ∧ a = .int .i64 (atN q k) ∧ Rd wr wr.heap.size cc (bv C) ∧ Hid (∀ j, bitB C j = (bitB l j || decide (j ∈ q.take k))) ∧ Hid (Canon C) ∧ Hid (countB C n = countB l n + k) ∧ C.length ≤ 40 ∧ Below w3.heap.size w3 wr) (fun _ _ i _ => q.length - (intOf i).toNat)
  case atStart => exact ⟨0, cutL l, Nat.zero_le _, rfl, rfl, HR3.out, (fun j => by rw [bitB_cutL]; simp), cutL_canon l, (by rw [count_all, count_all, Nat.add_zero]; congr 1; apply List.filter_congr; intro j _; rw [bitB_cutL]), Nat.le_trans (cutL_length l) hl, Below.refl _ _⟩
  case round =>
    obtain ⟨k, C, hk, rfl, rfl, hrc, HBIT, HCAN, HCNT, hlen, hb⟩ := hrel
    have HRC := Lib.hid hrc
    have HB := Lib.hid hb
    have HRL := Lib.hid (HRL3.out.on hb)
    clear hrc
    rcases Nat.lt_or_ge k q.length with hlt | hge
    · have hne : iv (q.map fun k : Nat => (k : Int)) ≠ [] := by intro e; have := iv_length (q.map fun k : Nat => (k : Int)); rw [e, List.length_map] at this; simp at this; omega
      obtain ⟨g, o, rfl, hg, hc⟩ := HRQ3.out.open_ hne
      have hx : q[k]? = some q[k] := List.getElem?_eq_getElem hlt
      have hc1 := (hb.cell (p := ⟨g, o + k, none⟩) hg).trans (hc k _ (iv_get (x := ((q[k] : Nat) : Int)) (by rw [List.getElem?_map, hx]; rfl)))
      have HGAP := Lib.hid (fun (j : Nat) (a : atN q k ≤ j) (b : j < q[k]) => q_gap q HQ.out hlt a b)
      have hfree := q_free q HQ.out hlt
      have HTB := Lib.hid (take_bits hlt HBIT.out)
      have HTC := Lib.hid (take_count q HQ.out hlt HBIT.out HCNT.out)
      have hat : atN q (k + 1) = q[k] + 1 := by show q[k]?.getD 0 + 1 = _; rw [hx]; rfl
      have hge : atN q k ≤ q[k] := by
        cases k with
        | zero => exact Nat.zero_le _
        | succ k =>
          show q[k]?.getD 0 + 1 ≤ _
          rw [List.getElem?_eq_getElem (by omega)]
          have hs : q.Pairwise (· < ·) := by rw [HQ.out]; exact (freeN_sorted l n).sublist (List.take_sublist _ _)
          exact List.pairwise_iff_getElem.1 hs k (k + 1) (by omega) hlt (by omega)
      have HAT := Lib.hid hat
      have hlt' : (k : Int) < (q.length : Int) := by omega
      clear hc hx hne hat hb
      generalize q[k] = x at *
      obtain ⟨hxn, hxb⟩ := hfree
      generalize atN q k = a0 at *
      have hxn' : ¬ (n : Int) ≤ (x : Int) := by omega
      have hdn : decide ((n : Int) ≤ (x : Int)) = false := by simpa using hxn'
      have HXB := Lib.hid hxb
      clear hxb
      go_wp2
      go_loopw [11] (fun a wi => ∃ j m : Nat, a0 ≤ j ∧ j ≤ x ∧ a = .int .i64 j ∧ wi = wr.drewN m) (fun a _ => x - (intOf a).toNat)
      case atStart => exact ⟨a0, 0, Nat.le_refl _, hge, rfl, rfl⟩
      case round =>
        obtain ⟨j, mm, hj0, hj, rfl, rfl⟩ := hrel
        have hc2 : (wr.drewN mm).cell? ⟨g, o + k, none⟩ = some (.int .i64 x) := hc1
        rcases Nat.lt_or_ge j x with hjx | hjx
        · have hjx' : (j : Int) < (x : Int) := by omega
          go_wp2_with fail
          refine (has_any _ l (j : Int) wr.heap.size _ (HRL.out.drewN mm) (by omega)).mono ?_
          rintro e w4 ⟨rfl, k4, rfl⟩
          rw [hasB_nat, HGAP.out j hj0 hjx]
          go_wp2
          go_roundw
          case rel => exact ⟨j + 1, _, by omega, by omega, by go_num, rfl⟩
          case measure => simp [intOf]; omega
        · obtain rfl : x = j := by omega
          go_wp2_with fail
          refine (has_any _ l (x : Int) wr.heap.size _ (HRL.out.drewN mm) (by omega)).mono ?_
          rintro e w4 ⟨rfl, k4, rfl⟩
          rw [hasB_nat, HXB.out]
          go_wp2_with fail
          refine (with_any _ C (x : Int) true _ (HRC.out.drewN _) (by omega) (by omega) (by omega)).mono ?_
          rintro e w9 ⟨v9, rfl, hr9, hb9⟩
          have HR9 := Lib.hid hr9
          have HB9 := Lib.hid (bthen (below_of_drewN wr _ _) hb9)
          clear hr9 hb9
          go_wp2
          go_roundw
          case rel => exact ⟨k + 1, withB C (x : Int) true, by omega, by go_num, by rw [HAT.out]; go_num, HR9.out, HTB.out, with_canon _ _ _, HTC.out, by have := with_length C (x : Int) true; omega, bthen HB.out HB9.out⟩
          case measure => simp [intOf]; omega
    · obtain rfl : q.length = k := by omega
      have hcnt := HCNT.out
      have hcl := count_free l n
      have hqb := HQM.out
      have hw1 : IntKind.i64.wrap ((countB l n : Int) + (q.length : Int)) = (countB l n : Int) + (q.length : Int) := IntWalk.i64_in _ (by omega)
      have hcnt' : (countB C n : Int) = (countB l n : Int) + (q.length : Int) := by omega
      have hqn : ((q.length : Int) != (m : Int)) = false := by rw [HQM.out]; simp
      have hqo : ((countB l n : Int) + (q.length : Int) != (countB l n : Int) + (q.length : Int)) = false := by simp
      have hbits : ∀ j, bitB C j = (bitB l j || decide (j ∈ q.drop 0)) := fun j => by have := HBIT.out j; rwa [List.take_length] at this
      have HBITS := Lib.hid hbits
      have HCN := Lib.hid hcnt'
      clear hcnt hcl hcnt' hbits hb hqb
      go_wp2_with fail
      refine (count_any _ C (n : Int) _ HRC.out (by omega)).mono ?_
      rintro e w4 ⟨rfl, k4, rfl⟩
      rw [HCN.out]
      go_wp2_with fail
      refine (count_any _ l (n : Int) _ (HRL.out.drewN k4) (by omega)).mono ?_
      rintro e w5 ⟨rfl, k5, rfl⟩
      go_wp2
      go_loopw [10, 13] (fun cc i wi => ∃ (k : Nat) (C : List UInt8), k ≤ q.length ∧ i = .int .i64 k ∧ Rd wi wi.heap.size cc (bv C) ∧ Hid (∀ j, bitB C j = (bitB l j || decide (j ∈ q.drop k))) ∧ Hid (Canon C) ∧ C.length ≤ 40 ∧ Below wr.heap.size wr wi) (fun _ i _ => q.length - (intOf i).toNat)
      case atStart => exact ⟨0, C, Nat.zero_le _, rfl, HRC.out, HBITS.out, HCAN, hlen, below_of_drewN _ _ _⟩
      case round =>
        obtain ⟨k, C, hk, rfl, hrc, HBIT, HCAN, hlen, hb⟩ := hrel
        have HRC := Lib.hid hrc
        have hbx := hb
        have HBX := Lib.hid (bthen HB1.out (bthen HB3.out (bthen HB.out hb)))
        clear hrc
        rcases Nat.lt_or_ge k q.length with hlt | hge
        · have hne : iv (q.map fun k : Nat => (k : Int)) ≠ [] := by intro e; have := iv_length (q.map fun k : Nat => (k : Int)); rw [e, List.length_map] at this; simp at this; omega
          obtain ⟨g, o, rfl, hg, hc⟩ := HRQ3.out.open_ hne
          have hx : q[k]? = some q[k] := List.getElem?_eq_getElem hlt
          have hc1 := ((bthen HB.out hb).cell (p := ⟨g, o + k, none⟩) hg).trans (hc k _ (iv_get (x := ((q[k] : Nat) : Int)) (by rw [List.getElem?_map, hx]; rfl)))
          have hfree := (q_free q HQ.out hlt).1
          have HTB := Lib.hid (give_bits q HQ.out hlt HBIT.out)
          have hlt' : (k : Int) < (q.length : Int) := by omega
          have HB' := Lib.hid hb
          clear hc hx hne hb
          generalize q[k] = x at *
          go_wp2_with fail
          refine (with_any _ C (x : Int) false _ HRC.out (by omega) (by omega) (by omega)).mono ?_
          rintro e w9 ⟨v9, rfl, hr9, hb9⟩
          have HR9 := Lib.hid hr9
          have HB9 := Lib.hid hb9
          clear hr9 hb9
          go_wp2
          go_roundw
          case rel => exact ⟨k + 1, withB C (x : Int) false, by omega, by go_num, HR9.out, HTB.out, with_canon _ _ _, by have := with_length C (x : Int) false; omega, bthen HB'.out HB9.out⟩
          case measure => simp [intOf]; omega
        · obtain rfl : q.length = k := by omega
          obtain rfl := back l C q HBIT.out HCAN.out
          obtain ⟨AC, cC, rfl, _, _, _⟩ := HRC.out.form
          rw [bv_length] at *
          clear HBIT HBITS HCN HCNT HRL3 HRQ3 hb
          have HRL := Lib.hid (HRL.out.on hbx)
          go_wp2
          have HRCD := Lib.hid (show Rd wr.drew wr.drew.heap.size (.slice AC (cutL l).length cC) (bv (cutL l)) from HRC.out)
          have HRLD := Lib.hid (show Rd wr.drew wr.drew.heap.size (.slice A l.length c) (bv l) from HRL.out)
          refine region_any (by kernel_rfl) [122, 123, 124, 125, 126, 127, 6] rfl (by simp) (by kernel_rfl) (fun x y => Below x.heap.size x y) (Says (fun q_ => match q_ with | 122 => some (.slice AC (cutL l).length cC) | 123 => some (.string ⟨(cutL l : List UInt8).toArray⟩) | 124 => some (.slice A l.length c) | 126 => some (.string ⟨(cutL l : List UInt8).toArray⟩) | 127 => some (.bool true) | 6 => some (.bool true) | _ => none) (fun q_ v w => (q_ = 125 → Rd w w.heap.size v (bv (cutL l))) ∧ True)) (fun x => Below.refl _ x) ?_ (fun _ _ _ h k => bthen h k) (hops_of_all rfl ?_) ?_
          · rintro q_ v w w' hR ⟨h1, h2⟩
            obtain ⟨s125, _⟩ := h2
            exact ⟨h1, fun e => (s125 e).on hR, trivial⟩
          · refine ⟨?_, ?_, ?_, ?_, ?_, ?_, ?_, trivial⟩
            · intro a w K hR hs hK
              have g10 : a.tmps[10]? = some (.slice AC (cutL l).length cC) := unfed hs 10 (by kernel_rfl) (by kernel_rfl) rfl
              exact op_value rfl (wanted_none rfl) (run_move' (v := .slice AC (cutL l).length cC) rfl (eval_of g10) w) (hK _ w (Below.refl _ w) (says_exact 122 rfl (by simp)))
            · intro a w K hR hs hK
              have g122 := fedX hs 122 (.slice AC (cutL l).length cC) (by kernel_rfl) (by kernel_rfl) rfl
              have hcv := conv_rd (HRCD.out.on hR)
              exact op_value (v := .string ⟨(cutL l : List UInt8).toArray⟩) rfl (wanted_none rfl) (by simp [go_sem, g122, hcv]) (hK _ w (Below.refl _ w) (says_exact 123 rfl (by simp)))
            · intro a w K hR hs hK
              have g0 : a.tmps[0]? = some (.slice A l.length c) := unfed hs 0 (by kernel_rfl) (by kernel_rfl) rfl
              exact op_value rfl (wanted_none rfl) (run_move' (v := .slice A l.length c) rfl (eval_of g0) w) (hK _ w (Below.refl _ w) (says_exact 124 rfl (by simp)))
            · intro a w K hR hs hK
              have g124 := fedX hs 124 (.slice A l.length c) (by kernel_rfl) (by kernel_rfl) rfl
              refine op_call (g := 13) (args := #[.slice A l.length c, (Value.int IntKind.i64 (-1)), (Value.bool false)]) rfl (wanted_none rfl) (by simp [go_sem, g124]) ?_
              refine (with_any (.slice A l.length c) l (-1) false w (HRLD.out.on hR) (by omega) (by omega) (by omega)).mono ?_
              rintro e w9 ⟨v9, rfl, hr9, hb9⟩
              rw [bitB_with_neg l (-1) (by omega)] at hr9
              exact ⟨v9, rfl, hK v9 w9 hb9 (says_special 125 rfl (by simp; exact hr9))⟩
            · intro a w K hR hs hK
              obtain ⟨v125, g125, s1250⟩ := fed hs 125 (by kernel_rfl) (by kernel_rfl)
              have s125 : Rd w w.heap.size v125 (bv (cutL l)) := s1250.2.1 rfl
              have hcv := conv_rd (s125)
              exact op_value (v := .string ⟨(cutL l : List UInt8).toArray⟩) rfl (wanted_none rfl) (by simp [go_sem, g125, hcv]) (hK _ w (Below.refl _ w) (says_exact 126 rfl (by simp)))
            · intro a w K hR hs hK
              have g123 := fedX hs 123 (.string ⟨(cutL l : List UInt8).toArray⟩) (by kernel_rfl) (by kernel_rfl) rfl
              have g126 := fedX hs 126 (.string ⟨(cutL l : List UInt8).toArray⟩) (by kernel_rfl) (by kernel_rfl) rfl
              exact op_value (v := .bool true) rfl (wanted_none rfl) (by simp [go_sem, g123, g126]) (hK _ w (Below.refl _ w) (says_exact 127 rfl (by simp)))
            · intro a w K hR hs hK
              have g127 := fedX hs 127 (.bool true) (by kernel_rfl) (by kernel_rfl) rfl
              exact op_value rfl (wanted_none rfl) (run_assign' (v := .bool true) rfl (eval_of g127) w) (hK _ w (Below.refl _ w) (says_exact 6 rfl (by simp)))
          · intro f w hR hf
            have f122 : f 122 = .slice AC (cutL l).length cC := (hf 122 (by simp)).1 _ rfl
            have f123 : f 123 = .string ⟨(cutL l : List UInt8).toArray⟩ := (hf 123 (by simp)).1 _ rfl
            have f124 : f 124 = .slice A l.length c := (hf 124 (by simp)).1 _ rfl
            have f125 : Rd w w.heap.size (f 125) (bv (cutL l)) := (hf 125 (by simp)).2.1 rfl
            have f126 : f 126 = .string ⟨(cutL l : List UInt8).toArray⟩ := (hf 126 (by simp)).1 _ rfl
            have f127 : f 127 = .bool true := (hf 127 (by simp)).1 _ rfl
            have f6 : f 6 = .bool true := (hf 6 (by simp)).1 _ rfl
            simp only [putAll, List.foldl_cons, List.foldl_nil, List.setIfInBounds_toArray, List.set_cons_succ, List.set_cons_zero, f122, f123, f124, f126, f127, f6]
            clear f122 f123 f124 f126 f127 f6 hf
            go_wp2
            go_ret
            exact ⟨rfl, bthen HBX.out ((below_of_drewN wr 1 _).trans hR)⟩

theorem law_any (v : Value) (l : List UInt8) (n m : Int) (w : World) (hr : Rd w w.heap.size v (bv l)) (n0 : 0 ≤ n) (n1 : n ≤ 255) (m0 : 0 ≤ m) (m1 : m ≤ 255) :
    Calls Try.prog 4 #[v, .int .u8 n, .int .u8 m] w (Yes w) := by
  obtain ⟨N, rfl⟩ := Int.eq_ofNat_of_zero_le n0
  obtain ⟨M, rfl⟩ := Int.eq_ofNat_of_zero_le m0
  rcases Nat.lt_or_ge 40 l.length with h | h
  · exact long v l N M w hr h
  · by_cases hf : ((freeB l N).length : Int) < (M : Int)
    · refine few v l N M w hr h (by omega) (by omega) ?_ hf
      unfold drawE
      rw [if_neg (by omega), Int.toNat_natCast, if_pos hf]
    · have hf' : M ≤ (freeN l N).length := by rw [freeB_freeN, List.length_map] at hf; omega
      refine full v l N M w hr h (by omega) (by omega) ?_ ((freeN l N).take M) rfl (by rw [List.length_take]; omega) ?_
      · unfold drawE
        rw [if_neg (by omega), Int.toNat_natCast, if_neg hf]
      · unfold drawB
        rw [Int.toNat_natCast, Int.toNat_natCast, if_neg (by omega), freeB_freeN, List.map_take]

end Go.Proofs.Ytfijihjbjifhdaa.bitsDraws
