/- The walk of the statement BitsFull: for every two bytes it is true, and what was there before stands. -/
import Derived.Test.YtfijihjbjifhdaaAwake
import Derived.Test.YtfijihjbjifhdaaFullP
namespace Go.Proofs.Ytfijihjbjifhdaa.bitsFull
open Go.RowKit

theorem cell_of_from {w : World} {B : Nat} {v : Value} {c d : Nat} (h : Rd w B v (iv (from_ c d))) {j : Nat} (hj : j < d) :
    ∃ b o cap, v = .slice (some ⟨b, o, none⟩) d cap ∧ b < B ∧ w.cell? ⟨b, o + j, none⟩ = some (.int .i64 ((c + j : Nat) : Int)) := by
  obtain ⟨b, o, cap, hv, _, _, hb, hc⟩ := h.at_ (j := j) (by rw [iv_length, from_length]; exact hj)
  rw [iv_length, from_length] at hv
  exact ⟨b, o, cap, hv, hb, hc j _ (iv_get (from_get c d j hj))⟩

theorem form_of_from {w : World} {B : Nat} {v : Value} {c d : Nat} (h : Rd w B v (iv (from_ c d))) : ∃ A cap, v = .slice A d cap := by
  obtain ⟨A, cap, hv, _⟩ := h.form
  rw [iv_length, from_length] at hv
  exact ⟨A, cap, hv⟩

theorem bthen {w a b : World} (h : Below w.heap.size w a) (k : Below a.heap.size a b) : Below w.heap.size w b := h.trans (k.mono h.size)

/-- what a round keeps of what was drawn -/
theorem kept_from {w w' : World} {v : Value} {c d : Nat} (h : Rd w w.heap.size v (iv (from_ c d))) (hb : Below w.heap.size w w') : Rd w' w'.heap.size v (iv (from_ c d)) := h.on hb

set_option maxRecDepth 100000 in
set_option maxHeartbeats 1000000 in
theorem law_lo (N F : Nat) (w : World) (hN : N ≤ 255) (hF : F ≤ 255) (hc : F ≤ N % 100) :
    Calls Try.prog 7 #[.int .u8 N, .int .u8 F] w (Yes w) := by
  have hc' : (F : Int) ≤ (N : Int) % 100 := by omega
  go_enter Try.func7, Try.ntmps7
  go_wp2_with fail
  refine (awake_any w).mono ?_
  rintro e w1 ⟨rfl, hb1⟩
  have HB1 := Lib.hid hb1
  clear hb1
  go_wp2_with fail
  have hK : ((N : Int) % 100) = ((N % 100 : Nat) : Int) := by omega
  have hK9 : N % 100 ≤ 99 := by omega
  have hA : F ≤ N % 100 := by omega
  rw [hK]
  clear hK hc hc'
  generalize N % 100 = K at *
  generalize F = A at *
  obtain ⟨hd0, he0⟩ := draw_from [] 0 K A (Nat.zero_le _) (by omega) (fun j => by simp [bitB])
  refine (draw_any (.slice none 0 0) [] (K : Int) (A : Int) (by omega) (by omega) w1 (Rd.nil _ _)).mono ?_
  rintro e w2 ⟨v2, rfl, hr2, hb2⟩
  rw [hd0] at hr2
  rw [he0]
  have HR2 := Lib.hid hr2
  have HB2 := Lib.hid hb2
  obtain ⟨A2, c2, rfl⟩ := form_of_from hr2
  clear hr2 hb2 hd0 he0
  go_wp2
  go_loopw [10, 11] (fun b i wr => ∃ (k : Nat) (L : List UInt8), k ≤ A ∧ i = .int .i64 k ∧ Rd wr wr.heap.size b (bv L) ∧ Hid (∀ j, bitB L j = decide (j < 0 + k)) ∧ L.length ≤ 100 ∧ Below w2.heap.size w2 wr) (fun _ i _ => A - (intOf i).toNat)
  case atStart => exact ⟨0, [], Nat.zero_le _, rfl, Rd.nil _ _, (fun j => by simp [bitB]), by simp, Below.refl _ _⟩
  case round =>
    obtain ⟨k, L, hk, rfl, hr, HBIT, hlen, hb⟩ := hrel
    have HRK := Lib.hid hr
    have HBK := Lib.hid hb
    clear hr
    rcases Nat.lt_or_ge k (A) with hlt | hge
    · obtain ⟨g, o, cap, hv, hg, hc⟩ := cell_of_from HR2.out hlt
      injection hv with e1 _ e3
      subst e1
      subst e3
      have hc' := (hb.cell (p := ⟨g, o + k, none⟩) hg).trans hc
      have hlt' : (k : Int) < ((A : Nat) : Int) := by omega
      clear hc hb
      obtain ⟨J, hJ⟩ : ∃ J : Nat, J = 0 + k := ⟨_, rfl⟩
      rw [← hJ] at hc'
      have hJ9 : J ≤ 99 := by omega
      have HJ := Lib.hid hJ
      clear hJ
      go_wp2_with fail
      refine (with_any _ L (J : Int) true _ HRK.out (by omega) (by omega) (by omega)).mono ?_
      rintro e w9 ⟨v9, rfl, hr9, hb9⟩
      have HR9 := Lib.hid hr9
      have HB9 := Lib.hid hb9
      clear hr9 hb9
      go_wp2
      go_roundw
      case rel => exact ⟨k + 1, withB L (J : Int) true, by omega, by go_num, HR9.out, by rw [HJ.out, ← Nat.add_assoc]; exact bit_step L (0 + k) HBIT.out, by have := with_length L (J : Int) true; omega, HBK.out.trans (HB9.out.mono HBK.out.size)⟩
      case measure => simp [intOf]; omega
    · obtain rfl : A = k := by omega
      clear hb
      have HBIT' := Lib.hid (show ∀ j, bitB L j = decide (j < A) from fun j => by have := HBIT.out j; rwa [Nat.zero_add] at this)
      clear HBIT
      obtain ⟨hd1, he1⟩ := draw_from L A K (K - A) (by omega) (Nat.le_refl _) HBIT'.out
      have hsub : ((K : Int) - (A : Int)) = ((K - A : Nat) : Int) := by omega
      have HSUB := Lib.hid hsub
      have HD1 := Lib.hid hd1
      have HE1 := Lib.hid he1
      clear hsub hd1 he1
      go_wp2_with fail
      rw [HSUB.out]
      refine (draw_any _ L (K : Int) ((K - A : Nat) : Int) (by omega) (by omega) _ HRK.out).mono ?_
      rintro e w3 ⟨v3, rfl, hr3, hb3⟩
      rw [HD1.out] at hr3
      rw [HE1.out]
      have HR3 := Lib.hid hr3
      have HB3 := Lib.hid hb3
      have HRL := Lib.hid (HRK.out.on hb3)
      obtain ⟨A3, c3, rfl⟩ := form_of_from hr3
      clear hr3 hb3
      go_wp2
      go_loopw [10, 14] (fun b i wr => ∃ (k : Nat) (L : List UInt8), k ≤ (K - A) ∧ i = .int .i64 k ∧ Rd wr wr.heap.size b (bv L) ∧ Hid (∀ j, bitB L j = decide (j < A + k)) ∧ L.length ≤ 100 ∧ Below w3.heap.size w3 wr) (fun _ i _ => (K - A) - (intOf i).toNat)
      case atStart => exact ⟨0, L, Nat.zero_le _, rfl, HRL.out, HBIT'.out, hlen, Below.refl _ _⟩
      case round =>
        obtain ⟨k, M, hk, rfl, hr, HBIT, hlen2, hb⟩ := hrel
        have HRM := Lib.hid hr
        have HBM := Lib.hid hb
        clear hr
        rcases Nat.lt_or_ge k ((K - A)) with hlt | hge
        · obtain ⟨g, o, cap, hv, hg, hc⟩ := cell_of_from HR3.out hlt
          injection hv with e1 _ e3
          subst e1
          subst e3
          have hc' := (hb.cell (p := ⟨g, o + k, none⟩) hg).trans hc
          have hlt' : (k : Int) < (((K - A) : Nat) : Int) := by omega
          clear hc hb
          obtain ⟨J, hJ⟩ : ∃ J : Nat, J = A + k := ⟨_, rfl⟩
          rw [← hJ] at hc'
          have hJ9 : J ≤ 99 := by omega
          have HJ := Lib.hid hJ
          clear hJ
          go_wp2_with fail
          refine (with_any _ M (J : Int) true _ HRM.out (by omega) (by omega) (by omega)).mono ?_
          rintro e w9 ⟨v9, rfl, hr9, hb9⟩
          have HR9 := Lib.hid hr9
          have HB9 := Lib.hid hb9
          clear hr9 hb9
          go_wp2
          go_roundw
          case rel => exact ⟨k + 1, withB M (J : Int) true, by omega, by go_num, HR9.out, by rw [HJ.out, ← Nat.add_assoc]; exact bit_step M (A + k) HBIT.out, by have := with_length M (J : Int) true; omega, HBM.out.trans (HB9.out.mono HBM.out.size)⟩
          case measure => simp [intOf]; omega
        · obtain rfl : (K - A) = k := by omega
          clear hb
          have HBIT2 := Lib.hid (show ∀ j, bitB M j = decide (j < K) from fun j => by have := HBIT.out j; rwa [show A + (K - A) = K by omega] at this)
          clear HBIT HBIT'
          obtain ⟨AM, cM, hvM, _⟩ := HRM.out.form
          subst hvM
          go_wp2_with fail
          refine (draw_any _ M (K : Int) 1 (by omega) (by omega) _ HRM.out).mono ?_
          rintro e w4 ⟨v4, rfl, hr4, hb4⟩
          rw [draw_more M K HBIT2.out]
          have HM4 := Lib.hid (HRM.out.on hb4)
          have HB4 := Lib.hid hb4
          clear hr4 hb4
          go_wp2_with fail
          refine (draw_any _ M (K : Int) 0 (by omega) (by omega) _ HM4.out).mono ?_
          rintro e w5 ⟨v5, rfl, hr5, hb5⟩
          rw [(draw_zero' M K).1] at hr5
          rw [(draw_zero' M K).2]
          obtain ⟨A5, c5, hv5, _⟩ := hr5.form
          rw [show (iv []).length = 0 from rfl] at hv5
          subst hv5
          have HM5 := Lib.hid (HM4.out.on hb5)
          have HB5 := Lib.hid hb5
          clear hr5 hb5
          go_wp2_with fail
          refine (draw_any _ M (K : Int) (-1) (by omega) (by omega) _ HM5.out).mono ?_
          rintro e w6 ⟨v6, rfl, hr6, hb6⟩
          rw [draw_less M K]
          have HM6 := Lib.hid (HM5.out.on hb6)
          have HB6 := Lib.hid hb6
          clear hr6 hb6
          have hcnt := count_first M K HBIT2.out
          have HCNT := Lib.hid hcnt
          clear hcnt
          have hx1 : ((A : Int) == (A : Int)) = true := by simp
          have hx2 : (((K - A : Nat) : Int) == (K : Int) - (A : Int)) = true := by simp; omega
          go_wp2_with fail
          refine (count_any _ M (K : Int) _ HM6.out (by omega)).mono ?_
          rintro e w7 ⟨rfl, k7, rfl⟩
          rw [HCNT.out]
          go_wp2
          go_ret
          exact ⟨rfl, below_drewN (bthen (bthen (bthen (bthen (bthen (bthen (bthen HB1.out HB2.out) HBK.out) HB3.out) HBM.out) HB4.out) HB5.out) HB6.out) _⟩

set_option maxRecDepth 100000 in
set_option maxHeartbeats 1000000 in
theorem law_hi (N F : Nat) (w : World) (hN : N ≤ 255) (hF : F ≤ 255) (hc : N % 100 < F) :
    Calls Try.prog 7 #[.int .u8 N, .int .u8 F] w (Yes w) := by
  have hc' : (N : Int) % 100 < (F : Int) := by omega
  go_enter Try.func7, Try.ntmps7
  go_wp2_with fail
  refine (awake_any w).mono ?_
  rintro e w1 ⟨rfl, hb1⟩
  have HB1 := Lib.hid hb1
  clear hb1
  go_wp2_with fail
  have hK : ((N : Int) % 100) = ((N % 100 : Nat) : Int) := by omega
  have hK9 : N % 100 ≤ 99 := by omega
  have hA : (N % 100) ≤ N % 100 := by omega
  rw [hK]
  clear hK hc hc'
  generalize N % 100 = K at *
  obtain ⟨hd0, he0⟩ := draw_from [] 0 K K (Nat.zero_le _) (by omega) (fun j => by simp [bitB])
  refine (draw_any (.slice none 0 0) [] (K : Int) (K : Int) (by omega) (by omega) w1 (Rd.nil _ _)).mono ?_
  rintro e w2 ⟨v2, rfl, hr2, hb2⟩
  rw [hd0] at hr2
  rw [he0]
  have HR2 := Lib.hid hr2
  have HB2 := Lib.hid hb2
  obtain ⟨A2, c2, rfl⟩ := form_of_from hr2
  clear hr2 hb2 hd0 he0
  go_wp2
  go_loopw [10, 11] (fun b i wr => ∃ (k : Nat) (L : List UInt8), k ≤ K ∧ i = .int .i64 k ∧ Rd wr wr.heap.size b (bv L) ∧ Hid (∀ j, bitB L j = decide (j < 0 + k)) ∧ L.length ≤ 100 ∧ Below w2.heap.size w2 wr) (fun _ i _ => K - (intOf i).toNat)
  case atStart => exact ⟨0, [], Nat.zero_le _, rfl, Rd.nil _ _, (fun j => by simp [bitB]), by simp, Below.refl _ _⟩
  case round =>
    obtain ⟨k, L, hk, rfl, hr, HBIT, hlen, hb⟩ := hrel
    have HRK := Lib.hid hr
    have HBK := Lib.hid hb
    clear hr
    rcases Nat.lt_or_ge k (K) with hlt | hge
    · obtain ⟨g, o, cap, hv, hg, hc⟩ := cell_of_from HR2.out hlt
      injection hv with e1 _ e3
      subst e1
      subst e3
      have hc' := (hb.cell (p := ⟨g, o + k, none⟩) hg).trans hc
      have hlt' : (k : Int) < ((K : Nat) : Int) := by omega
      clear hc hb
      obtain ⟨J, hJ⟩ : ∃ J : Nat, J = 0 + k := ⟨_, rfl⟩
      rw [← hJ] at hc'
      have hJ9 : J ≤ 99 := by omega
      have HJ := Lib.hid hJ
      clear hJ
      go_wp2_with fail
      refine (with_any _ L (J : Int) true _ HRK.out (by omega) (by omega) (by omega)).mono ?_
      rintro e w9 ⟨v9, rfl, hr9, hb9⟩
      have HR9 := Lib.hid hr9
      have HB9 := Lib.hid hb9
      clear hr9 hb9
      go_wp2
      go_roundw
      case rel => exact ⟨k + 1, withB L (J : Int) true, by omega, by go_num, HR9.out, by rw [HJ.out, ← Nat.add_assoc]; exact bit_step L (0 + k) HBIT.out, by have := with_length L (J : Int) true; omega, HBK.out.trans (HB9.out.mono HBK.out.size)⟩
      case measure => simp [intOf]; omega
    · obtain rfl : K = k := by omega
      clear hb
      have HBIT2 := Lib.hid (show ∀ j, bitB L j = decide (j < K) from fun j => by have := HBIT.out j; rwa [Nat.zero_add] at this)
      clear HBIT
      go_wp2_with fail
      refine (draw_any _ L (K : Int) 0 (by omega) (by omega) _ HRK.out).mono ?_
      rintro e w3 ⟨v3, rfl, hr3, hb3⟩
      rw [(draw_zero' L K).1] at hr3
      rw [(draw_zero' L K).2]
      have HB3 := Lib.hid hb3
      have HRM := Lib.hid (HRK.out.on hb3)
      have HBM := Lib.hid (Below.refl w3.heap.size w3)
      obtain ⟨A3, c3, hv3, _⟩ := hr3.form
      rw [show (iv []).length = 0 from rfl] at hv3
      subst hv3
      have hlen2 := hlen
      clear hr3 hb3
      go_wp2
      go_loopw [10, 14] (fun b i wr => i = .int .i64 0 ∧ Rd wr wr.heap.size b (bv L) ∧ wr = w3) (fun _ _ _ => 0)
      case atStart => exact ⟨rfl, HRM.out, rfl⟩
      case round =>
        obtain ⟨rfl, hrm, rfl⟩ := hrel
        clear HRM
        have HRM := Lib.hid hrm
        clear hrm
        obtain ⟨AM, cM, hvM, _⟩ := HRM.out.form
        subst hvM
        go_wp2_with fail
        refine (draw_any _ L (K : Int) 1 (by omega) (by omega) _ HRM.out).mono ?_
        rintro e w4 ⟨v4, rfl, hr4, hb4⟩
        rw [draw_more L K HBIT2.out]
        have HM4 := Lib.hid (HRM.out.on hb4)
        have HB4 := Lib.hid hb4
        clear hr4 hb4
        go_wp2_with fail
        refine (draw_any _ L (K : Int) 0 (by omega) (by omega) _ HM4.out).mono ?_
        rintro e w5 ⟨v5, rfl, hr5, hb5⟩
        rw [(draw_zero' L K).1] at hr5
        rw [(draw_zero' L K).2]
        obtain ⟨A5, c5, hv5, _⟩ := hr5.form
        rw [show (iv []).length = 0 from rfl] at hv5
        subst hv5
        have HM5 := Lib.hid (HM4.out.on hb5)
        have HB5 := Lib.hid hb5
        clear hr5 hb5
        go_wp2_with fail
        refine (draw_any _ L (K : Int) (-1) (by omega) (by omega) _ HM5.out).mono ?_
        rintro e w6 ⟨v6, rfl, hr6, hb6⟩
        rw [draw_less L K]
        have HM6 := Lib.hid (HM5.out.on hb6)
        have HB6 := Lib.hid hb6
        clear hr6 hb6
        have hcnt := count_first L K HBIT2.out
        have HCNT := Lib.hid hcnt
        clear hcnt
        have hx1 : ((K : Int) == (K : Int)) = true := by simp
        go_wp2_with fail
        refine (count_any _ L (K : Int) _ HM6.out (by omega)).mono ?_
        rintro e w7 ⟨rfl, k7, rfl⟩
        rw [HCNT.out]
        go_wp2
        go_ret
        exact ⟨rfl, below_drewN (bthen (bthen (bthen (bthen (bthen (bthen (bthen HB1.out HB2.out) HBK.out) HB3.out) HBM.out) HB4.out) HB5.out) HB6.out) _⟩

theorem law_any (n f : Int) (w : World) (n0 : 0 ≤ n) (n1 : n ≤ 255) (f0 : 0 ≤ f) (f1 : f ≤ 255) :
    Calls Try.prog 7 #[.int .u8 n, .int .u8 f] w (Yes w) := by
  obtain ⟨N, rfl⟩ := Int.eq_ofNat_of_zero_le n0
  obtain ⟨F, rfl⟩ := Int.eq_ofNat_of_zero_le f0
  rcases Nat.lt_or_ge (N % 100) F with h | h
  · exact law_hi N F w (by omega) (by omega) h
  · exact law_lo N F w (by omega) (by omega) h

end Go.Proofs.Ytfijihjbjifhdaa.bitsFull
