/- The walk of the statement DiskRange: for every byte, number and byte it is true, and what was there before stands. -/
import Derived.Test.YtcbdlggjpedffaaUse
namespace Go.Proofs.Ytcbdlggjpedffaa.diskRange
open Go.RowKit
set_option linter.unusedSimpArgs false

theorem zero_m (m : Nat) : (madeCells #[Value.int .u8 0] m).toList = bv (List.replicate m 0) := by
  rw [toList_madeCells_one]
  simp [bv]

set_option maxRecDepth 100000 in
set_option maxHeartbeats 4000000 in
theorem law_nat (n : Nat) (i : Int) (m : Nat) (w : World) (hn : n < 256) (hm : m < 256) (i0' : -9223372036854775808 ≤ i) (i1' : i ≤ 9223372036854775807) : Calls Try.prog 4 #[.int .u8 n, .int .i64 i, .int .u8 m] w (Yes w) := by
  obtain ⟨i0, hi0, hz0, hz1, hz2⟩ := info_parts Try.info5
  obtain ⟨k, hk⟩ : ∃ k : Nat, k = n % 50 + 1 := ⟨_, rfl⟩
  have hk1 : ((n : Int) % 50) + 1 = (k : Int) := by omega
  have hk2 : 1 ≤ k ∧ k ≤ 50 := by omega
  have HK1 := Lib.hid hk1
  clear hk hk1
  go_enter Try.func4, Try.ntmps4
  go_wp2_with fail
  refine (awake_any w).mono ?_
  rintro e w1 ⟨rfl, hb1⟩
  have HB1 := Lib.hid hb1
  clear hb1
  have hk1 := HK1.out
  go_wp2_with fail
  clear hk1
  refine (new_at k w1 hk2.1 (by omega)).mono ?_
  rintro e w2 ⟨g, rfl, hd2, hb2⟩
  have HD2 := Lib.hid hd2
  have HB2 := Lib.hid hb2
  clear hd2 hb2
  go_wp2_with fail
  refine (len_any HD2.out).mono ?_
  rintro e w2' ⟨rfl, rfl⟩
  obtain ⟨w2, rfl⟩ : ∃ w2, w2 = w2' := ⟨_, rfl⟩
  rw [show (newD k).L.length = k by simp [newD]]
  by_cases hin : 0 ≤ i ∧ i < k
  · obtain ⟨I, rfl⟩ := Int.eq_ofNat_of_zero_le hin.1
    obtain ⟨_, hin2⟩ := hin
    have hlen : (I : Int) < ((newD k).L.length : Int) := by simp [newD]; omega
    by_cases h128 : m = 128
    · subst h128
      go_wp2_with (refine wpList_make_full _ rfl _ _ 22 rfl w2.heap.size 5 i0 (.int .u8 0) 1 Try.underlying22 hi0 hz0 hz1 .i64 .i64 128 128 128 rfl rfl rfl rfl (by rw [hz2]; omega) (by unfold maxLen; omega) (Nat.le_refl _) ?_; intro w3 hown3 hg3; have HO3 := Lib.hid hown3; have HG3 := Lib.hid hg3; clear hown3 hg3)
      have hb3 : Below w2.heap.size w2 w3 := (Below.refl _ _).grown HG3.out (Nat.le_refl _) (fun k hk => by cases hk)
      have HB3 := Lib.hid hb3
      have ho3 := HO3.out
      rw [Nat.mul_one, show (Value.int .u8 0).cells = #[Value.int .u8 0] from rfl, zero_m 128] at ho3
      have HR3 := Lib.hid (Rd.of_own ho3)
      clear hb3 ho3 HO3 HG3
      refine (write_at HD2.out HB2.out.size HB3.out (I : Int) _ (List.replicate 128 0) HR3.out (fun b hb => by have hb' : some w2.heap.size = some b := hb; injection hb' with e; omega) (by simp [newD])).mono ?_
      rintro e w4 ⟨rfl, hd4, hb4⟩
      rw [List.length_replicate]
      rw [show writeE (newD k) (I : Int) 128 = 0 from live_writeE (live_new k) ⟨by omega, hlen⟩ rfl]
      have hwd : writeD (newD k) (I : Int) (List.replicate 128 0) = { newD k with waits := (newD k).waits ++ [(I, List.replicate 128 0)] } := live_writeD (live_new k) (by omega) (by simp)
      rw [hwd] at hd4
      have HD4 := Lib.hid hd4
      have HB4 := Lib.hid (HB2.out.trans hb4)
      clear hd4 hb4 hwd
      go_wp2_with fail
      refine (read_in HD4.out I (live_up ⟨rfl, rfl⟩ ⟨by omega, hlen⟩)).mono ?_
      rintro e w5 ⟨v5, rfl, ho5, hb5⟩
      obtain ⟨A5, c5, hv5⟩ := ownsRow_form ho5
      subst hv5
      have HD5 := Lib.hid (HD4.out.below hb5)
      have HB5 := Lib.hid (HB4.out.trans (hb5.mono HB4.out.size))
      clear ho5 hb5
      go_wp2_with fail
      refine (waits_any HD5.out).mono ?_
      rintro e w6 ⟨rfl, rfl⟩
      go_wp2
      go_ret
      exact ⟨rfl, bthen HB1.out HB5.out⟩
    · have hmb : ((m : Int) == 128) = false := by rw [beq_eq_false_iff_ne]; omega
      go_wp2_with (refine wpList_make_full _ rfl _ _ 22 rfl w2.heap.size 5 i0 (.int .u8 0) 1 Try.underlying22 hi0 hz0 hz1 .i64 .i64 (m : Int) (m : Int) m rfl rfl rfl rfl (by rw [hz2]; omega) (by unfold maxLen; omega) (Nat.le_refl _) ?_; intro w3 hown3 hg3; have HO3 := Lib.hid hown3; have HG3 := Lib.hid hg3; clear hown3 hg3)
      have hb3 : Below w2.heap.size w2 w3 := (Below.refl _ _).grown HG3.out (Nat.le_refl _) (fun k hk => by cases hk)
      have HB3 := Lib.hid hb3
      have ho3 := HO3.out
      rw [Nat.mul_one, show (Value.int .u8 0).cells = #[Value.int .u8 0] from rfl, zero_m] at ho3
      have HR3 := Lib.hid (Rd.of_own ho3)
      clear hb3 ho3 HO3 HG3
      refine (write_at HD2.out HB2.out.size HB3.out (I : Int) _ (List.replicate m 0) HR3.out (fun b hb => by have hb' : some w2.heap.size = some b := hb; injection hb' with e; omega) (by simp [newD])).mono ?_
      rintro e w4 ⟨rfl, hd4, hb4⟩
      rw [List.length_replicate]
      have hup : upE (newD k) (I : Int) = 0 := live_up (live_new k) ⟨by omega, hlen⟩
      rw [show writeE (newD k) (I : Int) m = 1 by unfold writeE; simp [hup, h128]]
      rw [show writeD (newD k) (I : Int) (List.replicate m 0) = newD k by unfold writeD; rw [if_pos (.inr (by simpa using h128))]] at hd4
      have HD4 := Lib.hid hd4
      have HB4 := Lib.hid (HB2.out.trans hb4)
      have HUP := Lib.hid hup
      clear hd4 hb4 hup
      go_wp2_with fail
      refine (read_in HD4.out I HUP.out).mono ?_
      rintro e w5 ⟨v5, rfl, ho5, hb5⟩
      obtain ⟨A5, c5, hv5⟩ := ownsRow_form ho5
      subst hv5
      have HD5 := Lib.hid (HD4.out.below hb5)
      have HB5 := Lib.hid (HB4.out.trans (hb5.mono HB4.out.size))
      clear ho5 hb5
      go_wp2_with fail
      refine (waits_any HD5.out).mono ?_
      rintro e w6 ⟨rfl, rfl⟩
      rw [show (newD k).waits.length = 0 from rfl]
      go_wp2
      go_ret
      exact ⟨rfl, bthen HB1.out HB5.out⟩
  · have hlen : ¬ (0 ≤ i ∧ i < ((newD k).L.length : Int)) := by simpa [newD] using hin
    have hup : upE (newD k) i = 15 := live_range (live_new k) hlen
    have HUP := Lib.hid hup
    clear hup hlen
    by_cases hneg : i < 0
    · have hge : decide ((0 : Int) ≤ i) = false := by simpa using hneg
      clear hin
      go_wp2_with (refine wpList_make_full _ rfl _ _ 22 rfl w2.heap.size 5 i0 (.int .u8 0) 1 Try.underlying22 hi0 hz0 hz1 .i64 .i64 (m : Int) (m : Int) m rfl rfl rfl rfl (by rw [hz2]; omega) (by unfold maxLen; omega) (Nat.le_refl _) ?_; intro w3 hown3 hg3; have HO3 := Lib.hid hown3; have HG3 := Lib.hid hg3; clear hown3 hg3)
      have hb3 : Below w2.heap.size w2 w3 := (Below.refl _ _).grown HG3.out (Nat.le_refl _) (fun k hk => by cases hk)
      have HB3 := Lib.hid hb3
      have ho3 := HO3.out
      rw [Nat.mul_one, show (Value.int .u8 0).cells = #[Value.int .u8 0] from rfl, zero_m] at ho3
      have HR3 := Lib.hid (Rd.of_own ho3)
      clear hb3 ho3 HO3 HG3
      refine (write_at HD2.out HB2.out.size HB3.out i _ (List.replicate m 0) HR3.out (fun b hb => by have hb' : some w2.heap.size = some b := hb; injection hb' with e; omega) (by simp [newD])).mono ?_
      rintro e w4 ⟨rfl, hd4, hb4⟩
      rw [List.length_replicate]

      rw [show writeE (newD k) i m = 15 by unfold writeE; simp [HUP.out]]
      rw [show writeD (newD k) i (List.replicate m 0) = newD k by unfold writeD; rw [if_pos (.inl (by rw [HUP.out]; decide))]] at hd4
      have HD4 := Lib.hid hd4
      have HB4 := Lib.hid (HB2.out.trans hb4)
      clear hd4 hb4
      go_wp2_with fail
      refine (read_err HD4.out i (by rw [HUP.out]; decide)).mono ?_
      rintro e w5 ⟨rfl, rfl⟩
      rw [HUP.out]
      go_wp2_with fail
      refine (waits_any HD4.out).mono ?_
      rintro e w6 ⟨rfl, rfl⟩
      rw [show (newD k).waits.length = 0 from rfl]
      go_wp2
      go_ret
      exact ⟨rfl, bthen HB1.out HB4.out⟩
    · have hge : (0 : Int) ≤ i := by omega
      have hik : ¬ i < (k : Int) := by omega
      have hikd : decide (i < (k : Int)) = false := by simpa using hik
      clear hin
      go_wp2_with (refine wpList_make_full _ rfl _ _ 22 rfl w2.heap.size 5 i0 (.int .u8 0) 1 Try.underlying22 hi0 hz0 hz1 .i64 .i64 (m : Int) (m : Int) m rfl rfl rfl rfl (by rw [hz2]; omega) (by unfold maxLen; omega) (Nat.le_refl _) ?_; intro w3 hown3 hg3; have HO3 := Lib.hid hown3; have HG3 := Lib.hid hg3; clear hown3 hg3)
      have hb3 : Below w2.heap.size w2 w3 := (Below.refl _ _).grown HG3.out (Nat.le_refl _) (fun k hk => by cases hk)
      have HB3 := Lib.hid hb3
      have ho3 := HO3.out
      rw [Nat.mul_one, show (Value.int .u8 0).cells = #[Value.int .u8 0] from rfl, zero_m] at ho3
      have HR3 := Lib.hid (Rd.of_own ho3)
      clear hb3 ho3 HO3 HG3
      refine (write_at HD2.out HB2.out.size HB3.out i _ (List.replicate m 0) HR3.out (fun b hb => by have hb' : some w2.heap.size = some b := hb; injection hb' with e; omega) (by simp [newD])).mono ?_
      rintro e w4 ⟨rfl, hd4, hb4⟩
      rw [List.length_replicate]

      rw [show writeE (newD k) i m = 15 by unfold writeE; simp [HUP.out]]
      rw [show writeD (newD k) i (List.replicate m 0) = newD k by unfold writeD; rw [if_pos (.inl (by rw [HUP.out]; decide))]] at hd4
      have HD4 := Lib.hid hd4
      have HB4 := Lib.hid (HB2.out.trans hb4)
      clear hd4 hb4
      go_wp2_with fail
      refine (read_err HD4.out i (by rw [HUP.out]; decide)).mono ?_
      rintro e w5 ⟨rfl, rfl⟩
      rw [HUP.out]
      go_wp2_with fail
      refine (waits_any HD4.out).mono ?_
      rintro e w6 ⟨rfl, rfl⟩
      rw [show (newD k).waits.length = 0 from rfl]
      go_wp2
      go_ret
      exact ⟨rfl, bthen HB1.out HB4.out⟩

theorem law_any (n i m : Int) (w : World) (n0 : 0 ≤ n) (n1 : n ≤ 255) (i0 : -9223372036854775808 ≤ i) (i1 : i ≤ 9223372036854775807) (m0 : 0 ≤ m) (m1 : m ≤ 255) : Calls Try.prog 4 #[.int .u8 n, .int .i64 i, .int .u8 m] w (Yes w) := by
  obtain ⟨N, rfl⟩ := Int.eq_ofNat_of_zero_le n0
  obtain ⟨M, rfl⟩ := Int.eq_ofNat_of_zero_le m0
  exact law_nat N i M w (by omega) (by omega) i0 i1

end Go.Proofs.Ytcbdlggjpedffaa.diskRange
