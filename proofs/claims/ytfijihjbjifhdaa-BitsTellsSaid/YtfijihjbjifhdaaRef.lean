/- The walks of the document's Has, Count, Draw and Same for layer 6: they come to the same plain functions as the program's; strings shorter than 2^40. -/
import Derived.Test.YtfijihjbjifhdaaCount
import Derived.Maps.AppendAt
namespace Go.Proofs.Ytfijihjbjifhdaa
open Go.RowKit

theorem ret_bool {a b : Bool} (h : a = b) : Ending.returned (.bool a) = .returned (.bool b) := by rw [h]
theorem ret_i64 {a b : Int} (h : a = b) : Ending.returned (.int .i64 a) = .returned (.int .i64 b) := by rw [h]
theorem beq_cast (y : Nat) : ((y : Int) % 2 == 1) = (y % 2 == 1) := by
  rw [Bool.eq_iff_iff]
  simp
  omega

theorem rhas_neg (s : ByteArray) (i : Int) (h0 : i < 0) (w : World) :
    Calls Try.prog 12 #[.string s, .int .i64 i] w fun e w' => e = .returned (.bool false) ∧ w = w' := by
  go_enter Try.func12, Try.ntmps12
  go_wp2
  go_ret
  exact ⟨rfl, rfl⟩

theorem rhas_out (s : ByteArray) (i : Nat) (h0 : s.size ≤ i / 8) (hm : (i : Int) ≤ 9223372036854775807) (w : World) :
    Calls Try.prog 12 #[.string s, .int .i64 i] w fun e w' => e = .returned (.bool false) ∧ w = w' := by
  have h1 : (s.size : Int) ≤ (i : Int) / 8 := by omega
  go_enter Try.func12, Try.ntmps12
  go_wp2
  go_ret
  exact ⟨rfl, rfl⟩

theorem rhas_in (s : ByteArray) (i : Nat) (h0 : i / 8 < s.size) (hm : (i : Int) ≤ 9223372036854775807) (w : World) :
    Calls Try.prog 12 #[.string s, .int .i64 i] w fun e w' => e = .returned (.bool (bitOf s[i / 8] i)) ∧ w = w' := by
  have h1 : ¬ (s.size : Int) ≤ (i : Int) / 8 := by omega
  have hbd : s[i / 8].toNat < 256 := s[i / 8].toNat_lt
  obtain ⟨z, hz⟩ : ∃ z, z = s[i / 8].toNat := ⟨_, rfl⟩
  have HZ := Lib.hid hz
  have hb : bitOf s[i / 8] i = (z / 2 ^ (7 - i % 8) % 2 == 1) := by rw [hz]; rfl
  have HB := Lib.hid hb
  have hzb : z < 256 := by omega
  clear hb hz
  go_enter Try.func12, Try.ntmps12
  go_wp2
  go_loop [5, 6] (fun x k => ∃ j y : Nat, i % 8 ≤ j ∧ j ≤ 7 ∧ k = .int .i64 j ∧ x = .int .i64 y ∧ Hid (y = z / 2 ^ (j - i % 8))) (fun _ k => 7 - (intOf k).toNat)
  case atStart => exact ⟨i % 8, z, Nat.le_refl _, by omega, by go_num, by rw [HZ.out], by rw [Nat.sub_self]; exact (Nat.div_one z).symm⟩
  case round =>
    obtain ⟨j, y, hj0, hj7, rfl, rfl, HY⟩ := hrel
    have hyb : y < 256 := by have := Nat.div_le_self z (2 ^ (j - i % 8)); rw [HY.out]; omega
    rcases Nat.lt_or_ge j 7 with hlt | hge
    · go_wp2
      go_round
      case rel => exact ⟨j + 1, y / 2, by omega, by omega, by go_num, by go_num, by show y / 2 = _; rw [HY.out, show j + 1 - i % 8 = (j - i % 8) + 1 from by omega, Nat.pow_succ, Nat.div_div_eq_div_mul]⟩
      case measure => simp [intOf]; omega
    · obtain rfl : j = 7 := by omega
      go_wp2
      go_ret
      exact ⟨ret_bool (by rw [HB.out, ← HY.out]; exact beq_cast y), rfl⟩

/-- the document's 'Has' -/
theorem rhas_any (s : ByteArray) (i : Int) (hi : i ≤ 9223372036854775807) (w : World) :
    Calls Try.prog 12 #[.string s, .int .i64 i] w fun e w' => e = .returned (.bool (hasB s.data.toList i)) ∧ w = w' := by
  rcases Int.lt_or_le i 0 with h0 | h0
  · have : hasB s.data.toList i = false := by simp [hasB]; omega
    rw [this]
    exact rhas_neg s i h0 w
  · obtain ⟨k, rfl⟩ := Int.eq_ofNat_of_zero_le h0
    by_cases hk : k / 8 < s.size
    · have : hasB s.data.toList (k : Int) = bitOf s[k / 8] k := by
        have hx : s.data.toList[k / 8]? = some s[k / 8] := by
          rw [Array.getElem?_toList, Array.getElem?_eq_getElem (by exact hk)]; rfl
        simp [hasB, bitB, hx]
      rw [this]
      exact rhas_in s k hk (by omega) w
    · have : hasB s.data.toList (k : Int) = false := by
        have hx : s.data.toList[k / 8]? = none := List.getElem?_eq_none (by simpa using Nat.le_of_not_lt hk)
        simp [hasB, bitB, hx]
      rw [this]
      exact rhas_out s k (by omega) (by omega) w

theorem countB_eq (l : List UInt8) (n : Int) (M : Nat) (h : M = min n.toNat (8 * l.length)) : countB l n = cnt l M := by rw [countB_cnt, h]

set_option maxHeartbeats 400000 in
/-- the document's 'Count' -/
theorem rcount_any (s : ByteArray) (n : Int) (hs : s.size ≤ 1099511627776) (w : World) :
    Calls Try.prog 16 #[.string s, .int .i64 n] w fun e w' => e = .returned (.int .i64 (countB s.data.toList n)) ∧ w = w' := by
  have hlen : s.data.toList.length = s.size := by simp
  obtain ⟨l, hl⟩ : ∃ l, l = s.data.toList := ⟨_, rfl⟩
  rw [← hl] at hlen ⊢
  have HL := Lib.hid hl
  obtain ⟨M, hM⟩ : ∃ M, M = min n.toNat (8 * l.length) := ⟨_, rfl⟩
  have HC := Lib.hid (countB_eq l n M hM)
  have hM1 : M ≤ 8 * s.size := by omega
  have hM2 : 0 ≤ n → (M : Int) ≤ n := by omega
  have hM3 : ∀ k : Nat, ¬ k < M → ¬ ((k : Int) < n ∧ (k : Int) < 8 * (s.size : Int)) := by omega
  have hM4 : ∀ k : Nat, k < M → ((k : Int) < n ∧ (k : Int) < 8 * (s.size : Int)) := by omega
  have HM3 := Lib.hid hM3
  have HM4 := Lib.hid hM4
  have HH := Lib.hid (show ∀ k : Nat, hasB s.data.toList (k : Int) = bitB l k by intro k; rw [← hl]; simp [hasB])
  clear hl hM hM2 hM3 hM4 hlen
  go_enter Try.func16, Try.ntmps16
  go_wp2
  go_loop [5, 6] (fun t i => ∃ k : Nat, k ≤ M ∧ i = .int .i64 k ∧ t = .int .i64 (cnt l k)) (fun _ i => M - (intOf i).toNat)
  case atStart => exact ⟨0, Nat.zero_le _, rfl, rfl⟩
  case round =>
    obtain ⟨k, hk, rfl, rfl⟩ := hrel
    have hle := cnt_le l k
    rcases Nat.lt_or_ge k M with hlt | hge
    · obtain ⟨ha, hb⟩ := HM4.out k hlt
      cases hb : bitB l k with
      | true =>
        have hb' := (HH.out k).trans hb
        have HB := Lib.hid (cnt_hit l k hb)
        clear hb
        go_wp2_with (go_at_call 12; refine (rhas_any s k (by omega) _).mono ?_; rintro e w1 ⟨rfl, rfl⟩; rw [hb'])
        go_round
        case rel => exact ⟨k + 1, by omega, by go_num, by rw [HB.out]; go_num⟩
        case measure => simp [intOf]; omega
      | false =>
        have hb' := (HH.out k).trans hb
        have HB := Lib.hid (cnt_miss l k hb)
        clear hb
        go_wp2_with (go_at_call 12; refine (rhas_any s k (by omega) _).mono ?_; rintro e w1 ⟨rfl, rfl⟩; rw [hb'])
        go_round
        case rel => exact ⟨k + 1, by omega, by go_num, by rw [HB.out]⟩
        case measure => simp [intOf]; omega
    · obtain rfl : k = M := by omega
      have hno := HM3.out k (by omega)
      by_cases hn : (k : Int) < n
      · have hn2 : ¬ (k : Int) < 8 * (s.size : Int) := fun h => hno ⟨hn, h⟩
        clear hno
        go_wp2
        go_ret
        exact ⟨by rw [HC.out]; rfl, rfl⟩
      · clear hno
        have hd : decide ((k : Int) < n) = false := by simpa using hn
        go_wp2
        go_ret
        exact ⟨by rw [HC.out]; rfl, rfl⟩

end Go.Proofs.Ytfijihjbjifhdaa
