/- The walk of the statement NetFull: for every number it is true, and what was there before stands. -/
import Derived.Test.YtckcagklojpfhaaUse
import Derived.Laws.BitsLemmas
import Derived.Lib.EndianBits
namespace Go.Proofs.Ytckcagklojpfhaa.netFull
open Go.RowKit
set_option linter.unusedSimpArgs false

theorem and15 (i : Nat) (h : i < 4096) : bits .and .i64 (i : Int) 15 = ((i % 16 : Nat) : Int) := by
  have h := bits_mask .i64 62 (by decide) (fun n h0 h1 => by rw [IntKind.wrap_i64]; omega) 4 (by decide) (i : Int) (by omega) (by omega)
  have e : ((2 : Int) ^ 4 - 1) = 15 := by decide
  have e2 : ((2 : Int) ^ 4) = 16 := by decide
  rw [e, e2] at h
  rw [h]
  omega

theorem and4095 (n : Nat) (h : n < 65536) : bits .and .u16 (n : Int) 4095 = ((n % 4096 : Nat) : Int) := by
  have h := bits_mask .u16 16 (by decide) (fun n h0 h1 => by rw [IntKind.wrap_u16]; omega) 12 (by decide) (n : Int) (by omega) (by omega)
  have e : ((2 : Int) ^ 12 - 1) = 4095 := by decide
  have e2 : ((2 : Int) ^ 12) = 4096 := by decide
  rw [e, e2] at h
  rw [h]
  omega

theorem putE_in (ps : List Pk) (f t : Int) (h : ps.length < 4096) (hf : 0 ≤ f ∧ f ≤ 15) (ht : 0 ≤ t ∧ t ≤ 15) : putE ps f t = 0 := by
  unfold putE bothNodes
  rw [if_pos (by simp; omega), if_neg (by omega)]
theorem putE_full (ps : List Pk) (f t : Int) (h : 4096 ≤ ps.length) (hf : 0 ≤ f ∧ f ≤ 15) (ht : 0 ≤ t ∧ t ≤ 15) : putE ps f t = 13 := by
  unfold putE bothNodes
  rw [if_pos (by simp; omega), if_pos (by omega)]
theorem putL_in (ps : List Pk) (f t : Int) (d : List UInt8) (h : putE ps f t = 0) : putL ps (f, t, d) = ps ++ [(f, t, d)] := by
  unfold putL
  rw [if_pos h]
theorem putL_no (ps : List Pk) (f t : Int) (d : List UInt8) (h : putE ps f t ≠ 0) : putL ps (f, t, d) = ps := by
  unfold putL
  rw [if_neg h]

set_option maxRecDepth 100000 in
set_option maxHeartbeats 1000000 in
theorem law_nat (n : Nat) (w : World) (hn : n < 65536) : Calls Try.prog 5 #[.int .u16 n] w (Yes w) := by
  have hk := and4095 n hn
  have hkl : n % 4096 < 4096 := Nat.mod_lt _ (by omega)
  generalize n % 4096 = K at *
  have HK := Lib.hid hk
  have HKL := Lib.hid hkl
  clear hk hkl
  go_enter Try.func5, Try.ntmps5
  go_wp2_with fail
  refine (awake_any w).mono ?_
  rintro e w1 ⟨rfl, hb1⟩
  have HB1 := Lib.hid hb1
  clear hb1
  go_wp2_with fail
  refine (new_at w1).mono ?_
  rintro e w2 ⟨g, rfl, hn2, hb2⟩
  have HN2 := Lib.hid hn2
  have HB2 := Lib.hid hb2
  clear hn2 hb2
  go_wp2
  go_loopw [5] (fun i wr => ∃ (k : Nat) (ps : List Pk), k ≤ 4096 ∧ ps.length = k ∧ i = .int .i64 k ∧ NetB w1.heap.size wr g ps ∧ Below w1.heap.size w1 wr) (fun i _ => 4096 - (intOf i).toNat)
  case atStart => exact ⟨0, [], Nat.zero_le _, rfl, rfl, HN2.out, HB2.out⟩
  case round =>
    obtain ⟨k, ps, hk, hl, rfl, hnk, hbk⟩ := hrel
    have HNK := Lib.hid hnk
    have HBK := Lib.hid hbk
    clear hnk hbk
    rcases Nat.lt_or_ge k 4096 with hlt | hge
    · have hlt' : (k : Int) < 4096 := by omega
      have ha := and15 k hlt
      have hr : k % 16 < 16 := Nat.mod_lt _ (by omega)
      generalize k % 16 = r at *
      have hE := Lib.hid (putE_in ps (r : Int) 0 (by omega) (by omega) (by omega))
      go_wp2_with fail
      refine (put_at HNK.out HBK.out.size (r : Int) 0 _ [] (Rd.nil _ _) (by simp)).mono ?_
      rintro e w3 ⟨rfl, hn3, hb3⟩
      rw [putL_in ps _ _ _ hE.out] at hn3
      rw [hE.out]
      have HN3 := Lib.hid hn3
      have HB3 := Lib.hid (HBK.out.trans hb3)
      clear hn3 hb3 ha
      go_wp2
      go_roundw
      case rel => exact ⟨k + 1, ps ++ [((r : Int), 0, [])], by omega, by simp [hl], by go_num, HN3.out, HB3.out⟩
      case measure => simp [intOf]; omega
    · obtain rfl : k = 4096 := by omega
      have HL := Lib.hid hl
      have hE := Lib.hid (putE_full ps 0 0 (by omega) (by omega) (by omega))
      clear hl hk hge
      go_wp2_with fail
      refine (put_at HNK.out HBK.out.size 0 0 _ [] (Rd.nil _ _) (by simp)).mono ?_
      rintro e w3 ⟨rfl, hn3, hb3⟩
      rw [putL_no ps _ _ _ (by rw [hE.out]; decide)] at hn3
      rw [hE.out]
      have HN3 := Lib.hid hn3
      have HB3 := Lib.hid (HBK.out.trans hb3)
      have hkk := HK.out
      have hkl2 := HKL.out
      clear hn3 hb3
      go_wp2_with fail
      clear hkk hkl2
      refine (drop_at HN3.out HB3.out.size (K : Int) (by rw [HL.out]; omega)).mono ?_
      rintro e w4 ⟨rfl, hn4, hb4⟩
      rw [show thereE ps.length [(K : Int)] = 0 by rw [thereE_one, HL.out, if_pos (by have := HKL.out; omega)]]
      have hlen : (dropL ps (K : Int)).length = 4095 := by
        unfold dropL
        rw [HL.out, if_pos (by have := HKL.out; omega), List.length_eraseIdx, HL.out, if_pos (by have := HKL.out; simpa using this)]
      generalize dropL ps (K : Int) = qs at *
      have hE4 := Lib.hid (putE_in qs 0 9 (by omega) (by omega) (by omega))
      have HN4 := Lib.hid hn4
      have HB4 := Lib.hid (HB3.out.trans hb4)
      have HLQ := Lib.hid hlen
      clear hn4 hb4 hlen
      go_wp2_with fail
      refine (put_at HN4.out HB4.out.size 0 9 _ [] (Rd.nil _ _) (by simp)).mono ?_
      rintro e w5 ⟨rfl, hn5, hb5⟩
      rw [putL_in qs _ _ _ hE4.out] at hn5
      rw [hE4.out]
      have HN5 := Lib.hid hn5
      have HB5 := Lib.hid (HB4.out.trans hb5)
      clear hn5 hb5
      go_wp2_with fail
      have hp : (qs ++ [((0 : Int), (9 : Int), ([] : List UInt8))])[4095]? = some ((0 : Int), (9 : Int), ([] : List UInt8)) := by
        rw [← HLQ.out]
        simp
      have hlk := look_at HN5.out 4095 _ hp
      rw [show ((4095 : Nat) : Int) = 4095 from rfl] at hlk
      refine hlk.mono ?_
      rintro e w6 ⟨v6, rfl, ho6, hn6, hb6⟩
      obtain ⟨A6, c6, hv6⟩ := ownsRow_form ho6
      change v6 = .slice A6 0 c6 at hv6
      subst hv6
      have hb7 : Below w6.heap.size w6 (w6.alloc (.cells #[.int .i64 0, .int .i64 9, .slice A6 0 c6] 33)) := (Below.refl _ _).alloc (Nat.le_refl _) _
      have HN6 := Lib.hid (hn6.below hb7)
      have HB6 := Lib.hid (HB5.out.trans (hb6.mono HB5.out.size))
      have HB7 := Lib.hid (HB6.out.trans (hb7.mono HB6.out.size))
      have HLF := Lib.hid (show (qs ++ [((0 : Int), (9 : Int), ([] : List UInt8))]).length = 4096 by rw [List.length_append, HLQ.out]; rfl)
      clear hn6 hb6 ho6 hb7 hp hlk
      go_wp2_with fail
      refine (len_any HN6.out).mono ?_
      rintro e w8 ⟨rfl, rfl⟩
      rw [HLF.out]
      go_wp2
      go_ret
      exact ⟨rfl, bthen HB1.out HB7.out⟩

theorem law_any (n : Int) (w : World) (n0 : 0 ≤ n) (n1 : n ≤ 65535) : Calls Try.prog 5 #[.int .u16 n] w (Yes w) := by
  obtain ⟨N, rfl⟩ := Int.eq_ofNat_of_zero_le n0
  exact law_nat N w (by omega)

end Go.Proofs.Ytckcagklojpfhaa.netFull
