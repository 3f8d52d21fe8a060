/- The walk of the statement NetSwaps: for every three bytes it is true, and what was there before stands. -/
import Derived.Test.YtckcagklojpfhaaUse
import Derived.Test.YtckcagklojpfhaaFullW
namespace Go.Proofs.Ytckcagklojpfhaa.netSwaps
open Go.RowKit netFull
set_option linter.unusedSimpArgs false

def L (m : Nat) : List Pk := (List.range m).map fun a => ((0 : Int), (0 : Int), [UInt8.ofNat a])
theorem L_length (m : Nat) : (L m).length = m := by simp [L]
theorem L_get {m a : Nat} (h : a < m) : (L m)[a]? = some ((0 : Int), (0 : Int), [UInt8.ofNat a]) := by simp [L, h]
theorem L_succ (m : Nat) : L (m + 1) = L m ++ [((0 : Int), (0 : Int), [UInt8.ofNat m])] := by simp [L, List.range_succ]

theorem toNat_small (n : Nat) (h : n < 256) : (((UInt8.ofNat n).toNat : Nat) : Int) = (n : Int) := by
  rw [UInt8.toNat_ofNat']
  omega

theorem rd_small {w : World} {b n : Nat} {fr : Nat × Nat} (hn : n < 256) (h : w.heap[b]? = some (.cells #[.int .u8 n] 5 fr)) : Rd w w.heap.size (.slice (some ⟨b, 0, none⟩) 1 1) (bv [UInt8.ofNat n]) :=
  rd_one (fr := fr) (by rw [toNat_small n hn]; exact h)

theorem one_byte {w : World} {B b c : Nat} {x : UInt8} (h : w.ownsRow B 5 1 (.slice (some ⟨b, 0, none⟩) 1 c) 1 (bv [x])) : w.cell? ⟨b, 0, none⟩ = some (.int .u8 (x.toNat : Int)) := by
  have := h.cells (g := b) rfl 0 _ (show (bv [x])[0]? = some (.int .u8 (x.toNat : Int)) from rfl)
  rwa [show (⟨b, 0, none⟩ : Addr).add 0 = ⟨b, 0, none⟩ from by unfold Addr.add; split <;> simp_all] at this

theorem swap_get {ps : List Pk} {p q a : Nat} (hp : p < ps.length) (hq : q < ps.length) : (swapL ps p q)[a]? = if a = q then ps[p]? else if a = p then ps[q]? else ps[a]? := by
  unfold swapL
  rw [if_pos (by omega)]
  simp only [Int.toNat_natCast]
  rw [List.getElem?_set]
  by_cases h1 : q = a
  · subst h1
    rw [if_pos rfl, if_pos rfl, if_pos (by simpa using hq), List.getElem?_eq_getElem hp]
    rfl
  · rw [if_neg h1, if_neg (fun e => h1 e.symm), List.getElem?_set]
    by_cases h2 : p = a
    · subst h2
      rw [if_pos rfl, if_pos rfl, if_pos hp, List.getElem?_eq_getElem hq]
      rfl
    · rw [if_neg h2, if_neg (fun e => h2 e.symm)]

theorem swap_length (ps : List Pk) (i k : Int) : (swapL ps i k).length = ps.length := by
  unfold swapL
  split
  · simp
  · rfl

theorem swap_back {ps : List Pk} {p q : Nat} (hp : p < ps.length) (hq : q < ps.length) : swapL (swapL ps p q) q p = ps := by
  apply List.ext_getElem?
  intro a
  rw [swap_get (by rw [swap_length]; exact hq) (by rw [swap_length]; exact hp), swap_get hp hq, swap_get hp hq, swap_get hp hq]
  by_cases h1 : a = p
  · subst h1
    rw [if_pos rfl, if_pos rfl]
  · rw [if_neg h1]
    by_cases h2 : a = q
    · subst h2
      rw [if_pos rfl]
      by_cases h3 : p = a
      · rw [if_pos h3, h3]
      · rw [if_neg h3, if_pos rfl]
    · rw [if_neg h2, if_neg h2, if_neg h1]

theorem swap_L {m p q a : Nat} (hp : p < m) (hq : q < m) (ha : a < m) : (swapL (L m) p q)[a]? = some ((0 : Int), (0 : Int), [UInt8.ofNat (if a = p then q else if a = q then p else a)]) := by
  rw [swap_get (by rw [L_length]; exact hp) (by rw [L_length]; exact hq), L_get hp, L_get hq, L_get ha]
  by_cases h1 : a = q
  · subst h1
    by_cases h2 : a = p
    · subst h2; simp
    · simp [h2]
  · by_cases h2 : a = p
    · subst h2; simp [h1]
    · simp [h1, h2]

set_option maxRecDepth 100000 in
set_option maxHeartbeats 2000000 in
theorem law_nat (n i k : Nat) (w : World) (hn : n < 256) (hi : i < 256) (hk : k < 256) : Calls Try.prog 6 #[.int .u8 n, .int .u8 i, .int .u8 k] w (Yes w) := by
  obtain ⟨m, hm⟩ : ∃ m : Nat, m = n % 20 + 1 := ⟨_, rfl⟩
  have hm1 : ((n : Int) % 20) + 1 = (m : Int) := by omega
  have hm2 : 1 ≤ m ∧ m ≤ 20 := by omega
  obtain ⟨p, hp⟩ : ∃ p : Nat, p = i % m := ⟨_, rfl⟩
  obtain ⟨q, hq⟩ : ∃ q : Nat, q = k % m := ⟨_, rfl⟩
  have hpm : p < m := by rw [hp]; exact Nat.mod_lt _ (by omega)
  have hqm : q < m := by rw [hq]; exact Nat.mod_lt _ (by omega)
  have hpi : (i : Int).tmod (m : Int) = (p : Int) := by rw [hp]; rfl
  have hqi : (k : Int).tmod (m : Int) = (q : Int) := by rw [hq]; rfl
  have HPI := Lib.hid hpi
  have HQI := Lib.hid hqi
  have HM1 := Lib.hid hm1
  clear hp hq hm hpi hqi hm1
  go_enter Try.func6, Try.ntmps6
  go_wp2_with fail
  refine (awake_any w).mono ?_
  rintro e w1 ⟨rfl, hb1⟩
  have HB1 := Lib.hid hb1
  clear hb1
  have hm1 := HM1.out
  go_wp2_with fail
  clear hm1
  refine (new_at w1).mono ?_
  rintro e w2 ⟨g, rfl, hn2, hb2⟩
  have HN2 := Lib.hid hn2
  have HB2 := Lib.hid hb2
  clear hn2 hb2
  go_wp2
  go_loopw [10] (fun i wr => ∃ a : Nat, a ≤ m ∧ i = .int .i64 a ∧ NetB w1.heap.size wr g (L a) ∧ Below w1.heap.size w1 wr) (fun i _ => m - (intOf i).toNat)
  case atStart => exact ⟨0, Nat.zero_le _, rfl, HN2.out, HB2.out⟩
  case round =>
    obtain ⟨a, ha, rfl, hnk, hbk⟩ := hrel
    rcases Nat.lt_or_ge a m with hlt | hge
    · have hlt' : (a : Int) < (m : Int) := by omega
      have hE := Lib.hid (putE_in (L a) 0 0 (by rw [L_length]; omega) (by omega) (by omega))
      have hb3 : Below wr.heap.size wr (wr.alloc (.cells #[.int .u8 a] 5)) := (Below.refl _ _).alloc (Nat.le_refl _) _
      have HNK := Lib.hid (hnk.below hb3)
      have HBK := Lib.hid (hbk.trans (hb3.mono hbk.size))
      have HR := Lib.hid (rd_small (w := wr.alloc (.cells #[.int .u8 a] 5)) (b := wr.heap.size) (n := a) (by omega) (heap_alloc_new wr (.cells #[.int .u8 a] 5)))
      clear hnk hbk hb3
      go_wp2_with fail
      refine (put_at HNK.out HBK.out.size 0 0 _ _ HR.out (by simp)).mono ?_
      rintro e w3 ⟨rfl, hn3, hb3⟩
      rw [putL_in (L a) _ _ _ hE.out, ← L_succ] at hn3
      rw [hE.out]
      have HN3 := Lib.hid hn3
      have HB3 := Lib.hid (HBK.out.trans hb3)
      clear hn3 hb3
      go_wp2
      go_roundw
      case rel => exact ⟨a + 1, by omega, by go_num, HN3.out, HB3.out⟩
      case measure => simp [intOf]; omega
    · obtain rfl : a = m := by omega
      have HNK := Lib.hid hnk
      have HBK := Lib.hid hbk
      clear hnk hbk hge ha
      have hpi := HPI.out
      have hqi := HQI.out
      go_wp2_with fail
      clear hpi hqi
      refine (swap_at HNK.out HBK.out.size (p : Int) (q : Int)).mono ?_
      rintro e w3 ⟨rfl, hn3, hb3⟩
      rw [show thereE (L a).length [(p : Int), (q : Int)] = 0 by rw [thereE_two, L_length, if_pos (by omega)]]
      have HN3 := Lib.hid hn3
      have HB3 := Lib.hid (HBK.out.trans hb3)
      clear hn3 hb3
      obtain ⟨m, rfl⟩ : ∃ m, m = a := ⟨_, rfl⟩
      go_wp2
      go_loopw [13] (fun i wr => ∃ a : Nat, a ≤ m ∧ i = .int .i64 a ∧ NetB w1.heap.size wr g (swapL (L m) p q) ∧ Below w1.heap.size w1 wr) (fun i _ => m - (intOf i).toNat)
      case atStart => exact ⟨0, Nat.zero_le _, rfl, HN3.out, HB3.out⟩
      case round =>
        obtain ⟨a, ha, rfl, hnk, hbk⟩ := hrel
        have HNK := Lib.hid hnk
        have HBK := Lib.hid hbk
        clear hnk hbk
        rcases Nat.lt_or_ge a m with hlt | hge
        · have hlt' : (a : Int) < (m : Int) := by omega
          have hget := swap_L hpm hqm hlt
          by_cases h1 : a = p
          · subst h1
            rw [if_pos rfl] at hget
            have HGET := Lib.hid hget
            clear hget
            go_wp2_with fail
            refine (look_at HNK.out a _ HGET.out).mono ?_
            rintro e w5 ⟨v5, rfl, ho5, hn5, hb5⟩
            obtain ⟨b5, c5, hv5, _, hb5l⟩ := ho5.form (Nat.zero_lt_one)
            change v5 = .slice (some ⟨b5, 0, none⟩) 1 c5 at hv5
            subst hv5
            have hb6 : Below w5.heap.size w5 (w5.alloc (.cells #[.int .i64 0, .int .i64 0, .slice (some ⟨b5, 0, none⟩) 1 c5] 33)) := (Below.refl _ _).alloc (Nat.le_refl _) _
            have hcb := (hb6.cell (p := ⟨b5, 0, none⟩) hb5l).trans (one_byte ho5)
            rw [toNat_small q (by omega)] at hcb
            have HN6 := Lib.hid (hn5.below hb6)
            have HB6 := Lib.hid (HBK.out.trans ((bthen hb5 hb6).mono HBK.out.size))
            clear hn5 hb5 ho5 hb6
            go_wp2
            go_roundw
            case rel => exact ⟨a + 1, by omega, by go_num, HN6.out, HB6.out⟩
            case measure => simp [intOf]; omega
          · have h1' : ((a : Int) == (p : Int)) = false := by simp; omega
            rw [if_neg h1] at hget
            by_cases h2 : a = q
            · subst h2
              rw [if_pos rfl] at hget
              have HGET := Lib.hid hget
              clear hget
              go_wp2_with fail
              refine (look_at HNK.out a _ HGET.out).mono ?_
              rintro e w5 ⟨v5, rfl, ho5, hn5, hb5⟩
              obtain ⟨b5, c5, hv5, _, hb5l⟩ := ho5.form (Nat.zero_lt_one)
              change v5 = .slice (some ⟨b5, 0, none⟩) 1 c5 at hv5
              subst hv5
              have hb6 : Below w5.heap.size w5 (w5.alloc (.cells #[.int .i64 0, .int .i64 0, .slice (some ⟨b5, 0, none⟩) 1 c5] 33)) := (Below.refl _ _).alloc (Nat.le_refl _) _
              have hcb := (hb6.cell (p := ⟨b5, 0, none⟩) hb5l).trans (one_byte ho5)
              rw [toNat_small p (by omega)] at hcb
              have HN6 := Lib.hid (hn5.below hb6)
              have HB6 := Lib.hid (HBK.out.trans ((bthen hb5 hb6).mono HBK.out.size))
              clear hn5 hb5 ho5 hb6
              go_wp2
              go_roundw
              case rel => exact ⟨a + 1, by omega, by go_num, HN6.out, HB6.out⟩
              case measure => simp [intOf]; omega
            · have h2' : ((a : Int) == (q : Int)) = false := by simp; omega
              rw [if_neg h2] at hget
              have HGET := Lib.hid hget
              clear hget
              go_wp2_with fail
              refine (look_at HNK.out a _ HGET.out).mono ?_
              rintro e w5 ⟨v5, rfl, ho5, hn5, hb5⟩
              obtain ⟨b5, c5, hv5, _, hb5l⟩ := ho5.form (Nat.zero_lt_one)
              change v5 = .slice (some ⟨b5, 0, none⟩) 1 c5 at hv5
              subst hv5
              have hb6 : Below w5.heap.size w5 (w5.alloc (.cells #[.int .i64 0, .int .i64 0, .slice (some ⟨b5, 0, none⟩) 1 c5] 33)) := (Below.refl _ _).alloc (Nat.le_refl _) _
              have hcb := (hb6.cell (p := ⟨b5, 0, none⟩) hb5l).trans (one_byte ho5)
              rw [toNat_small a (by omega)] at hcb
              have HN6 := Lib.hid (hn5.below hb6)
              have HB6 := Lib.hid (HBK.out.trans ((bthen hb5 hb6).mono HBK.out.size))
              clear hn5 hb5 ho5 hb6
              go_wp2
              go_roundw
              case rel => exact ⟨a + 1, by omega, by go_num, HN6.out, HB6.out⟩
              case measure => simp [intOf]; omega
        · obtain rfl : m = a := by omega
          clear ha hge
          go_wp2_with fail
          refine (swap_at HNK.out HBK.out.size (q : Int) (p : Int)).mono ?_
          rintro e w4 ⟨rfl, hn4, hb4⟩
          rw [swap_back (by rw [L_length]; exact hpm) (by rw [L_length]; exact hqm)] at hn4
          rw [show thereE (swapL (L m) p q).length [(q : Int), (p : Int)] = 0 by rw [thereE_two, swap_length, L_length, if_pos (by omega)]]
          have HN4 := Lib.hid hn4
          have HB4 := Lib.hid (HBK.out.trans hb4)
          clear hn4 hb4
          go_wp2
          go_loopw [17] (fun i wr => ∃ a : Nat, a ≤ m ∧ i = .int .i64 a ∧ NetB w1.heap.size wr g (L m) ∧ Below w1.heap.size w1 wr) (fun i _ => m - (intOf i).toNat)
          case atStart => exact ⟨0, Nat.zero_le _, rfl, HN4.out, HB4.out⟩
          case round =>
            obtain ⟨a, ha, rfl, hnk, hbk⟩ := hrel
            have HNK := Lib.hid hnk
            have HBK := Lib.hid hbk
            clear hnk hbk
            rcases Nat.lt_or_ge a m with hlt | hge
            · have hlt' : (a : Int) < (m : Int) := by omega
              have HGET := Lib.hid (L_get hlt)
              go_wp2_with fail
              refine (look_at HNK.out a _ HGET.out).mono ?_
              rintro e w5 ⟨v5, rfl, ho5, hn5, hb5⟩
              obtain ⟨b5, c5, hv5, _, hb5l⟩ := ho5.form (Nat.zero_lt_one)
              change v5 = .slice (some ⟨b5, 0, none⟩) 1 c5 at hv5
              subst hv5
              have hb6 : Below w5.heap.size w5 (w5.alloc (.cells #[.int .i64 0, .int .i64 0, .slice (some ⟨b5, 0, none⟩) 1 c5] 33)) := (Below.refl _ _).alloc (Nat.le_refl _) _
              have hcb := (hb6.cell (p := ⟨b5, 0, none⟩) hb5l).trans (one_byte ho5)
              rw [toNat_small a (by omega)] at hcb
              have HN6 := Lib.hid (hn5.below hb6)
              have HB6 := Lib.hid (HBK.out.trans ((bthen hb5 hb6).mono HBK.out.size))
              clear hn5 hb5 ho5 hb6
              go_wp2
              go_roundw
              case rel => exact ⟨a + 1, by omega, by go_num, HN6.out, HB6.out⟩
              case measure => simp [intOf]; omega
            · obtain rfl : m = a := by omega
              clear ha hge
              go_wp2_with fail
              refine (swap_at HNK.out HBK.out.size (p : Int) (m : Int)).mono ?_
              rintro e w5 ⟨rfl, hn5, hb5⟩
              rw [show thereE (L m).length [(p : Int), (m : Int)] = 15 by rw [thereE_two, L_length, if_neg (by omega)]]
              rw [show swapL (L m) (p : Int) (m : Int) = L m from if_neg (by rw [L_length]; omega)] at hn5
              have HN5 := Lib.hid hn5
              have HB5 := Lib.hid (HBK.out.trans hb5)
              clear hn5 hb5
              go_wp2_with fail
              refine (swap_at HN5.out HB5.out.size (-1) (p : Int)).mono ?_
              rintro e w6 ⟨rfl, hn6, hb6⟩
              rw [show thereE (L m).length [-1, (p : Int)] = 15 by rw [thereE_two, if_neg (by omega)]]
              rw [show swapL (L m) (-1) (p : Int) = L m from if_neg (by omega)] at hn6
              have HN6 := Lib.hid hn6
              have HB6 := Lib.hid (HB5.out.trans hb6)
              clear hn6 hb6
              go_wp2_with fail
              refine (len_any HN6.out).mono ?_
              rintro e w8 ⟨rfl, rfl⟩
              rw [L_length]
              go_wp2
              go_ret
              exact ⟨rfl, bthen HB1.out HB6.out⟩

theorem law_any (n i k : Int) (w : World) (n0 : 0 ≤ n) (n1 : n ≤ 255) (i0 : 0 ≤ i) (i1 : i ≤ 255) (k0 : 0 ≤ k) (k1 : k ≤ 255) : Calls Try.prog 6 #[.int .u8 n, .int .u8 i, .int .u8 k] w (Yes w) := by
  obtain ⟨N, rfl⟩ := Int.eq_ofNat_of_zero_le n0
  obtain ⟨I, rfl⟩ := Int.eq_ofNat_of_zero_le i0
  obtain ⟨K, rfl⟩ := Int.eq_ofNat_of_zero_le k0
  exact law_nat N I K w (by omega) (by omega) (by omega)

end Go.Proofs.Ytckcagklojpfhaa.netSwaps
