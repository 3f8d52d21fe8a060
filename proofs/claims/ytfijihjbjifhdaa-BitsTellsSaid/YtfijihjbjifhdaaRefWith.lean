/- The walk of the document's With for layer 6: it comes to the same plain function as the program's. -/
import Derived.Test.YtfijihjbjifhdaaRef
import Derived.Test.YtfijihjbjifhdaaWith
namespace Go.Proofs.Ytfijihjbjifhdaa
open Go.RowKit

theorem ba_len (b : ByteArray) : b.data.toList.length = b.size := by simp
theorem ba_take (b : ByteArray) (k : Nat) : (b.extract 0 k).data.toList = b.data.toList.take k := by
  rw [ByteArray.data_extract]; simp
theorem ba_drop (b : ByteArray) (k : Nat) : (b.extract k b.size).data.toList = b.data.toList.drop k := by
  rw [ByteArray.data_extract, Array.toList_extract, List.extract_eq_take_drop, List.take_of_length_le (by rw [List.length_drop, ba_len]; omega)]
theorem ba_get (b : ByteArray) (k : Nat) (h : k < b.size) : b.data.toList[k]? = some b[k] := by
  rw [Array.getElem?_toList, Array.getElem?_eq_getElem (by exact h)]; rfl
theorem ba_last (b : ByteArray) (h : b.size - 1 < b.size) : b.data.toList = (b.extract 0 (b.size - 1)).data.toList ++ [b[b.size - 1]] := by
  rw [ba_take]
  have hx := ba_get b (b.size - 1) h
  have := List.take_add_one (l := b.data.toList) (i := b.size - 1)
  rw [hx] at this
  rw [show b.size - 1 + 1 = b.data.toList.length by rw [ba_len]; omega, List.take_length] at this
  exact this
theorem ba_app (a b : ByteArray) : (a ++ b).data.toList = a.data.toList ++ b.data.toList := by
  simp

def sizeOfStr : Value → Nat | .string s => s.size | _ => 0

/-- A string of just these bytes comes back; what was there before stands. -/
def GivesStr (w : World) (l : List UInt8) (e : Ending) (w' : World) : Prop :=
  ∃ t : ByteArray, e = .returned (.string t) ∧ t.data.toList = l ∧ Below w.heap.size w w'

set_option maxRecDepth 100000 in
set_option maxHeartbeats 800000 in
theorem rwith_cut (s : ByteArray) (i : Int) (t : Bool) (hs : s.size ≤ 65536) (hc : i < 0 ∨ (0 ≤ i ∧ t = false ∧ s.size ≤ i.toNat / 8)) (hi : i ≤ 65536) (w : World) :
    Calls Try.prog 14 #[.string s, .int .i64 i, .bool t] w (GivesStr w (cutL s.data.toList)) := by
  rcases hc with h | ⟨h0, rfl, h⟩
  · have hd : decide ((0 : Int) ≤ i) = false := by simpa using h
    go_enter Try.func14, Try.ntmps14
    go_wp2
    go_loop [0] (fun v => ∃ b : ByteArray, v = .string b ∧ b.size ≤ s.size ∧ cutL b.data.toList = cutL s.data.toList) (fun v => sizeOfStr v)
    case atStart => exact ⟨s, rfl, Nat.le_refl _, rfl⟩
    case round =>
      obtain ⟨b, rfl, hbs, hcut⟩ := hrel
      have HC := Lib.hid hcut
      clear hcut
      rcases Nat.eq_zero_or_pos b.size with hz | hz
      · have hz' : (b.size : Int) ≤ 0 := by omega
        have HZ := Lib.hid hz
        clear hz
        go_wp2
        go_ret
        exact ⟨b, rfl, by rw [← HC.out, show b.data.toList = [] from List.eq_nil_of_length_eq_zero (by simpa using HZ.out)]; rfl, Below.refl _ _⟩
      · have hlt : b.size - 1 < b.size := by omega
        by_cases hx : b[b.size - 1] = 0
        · have hxb : ((b[b.size - 1].toNat : Int) == 0) = true := by rw [hx]; rfl
          have hl := ba_last b hlt
          rw [hx] at hl
          have HL := Lib.hid hl
          clear hl hx
          go_wp2
          go_round
          case rel => exact ⟨b.extract 0 (b.size - 1), rfl, by simp; omega, by rw [← HC.out, HL.out, cutL_snoc_zero]⟩
          case measure => simp [sizeOfStr]; omega
        · have hxb : ((b[b.size - 1].toNat : Int) == 0) = false := by
            rw [beq_eq_false_iff_ne]; intro e; apply hx; apply UInt8.toNat.inj; simpa using e
          have hl := ba_last b hlt
          have HL := Lib.hid (show cutL b.data.toList = b.data.toList by rw [hl]; exact cutL_snoc _ _ hx)
          clear hl
          go_wp2
          go_ret
          exact ⟨b, rfl, by rw [← HC.out, HL.out], Below.refl _ _⟩
  · have h8 : ¬ i / 8 < (s.size : Int) := by omega
    go_enter Try.func14, Try.ntmps14
    go_wp2
    go_loop [0] (fun v => ∃ b : ByteArray, v = .string b ∧ b.size ≤ s.size ∧ cutL b.data.toList = cutL s.data.toList) (fun v => sizeOfStr v)
    case atStart => exact ⟨s, rfl, Nat.le_refl _, rfl⟩
    case round =>
      obtain ⟨b, rfl, hbs, hcut⟩ := hrel
      have HC := Lib.hid hcut
      clear hcut
      rcases Nat.eq_zero_or_pos b.size with hz | hz
      · have hz' : (b.size : Int) ≤ 0 := by omega
        have HZ := Lib.hid hz
        clear hz
        go_wp2
        go_ret
        exact ⟨b, rfl, by rw [← HC.out, show b.data.toList = [] from List.eq_nil_of_length_eq_zero (by simpa using HZ.out)]; rfl, Below.refl _ _⟩
      · have hlt : b.size - 1 < b.size := by omega
        by_cases hx : b[b.size - 1] = 0
        · have hxb : ((b[b.size - 1].toNat : Int) == 0) = true := by rw [hx]; rfl
          have hl := ba_last b hlt
          rw [hx] at hl
          have HL := Lib.hid hl
          clear hl hx
          go_wp2
          go_round
          case rel => exact ⟨b.extract 0 (b.size - 1), rfl, by simp; omega, by rw [← HC.out, HL.out, cutL_snoc_zero]⟩
          case measure => simp [sizeOfStr]; omega
        · have hxb : ((b[b.size - 1].toNat : Int) == 0) = false := by
            rw [beq_eq_false_iff_ne]; intro e; apply hx; apply UInt8.toNat.inj; simpa using e
          have hl := ba_last b hlt
          have HL := Lib.hid (show cutL b.data.toList = b.data.toList by rw [hl]; exact cutL_snoc _ _ hx)
          clear hl
          go_wp2
          go_ret
          exact ⟨b, rfl, by rw [← HC.out, HL.out], Below.refl _ _⟩

theorem conv_one (w : World) (m : Int) (z : UInt8) (hz : m = (z.toNat : Int)) :
    (convert 22 9 (.slice (some ⟨w.heap.size, 0, none⟩) 1 1)).run Try.prog (w.alloc (.cells #[.int .u8 m] 5)).drew = .ok (.string ⟨#[z]⟩) (w.alloc (.cells #[.int .u8 m] 5)).drew := by
  subst hz
  exact run_convert_bytes_back (P := Try.prog) (w.alloc (.cells #[.int .u8 (z.toNat : Int)] 5)).drew 22 9 5 ⟨w.heap.size, 0, none⟩ 1 [z] Try.underlying22 Try.underlying5 Try.underlying9 (fun j hj => by
    obtain rfl : j = 0 := by simpa using hj
    simp [Addr.add])

theorem turn_set_true : ∀ (x : Fin 256) (r : Fin 8), (bitOf (UInt8.ofNat x.val) r.val = true → turnB (UInt8.ofNat x.val) r.val true = UInt8.ofNat x.val) ∧
    (bitOf (UInt8.ofNat x.val) r.val = false → (turnB (UInt8.ofNat x.val) r.val true).toNat = x.val + 2 ^ (7 - r.val)) ∧
    (bitOf (UInt8.ofNat x.val) r.val = true → (turnB (UInt8.ofNat x.val) r.val false).toNat + 2 ^ (7 - r.val) = x.val) := by decide +kernel

theorem bitOf_mod (x : UInt8) (k : Nat) : bitOf x k = bitOf x (k % 8) := by unfold bitOf; rw [Nat.mod_mod]

theorem turn_facts (x : UInt8) (k : Nat) : (bitOf x k = true → turnB x k true = x) ∧ (bitOf x k = false → (turnB x k true).toNat = x.toNat + 2 ^ (7 - k % 8)) ∧
    (bitOf x k = true → (turnB x k false).toNat + 2 ^ (7 - k % 8) = x.toNat) := by
  have h := turn_set_true ⟨x.toNat, x.toNat_lt⟩ ⟨k % 8, Nat.mod_lt _ (by omega)⟩
  rw [bitOf_mod, turnB_mod x k true, turnB_mod x k false]
  simpa using h

theorem turn_clear (x : UInt8) (k : Nat) (h : bitOf x k = false) : turnB x k false = x := by
  unfold turnB; rw [h]; rfl

theorem rebuilt (b : ByteArray) (k : Nat) (z : UInt8) (h : k < b.size) : (b.extract 0 k ++ ⟨#[z]⟩ ++ b.extract (k + 1) b.size).data.toList = b.data.toList.set k z := by
  rw [ba_app, ba_app, ba_take, ba_drop]
  have : k < b.data.toList.length := by rw [ba_len]; exact h
  rw [List.set_eq_take_append_cons_drop, if_pos this]
  simp

set_option maxRecDepth 100000 in
set_option maxHeartbeats 2000000 in
theorem rwith_turn_true (s : ByteArray) (i : Nat) (hs : s.size ≤ 65536) (hi : i ≤ 65536) (w : World) :
    Calls Try.prog 14 #[.string s, .int .i64 i, .bool true] w (GivesStr w (cutL ((padTo s.data.toList (i / 8 + 1)).modify (i / 8) fun x => turnB x i true))) := by
  go_enter Try.func14, Try.ntmps14
  go_wp2
  go_loop [0] (fun v => ∃ (b : ByteArray) (n : Nat), v = .string b ∧ b.size = s.size + n ∧ n ≤ i / 8 + 1 - s.size ∧ b.data.toList = s.data.toList ++ List.replicate n 0) (fun v => i / 8 + 1 - sizeOfStr v)
  case atStart => exact ⟨s, 0, rfl, rfl, Nat.zero_le _, by simp⟩
  case round =>
    obtain ⟨b, n, rfl, hbs, hnl, hbl⟩ := hrel
    have HBL := Lib.hid hbl
    have HBS := Lib.hid hbs
    have hbs' : b.size ≤ s.size + n := by omega
    have hbs'' : s.size ≤ b.size := by omega
    clear hbl
    rcases Nat.lt_or_ge (i / 8) b.size with hlt | hge
    · have hlt' : ¬ ((b.size : Int) ≤ (i : Int) / 8) := by omega
      clear hbs
      have hpad : b.data.toList = padTo s.data.toList (i / 8 + 1) := by
        rw [HBL.out]; unfold padTo; rw [ba_len, show i / 8 + 1 - s.size = n from by have := HBS.out; omega]
      have HP := Lib.hid hpad
      have hx := ba_get b (i / 8) hlt
      have hbit : hasB b.data.toList (i : Int) = bitOf b[i / 8] i := by simp [hasB, bitB, hx]
      have HX := Lib.hid hx
      have HB := Lib.hid hbit
      clear hpad hx hbit
      go_wp2
      go_loop [7, 8] (fun o k => ∃ j y : Nat, i % 8 ≤ j ∧ j ≤ 7 ∧ k = .int .i64 j ∧ o = .int .i64 y ∧ Hid (y = 2 ^ (j - i % 8))) (fun _ k => 7 - (intOf k).toNat)
      case atStart => exact ⟨i % 8, 1, Nat.le_refl _, by omega, by go_num, by go_num, by rw [Nat.sub_self]; rfl⟩
      case round =>
        obtain ⟨j, y, hj0, hj7, rfl, rfl, HY⟩ := hrel
        have hyb : y ≤ 128 := by rw [HY.out]; exact Nat.pow_le_pow_right (n := 2) (by omega) (show j - i % 8 ≤ 7 by omega)
        rcases Nat.lt_or_ge j 7 with hlt7 | hge7
        · go_wp2
          go_round
          case rel => exact ⟨j + 1, y * 2, by omega, by omega, by go_num, by go_num, by show y * 2 = _; rw [HY.out, show j + 1 - i % 8 = (j - i % 8) + 1 from by omega, Nat.pow_succ]⟩
          case measure => simp [intOf]; omega
        · obtain rfl : j = 7 := by omega
          have hxb : b[i / 8].toNat < 256 := b[i / 8].toNat_lt
          obtain ⟨tf1, tf2, tf3⟩ := turn_facts b[i / 8] i
          have tf4 := turn_clear b[i / 8] i
          rw [← HY.out] at tf2 tf3
          have hzl : (turnB b[i / 8] i true).toNat < 256 := (turnB b[i / 8] i true).toNat_lt
          cases hbit : bitOf b[i / 8] i with
          | true =>
            have hb' := HB.out.trans hbit
            have hz : ((b[i / 8].toNat : Int) : Int) = ((turnB b[i / 8] i true).toNat : Int) := by rw [tf1 hbit]
            have hcv := conv_one w _ (turnB b[i / 8] i true) hz
            have HZL : Hid ((b.extract 0 (i / 8) ++ ⟨#[turnB b[i / 8] i true]⟩ ++ b.extract (i / 8 + 1) b.size).data.toList = (padTo s.data.toList (i / 8 + 1)).modify (i / 8) fun x => turnB x i true) := by
              show _ = _
              rw [rebuilt b _ _ hlt, ← HP.out, modify_of_get _ _ _ _ HX.out]
            have h80 : (0 : Int) ≤ (i : Int) / 8 := by omega
            have h81 : (i : Int) / 8 ≤ (b.size : Int) := by omega
            have h82 : (i : Int) / 8 + 1 ≤ (b.size : Int) := by omega
            have hrange : 0 ≤ ((b[i / 8].toNat : Int) : Int) ∧ ((b[i / 8].toNat : Int) : Int) ≤ 255 := by omega
            clear tf1 tf2 tf3 tf4 hz hbit
            generalize turnB b[i / 8] i true = z at *
            go_wp2_with (go_at_call 12; refine (rhas_any b i (by omega) _).mono ?_; rintro e w1 ⟨rfl, rfl⟩; rw [hb'])
            go_region
            have HBW := Lib.hid (show Below w.heap.size w (w.alloc (.cells #[.int .u8 ((b[i / 8].toNat : Int) : Int)] 5)).drew from ((Below.refl _ w).alloc (Nat.le_refl _) _).drew)
            have hNs : (b.extract 0 (i / 8) ++ ⟨#[z]⟩ ++ b.extract (i / 8 + 1) b.size).size ≤ 131073 := by
              rw [← ba_len, rebuilt b _ _ hlt, List.length_set, ba_len]; omega
            generalize (b.extract 0 (i / 8) ++ ⟨#[z]⟩ ++ b.extract (i / 8 + 1) b.size) = N at *
            have HNL := Lib.hid (congrArg cutL HZL.out)
            clear HZL HBL HBS HP HX HB hcv
            generalize (w.alloc (.cells #[.int .u8 ((b[i / 8].toNat : Int) : Int)] 5)).drew = w2 at *
            go_wp2
            go_loop [0] (fun v => ∃ b : ByteArray, v = .string b ∧ b.size ≤ N.size ∧ cutL b.data.toList = cutL N.data.toList) (fun v => sizeOfStr v)
            case atStart => exact ⟨N, rfl, Nat.le_refl _, rfl⟩
            case round =>
              obtain ⟨b, rfl, hbs3, hcut⟩ := hrel
              have HC := Lib.hid hcut
              clear hcut
              rcases Nat.eq_zero_or_pos b.size with hz | hz
              · have hz' : (b.size : Int) ≤ 0 := by omega
                have HZ := Lib.hid hz
                clear hz
                go_wp2
                go_ret
                exact ⟨b, rfl, by rw [← HNL.out, ← HC.out, show b.data.toList = [] from List.eq_nil_of_length_eq_zero (by simpa using HZ.out)]; rfl, HBW.out⟩
              · have hlt3 : b.size - 1 < b.size := by omega
                by_cases hx : b[b.size - 1] = 0
                · have hxb : ((b[b.size - 1].toNat : Int) == 0) = true := by rw [hx]; rfl
                  have hl := ba_last b hlt3
                  rw [hx] at hl
                  have HL := Lib.hid hl
                  clear hl hx
                  go_wp2
                  go_round
                  case rel => exact ⟨b.extract 0 (b.size - 1), rfl, by simp; omega, by rw [← HC.out, HL.out, cutL_snoc_zero]⟩
                  case measure => simp [sizeOfStr]; omega
                · have hxb : ((b[b.size - 1].toNat : Int) == 0) = false := by
                    rw [beq_eq_false_iff_ne]; intro e; apply hx; apply UInt8.toNat.inj; simpa using e
                  have hl := ba_last b hlt3
                  have HL := Lib.hid (show cutL b.data.toList = b.data.toList by rw [hl]; exact cutL_snoc _ _ hx)
                  clear hl
                  go_wp2
                  go_ret
                  exact ⟨b, rfl, by rw [← HNL.out, ← HC.out, HL.out], HBW.out⟩
          | false =>
            have hb' := HB.out.trans hbit
            have hz : ((b[i / 8].toNat : Int) + (y : Int) : Int) = ((turnB b[i / 8] i true).toNat : Int) := by have := tf2 hbit; omega
            have hcv := conv_one w _ (turnB b[i / 8] i true) hz
            have HZL : Hid ((b.extract 0 (i / 8) ++ ⟨#[turnB b[i / 8] i true]⟩ ++ b.extract (i / 8 + 1) b.size).data.toList = (padTo s.data.toList (i / 8 + 1)).modify (i / 8) fun x => turnB x i true) := by
              show _ = _
              rw [rebuilt b _ _ hlt, ← HP.out, modify_of_get _ _ _ _ HX.out]
            have h80 : (0 : Int) ≤ (i : Int) / 8 := by omega
            have h81 : (i : Int) / 8 ≤ (b.size : Int) := by omega
            have h82 : (i : Int) / 8 + 1 ≤ (b.size : Int) := by omega
            have hrange : 0 ≤ ((b[i / 8].toNat : Int) + (y : Int) : Int) ∧ ((b[i / 8].toNat : Int) + (y : Int) : Int) ≤ 255 := by omega
            clear tf1 tf2 tf3 tf4 hz hbit
            generalize turnB b[i / 8] i true = z at *
            go_wp2_with (go_at_call 12; refine (rhas_any b i (by omega) _).mono ?_; rintro e w1 ⟨rfl, rfl⟩; rw [hb'])
            go_region
            have HBW := Lib.hid (show Below w.heap.size w (w.alloc (.cells #[.int .u8 ((b[i / 8].toNat : Int) + (y : Int) : Int)] 5)).drew from ((Below.refl _ w).alloc (Nat.le_refl _) _).drew)
            have hNs : (b.extract 0 (i / 8) ++ ⟨#[z]⟩ ++ b.extract (i / 8 + 1) b.size).size ≤ 131073 := by
              rw [← ba_len, rebuilt b _ _ hlt, List.length_set, ba_len]; omega
            generalize (b.extract 0 (i / 8) ++ ⟨#[z]⟩ ++ b.extract (i / 8 + 1) b.size) = N at *
            have HNL := Lib.hid (congrArg cutL HZL.out)
            clear HZL HBL HBS HP HX HB hcv
            generalize (w.alloc (.cells #[.int .u8 ((b[i / 8].toNat : Int) + (y : Int) : Int)] 5)).drew = w2 at *
            go_wp2
            go_loop [0] (fun v => ∃ b : ByteArray, v = .string b ∧ b.size ≤ N.size ∧ cutL b.data.toList = cutL N.data.toList) (fun v => sizeOfStr v)
            case atStart => exact ⟨N, rfl, Nat.le_refl _, rfl⟩
            case round =>
              obtain ⟨b, rfl, hbs3, hcut⟩ := hrel
              have HC := Lib.hid hcut
              clear hcut
              rcases Nat.eq_zero_or_pos b.size with hz | hz
              · have hz' : (b.size : Int) ≤ 0 := by omega
                have HZ := Lib.hid hz
                clear hz
                go_wp2
                go_ret
                exact ⟨b, rfl, by rw [← HNL.out, ← HC.out, show b.data.toList = [] from List.eq_nil_of_length_eq_zero (by simpa using HZ.out)]; rfl, HBW.out⟩
              · have hlt3 : b.size - 1 < b.size := by omega
                by_cases hx : b[b.size - 1] = 0
                · have hxb : ((b[b.size - 1].toNat : Int) == 0) = true := by rw [hx]; rfl
                  have hl := ba_last b hlt3
                  rw [hx] at hl
                  have HL := Lib.hid hl
                  clear hl hx
                  go_wp2
                  go_round
                  case rel => exact ⟨b.extract 0 (b.size - 1), rfl, by simp; omega, by rw [← HC.out, HL.out, cutL_snoc_zero]⟩
                  case measure => simp [sizeOfStr]; omega
                · have hxb : ((b[b.size - 1].toNat : Int) == 0) = false := by
                    rw [beq_eq_false_iff_ne]; intro e; apply hx; apply UInt8.toNat.inj; simpa using e
                  have hl := ba_last b hlt3
                  have HL := Lib.hid (show cutL b.data.toList = b.data.toList by rw [hl]; exact cutL_snoc _ _ hx)
                  clear hl
                  go_wp2
                  go_ret
                  exact ⟨b, rfl, by rw [← HNL.out, ← HC.out, HL.out], HBW.out⟩
    · have hge' : ((b.size : Int) ≤ (i : Int) / 8) := by omega
      clear hbs
      go_wp2
      go_round
      case rel => exact ⟨b ++ ⟨#[0]⟩, n + 1, rfl, by rw [ByteArray.size_append, HBS.out]; rfl, by have := HBS.out; omega, by rw [ba_app, HBL.out, List.append_assoc, List.replicate_succ']⟩
      case measure => show i / 8 + 1 - (b ++ ⟨#[0]⟩ : ByteArray).size < i / 8 + 1 - b.size; rw [ByteArray.size_append]; show i / 8 + 1 - (b.size + 1) < _; omega

set_option maxRecDepth 100000 in
set_option maxHeartbeats 2000000 in
theorem rwith_turn_false (s : ByteArray) (i : Nat) (hs : s.size ≤ 65536) (hc : i / 8 < s.size) (hi : i ≤ 65536) (w : World) :
    Calls Try.prog 14 #[.string s, .int .i64 i, .bool false] w (GivesStr w (cutL ((padTo s.data.toList (i / 8 + 1)).modify (i / 8) fun x => turnB x i false))) := by
  have hc' : (i : Int) / 8 < (s.size : Int) := by omega
  go_enter Try.func14, Try.ntmps14
  go_wp2
  go_loop [0] (fun v => ∃ (b : ByteArray) (n : Nat), v = .string b ∧ b.size = s.size + n ∧ n ≤ i / 8 + 1 - s.size ∧ b.data.toList = s.data.toList ++ List.replicate n 0) (fun v => i / 8 + 1 - sizeOfStr v)
  case atStart => exact ⟨s, 0, rfl, rfl, Nat.zero_le _, by simp⟩
  case round =>
    obtain ⟨b, n, rfl, hbs, hnl, hbl⟩ := hrel
    have HBL := Lib.hid hbl
    have HBS := Lib.hid hbs
    have hbs' : b.size ≤ s.size + n := by omega
    have hbs'' : s.size ≤ b.size := by omega
    clear hbl
    rcases Nat.lt_or_ge (i / 8) b.size with hlt | hge
    · have hlt' : ¬ ((b.size : Int) ≤ (i : Int) / 8) := by omega
      clear hbs
      have hpad : b.data.toList = padTo s.data.toList (i / 8 + 1) := by
        rw [HBL.out]; unfold padTo; rw [ba_len, show i / 8 + 1 - s.size = n from by have := HBS.out; omega]
      have HP := Lib.hid hpad
      have hx := ba_get b (i / 8) hlt
      have hbit : hasB b.data.toList (i : Int) = bitOf b[i / 8] i := by simp [hasB, bitB, hx]
      have HX := Lib.hid hx
      have HB := Lib.hid hbit
      clear hpad hx hbit
      go_wp2
      go_loop [7, 8] (fun o k => ∃ j y : Nat, i % 8 ≤ j ∧ j ≤ 7 ∧ k = .int .i64 j ∧ o = .int .i64 y ∧ Hid (y = 2 ^ (j - i % 8))) (fun _ k => 7 - (intOf k).toNat)
      case atStart => exact ⟨i % 8, 1, Nat.le_refl _, by omega, by go_num, by go_num, by rw [Nat.sub_self]; rfl⟩
      case round =>
        obtain ⟨j, y, hj0, hj7, rfl, rfl, HY⟩ := hrel
        have hyb : y ≤ 128 := by rw [HY.out]; exact Nat.pow_le_pow_right (n := 2) (by omega) (show j - i % 8 ≤ 7 by omega)
        rcases Nat.lt_or_ge j 7 with hlt7 | hge7
        · go_wp2
          go_round
          case rel => exact ⟨j + 1, y * 2, by omega, by omega, by go_num, by go_num, by show y * 2 = _; rw [HY.out, show j + 1 - i % 8 = (j - i % 8) + 1 from by omega, Nat.pow_succ]⟩
          case measure => simp [intOf]; omega
        · obtain rfl : j = 7 := by omega
          have hxb : b[i / 8].toNat < 256 := b[i / 8].toNat_lt
          obtain ⟨tf1, tf2, tf3⟩ := turn_facts b[i / 8] i
          have tf4 := turn_clear b[i / 8] i
          rw [← HY.out] at tf2 tf3
          have hzl : (turnB b[i / 8] i false).toNat < 256 := (turnB b[i / 8] i false).toNat_lt
          cases hbit : bitOf b[i / 8] i with
          | true =>
            have hb' := HB.out.trans hbit
            have hz : ((b[i / 8].toNat : Int) - (y : Int) : Int) = ((turnB b[i / 8] i false).toNat : Int) := by have := tf3 hbit; omega
            have hcv := conv_one w _ (turnB b[i / 8] i false) hz
            have HZL : Hid ((b.extract 0 (i / 8) ++ ⟨#[turnB b[i / 8] i false]⟩ ++ b.extract (i / 8 + 1) b.size).data.toList = (padTo s.data.toList (i / 8 + 1)).modify (i / 8) fun x => turnB x i false) := by
              show _ = _
              rw [rebuilt b _ _ hlt, ← HP.out, modify_of_get _ _ _ _ HX.out]
            have h80 : (0 : Int) ≤ (i : Int) / 8 := by omega
            have h81 : (i : Int) / 8 ≤ (b.size : Int) := by omega
            have h82 : (i : Int) / 8 + 1 ≤ (b.size : Int) := by omega
            have hrange : 0 ≤ ((b[i / 8].toNat : Int) - (y : Int) : Int) ∧ ((b[i / 8].toNat : Int) - (y : Int) : Int) ≤ 255 := by omega
            clear tf1 tf2 tf3 tf4 hz hbit
            generalize turnB b[i / 8] i false = z at *
            go_wp2_with (go_at_call 12; refine (rhas_any b i (by omega) _).mono ?_; rintro e w1 ⟨rfl, rfl⟩; rw [hb'])
            go_region
            have HBW := Lib.hid (show Below w.heap.size w (w.alloc (.cells #[.int .u8 ((b[i / 8].toNat : Int) - (y : Int) : Int)] 5)).drew from ((Below.refl _ w).alloc (Nat.le_refl _) _).drew)
            have hNs : (b.extract 0 (i / 8) ++ ⟨#[z]⟩ ++ b.extract (i / 8 + 1) b.size).size ≤ 131073 := by
              rw [← ba_len, rebuilt b _ _ hlt, List.length_set, ba_len]; omega
            generalize (b.extract 0 (i / 8) ++ ⟨#[z]⟩ ++ b.extract (i / 8 + 1) b.size) = N at *
            have HNL := Lib.hid (congrArg cutL HZL.out)
            clear HZL HBL HBS HP HX HB hcv
            generalize (w.alloc (.cells #[.int .u8 ((b[i / 8].toNat : Int) - (y : Int) : Int)] 5)).drew = w2 at *
            go_wp2
            go_loop [0] (fun v => ∃ b : ByteArray, v = .string b ∧ b.size ≤ N.size ∧ cutL b.data.toList = cutL N.data.toList) (fun v => sizeOfStr v)
            case atStart => exact ⟨N, rfl, Nat.le_refl _, rfl⟩
            case round =>
              obtain ⟨b, rfl, hbs3, hcut⟩ := hrel
              have HC := Lib.hid hcut
              clear hcut
              rcases Nat.eq_zero_or_pos b.size with hz | hz
              · have hz' : (b.size : Int) ≤ 0 := by omega
                have HZ := Lib.hid hz
                clear hz
                go_wp2
                go_ret
                exact ⟨b, rfl, by rw [← HNL.out, ← HC.out, show b.data.toList = [] from List.eq_nil_of_length_eq_zero (by simpa using HZ.out)]; rfl, HBW.out⟩
              · have hlt3 : b.size - 1 < b.size := by omega
                by_cases hx : b[b.size - 1] = 0
                · have hxb : ((b[b.size - 1].toNat : Int) == 0) = true := by rw [hx]; rfl
                  have hl := ba_last b hlt3
                  rw [hx] at hl
                  have HL := Lib.hid hl
                  clear hl hx
                  go_wp2
                  go_round
                  case rel => exact ⟨b.extract 0 (b.size - 1), rfl, by simp; omega, by rw [← HC.out, HL.out, cutL_snoc_zero]⟩
                  case measure => simp [sizeOfStr]; omega
                · have hxb : ((b[b.size - 1].toNat : Int) == 0) = false := by
                    rw [beq_eq_false_iff_ne]; intro e; apply hx; apply UInt8.toNat.inj; simpa using e
                  have hl := ba_last b hlt3
                  have HL := Lib.hid (show cutL b.data.toList = b.data.toList by rw [hl]; exact cutL_snoc _ _ hx)
                  clear hl
                  go_wp2
                  go_ret
                  exact ⟨b, rfl, by rw [← HNL.out, ← HC.out, HL.out], HBW.out⟩
          | false =>
            have hb' := HB.out.trans hbit
            have hz : ((b[i / 8].toNat : Int) : Int) = ((turnB b[i / 8] i false).toNat : Int) := by rw [tf4 hbit]
            have hcv := conv_one w _ (turnB b[i / 8] i false) hz
            have HZL : Hid ((b.extract 0 (i / 8) ++ ⟨#[turnB b[i / 8] i false]⟩ ++ b.extract (i / 8 + 1) b.size).data.toList = (padTo s.data.toList (i / 8 + 1)).modify (i / 8) fun x => turnB x i false) := by
              show _ = _
              rw [rebuilt b _ _ hlt, ← HP.out, modify_of_get _ _ _ _ HX.out]
            have h80 : (0 : Int) ≤ (i : Int) / 8 := by omega
            have h81 : (i : Int) / 8 ≤ (b.size : Int) := by omega
            have h82 : (i : Int) / 8 + 1 ≤ (b.size : Int) := by omega
            have hrange : 0 ≤ ((b[i / 8].toNat : Int) : Int) ∧ ((b[i / 8].toNat : Int) : Int) ≤ 255 := by omega
            clear tf1 tf2 tf3 tf4 hz hbit
            generalize turnB b[i / 8] i false = z at *
            go_wp2_with (go_at_call 12; refine (rhas_any b i (by omega) _).mono ?_; rintro e w1 ⟨rfl, rfl⟩; rw [hb'])
            go_region
            have HBW := Lib.hid (show Below w.heap.size w (w.alloc (.cells #[.int .u8 ((b[i / 8].toNat : Int) : Int)] 5)).drew from ((Below.refl _ w).alloc (Nat.le_refl _) _).drew)
            have hNs : (b.extract 0 (i / 8) ++ ⟨#[z]⟩ ++ b.extract (i / 8 + 1) b.size).size ≤ 131073 := by
              rw [← ba_len, rebuilt b _ _ hlt, List.length_set, ba_len]; omega
            generalize (b.extract 0 (i / 8) ++ ⟨#[z]⟩ ++ b.extract (i / 8 + 1) b.size) = N at *
            have HNL := Lib.hid (congrArg cutL HZL.out)
            clear HZL HBL HBS HP HX HB hcv
            generalize (w.alloc (.cells #[.int .u8 ((b[i / 8].toNat : Int) : Int)] 5)).drew = w2 at *
            go_wp2
            go_loop [0] (fun v => ∃ b : ByteArray, v = .string b ∧ b.size ≤ N.size ∧ cutL b.data.toList = cutL N.data.toList) (fun v => sizeOfStr v)
            case atStart => exact ⟨N, rfl, Nat.le_refl _, rfl⟩
            case round =>
              obtain ⟨b, rfl, hbs3, hcut⟩ := hrel
              have HC := Lib.hid hcut
              clear hcut
              rcases Nat.eq_zero_or_pos b.size with hz | hz
              · have hz' : (b.size : Int) ≤ 0 := by omega
                have HZ := Lib.hid hz
                clear hz
                go_wp2
                go_ret
                exact ⟨b, rfl, by rw [← HNL.out, ← HC.out, show b.data.toList = [] from List.eq_nil_of_length_eq_zero (by simpa using HZ.out)]; rfl, HBW.out⟩
              · have hlt3 : b.size - 1 < b.size := by omega
                by_cases hx : b[b.size - 1] = 0
                · have hxb : ((b[b.size - 1].toNat : Int) == 0) = true := by rw [hx]; rfl
                  have hl := ba_last b hlt3
                  rw [hx] at hl
                  have HL := Lib.hid hl
                  clear hl hx
                  go_wp2
                  go_round
                  case rel => exact ⟨b.extract 0 (b.size - 1), rfl, by simp; omega, by rw [← HC.out, HL.out, cutL_snoc_zero]⟩
                  case measure => simp [sizeOfStr]; omega
                · have hxb : ((b[b.size - 1].toNat : Int) == 0) = false := by
                    rw [beq_eq_false_iff_ne]; intro e; apply hx; apply UInt8.toNat.inj; simpa using e
                  have hl := ba_last b hlt3
                  have HL := Lib.hid (show cutL b.data.toList = b.data.toList by rw [hl]; exact cutL_snoc _ _ hx)
                  clear hl
                  go_wp2
                  go_ret
                  exact ⟨b, rfl, by rw [← HNL.out, ← HC.out, HL.out], HBW.out⟩
    · exact absurd hge (by omega)

/-- the document's 'With' -/
theorem rwith_any (s : ByteArray) (i : Int) (t : Bool) (hs : s.size ≤ 65536) (hi : i ≤ 65536) (w : World) :
    Calls Try.prog 14 #[.string s, .int .i64 i, .bool t] w (GivesStr w (withB s.data.toList i t)) := by
  unfold withB
  rw [ba_len]
  by_cases h : i < 0 ∨ (t = false ∧ s.size ≤ i.toNat / 8)
  · rw [if_pos h]
    refine rwith_cut s i t hs ?_ hi w
    rcases h with h | ⟨rfl, h⟩
    · exact .inl h
    · by_cases h0 : i < 0
      · exact .inl h0
      · exact .inr ⟨by omega, rfl, h⟩
  · rw [if_neg h]
    obtain ⟨k, rfl⟩ := Int.eq_ofNat_of_zero_le (show 0 ≤ i by omega)
    simp only [Int.toNat_natCast] at *
    cases t
    · exact rwith_turn_false s k hs (Nat.lt_of_not_le fun hh => h (.inr ⟨rfl, hh⟩)) (by omega) w
    · exact rwith_turn_true s k hs (by omega) w

end Go.Proofs.Ytfijihjbjifhdaa
