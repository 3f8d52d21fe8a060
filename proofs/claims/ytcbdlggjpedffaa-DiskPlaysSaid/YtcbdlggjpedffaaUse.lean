/- The disk's contracts where it lies whole above a base, and the document's example ('awake'). No condition. -/
import Derived.Test.YtcbdlggjpedffaaCrash
import Derived.Test.YtcbdlggjpedffaaFull
namespace Go.Proofs.Ytcbdlggjpedffaa
open Go.RowKit
set_option linter.unusedSimpArgs false

def DiskB (B : Nat) (w : World) (g : Nat) (d : DK) (M : Nat) : Prop := DiskHas (fun k => B ≤ k) w g d M

section
variable {B : Nat} {w w1 w' : World} {g : Nat} {d : DK} {M : Nat}

theorem DiskB.below (h : DiskB B w g d M) (hb : Below w.heap.size w w') : DiskB B w' g d M := DiskHas.below h hb

theorem new_at (n : Nat) (w : World) (h1 : 1 ≤ n) (h2 : n ≤ 65536) : Calls Try.prog 11 #[.int .i64 n] w fun e w' => ∃ g, e = .returned (.tuple #[.pointer (some ⟨g, 0, none⟩), .int .i64 0]) ∧ DiskB w.heap.size w' g (newD n) 0 ∧ Below w.heap.size w w' := new_in n w h1 h2

theorem write_at (h : DiskB B w g d M) (hB : B ≤ w.heap.size) (hb : Below w.heap.size w w1) (i : Int) (v : Value) (s : List UInt8) (hr : Rd w1 w1.heap.size v (bv s)) (hv : ∀ b, v.ownBlock = some b → w.heap.size ≤ b) (hl : d.waits.length ≤ 1048576) :
    Calls Try.prog 12 #[.pointer (some ⟨g, 0, none⟩), .int .i64 i, v] w1 fun e w' => e = .returned (.int .i64 (writeE d i s.length)) ∧ DiskB B w' g (writeD d i s) M ∧ Below B w w' := by
  have h1 : DiskHas (fun k => B ≤ k ∧ k < w.heap.size) w1 g d M := (h.mono fun k hk hF => ⟨hF, hk⟩).below hb
  refine (write_any h1 i v s hr hl (fun b hb2 e => by have := hv b hb2; omega)).mono ?_
  rintro e w' ⟨rfl, hD, hK⟩
  refine ⟨rfl, hD.mono fun k _ hk => ?_, (hb.mono hB).trans (hK.below (Nat.le_trans hB hb.size) fun k hk => hk.1)⟩
  rcases hk with hk | hk
  · exact hk.1
  · exact Nat.le_trans (Nat.le_trans hB hb.size) hk

theorem flush_at (h : DiskB B w g d M) (hB : B ≤ w.heap.size) (hM : M + d.waits.length ≤ 1099511627776) :
    Calls Try.prog 18 #[.pointer (some ⟨g, 0, none⟩)] w fun e w' => e = .returned (.int .i64 (flushE d)) ∧ (∃ M', M' ≤ M + d.waits.length ∧ DiskB B w' g (flushD d) M') ∧ Below B w w' := by
  refine (flush_any h hM).mono ?_
  rintro e w' ⟨M', hM', rfl, hD, hK⟩
  exact ⟨rfl, ⟨M', hM', hD⟩, hK.below hB fun k hk => hk⟩

theorem crash_at (h : DiskB B w g d M) (hB : B ≤ w.heap.size) (v : Value) (l : List UInt8) (hr : Rd w w.heap.size v (bv l)) (hl8 : l.length ≤ 1099511627776) (hM : M + d.waits.length ≤ 1099511627776) :
    Calls Try.prog 14 #[.pointer (some ⟨g, 0, none⟩), v] w fun e w' => e = .returned (.int .i64 (crashN d l : Int)) ∧ (∃ M', M' ≤ M + d.waits.length ∧ DiskB B w' g (crashD d l) M') ∧ Below B w w' := by
  refine (crash_any h v l hr hl8 hM).mono ?_
  rintro e w' ⟨rfl, ⟨M', hM', hD, hK⟩⟩
  exact ⟨rfl, ⟨M', hM', hD⟩, hK.below hB fun k hk => hk⟩

theorem crash_at_big (h : DiskB B w g d M) (hB : B ≤ w.heap.size) (v : Value) (l : List UInt8) (hr : Rd w w.heap.size v (bv l)) (hM : M + d.waits.length ≤ 1099511627776) :
    ∃ n, Calls Try.prog 14 #[.pointer (some ⟨g, 0, none⟩), v] w fun e w' => e = .returned (.int .i64 (crashN d (l.take n) : Int)) ∧ (∃ M', M' ≤ M + d.waits.length ∧ DiskB B w' g (crashD d (l.take n)) M') ∧ Below B w w' := by
  obtain ⟨n, h1⟩ := crash_big h v l hr hM
  refine ⟨n, h1.mono ?_⟩
  rintro e w' ⟨rfl, ⟨M', hM', hD, hK⟩⟩
  exact ⟨rfl, ⟨M', hM', hD⟩, hK.below hB fun k hk => hk⟩

theorem stop_at (h : DiskB B w g d M) (hB : B ≤ w.heap.size) (a : Int) (ha : a ≤ 9223372036854775807) :
    Calls Try.prog 19 #[.pointer (some ⟨g, 0, none⟩), .int .i64 a] w fun e w' => e = .returned (.tuple #[]) ∧ DiskB B w' g (stopD d a) M ∧ Below B w w' := by
  refine (stop_any h a ha).mono ?_
  rintro e w' ⟨rfl, hD, hK⟩
  exact ⟨rfl, hD, hK.below hB fun k hk => hk⟩
end

/-! ### a disk that is not to stop -/
def Live (d : DK) : Prop := d.left = -1 ∧ d.down = false
theorem live_new (n : Nat) : Live (newD n) := ⟨rfl, rfl⟩
section
variable {d : DK}
theorem live_up (h : Live d) {i : Int} (hi : 0 ≤ i ∧ i < d.L.length) : upE d i = 0 := by unfold upE; rw [h.2, if_neg (by simp), if_neg (by omega)]
theorem live_range (h : Live d) {i : Int} (hi : ¬ (0 ≤ i ∧ i < d.L.length)) : upE d i = 15 := by unfold upE; rw [h.2, if_neg (by simp), if_pos (by omega)]
theorem live_countE (h : Live d) : countE d = 0 := by unfold countE; rw [h.1]; rfl
theorem live_countD (h : Live d) : countD d = d := by unfold countD; rw [h.1]; rfl
theorem live_writeE (h : Live d) {i : Int} {n : Nat} (hi : 0 ≤ i ∧ i < d.L.length) (hn : n = 128) : writeE d i n = 0 := by unfold writeE; rw [live_up h hi, live_countE h]; simp [hn]
theorem live_writeD (h : Live d) {i : Nat} {s : List UInt8} (hi : i < d.L.length) (hs : s.length = 128) : writeD d i s = { d with waits := d.waits ++ [(i, s)] } := by
  unfold writeD
  rw [live_up h ⟨by omega, by omega⟩, live_countE h, live_countD h]
  simp [hs]
theorem live_flushE (h : Live d) (hL : 0 < d.L.length) : flushE d = 0 := by unfold flushE; rw [live_up h (i := 0) ⟨by omega, by omega⟩, live_countE h]; simp
theorem live_flushD (h : Live d) (hL : 0 < d.L.length) : flushD d = ⟨laidL d.waits d.L, [], d.left, d.down⟩ := by unfold flushD; rw [live_up h (i := 0) ⟨by omega, by omega⟩, live_countE h, live_countD h]; simp
end

theorem rd_lit {w : World} {b : Nat} {x : UInt8} {fr : Nat × Nat} (h : w.heap[b]? = some (.cells #[.int .u8 x.toNat] 5 fr)) : Rd w w.heap.size (.slice (some ⟨b, 0, none⟩) 1 1) (bv [x]) := by
  refine ⟨_, _, rfl, Nat.le_refl _, by unfold maxLen; simp [bv], (fun h => by cases h), fun _ => ⟨b, 0, rfl, (Array.getElem?_eq_some_iff.1 h).1, fun j u hu => ?_⟩⟩
  match j, hu with
  | 0, hu => simp [bv] at hu; subst hu; rw [cell_of_row w b _ _ 5 fr h]; rfl
  | j + 1, hu => simp [bv] at hu

def Yes (w : World) (e : Ending) (w' : World) : Prop := e = .returned (.bool true) ∧ Below w.heap.size w w'

/-- the first cell of what a read hands back -/
theorem own_head {w : World} {B b c n : Nat} {x : UInt8} {s : List UInt8} (h : w.ownsRow B 5 1 (.slice (some ⟨b, 0, none⟩) n c) n (bv s)) (hx : s[0]? = some x) : w.cell? ⟨b, 0, none⟩ = some (.int .u8 (x.toNat : Int)) := by
  have := h.cells (g := b) rfl 0 _ (bv_get hx)
  rwa [Addr.add_mid] at this
theorem own_nth {w : World} {B b c n j : Nat} {x : UInt8} {s : List UInt8} (h : w.ownsRow B 5 1 (.slice (some ⟨b, 0, none⟩) n c) n (bv s)) (hx : s[j]? = some x) : w.cell? ⟨b, j, none⟩ = some (.int .u8 (x.toNat : Int)) := by
  have := h.cells (g := b) rfl j _ (bv_get hx)
  rwa [Addr.add_mid, Nat.zero_add] at this

def s1 : List UInt8 := fullL [1] false
def s2 : List UInt8 := fullL [2] false
theorem s1_len : s1.length = 128 := fullL_length [1] false
theorem s2_len : s2.length = 128 := fullL_length [2] false
def d2 : DK := ⟨[zeroS, zeroS], [(0, s1), (1, s2)], -1, false⟩
def d3 : DK := ⟨[zeroS, s2], [], -1, false⟩
theorem d1_is : writeD (newD 2) 0 s1 = ⟨[zeroS, zeroS], [(0, s1)], -1, false⟩ := live_writeD (i := 0) (live_new 2) (by simp [newD]) s1_len
theorem d2_is : writeD (writeD (newD 2) 0 s1) 1 s2 = d2 := by
  have e1 : writeD (newD 2) 0 s1 = ⟨[zeroS, zeroS], [(0, s1)], -1, false⟩ := live_writeD (i := 0) (live_new 2) (by simp [newD]) s1_len
  rw [e1]
  exact live_writeD (i := 1) ⟨rfl, rfl⟩ (by simp) s2_len
theorem d2_picks : picks [2] 2 = [1] := by decide
theorem d3_is : crashD d2 [2] = d3 := by
  unfold crashD
  have : picks [2] d2.waits.length = [1] := d2_picks
  rw [this]
  rfl
theorem d3_N : crashN d2 [2] = 1 := by
  unfold crashN
  have : picks [2] d2.waits.length = [1] := d2_picks
  rw [this]
  rfl

set_option maxRecDepth 100000 in
set_option maxHeartbeats 1000000 in
theorem awake_any (w : World) : Calls Try.prog 10 #[] w (Yes w) := by
  go_enter Try.func10, Try.ntmps10
  go_wp2_with fail
  refine (new_at 2 w (by omega) (by omega)).mono ?_
  rintro e w1 ⟨g, rfl, hd1, hb1⟩
  have HD1 := Lib.hid (hd1.below ((Below.refl _ _).alloc (Nat.le_refl _) (.cells #[.int .u8 1] 5)))
  have HB1 := Lib.hid (hb1.alloc hb1.size (.cells #[.int .u8 1] 5))
  have HR1 := Lib.hid (rd_lit (x := 1) (heap_alloc_last w1 (.cells #[.int .u8 1] 5)))
  clear hd1 hb1
  go_wp2_with fail
  refine (full_any _ [1] false _ _ HR1.out (Nat.le_refl _)).mono ?_
  rintro e w2 ⟨v2, rfl, hr2, hv2, hb2⟩
  have HR2 := Lib.hid hr2
  have HV2 := Lib.hid hv2
  have HB2 := Lib.hid hb2
  clear hr2 hv2 hb2
  go_wp2_with fail
  refine (write_at HD1.out HB1.out.size HB2.out 0 v2 s1 HR2.out HV2.out (by simp [newD])).mono ?_
  rintro e w3 ⟨rfl, hd3, hb3⟩
  rw [show writeE (newD 2) 0 s1.length = 0 from live_writeE (live_new 2) (by simp [newD]) s1_len]
  have HD3 := Lib.hid (hd3.below ((Below.refl _ _).alloc (Nat.le_refl _) (.cells #[.int .u8 2] 5)))
  have hb3 := HB1.out.trans hb3
  have HB3 := Lib.hid (hb3.alloc hb3.size (.cells #[.int .u8 2] 5))
  have HR3 := Lib.hid (rd_lit (x := 2) (heap_alloc_last w3 (.cells #[.int .u8 2] 5)))
  clear hd3 hb3
  go_wp2_with fail
  refine (full_any _ [2] false _ _ HR3.out (Nat.le_refl _)).mono ?_
  rintro e w4 ⟨v4, rfl, hr4, hv4, hb4⟩
  have HR4 := Lib.hid hr4
  have HV4 := Lib.hid hv4
  have HB4 := Lib.hid hb4
  clear hr4 hv4 hb4
  go_wp2_with fail
  refine (write_at HD3.out HB3.out.size HB4.out 1 v4 s2 HR4.out HV4.out (by rw [d1_is]; simp)).mono ?_
  rintro e w5 ⟨rfl, hd5, hb5⟩
  rw [show writeE (writeD (newD 2) 0 s1) 1 s2.length = 0 by rw [d1_is]; exact live_writeE ⟨rfl, rfl⟩ (by simp) s2_len]
  rw [d2_is] at hd5
  have HD5 := Lib.hid (hd5.below ((Below.refl _ _).alloc (Nat.le_refl _) (.cells #[.int .u8 2] 5)))
  have hb6 := HB3.out.trans hb5
  have HB5 := Lib.hid (hb6.alloc hb6.size (.cells #[.int .u8 2] 5))
  have HR5 := Lib.hid (rd_lit (x := 2) (heap_alloc_last w5 (.cells #[.int .u8 2] 5)))
  clear hd5 hb5 hb6
  go_wp2_with fail
  refine (crash_at HD5.out HB5.out.size _ [2] HR5.out (by simp) (by simp [d2])).mono ?_
  rintro e w7 ⟨rfl, ⟨M7, _, hd7⟩, hb7⟩
  rw [d3_N]
  rw [d3_is] at hd7
  have HD7 := Lib.hid hd7
  have HB7 := Lib.hid (HB5.out.trans hb7)
  clear hd7 hb7
  go_wp2_with fail
  refine (read_in HD7.out 0 (by decide)).mono ?_
  rintro e w8 ⟨v8, rfl, ho8, hb8⟩
  rw [show readD d3 0 = zeroS from rfl, zeroS_length] at ho8
  obtain ⟨b8, c8, hv8, _, hbl8⟩ := ho8.form (by omega)
  subst hv8
  have hx8 := own_head ho8 (x := 0) rfl
  have HX8 := Lib.hid hx8
  have HBL8 := Lib.hid hbl8
  have HD8 := Lib.hid (HD7.out.below hb8)
  have HB8 := Lib.hid (HB7.out.trans (hb8.mono HB7.out.size))
  clear ho8 hb8 hx8
  go_wp2_with fail
  refine (read_in HD8.out 1 (by decide)).mono ?_
  rintro e w9 ⟨v9, rfl, ho9, hb9⟩
  rw [show readD d3 1 = s2 from rfl, s2_len] at ho9
  obtain ⟨b9, c9, hv9, _, hbl9⟩ := ho9.form (by omega)
  subst hv9
  have hx9 := own_head ho9 (x := 2) rfl
  have hx8 := (hb9.cell (p := ⟨b8, 0, none⟩) HBL8.out).trans HX8.out
  have HD9 := Lib.hid (HD8.out.below hb9)
  have HB9 := Lib.hid (HB8.out.trans (hb9.mono HB8.out.size))
  clear ho9 hb9
  go_wp2_with fail
  refine (waits_any HD9.out).mono ?_
  rintro e w10 ⟨rfl, rfl⟩
  clear hx8 hx9
  go_wp2
  go_ret
  exact ⟨rfl, HB9.out⟩

end Go.Proofs.Ytcbdlggjpedffaa
