/- The net's contracts where the net lies whole above a base, and the document's example ('awake'). No condition. -/
import Derived.Test.YtckcagklojpfhaaPut
import Derived.Test.YtckcagklojpfhaaDrop
import Derived.Lib.SlBytesConst
import Derived.Test.YtckcagklojpfhaaConv
namespace Go.Proofs.Ytckcagklojpfhaa
open Go.RowKit
set_option linter.unusedSimpArgs false

def NetB (B : Nat) (w : World) (g : Nat) (ps : List Pk) : Prop := NetHas (fun k => B ≤ k) w g ps

section
variable {B : Nat} {w w' : World} {g : Nat} {ps : List Pk}

theorem new_net (w : World) : NetB w.heap.size (w.alloc (.cells #[.slice none 0 0] 55)) w.heap.size [] :=
  ⟨.slice none 0 0, [], heap_alloc_new w _, Nat.le_refl _, World.ownsRow_nil _ _ _ _, (fun k hk => by cases hk), rfl, fun i f t v h => by simp at h⟩

theorem new_at (w : World) : Calls Try.prog 9 #[] w fun e w' => ∃ g, e = .returned (.pointer (some ⟨g, 0, none⟩)) ∧ NetB w.heap.size w' g [] ∧ Below w.heap.size w w' := by
  have H : Calls Try.prog 9 #[] w fun e w' => e = .returned (.pointer (some ⟨w.heap.size, 0, none⟩)) ∧ w' = w.alloc (.cells #[.slice none 0 0] 55) := by
    go_enter Try.func9, Try.ntmps9
    go_wp2
    go_ret
    exact ⟨rfl, rfl⟩
  refine H.mono ?_
  rintro e w' ⟨rfl, rfl⟩
  exact ⟨_, rfl, new_net w, (Below.refl _ _).alloc (Nat.le_refl _) _⟩

theorem NetB.below (h : NetB B w g ps) (hb : Below w.heap.size w w') : NetB B w' g ps := NetHas.below h hb

theorem put_at (h : NetB B w g ps) (hB : B ≤ w.heap.size) (f t : Int) (dv : Value) (d : List UInt8) (hr : Rd w w.heap.size dv (bv d)) (hd : d.length ≤ 65536) :
    Calls Try.prog 10 #[.pointer (some ⟨g, 0, none⟩), .agg #[.int .i64 f, .int .i64 t, dv]] w fun e w' => e = .returned (.int .i64 (putE ps f t)) ∧ NetB B w' g (putL ps (f, t, d)) ∧ Below B w w' := by
  refine (put_any h f t dv d hr hd).mono ?_
  rintro e w' ⟨rfl, hN, hK⟩
  exact ⟨rfl, hN.mono (fun k _ hk => by rcases hk with hk | hk <;> omega), hK.below hB fun k hk => hk⟩

theorem drop_at (h : NetB B w g ps) (hB : B ≤ w.heap.size) (i : Int) (hbig : ps.length ≤ 65536) :
    Calls Try.prog 12 #[.pointer (some ⟨g, 0, none⟩), .int .i64 i] w fun e w' => e = .returned (.int .i64 (thereE ps.length [i])) ∧ NetB B w' g (dropL ps i) ∧ Below B w w' := by
  refine (drop_any h i hbig).mono ?_
  rintro e w' ⟨rfl, hN, hK⟩
  exact ⟨rfl, hN, hK.below hB fun k hk => hk⟩

theorem swap_at (h : NetB B w g ps) (hB : B ≤ w.heap.size) (i k : Int) :
    Calls Try.prog 14 #[.pointer (some ⟨g, 0, none⟩), .int .i64 i, .int .i64 k] w fun e w' => e = .returned (.int .i64 (thereE ps.length [i, k])) ∧ NetB B w' g (swapL ps i k) ∧ Below B w w' := by
  refine (swap_any h i k).mono ?_
  rintro e w' ⟨rfl, hN, hK⟩
  exact ⟨rfl, hN, hK.below hB fun k hk => hk⟩

/-- A look: a packet that is there, with bytes that read, in a block that was not there. -/
theorem look_at (h : NetB B w g ps) (i : Nat) (p : Pk) (hp : ps[i]? = some p) :
    Calls Try.prog 17 #[.pointer (some ⟨g, 0, none⟩), .int .i64 i] w fun e w' => ∃ v', e = .returned (.tuple #[.agg #[.int .i64 p.1, .int .i64 p.2.1, v'], .bool true]) ∧
      w'.ownsRow w.heap.size 5 1 v' p.2.2.length (bv p.2.2) ∧ NetB B w' g ps ∧ Below w.heap.size w w' := by
  refine (look_in h i p hp).mono ?_
  rintro e w' ⟨v', rfl, ho, hb⟩
  exact ⟨v', rfl, ho, h.below hb, hb⟩

end

theorem rd_one {w : World} {b : Nat} {x : UInt8} {fr : Nat × Nat} (h : w.heap[b]? = some (.cells #[.int .u8 x.toNat] 5 fr)) : Rd w w.heap.size (.slice (some ⟨b, 0, none⟩) 1 1) (bv [x]) := by
  refine ⟨_, _, rfl, Nat.le_refl _, by unfold maxLen; simp [bv], (fun h => by cases h), fun _ => ⟨b, 0, rfl, (Array.getElem?_eq_some_iff.1 h).1, fun j u hu => ?_⟩⟩
  match j, hu with
  | 0, hu => simp [bv] at hu; subst hu; rw [cell_of_row w b _ _ 5 fr h]; rfl
  | j + 1, hu => simp [bv] at hu

def Yes (w : World) (e : Ending) (w' : World) : Prop := e = .returned (.bool true) ∧ Below w.heap.size w w'

theorem Try.sw : swapL [((1 : Int), (2 : Int), [(97 : UInt8)]), ((1 : Int), (2 : Int), [(98 : UInt8)])] 0 1 = [((1 : Int), (2 : Int), [(98 : UInt8)]), ((1 : Int), (2 : Int), [(97 : UInt8)])] := by decide

set_option maxRecDepth 100000 in
set_option maxHeartbeats 1000000 in
theorem awake_any (w : World) : Calls Try.prog 8 #[] w (Yes w) := by
  have kc := fun (w : World) (C : Array Value) (n c : Nat) => Lib.run_convert_bytes_const (P := Try.prog) w 27 5 C n c Try.underlying27 Try.underlying5
  go_enter Try.func8, Try.ntmps8
  go_wp2_with fail
  refine (new_at w).mono ?_
  rintro e w1 ⟨g, rfl, hn1, hb1⟩
  have HN1 := Lib.hid (hn1.below ((Below.refl _ _).alloc (Nat.le_refl _) (.cells #[.int .u8 97] 5 (1, 2))))
  have HB1 := Lib.hid (hb1.alloc hb1.size (.cells #[.int .u8 97] 5 (1, 2)))
  have HR1 := Lib.hid (rd_one (x := 97) (heap_alloc_new w1 (.cells #[.int .u8 97] 5 (1, 2))))
  clear hn1 hb1
  go_wp2_with fail
  refine (put_at HN1.out HB1.out.size 1 2 _ [97] HR1.out (by simp)).mono ?_
  rintro e w2 ⟨rfl, hn2, hb2⟩
  rw [show putE [] 1 2 = 0 by decide]
  have hb2 := HB1.out.trans hb2
  rw [show putL [] ((1 : Int), (2 : Int), [(97 : UInt8)]) = [((1 : Int), (2 : Int), [(97 : UInt8)])] by decide] at hn2
  have HN2 := Lib.hid (hn2.below ((Below.refl _ _).alloc (Nat.le_refl _) (.cells #[.int .u8 98] 5 (1, 2))))
  have HB2 := Lib.hid (hb2.alloc hb2.size (.cells #[.int .u8 98] 5 (1, 2)))
  have HR2 := Lib.hid (rd_one (x := 98) (heap_alloc_new w2 (.cells #[.int .u8 98] 5 (1, 2))))
  clear hn2 hb2
  go_wp2_with fail
  refine (put_at HN2.out HB2.out.size 1 2 _ [98] HR2.out (by simp)).mono ?_
  rintro e w3 ⟨rfl, hn3, hb3⟩
  rw [show putE [((1 : Int), (2 : Int), [(97 : UInt8)])] 1 2 = 0 by decide]
  rw [show putL [((1 : Int), (2 : Int), [(97 : UInt8)])] ((1 : Int), (2 : Int), [(98 : UInt8)]) = [((1 : Int), (2 : Int), [(97 : UInt8)]), ((1 : Int), (2 : Int), [(98 : UInt8)])] by decide] at hn3
  have HN3 := Lib.hid hn3
  have HB3 := Lib.hid (HB2.out.trans hb3)
  clear hn3 hb3
  go_wp2_with fail
  refine (swap_at HN3.out HB3.out.size 0 1).mono ?_
  rintro e w4 ⟨rfl, hn4, hb4⟩
  rw [show thereE ([((1 : Int), (2 : Int), [(97 : UInt8)]), ((1 : Int), (2 : Int), [(98 : UInt8)])] : List Pk).length [0, 1] = 0 by decide]
  rw [Try.sw] at hn4
  have HN4 := Lib.hid hn4
  have HB4 := Lib.hid (HB3.out.trans hb4)
  clear hn4 hb4
  go_wp2_with fail
  refine (look_at HN4.out 0 _ rfl).mono ?_
  rintro e w5 ⟨v5, rfl, ho5, hn5, hb5⟩
  obtain ⟨A5, c5, hv5⟩ := ownsRow_form ho5
  change v5 = .slice A5 1 c5 at hv5
  subst hv5
  have HN5 := Lib.hid hn5
  have HB5 := Lib.hid (HB4.out.trans (hb5.mono HB4.out.size))
  have hb6 : Below w5.heap.size w5 (w5.alloc (.cells #[.int .i64 1, .int .i64 2, .slice A5 1 c5] 33)) := (Below.refl _ _).alloc (Nat.le_refl _) _
  have hcv := conv_rd ((Rd.of_own ho5).on hb6)
  have HN6 := Lib.hid (HN5.out.below hb6)
  have HB6 := Lib.hid (HB5.out.trans (hb6.mono HB5.out.size))
  clear hn5 hb5 ho5 hb6
  go_wp2_with fail
  clear hcv
  refine (drop_at HN6.out HB6.out.size 0 (by simp)).mono ?_
  rintro e w7 ⟨rfl, hn7, hb7⟩
  rw [show thereE ([((1 : Int), (2 : Int), [(98 : UInt8)]), ((1 : Int), (2 : Int), [(97 : UInt8)])] : List Pk).length [0] = 0 by decide]
  rw [show dropL [((1 : Int), (2 : Int), [(98 : UInt8)]), ((1 : Int), (2 : Int), [(97 : UInt8)])] 0 = [((1 : Int), (2 : Int), [(97 : UInt8)])] by decide] at hn7
  have HN7 := Lib.hid hn7
  have HB7 := Lib.hid (HB6.out.trans hb7)
  clear hn7 hb7
  go_wp2_with fail
  refine (len_any HN7.out).mono ?_
  rintro e w8 ⟨rfl, rfl⟩
  rw [show ([((1 : Int), (2 : Int), [(97 : UInt8)])] : List Pk).length = 1 from rfl]
  go_wp2_with fail
  refine (put_at HN7.out HB7.out.size 0 16 _ [] (Rd.nil _ _) (by simp)).mono ?_
  rintro e w9 ⟨rfl, hn9, hb9⟩
  rw [show putE [((1 : Int), (2 : Int), [(97 : UInt8)])] 0 16 = 1 by decide]
  have HB9 := Lib.hid (HB7.out.trans hb9)
  clear hn9 hb9
  go_wp2
  go_ret
  exact ⟨rfl, HB9.out⟩

end Go.Proofs.Ytckcagklojpfhaa
