/- The walk of the document's example of layer 6 ('awake'): it is true; what was there before stands. -/
import Derived.Test.YtfijihjbjifhdaaDraw
import Derived.Test.YtfijihjbjifhdaaWith
import Derived.Test.YtfijihjbjifhdaaCount
namespace Go.Proofs.Ytfijihjbjifhdaa
open Go.RowKit

theorem rd_two {w : World} {B : Nat} {v a b : Value} (h : Rd w B v [a, b]) : ∃ g o c, v = .slice (some ⟨g, o, none⟩) 2 c ∧ g < B ∧ w.cell? ⟨g, o, none⟩ = some a ∧ w.cell? ⟨g, o + 1, none⟩ = some b := by
  obtain ⟨g, o, c, hv, _, _, hB, hc⟩ := h.at_ (j := 0) (by simp)
  exact ⟨g, o, c, hv, hB, hc 0 a rfl, hc 1 b rfl⟩

/-- It is true; what was there before stands. -/
def Yes (w : World) (e : Ending) (w' : World) : Prop := e = .returned (.bool true) ∧ Below w.heap.size w w'

set_option maxRecDepth 100000 in
set_option maxHeartbeats 800000 in
theorem awake_any (w : World) : Calls Try.prog 8 #[] w (Yes w) := by
  have HW := Lib.hid (show withB [] 9 true = [0, 64] by decide)
  have HD := Lib.hid (show drawB [0, 64] 12 2 = [0, 1] by decide)
  have HE := Lib.hid (show drawE [0, 64] 12 2 = 0 by decide)
  have HH1 := Lib.hid (show hasB [0, 64] 9 = true by decide)
  have HH2 := Lib.hid (show hasB [0, 64] 8 = false by decide)
  have HC := Lib.hid (show countB [0, 64] 10 = 1 by decide)
  have HV := Lib.hid (show withB [0, 64] 9 false = [] by decide)
  go_enter Try.func8, Try.ntmps8
  go_wp2_with fail
  refine (with_any (.slice none 0 0) [] 9 true w (Rd.nil _ _) (by simp) (by omega) (by omega)).mono ?_
  rintro e w1 ⟨v1, rfl, hr1, hb1⟩
  rw [HW.out] at hr1
  have HR1 := Lib.hid hr1
  have HB1 := Lib.hid hb1
  obtain ⟨g, o, c, rfl, hg, c0, c1⟩ := rd_two hr1
  clear hr1 hb1
  go_wp2_with fail
  refine (draw_any (.slice (some ⟨g, o, none⟩) 2 c) [0, 64] 12 2 (by omega) (by omega) w1 HR1.out).mono ?_
  rintro e w2 ⟨v2, rfl, hr2, hb2⟩
  rw [HD.out] at hr2
  rw [HE.out]
  have HR1' := Lib.hid (HR1.out.on hb2)
  have HB2 := Lib.hid hb2
  have c0' := (hb2.cell (p := ⟨g, o, none⟩) hg).trans c0
  have c1' := (hb2.cell (p := ⟨g, o + 1, none⟩) hg).trans c1
  obtain ⟨g2, o2, c2, rfl, hg2, d0, d1⟩ := rd_two hr2
  clear hr2 hb2 c0 c1
  go_wp2_with fail
  refine (has_any (.slice (some ⟨g, o, none⟩) 2 c) [0, 64] 9 w2.heap.size _ HR1'.out (by omega)).mono ?_
  rintro e w3 ⟨rfl, k1, rfl⟩
  rw [HH1.out]
  go_wp2_with fail
  refine (has_any (.slice (some ⟨g, o, none⟩) 2 c) [0, 64] 8 w2.heap.size _ (HR1'.out.drewN k1) (by omega)).mono ?_
  rintro e w3 ⟨rfl, k2, rfl⟩
  rw [HH2.out]
  go_wp2_with fail
  refine (count_any (.slice (some ⟨g, o, none⟩) 2 c) [0, 64] 10 _ (HR1'.out.drewN (k1 + k2)) (by simp)).mono ?_
  rintro e w3 ⟨rfl, k3, rfl⟩
  rw [HC.out]
  go_wp2_with fail
  refine (with_any (.slice (some ⟨g, o, none⟩) 2 c) [0, 64] 9 false _ (HR1'.out.drewN (k1 + k2 + k3)) (by simp) (by omega) (by omega)).mono ?_
  rintro e w4 ⟨v4, rfl, hr4, hb4⟩
  rw [HV.out] at hr4
  obtain ⟨A4, c4, rfl, _⟩ := hr4.form
  have HB4 := Lib.hid hb4
  clear hr4 hb4
  go_wp2
  go_ret
  refine ⟨rfl, HB1.out.trans ((HB2.out.mono HB1.out.size).trans ?_)⟩
  exact ((below_drewN (Below.refl _ w2) (k1 + k2 + k3)).trans HB4.out).mono (Nat.le_trans HB1.out.size HB2.out.size)

end Go.Proofs.Ytfijihjbjifhdaa
