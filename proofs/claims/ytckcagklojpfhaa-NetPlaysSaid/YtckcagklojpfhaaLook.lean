/- 'Len' and 'Look' of a net. No condition. -/
import Derived.Test.YtckcagklojpfhaaNet
namespace Go.Proofs.Ytckcagklojpfhaa
open Go.RowKit

theorem len_nil (w : World) : Calls Try.prog 16 #[.pointer none] w fun e w' => e = .returned (.int .i64 0) ∧ w' = w := by
  go_enter Try.func16, Try.ntmps16
  go_wp2
  go_ret
  exact ⟨rfl, rfl⟩

theorem len_any {F : Nat → Prop} {w : World} {g : Nat} {ps : List Pk} (h : NetHas F w g ps) : Calls Try.prog 16 #[.pointer (some ⟨g, 0, none⟩)] w fun e w' => e = .returned (.int .i64 ps.length) ∧ w' = w := by
  obtain ⟨sv, rs, h⟩ := h
  obtain ⟨A, c, rfl⟩ := h.form
  have hc := h.cell
  have hl := h.len
  rw [← hl]
  clear h hl
  go_enter Try.func16, Try.ntmps16
  go_wp2
  go_ret
  exact ⟨rfl, rfl⟩

/-- what 'Look' hands back: a packet in new memory -/
def Looked (w : World) (p : Pk) (e : Ending) (w' : World) : Prop :=
  ∃ v', e = .returned (.tuple #[.agg #[.int .i64 p.1, .int .i64 p.2.1, v'], .bool true]) ∧ w'.ownsRow w.heap.size 5 1 v' p.2.2.length (bv p.2.2) ∧ Below w.heap.size w w'
def NotThere (w : World) (e : Ending) (w' : World) : Prop :=
  e = .returned (.tuple #[.agg #[.int .i64 0, .int .i64 0, .slice none 0 0], .bool false]) ∧ Below w.heap.size w w'

theorem look_nil (i : Int) (w : World) : Calls Try.prog 17 #[.pointer none, .int .i64 i] w (NotThere w) := by
  have hb0 : Below w.heap.size w ((w.alloc (.cells #[.int .i64 0, .int .i64 0, .slice none 0 0] 33)).alloc (.cells #[.int .i64 i] 3)) := ((Below.refl _ _).alloc (Nat.le_refl _) _).alloc (by simp) _
  have HB0 := Lib.hid hb0
  clear hb0
  go_enter Try.func17, Try.ntmps17
  go_wp2_with fail
  refine (there_nil _ _).mono ?_
  rintro e w1 ⟨rfl, hb1⟩
  have hd0 := (hb1.cell (p := ⟨w.heap.size, 0, none⟩) (by simp; omega)).trans (show _ = some (.int .i64 0) by go_simp)
  have hd1 := (hb1.cell (p := ⟨w.heap.size, 1, none⟩) (by simp; omega)).trans (show _ = some (.int .i64 0) by go_simp)
  have hd2 := (hb1.cell (p := ⟨w.heap.size, 2, none⟩) (by simp; omega)).trans (show _ = some (.slice none 0 0) by go_simp)
  have hy0 := (hb1.frozen (p := ⟨w.heap.size, 0, none⟩) (by simp; omega)).trans (show _ = false by go_simp)
  have hy1 := (hb1.frozen (p := ⟨w.heap.size, 1, none⟩) (by simp; omega)).trans (show _ = false by go_simp)
  have hy2 := (hb1.frozen (p := ⟨w.heap.size, 2, none⟩) (by simp; omega)).trans (show _ = false by go_simp)
  have HB1 := Lib.hid (bthen HB0.out hb1)
  clear hb1
  go_wp2
  have HBF := Lib.hid (((HB1.out.setCell (p := ⟨w.heap.size, 0, none⟩) (Nat.le_refl _) (.int .i64 0)).setCell (p := ⟨w.heap.size, 1, none⟩) (Nat.le_refl _) (.int .i64 0)).setCell (p := ⟨w.heap.size, 2, none⟩) (Nat.le_refl _) (.slice none 0 0))
  refine bodyPost_ret (v := .tuple #[.agg #[.int .i64 0, .int .i64 0, .slice none 0 0], .bool false]) (by simp [results, Try.results17, go_sem, hd0, hd1, hd2]) rfl ⟨rfl, HBF.out⟩

theorem thereE_one (n : Nat) (i : Int) : thereE n [i] = if 0 ≤ i ∧ i < n then 0 else 15 := by
  unfold thereE
  by_cases h : 0 ≤ i ∧ i < n
  · rw [if_pos h, if_neg (by simp; omega)]
  · rw [if_neg h, if_pos (by simp; omega)]

theorem look_out {F : Nat → Prop} {w : World} {g : Nat} {ps : List Pk} (h : NetHas F w g ps) (i : Int) (hi : ¬ (0 ≤ i ∧ i < ps.length)) : Calls Try.prog 17 #[.pointer (some ⟨g, 0, none⟩), .int .i64 i] w (NotThere w) := by
  obtain ⟨sv, rs, h⟩ := h
  obtain ⟨A, c, rfl⟩ := h.form
  have hl := h.len
  have hE : thereE rs.length [i] = 15 := by rw [thereE_one, if_neg (by rw [hl]; exact hi)]
  have hb0 : Below w.heap.size w ((w.alloc (.cells #[.int .i64 0, .int .i64 0, .slice none 0 0] 33)).alloc (.cells #[.int .i64 i] 3)) := ((Below.refl _ _).alloc (Nat.le_refl _) _).alloc (by simp) _
  have hc := (h.below hb0).cell
  have H := there_any (w.heap.size + 1) 1 g rs.length c A [i] _ (by simp) (by have := one_cell (w.alloc (.cells #[.int .i64 0, .int .i64 0, .slice none 0 0] 33)) i; simpa using this) hc
  rw [hE] at H
  have H := Lib.hid H
  have HB0 := Lib.hid hb0
  clear h hl hE hc hb0
  go_enter Try.func17, Try.ntmps17
  go_wp2_with fail
  refine H.out.mono ?_
  rintro e w1 ⟨rfl, hb1⟩
  have hd0 := (hb1.cell (p := ⟨w.heap.size, 0, none⟩) (by simp; omega)).trans (show _ = some (.int .i64 0) by go_simp)
  have hd1 := (hb1.cell (p := ⟨w.heap.size, 1, none⟩) (by simp; omega)).trans (show _ = some (.int .i64 0) by go_simp)
  have hd2 := (hb1.cell (p := ⟨w.heap.size, 2, none⟩) (by simp; omega)).trans (show _ = some (.slice none 0 0) by go_simp)
  have hy0 := (hb1.frozen (p := ⟨w.heap.size, 0, none⟩) (by simp; omega)).trans (show _ = false by go_simp)
  have hy1 := (hb1.frozen (p := ⟨w.heap.size, 1, none⟩) (by simp; omega)).trans (show _ = false by go_simp)
  have hy2 := (hb1.frozen (p := ⟨w.heap.size, 2, none⟩) (by simp; omega)).trans (show _ = false by go_simp)
  have HB1 := Lib.hid (bthen HB0.out hb1)
  clear hb1
  go_wp2
  have HBF := Lib.hid (((HB1.out.setCell (p := ⟨w.heap.size, 0, none⟩) (Nat.le_refl _) (.int .i64 0)).setCell (p := ⟨w.heap.size, 1, none⟩) (Nat.le_refl _) (.int .i64 0)).setCell (p := ⟨w.heap.size, 2, none⟩) (Nat.le_refl _) (.slice none 0 0))
  refine bodyPost_ret (v := .tuple #[.agg #[.int .i64 0, .int .i64 0, .slice none 0 0], .bool false]) (by simp [results, Try.results17, go_sem, hd0, hd1, hd2]) rfl ⟨rfl, HBF.out⟩

theorem look_in {F : Nat → Prop} {w : World} {g : Nat} {ps : List Pk} (h : NetHas F w g ps) (i : Nat) (p : Pk) (hp : ps[i]? = some p) : Calls Try.prog 17 #[.pointer (some ⟨g, 0, none⟩), .int .i64 i] w (Looked w p) := by
  obtain ⟨sv, rs, h⟩ := h
  have hl := h.len
  have hlt : i < ps.length := (List.getElem?_eq_some_iff.1 hp).1
  have hE : thereE rs.length [(i : Int)] = 0 := by rw [thereE_one, if_pos (by omega)]
  obtain ⟨f, t, v, hr⟩ : ∃ f t v, rs[i]? = some (f, t, v) := ⟨_, _, _, List.getElem?_eq_getElem (by omega)⟩
  obtain ⟨d, hd, hod, hFd, hdl⟩ := h.data i f t v hr
  rw [hp] at hd
  injection hd with hd
  subst hd
  obtain ⟨AV, cV, hV⟩ := ownsRow_form hod
  have hb0 : Below w.heap.size w ((w.alloc (.cells #[.int .i64 0, .int .i64 0, .slice none 0 0] 33)).alloc (.cells #[.int .i64 i] 3)) := ((Below.refl _ _).alloc (Nat.le_refl _) _).alloc (by simp) _
  obtain ⟨k, cap, rfl, hnc, hcm, _, _, _⟩ := h.cells hr
  have hkl : k < w.heap.size := own_lives h.own rfl
  have hc := (h.below hb0).cell
  have H := there_any (w.heap.size + 1) 1 g rs.length cap (some ⟨k, 0, none⟩) [(i : Int)] _ (by simp) (by have := one_cell (w.alloc (.cells #[.int .i64 0, .int .i64 0, .slice none 0 0] 33)) (i : Int); simpa using this) hc
  rw [hE] at H
  have H := Lib.hid H
  have HB0 := Lib.hid hb0
  have HN := Lib.hid h
  have HR := Lib.hid hr
  have HP := Lib.hid hp
  have hir : (i : Int) < (rs.length : Int) := by omega
  clear h hl hE hc hb0 hr hod hFd hp
  subst hV
  go_enter Try.func17, Try.ntmps17
  go_wp2_with fail
  refine H.out.mono ?_
  rintro e w1 ⟨rfl, hb1⟩
  have hbw := bthen HB0.out hb1
  have HN1 := HN.out.below hbw
  obtain ⟨k', cap', hkk, _, _, h0, h1, h2⟩ := HN1.cells HR.out
  injection hkk with e1 _ e3
  injection e1 with e1
  injection e1 with e1 _ _
  subst e1
  subst e3
  have hgc := HN1.cell
  obtain ⟨d', hd', hod, _, _⟩ := HN.out.data i f t _ HR.out
  obtain rfl : d' = d := by
    have h1 := HP.out
    rw [hd'] at h1
    injection h1 with h1
    injection h1 with _ h1
    injection h1
  have HRD := Lib.hid ((Rd.of_own hod).on hbw)
  have HB1 := Lib.hid hbw
  have HBI := Lib.hid hb1
  clear hb1
  clear HN1 hbw hd' hod
  go_wp2_with fail
  refine (copied_any f t _ d' w1 HRD.out (by omega)).mono ?_
  rintro e w2 ⟨v2, rfl, ho2, hb2⟩
  have hb1 := bthen HBI.out hb2
  have hd0 := (hb1.cell (p := ⟨w.heap.size, 0, none⟩) (by simp; omega)).trans (show _ = some (.int .i64 0) by go_simp)
  have hd1 := (hb1.cell (p := ⟨w.heap.size, 1, none⟩) (by simp; omega)).trans (show _ = some (.int .i64 0) by go_simp)
  have hd2 := (hb1.cell (p := ⟨w.heap.size, 2, none⟩) (by simp; omega)).trans (show _ = some (.slice none 0 0) by go_simp)
  have hy0 := (hb1.frozen (p := ⟨w.heap.size, 0, none⟩) (by simp; omega)).trans (show _ = false by go_simp)
  have hy1 := (hb1.frozen (p := ⟨w.heap.size, 1, none⟩) (by simp; omega)).trans (show _ = false by go_simp)
  have hy2 := (hb1.frozen (p := ⟨w.heap.size, 2, none⟩) (by simp; omega)).trans (show _ = false by go_simp)
  have HO2 := Lib.hid ho2
  have hsz : w.heap.size < w1.heap.size := by have := HBI.out.size; simp at this; omega
  have HB2 := Lib.hid (bthen HB1.out hb2)
  obtain ⟨A2, c2, rfl⟩ := ownsRow_form ho2
  clear hb1 hb2 ho2
  go_wp2
  have HBF := Lib.hid (((HB2.out.setCell (p := ⟨w.heap.size, 0, none⟩) (Nat.le_refl _) (.int .i64 f)).setCell (p := ⟨w.heap.size, 1, none⟩) (Nat.le_refl _) (.int .i64 t)).setCell (p := ⟨w.heap.size, 2, none⟩) (Nat.le_refl _) (.slice A2 d'.length c2))
  refine bodyPost_ret (v := .tuple #[.agg #[.int .i64 f, .int .i64 t, .slice A2 d'.length c2], .bool true]) (by simp [results, Try.results17, go_sem, hd0, hd1, hd2]) rfl ⟨_, rfl, ?_, HBF.out⟩
  exact own_from (ownsRow_setCell_below (ownsRow_setCell_below (ownsRow_setCell_below HO2.out hsz _) hsz _) hsz _) (Nat.le_of_lt hsz)

end Go.Proofs.Ytckcagklojpfhaa
