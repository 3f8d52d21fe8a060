/- 'Drop' of a net: a packet gone, the others in order; or an error and nothing turned. No condition. -/
import Derived.Test.YtckcagklojpfhaaDel
namespace Go.Proofs.Ytckcagklojpfhaa
open Go.RowKit

def dropL (ps : List Pk) (i : Int) : List Pk := if 0 ≤ i ∧ i < ps.length then ps.eraseIdx i.toNat else ps

def DropPost (F : Nat → Prop) (w : World) (g : Nat) (ps : List Pk) (i : Int) (e : Ending) (w' : World) : Prop :=
  e = .returned (.int .i64 (thereE ps.length [i])) ∧ NetHas F w' g (dropL ps i) ∧ Kept F w w'

theorem one_cell_at (w : World) (b : Nat) (f : Int) (hb : b = w.heap.size) : ∀ j x, [f][j]? = some x → (w.alloc (.cells #[.int .i64 f] 3)).cell? ⟨b, j, none⟩ = some (.int .i64 x) := by
  subst hb
  exact one_cell w f

theorem drop_nil (i : Int) (w : World) : Calls Try.prog 12 #[.pointer none, .int .i64 i] w fun e w' => e = .returned (.int .i64 1) ∧ Below w.heap.size w w' := by
  have HB := Lib.hid (show Below w.heap.size w (w.alloc (.cells #[.int .i64 i] 3)) from (Below.refl _ _).alloc (Nat.le_refl _) _)
  go_enter Try.func12, Try.ntmps12
  go_wp2_with fail
  refine (there_nil _ _).mono ?_
  rintro e w1 ⟨rfl, hb1⟩
  have HB1 := Lib.hid (bthen HB.out hb1)
  clear hb1
  go_wp2
  go_ret
  exact ⟨rfl, HB1.out⟩

theorem drop_out {F : Nat → Prop} {w : World} {g : Nat} {ps : List Pk} (h : NetHas F w g ps) (i : Int) (hi : ¬ (0 ≤ i ∧ i < ps.length)) :
    Calls Try.prog 12 #[.pointer (some ⟨g, 0, none⟩), .int .i64 i] w (DropPost F w g ps i) := by
  have hE : thereE ps.length [i] = 15 := by rw [thereE_one, if_neg hi]
  have hL : dropL ps i = ps := if_neg hi
  have hb : Below w.heap.size w (w.alloc (.cells #[.int .i64 i] 3)) := (Below.refl _ _).alloc (Nat.le_refl _) _
  have HF := Lib.hid (fun (w' : World) (hb : Below w.heap.size w w') => show DropPost F w g ps i (.returned (.int .i64 15)) w' from ⟨by rw [hE], by rw [hL]; exact h.below hb, Kept.of_below hb⟩)
  obtain ⟨sv, rs, h⟩ := h
  obtain ⟨A, c, rfl⟩ := h.form
  have H := there_any w.heap.size 1 g rs.length c A [i] _ (by simp) (one_cell_at w w.heap.size i rfl) (h.below hb).cell
  rw [h.len, hE] at H
  have H := Lib.hid H
  have HB := Lib.hid hb
  clear h hE hL hb hi
  go_enter Try.func12, Try.ntmps12
  go_wp2_with fail
  refine H.out.mono ?_
  rintro e w1 ⟨rfl, hb1⟩
  have HB1 := Lib.hid (bthen HB.out hb1)
  clear hb1
  go_wp2
  go_ret
  exact HF.out _ HB1.out

theorem NetIs.one {F : Nat → Prop} {w : World} {g : Nat} {sv : Value} {rs : List (Int × Int × Value)} {ps : List Pk} (h : NetIs F w g sv rs ps) : ∀ u ∈ flatR rs, u.oneCell' = true := by
  intro u hu
  unfold flatR at hu
  obtain ⟨r, hr, hu⟩ := List.mem_flatMap.1 hu
  obtain ⟨i, hi, he⟩ := List.getElem_of_mem hr
  obtain ⟨f, t, v⟩ := r
  obtain ⟨d, _, o, _⟩ := h.data i f t v (by rw [List.getElem?_eq_getElem hi, he])
  obtain ⟨A, c, rfl⟩ := ownsRow_form o
  simp [pkCells] at hu
  rcases hu with rfl | rfl | rfl <;> rfl

set_option maxHeartbeats 1000000 in
theorem drop_in {F : Nat → Prop} {w : World} {g : Nat} {ps : List Pk} (h : NetHas F w g ps) (i : Nat) (hi : i < ps.length) (hbig : ps.length ≤ 65536) :
    Calls Try.prog 12 #[.pointer (some ⟨g, 0, none⟩), .int .i64 i] w (DropPost F w g ps i) := by
  have hE : thereE ps.length [(i : Int)] = 0 := by rw [thereE_one, if_pos (by omega)]
  have hb : Below w.heap.size w (w.alloc (.cells #[.int .i64 i] 3)) := (Below.refl _ _).alloc (Nat.le_refl _) _
  obtain ⟨sv, rs, h⟩ := h
  have hl := h.len
  obtain ⟨fi, ti, vi, hri⟩ : ∃ f t v, rs[i]? = some (f, t, v) := ⟨_, _, _, List.getElem?_eq_getElem (by omega)⟩
  obtain ⟨b, cap, rfl, hnc, hcm, _⟩ := h.cells hri
  have H := there_any w.heap.size 1 g rs.length cap (some ⟨b, 0, none⟩) [(i : Int)] _ (by simp) (one_cell_at w w.heap.size i rfl) (h.below hb).cell
  obtain ⟨m, hm⟩ : ∃ m, rs.length = m + 1 := ⟨rs.length - 1, by omega⟩
  rw [h.len, hE] at H
  have HT := Lib.hid H
  have HE := Lib.hid hE
  have HB := Lib.hid hb
  have HN := Lib.hid h
  have HM := Lib.hid hm
  have HIM := Lib.hid (show i ≤ m by omega)
  have HM6 := Lib.hid (show m ≤ 65536 by omega)
  have HIL := Lib.hid hi
  have hiw : IntKind.i64.wrap ((i : Int) + 1) = (i : Int) + 1 := IntWalk.i64_in _ (by omega)
  clear h hE hb hi H hri hl hm hnc
  go_enter Try.func12, Try.ntmps12
  go_wp2_with fail
  refine HT.out.mono ?_
  rintro e w1 ⟨rfl, hb1⟩
  have hbw := bthen HB.out hb1
  have HKW := Lib.hid (show Kept F w w1 from Kept.of_below hbw)
  have hN1 := HN.out.below hbw
  have hgc := hN1.cell
  have hown := hN1.own
  rw [HM.out] at hown hgc
  have HDEL := Lib.hid (del_any b m cap i rs w1 hown hN1.one HIM.out HM6.out)
  have HN1 := Lib.hid hN1
  clear hb1 hbw hN1 hown HT HB HN
  go_wp2_with fail
  refine HDEL.out.mono ?_
  rintro e w2 ⟨rfl, ho2, hg2⟩
  have hne : b ≠ g := HN1.out.row_ne rfl
  have hblk : w2.heap[g]? = some (.cells #[.slice (some ⟨b, 0, none⟩) rs.length cap] 55 (0, 0)) := by rw [hg2.block g HN1.out.glt (by simpa using fun e => hne e.symm)]; exact HN1.out.blk
  have hcg : w2.cell? ⟨g, 0, none⟩ = some (.slice (some ⟨b, 0, none⟩) rs.length cap) := by rw [cell_of_row w2 g 0 _ 55 (0, 0) hblk]; rfl
  have hzg : w2.frozen? ⟨g, 0, none⟩ = false := frozen_of_row w2 g 0 _ 55 hblk
  have HO2 := Lib.hid ho2
  have HG2 := Lib.hid hg2
  have HBK := Lib.hid hblk
  clear ho2 hg2 hblk hgc
  go_wp2
  go_ret
  have hfb : F b := HN1.out.fs b rfl
  have far : ∀ j, j < w1.heap.size → j ≠ b → j ≠ g → (w2.setCell ⟨g, 0, none⟩ (.slice (some ⟨b, 0, none⟩) m cap)).heap[j]? = w1.heap[j]? := fun j hj h1 h2 => by
    rw [Below.heap_setCell w2 ⟨g, 0, none⟩ _ j h2]
    exact HG2.out.block j hj (by simpa using h1)
  refine ⟨by rw [HE.out]; rfl, ⟨.slice (some ⟨b, 0, none⟩) m cap, rs.eraseIdx i, ?_, HN1.out.fg, ?_, fun k hk => HN1.out.fs k hk, ?_, ?_⟩, HKW.out.then ⟨HG2.out.os, HG2.out.tape, HG2.out.output, by simpa [World.setCell] using HG2.out.size, fun j hj hn => far j hj (fun e => hn (e ▸ hfb)) (fun e => hn (e ▸ HN1.out.fg))⟩⟩
  · have := heap_setCell_same w2 g 0 _ 55 (.slice (some ⟨b, 0, none⟩) m cap) HBK.out
    simpa using this
  · have := HO2.out
    rw [List.length_eraseIdx, if_pos (by rw [HM.out]; have := HIM.out; omega), HM.out]
    exact ownsRow_setCell_other HO2.out (by simpa [Value.ownBlock] using hne) _
  · unfold dropL
    rw [if_pos (by have := HIL.out; omega), List.length_eraseIdx, List.length_eraseIdx, HN1.out.len]
    rfl
  · intro j f t v hj
    unfold dropL
    rw [if_pos (by have := HIL.out; omega)]
    simp only [Int.toNat_natCast]
    rw [List.getElem?_eraseIdx] at hj ⊢
    have key : ∀ j' : Nat, rs[j']? = some (f, t, v) → ∃ d, ps[j']? = some (f, t, d) ∧ (w2.setCell ⟨g, 0, none⟩ (.slice (some ⟨b, 0, none⟩) m cap)).ownsRow 0 5 1 v d.length (bv d) ∧ (∀ k, v.ownBlock = some k → F k) ∧ d.length ≤ 65536 := by
      intro j' hj'
      obtain ⟨d, e1, e2, e3, e4⟩ := HN1.out.data j' f t v hj'
      refine ⟨d, e1, ownsRow_on e2 (fun k hk => far k (own_lives e2 hk) (fun e => ?_) (fun e => ?_)), e3, e4⟩
      · subst e
        rcases HN1.out.own.2 with ⟨hx, _⟩ | ⟨g', cap', cur', hx, _, hg1, _⟩
        · cases hx
        · injection hx with hx _ _
          injection hx with hx
          injection hx with hx _ _
          subst hx
          rcases e2.2 with ⟨rfl, _⟩ | ⟨g2, cap2, cur2, rfl, _, hg2, _⟩
          · cases hk
          · injection hk with hk
            subst hk
            rw [hg1] at hg2
            simp at hg2
      · subst e
        rcases e2.2 with ⟨rfl, _⟩ | ⟨g2, cap2, cur2, rfl, _, hg2, _⟩
        · cases hk
        · injection hk with hk
          subst hk
          rw [HN1.out.blk] at hg2
          simp at hg2
    split at hj
    · rename_i hji
      rw [if_pos hji]
      exact key j hj
    · rename_i hji
      rw [if_neg hji]
      exact key (j + 1) hj

/-- 'Drop', whatever it is given -/
theorem drop_any {F : Nat → Prop} {w : World} {g : Nat} {ps : List Pk} (h : NetHas F w g ps) (i : Int) (hbig : ps.length ≤ 65536) :
    Calls Try.prog 12 #[.pointer (some ⟨g, 0, none⟩), .int .i64 i] w (DropPost F w g ps i) := by
  by_cases hi : 0 ≤ i ∧ i < ps.length
  · obtain ⟨I, rfl⟩ := Int.eq_ofNat_of_zero_le hi.1
    exact drop_in h I (by omega) hbig
  · exact drop_out h i hi

end Go.Proofs.Ytckcagklojpfhaa
