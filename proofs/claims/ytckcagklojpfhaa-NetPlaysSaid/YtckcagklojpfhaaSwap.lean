/- 'Swap' of a net: two packets change places; or an error and nothing turned. No condition. -/
import Derived.Test.YtckcagklojpfhaaLook
import Derived.Test.YtckcagklojpfhaaStage
namespace Go.Proofs.Ytckcagklojpfhaa
open Go.RowKit
set_option linter.unusedSimpArgs false

def swapL (ps : List Pk) (i k : Int) : List Pk :=
  if 0 ≤ i ∧ i < ps.length ∧ 0 ≤ k ∧ k < ps.length then (ps.set i.toNat (ps[k.toNat]?.getD (0, 0, []))).set k.toNat (ps[i.toNat]?.getD (0, 0, [])) else ps

def SwapPost (F : Nat → Prop) (w : World) (g : Nat) (ps : List Pk) (i k : Int) (e : Ending) (w' : World) : Prop :=
  e = .returned (.int .i64 (thereE ps.length [i, k])) ∧ NetHas F w' g (swapL ps i k) ∧ Kept F w w'

theorem thereE_two (n : Nat) (i k : Int) : thereE n [i, k] = if 0 ≤ i ∧ i < n ∧ 0 ≤ k ∧ k < n then 0 else 15 := by
  unfold thereE
  by_cases h : 0 ≤ i ∧ i < n ∧ 0 ≤ k ∧ k < n
  · rw [if_pos h, if_neg (by simp; omega)]
  · rw [if_neg h, if_pos (by simp; omega)]

theorem two_cells_at' (w : World) (b : Nat) (f t : Int) (hb : b = w.heap.size) : ∀ j x, [f, t][j]? = some x → (w.alloc (.cells #[.int .i64 f, .int .i64 t] 3)).cell? ⟨b, j, none⟩ = some (.int .i64 x) := by
  subst hb
  exact two_cells w f t

theorem swap_nil (i k : Int) (w : World) : Calls Try.prog 14 #[.pointer none, .int .i64 i, .int .i64 k] w fun e w' => e = .returned (.int .i64 1) ∧ Below w.heap.size w w' := by
  have HB := Lib.hid (show Below w.heap.size w (w.alloc (.cells #[.int .i64 i, .int .i64 k] 3)) from (Below.refl _ _).alloc (Nat.le_refl _) _)
  go_enter Try.func14, Try.ntmps14
  go_wp2_with fail
  refine (there_nil _ _).mono ?_
  rintro e w1 ⟨rfl, hb1⟩
  have HB1 := Lib.hid (bthen HB.out hb1)
  clear hb1
  go_wp2
  go_ret
  exact ⟨rfl, HB1.out⟩

theorem swap_out {F : Nat → Prop} {w : World} {g : Nat} {ps : List Pk} (h : NetHas F w g ps) (i k : Int) (hi : ¬ (0 ≤ i ∧ i < ps.length ∧ 0 ≤ k ∧ k < ps.length)) :
    Calls Try.prog 14 #[.pointer (some ⟨g, 0, none⟩), .int .i64 i, .int .i64 k] w (SwapPost F w g ps i k) := by
  have hE : thereE ps.length [i, k] = 15 := by rw [thereE_two, if_neg hi]
  have hL : swapL ps i k = ps := if_neg hi
  have hb : Below w.heap.size w (w.alloc (.cells #[.int .i64 i, .int .i64 k] 3)) := (Below.refl _ _).alloc (Nat.le_refl _) _
  have HF := Lib.hid (fun (w' : World) (hb : Below w.heap.size w w') => show SwapPost F w g ps i k (.returned (.int .i64 15)) w' from ⟨by rw [hE], by rw [hL]; exact h.below hb, Kept.of_below hb⟩)
  obtain ⟨sv, rs, h⟩ := h
  obtain ⟨A, c, rfl⟩ := h.form
  have H := there_any w.heap.size 2 g rs.length c A [i, k] _ (by simp) (two_cells_at' w w.heap.size i k rfl) (h.below hb).cell
  rw [h.len, hE] at H
  have H := Lib.hid H
  have HB := Lib.hid hb
  clear h hE hL hb hi
  go_enter Try.func14, Try.ntmps14
  go_wp2_with fail
  refine H.out.mono ?_
  rintro e w1 ⟨rfl, hb1⟩
  have HB1 := Lib.hid (bthen HB.out hb1)
  clear hb1
  go_wp2
  go_ret
  exact HF.out _ HB1.out

/-! ### a packet's place -/
def putPk (w : World) (b i : Nat) (f t : Int) (v : Value) : World := ((w.setCell ⟨b, i * 3, none⟩ (.int .i64 f)).setCell ⟨b, i * 3 + 1, none⟩ (.int .i64 t)).setCell ⟨b, i * 3 + 2, none⟩ v

theorem flatR_set (rs : List (Int × Int × Value)) (i : Nat) (f t : Int) (v : Value) (hi : i < rs.length) : flatR (rs.set i (f, t, v)) = (((flatR rs).set (i * 3) (.int .i64 f)).set (i * 3 + 1) (.int .i64 t)).set (i * 3 + 2) v := by
  induction rs generalizing i with
  | nil => simp at hi
  | cons r rs ih =>
    cases i with
    | zero => rfl
    | succ i =>
      have := ih i (by simpa using hi)
      unfold flatR at *
      rw [List.set_cons_succ, List.flatMap_cons, List.flatMap_cons, this, show (i + 1) * 3 = i * 3 + 3 by omega]
      simp [pkCells]

theorem putPk_own {w : World} {b n cap : Nat} {rs : List (Int × Int × Value)} (h : w.ownsRow 0 33 3 (.slice (some ⟨b, 0, none⟩) n cap) n (flatR rs)) (i : Nat) (f t : Int) (v : Value) (hi : i < rs.length) :
    (putPk w b i f t v).ownsRow 0 33 3 (.slice (some ⟨b, 0, none⟩) n cap) n (flatR (rs.set i (f, t, v))) ∧ w.grownBy (putPk w b i f t v) (some b) := by
  have h1 := h.stored (i * 3) (.int .i64 f)
  have h2 := h1.1.stored (i * 3 + 1) (.int .i64 t)
  have h3 := h2.1.stored (i * 3 + 2) v
  refine ⟨by rw [flatR_set rs i f t v hi]; exact h3.1, ?_⟩
  exact ⟨rfl, rfl, rfl, by simp [putPk, World.setCell], fun k hk hne => by
    rw [← h1.2.block k hk hne, ← h2.2.block k (by simpa [World.setCell] using hk) hne, ← h3.2.block k (by simpa [World.setCell] using hk) hne]
    rfl⟩

theorem swap_net {F : Nat → Prop} {w w1 w2 : World} {g b cap : Nat} {rs : List (Int × Int × Value)} {ps : List Pk} (h : NetIs F w g (.slice (some ⟨b, 0, none⟩) rs.length cap) rs ps) {i k : Nat} {fi ti fk tk : Int} {vi vk : Value}
    (hi : rs[i]? = some (fi, ti, vi)) (hk : rs[k]? = some (fk, tk, vk)) (h1 : w1 = putPk w b i fk tk vk) (h2 : w2 = putPk w1 b k fi ti vi) :
    w1.ownsRow 0 33 3 (.slice (some ⟨b, 0, none⟩) rs.length cap) rs.length (flatR (rs.set i (fk, tk, vk))) ∧ NetHas F w2 g (swapL ps i k) ∧ Kept F w w2 := by
  have hil : i < rs.length := (List.getElem?_eq_some_iff.1 hi).1
  have hkl : k < rs.length := (List.getElem?_eq_some_iff.1 hk).1
  have o1 := putPk_own h.own i fk tk vk hil
  rw [← h1] at o1
  have o2 := putPk_own o1.1 k fi ti vi (by rw [List.length_set]; exact hkl)
  rw [← h2] at o2
  have hfb : F b := h.fs b rfl
  have hgb : b ≠ g := h.row_ne rfl
  have far : ∀ j, j < w.heap.size → j ≠ b → w2.heap[j]? = w.heap[j]? := fun j hj hne => (o2.2.block j (Nat.lt_of_lt_of_le hj o1.2.size) (by simpa using hne)).trans (o1.2.block j hj (by simpa using hne))
  refine ⟨o1.1, ⟨_, (rs.set i (fk, tk, vk)).set k (fi, ti, vi), ?_, h.fg, by rw [List.length_set, List.length_set]; exact o2.1, h.fs, ?_, ?_⟩, ?_⟩
  · rw [far g h.glt (fun e => hgb e.symm)]
    exact h.blk
  · unfold swapL
    rw [if_pos (by have := h.len; omega)]
    simp [h.len]
  · obtain ⟨di, ei1, ei2, ei3, ei4⟩ := h.data i _ _ _ hi
    obtain ⟨dk, ek1, ek2, ek3, ek4⟩ := h.data k _ _ _ hk
    have keep : ∀ {u : Value} {d : List UInt8}, w.ownsRow 0 5 1 u d.length (bv d) → w2.ownsRow 0 5 1 u d.length (bv d) := fun hh => ownsRow_on hh fun j e => far j (own_lives hh e) (fun e1 => by
      subst e1
      rcases h.own.2 with ⟨hx, _⟩ | ⟨g', cap', cur', hx, _, hg1, _⟩
      · cases hx
      · injection hx with hx _ _
        injection hx with hx
        injection hx with hx _ _
        subst hx
        rcases hh.2 with ⟨rfl, _⟩ | ⟨g2, cap2, cur2, rfl, _, hg2, _⟩
        · cases e
        · injection e with e
          subst e
          rw [hg1] at hg2
          simp at hg2)
    intro j f t v hj
    have hps : swapL ps i k = (ps.set i (fk, tk, dk)).set k (fi, ti, di) := by
      unfold swapL
      rw [if_pos (by have := h.len; omega)]
      simp [ei1, ek1]
    rw [hps]
    have hlen := h.len
    rw [List.getElem?_set] at hj ⊢
    by_cases hjk : k = j
    · rw [if_pos hjk, if_pos (by rw [List.length_set]; exact hkl)] at hj
      rw [if_pos hjk, if_pos (by rw [List.length_set]; omega)]
      cases hj
      exact ⟨di, rfl, keep ei2, ei3, ei4⟩
    · rw [if_neg hjk] at hj ⊢
      rw [List.getElem?_set] at hj ⊢
      by_cases hji : i = j
      · rw [if_pos hji, if_pos hil] at hj
        rw [if_pos hji, if_pos (by omega)]
        cases hj
        exact ⟨dk, rfl, keep ek2, ek3, ek4⟩
      · rw [if_neg hji] at hj ⊢
        obtain ⟨d, e1, e2, e3, e4⟩ := h.data j f t v hj
        exact ⟨d, e1, keep e2, e3, e4⟩
  · exact ⟨(o2.2.os).trans o1.2.os, o2.2.tape.trans o1.2.tape, o2.2.output.trans o1.2.output, Nat.le_trans o1.2.size o2.2.size, fun j hj hn => far j hj (fun e => hn (e ▸ hfb))⟩

set_option maxRecDepth 100000 in
set_option maxHeartbeats 2000000 in
theorem swap_in {F : Nat → Prop} {w : World} {g : Nat} {ps : List Pk} (h : NetHas F w g ps) (i k : Nat) (hi : i < ps.length) (hk : k < ps.length) :
    Calls Try.prog 14 #[.pointer (some ⟨g, 0, none⟩), .int .i64 i, .int .i64 k] w (SwapPost F w g ps i k) := by
  have hE : thereE ps.length [(i : Int), (k : Int)] = 0 := by rw [thereE_two, if_pos (by omega)]
  have hb : Below w.heap.size w (w.alloc (.cells #[.int .i64 i, .int .i64 k] 3)) := (Below.refl _ _).alloc (Nat.le_refl _) _
  obtain ⟨sv, rs, h⟩ := h
  have hl := h.len
  obtain ⟨fi, ti, vi, hri⟩ : ∃ f t v, rs[i]? = some (f, t, v) := ⟨_, _, _, List.getElem?_eq_getElem (by omega)⟩
  obtain ⟨fk, tk, vk, hrk⟩ : ∃ f t v, rs[k]? = some (f, t, v) := ⟨_, _, _, List.getElem?_eq_getElem (by omega)⟩
  obtain ⟨b, cap, rfl, hnc, hcm, _⟩ := h.cells hri
  obtain ⟨Ai, ni, ci, rfl⟩ : ∃ A n c, vi = .slice A n c := by obtain ⟨d, _, o, _⟩ := h.data _ _ _ _ hri; obtain ⟨A, c, e⟩ := ownsRow_form o; exact ⟨A, _, c, e⟩
  obtain ⟨Ak, nk, ck, rfl⟩ : ∃ A n c, vk = .slice A n c := by obtain ⟨d, _, o, _⟩ := h.data _ _ _ _ hrk; obtain ⟨A, c, e⟩ := ownsRow_form o; exact ⟨A, _, c, e⟩
  have H := there_any w.heap.size 2 g rs.length cap (some ⟨b, 0, none⟩) [(i : Int), (k : Int)] _ (by simp) (two_cells_at' w w.heap.size i k rfl) (h.below hb).cell
  rw [h.len, hE] at H
  have HT := Lib.hid H
  have HE := Lib.hid hE
  have HB := Lib.hid hb
  have HN := Lib.hid h
  have hir : (i : Int) < (rs.length : Int) := by omega
  have hkr : (k : Int) < (rs.length : Int) := by omega
  have HI := Lib.hid hri
  have HK := Lib.hid hrk
  clear h hE hb hi hk H hri hrk hl
  go_enter Try.func14, Try.ntmps14
  go_wp2_with fail
  refine HT.out.mono ?_
  rintro e w1 ⟨rfl, hb1⟩
  have HKW := Lib.hid (show Kept F w w1 from Kept.of_below (bthen HB.out hb1))
  have HN1 := Lib.hid (HN.out.below (bthen HB.out hb1))
  clear hb1 HT HB HN
  go_wp2
  obtain ⟨wd, hwd⟩ : ∃ wd, wd = { w1 with drawn := w1.drawn + 1 } := ⟨_, rfl⟩
  have hND : NetIs F wd g (.slice (some ⟨b, 0, none⟩) rs.length cap) rs ps := by rw [hwd]; exact HN1.out.on (fun _ _ _ => rfl)
  have hgc := hND.cell
  obtain ⟨W1, hW1⟩ : ∃ W1, W1 = putPk wd b i fk tk (.slice Ak nk ck) := ⟨_, rfl⟩
  obtain ⟨W2, hW2⟩ : ∃ W2, W2 = putPk W1 b k fi ti (.slice Ai ni ci) := ⟨_, rfl⟩
  obtain ⟨hO1, hNF, hKF⟩ := swap_net hND HI.out HK.out hW1 hW2
  have cell3 : ∀ {x : World} {rs' : List (Int × Int × Value)} {j : Nat} {f t : Int} {v : Value}, x.ownsRow 0 33 3 (.slice (some ⟨b, 0, none⟩) rs.length cap) rs.length (flatR rs') → rs'[j]? = some (f, t, v) →
      (x.cell? ⟨b, j * 3, none⟩ = some (.int .i64 f) ∧ x.cell? ⟨b, j * 3 + 1, none⟩ = some (.int .i64 t) ∧ x.cell? ⟨b, j * 3 + 2, none⟩ = some v) ∧ x.frozen? ⟨b, j * 3, none⟩ = false ∧ x.frozen? ⟨b, j * 3 + 1, none⟩ = false ∧ x.frozen? ⟨b, j * 3 + 2, none⟩ = false := by
    intro x rs' j f t v ho hj
    obtain ⟨e1, e2, e3⟩ := flatR_get hj
    have hadd : ∀ j, (⟨b, 0, none⟩ : Addr).add j = ⟨b, j, none⟩ := fun j => by unfold Addr.add; split <;> simp_all
    refine ⟨⟨?_, ?_, ?_⟩, ho.frozenAt _, ho.frozenAt _, ho.frozenAt _⟩
    · rw [← hadd]; exact ho.cells rfl _ _ e1
    · rw [← hadd]; exact ho.cells rfl _ _ e2
    · rw [← hadd]; exact ho.cells rfl _ _ e3
  obtain ⟨⟨i0, i1, i2⟩, zi0, zi1, zi2⟩ := cell3 hND.own HI.out
  obtain ⟨⟨k0, k1, k2⟩, _, _, _⟩ := cell3 hND.own HK.out
  obtain ⟨fj, tj, vj, hrj⟩ : ∃ f t v, (rs.set i (fk, tk, .slice Ak nk ck))[k]? = some (f, t, v) := ⟨_, _, _, List.getElem?_eq_getElem (by rw [List.length_set]; omega)⟩
  obtain ⟨⟨j0, j1, j2⟩, zj0, zj1, zj2⟩ := cell3 hO1 hrj
  have HZ1 := Lib.hid (show wd.heap.size ≤ W1.heap.size by rw [hW1]; simp [putPk, World.setCell])
  have HZ2 := Lib.hid (show W1.heap.size ≤ W2.heap.size by rw [hW2]; simp [putPk, World.setCell])
  have HWD := Lib.hid hwd
  have HFIN := Lib.hid (show NetHas F W2 g (swapL ps i k) ∧ Kept F w W2 from ⟨hNF, HKW.out.then ⟨by have := hKF.os; rw [hwd] at this; exact this, by have := hKF.tape; rw [hwd] at this; exact this, by have := hKF.output; rw [hwd] at this; exact this, by have := hKF.size; rw [hwd] at this; exact this, fun j hj hn => by have := hKF.block j (by rw [hwd]; exact hj) hn; rw [hwd] at this; exact this⟩⟩)
  have HW1 := Lib.hid (show W1 = ((wd.setCell ⟨b, i * 3, none⟩ (.int .i64 fk)).setCell ⟨b, i * 3 + 1, none⟩ (.int .i64 tk)).setCell ⟨b, i * 3 + 2, none⟩ (.slice Ak nk ck) from hW1)
  have HW2 := Lib.hid (show W2 = ((W1.setCell ⟨b, k * 3, none⟩ (.int .i64 fi)).setCell ⟨b, k * 3 + 1, none⟩ (.int .i64 ti)).setCell ⟨b, k * 3 + 2, none⟩ (.slice Ai ni ci) from hW2)
  clear hwd hW1 hW2 hO1 hNF hKF hND cell3 hrj
  refine region_turns (by kernel_rfl) [16, 17, 18, 19, 20, 21, 22, 23, 24, 25, 26, 27, 28, 29, 30, 31, 32, 33, 34, 35, 36, 37, 38, 39, 40, 41] rfl (by simp) (by kernel_rfl) (Staged 25 27 (fun w' => w' = wd) (fun w' => w' = W1) (fun w' => w' = W2)) (Moved (fun _ _ => True)) (Says (fun q_ => match q_ with | 16 => some (.pointer (some ⟨g, 0, none⟩)) | 17 => some (.pointer (some ⟨g, 0, none⟩)) | 18 => some (.pointer (some ⟨g, 0, none⟩)) | 19 => some (.slice (some ⟨b, 0, none⟩) rs.length cap) | 20 => some (.int .i64 i) | 21 => some (.pointer (some ⟨g, 0, none⟩)) | 22 => some (.pointer (some ⟨g, 0, none⟩)) | 23 => some (.pointer (some ⟨g, 0, none⟩)) | 24 => some (.slice (some ⟨b, 0, none⟩) rs.length cap) | 25 => some (.int .i64 k) | 26 => some (.pointer (some ⟨g, 0, none⟩)) | 27 => some (.pointer (some ⟨g, 0, none⟩)) | 28 => some (.pointer (some ⟨g, 0, none⟩)) | 29 => some (.slice (some ⟨b, 0, none⟩) rs.length cap) | 30 => some (.int .i64 k) | 31 => some (.pointer (some ⟨b, k * 3, none⟩)) | 32 => some (.agg #[.int .i64 fk, .int .i64 tk, .slice Ak nk ck]) | 33 => some (.pointer (some ⟨g, 0, none⟩)) | 34 => some (.pointer (some ⟨g, 0, none⟩)) | 35 => some (.pointer (some ⟨g, 0, none⟩)) | 36 => some (.slice (some ⟨b, 0, none⟩) rs.length cap) | 37 => some (.int .i64 i) | 38 => some (.pointer (some ⟨b, i * 3, none⟩)) | 39 => some (.agg #[.int .i64 fi, .int .i64 ti, .slice Ai ni ci]) | 40 => some (.pointer (some ⟨b, i * 3, none⟩)) | 41 => some (.pointer (some ⟨b, k * 3, none⟩)) | _ => none) (fun q_ v w => True)) ?_ ?_ (turns_of_all rfl ?_) ?_
  · intro l hl
    refine Staged.start ?_ (hl _) (hl _)
    exact HWD.out.symm
  · rintro i tt v w w' hnw hM ⟨h1, h2⟩
    exact ⟨h1, h2⟩
  · refine ⟨?_, ?_, ?_, ?_, ?_, ?_, ?_, ?_, ?_, ?_, ?_, ?_, ?_, ?_, ?_, ?_, ?_, ?_, ?_, ?_, ?_, ?_, ?_, ?_, ?_, ?_, ?_, ?_, trivial⟩
    · intro l a w K hbf haf hun hS hF hK
      have g0 : a.tmps[0]? = some (.pointer (some ⟨g, 0, none⟩)) := unfed hF 0 (by kernel_rfl) (by kernel_rfl) rfl
      exact op_value rfl (wanted_none rfl) (run_move' (v := .pointer (some ⟨g, 0, none⟩)) rfl (eval_of g0) w) (hK _ w (Moved.refl _ _ w) (hS.same (by decide) (by decide)) (says_exact 16 rfl (by simp)))
    · intro l a w K hbf haf hun hS hF hK
      have g16 := fedX hF 16 (.pointer (some ⟨g, 0, none⟩)) (by kernel_rfl) (by kernel_rfl) rfl
      exact op_value (v := .pointer (some ⟨g, 0, none⟩)) rfl (wanted_none rfl) (by simp [go_sem, g16, hir, hkr]) (hK _ w (Moved.refl _ _ w) (hS.same (by decide) (by decide)) (says_exact 17 rfl (by simp)))
    · intro l a w K hbf haf hun hS hF hK
      have g17 := fedX hF 17 (.pointer (some ⟨g, 0, none⟩)) (by kernel_rfl) (by kernel_rfl) rfl
      exact op_value (v := .pointer (some ⟨g, 0, none⟩)) rfl (wanted_none rfl) (by simp [go_sem, g17, hir, hkr]) (hK _ w (Moved.refl _ _ w) (hS.same (by decide) (by decide)) (says_exact 18 rfl (by simp)))
    · intro l a w K hbf haf hun hS hF hK
      have g18 := fedX hF 18 (.pointer (some ⟨g, 0, none⟩)) (by kernel_rfl) (by kernel_rfl) rfl
      obtain rfl := hS.first (hbf 25 (by kernel_rfl)) (hbf 27 (by kernel_rfl))
      exact op_value (v := .slice (some ⟨b, 0, none⟩) rs.length cap) rfl (wanted_none rfl) (by simp [go_sem, g18, hgc]) (hK _ _ (Moved.refl _ _ _) (hS.same (by decide) (by decide)) (says_exact 19 rfl (by simp)))
    · intro l a w K hbf haf hun hS hF hK
      have g1 : a.tmps[1]? = some (.int .i64 i) := unfed hF 1 (by kernel_rfl) (by kernel_rfl) rfl
      exact op_value rfl (wanted_none rfl) (run_move' (v := .int .i64 i) rfl (eval_of g1) w) (hK _ w (Moved.refl _ _ w) (hS.same (by decide) (by decide)) (says_exact 20 rfl (by simp)))
    · intro l a w K hbf haf hun hS hF hK
      have g0 : a.tmps[0]? = some (.pointer (some ⟨g, 0, none⟩)) := unfed hF 0 (by kernel_rfl) (by kernel_rfl) rfl
      exact op_value rfl (wanted_none rfl) (run_move' (v := .pointer (some ⟨g, 0, none⟩)) rfl (eval_of g0) w) (hK _ w (Moved.refl _ _ w) (hS.same (by decide) (by decide)) (says_exact 21 rfl (by simp)))
    · intro l a w K hbf haf hun hS hF hK
      have g21 := fedX hF 21 (.pointer (some ⟨g, 0, none⟩)) (by kernel_rfl) (by kernel_rfl) rfl
      exact op_value (v := .pointer (some ⟨g, 0, none⟩)) rfl (wanted_none rfl) (by simp [go_sem, g21, hir, hkr]) (hK _ w (Moved.refl _ _ w) (hS.same (by decide) (by decide)) (says_exact 22 rfl (by simp)))
    · intro l a w K hbf haf hun hS hF hK
      have g22 := fedX hF 22 (.pointer (some ⟨g, 0, none⟩)) (by kernel_rfl) (by kernel_rfl) rfl
      exact op_value (v := .pointer (some ⟨g, 0, none⟩)) rfl (wanted_none rfl) (by simp [go_sem, g22, hir, hkr]) (hK _ w (Moved.refl _ _ w) (hS.same (by decide) (by decide)) (says_exact 23 rfl (by simp)))
    · intro l a w K hbf haf hun hS hF hK
      have g23 := fedX hF 23 (.pointer (some ⟨g, 0, none⟩)) (by kernel_rfl) (by kernel_rfl) rfl
      obtain rfl := hS.first (hbf 25 (by kernel_rfl)) (hbf 27 (by kernel_rfl))
      exact op_value (v := .slice (some ⟨b, 0, none⟩) rs.length cap) rfl (wanted_none rfl) (by simp [go_sem, g23, hgc]) (hK _ _ (Moved.refl _ _ _) (hS.same (by decide) (by decide)) (says_exact 24 rfl (by simp)))
    · intro l a w K hbf haf hun hS hF hK
      have g2 : a.tmps[2]? = some (.int .i64 k) := unfed hF 2 (by kernel_rfl) (by kernel_rfl) rfl
      exact op_value rfl (wanted_none rfl) (run_move' (v := .int .i64 k) rfl (eval_of g2) w) (hK _ w (Moved.refl _ _ w) (hS.same (by decide) (by decide)) (says_exact 25 rfl (by simp)))
    · intro l a w K hbf haf hun hS hF hK
      have g0 : a.tmps[0]? = some (.pointer (some ⟨g, 0, none⟩)) := unfed hF 0 (by kernel_rfl) (by kernel_rfl) rfl
      exact op_value rfl (wanted_none rfl) (run_move' (v := .pointer (some ⟨g, 0, none⟩)) rfl (eval_of g0) w) (hK _ w (Moved.refl _ _ w) (hS.same (by decide) (by decide)) (says_exact 26 rfl (by simp)))
    · intro l a w K hbf haf hun hS hF hK
      have g26 := fedX hF 26 (.pointer (some ⟨g, 0, none⟩)) (by kernel_rfl) (by kernel_rfl) rfl
      exact op_value (v := .pointer (some ⟨g, 0, none⟩)) rfl (wanted_none rfl) (by simp [go_sem, g26, hir, hkr]) (hK _ w (Moved.refl _ _ w) (hS.same (by decide) (by decide)) (says_exact 27 rfl (by simp)))
    · intro l a w K hbf haf hun hS hF hK
      have g27 := fedX hF 27 (.pointer (some ⟨g, 0, none⟩)) (by kernel_rfl) (by kernel_rfl) rfl
      exact op_value (v := .pointer (some ⟨g, 0, none⟩)) rfl (wanted_none rfl) (by simp [go_sem, g27, hir, hkr]) (hK _ w (Moved.refl _ _ w) (hS.same (by decide) (by decide)) (says_exact 28 rfl (by simp)))
    · intro l a w K hbf haf hun hS hF hK
      have g28 := fedX hF 28 (.pointer (some ⟨g, 0, none⟩)) (by kernel_rfl) (by kernel_rfl) rfl
      obtain rfl := hS.first (hbf 25 (by kernel_rfl)) (hbf 27 (by kernel_rfl))
      exact op_value (v := .slice (some ⟨b, 0, none⟩) rs.length cap) rfl (wanted_none rfl) (by simp [go_sem, g28, hgc]) (hK _ _ (Moved.refl _ _ _) (hS.same (by decide) (by decide)) (says_exact 29 rfl (by simp)))
    · intro l a w K hbf haf hun hS hF hK
      have g2 : a.tmps[2]? = some (.int .i64 k) := unfed hF 2 (by kernel_rfl) (by kernel_rfl) rfl
      exact op_value rfl (wanted_none rfl) (run_move' (v := .int .i64 k) rfl (eval_of g2) w) (hK _ w (Moved.refl _ _ w) (hS.same (by decide) (by decide)) (says_exact 30 rfl (by simp)))
    · intro l a w K hbf haf hun hS hF hK
      have g29 := fedX hF 29 (.slice (some ⟨b, 0, none⟩) rs.length cap) (by kernel_rfl) (by kernel_rfl) rfl
      have g30 := fedX hF 30 (.int .i64 k) (by kernel_rfl) (by kernel_rfl) rfl
      exact op_value (v := .pointer (some ⟨b, k * 3, none⟩)) rfl (wanted_none rfl) (by simp [go_sem, g29, g30, hir, hkr]) (hK _ w (Moved.refl _ _ w) (hS.same (by decide) (by decide)) (says_exact 31 rfl (by simp)))
    · intro l a w K hbf haf hun hS hF hK
      have g31 := fedX hF 31 (.pointer (some ⟨b, k * 3, none⟩)) (by kernel_rfl) (by kernel_rfl) rfl
      obtain rfl := hS.first (hbf 25 (by kernel_rfl)) (hbf 27 (by kernel_rfl))
      exact op_value (v := .agg #[.int .i64 fk, .int .i64 tk, .slice Ak nk ck]) rfl (wanted_none rfl) (by simp [go_sem, g31, k0, k1, k2]) (hK _ _ (Moved.refl _ _ _) (hS.same (by decide) (by decide)) (says_exact 32 rfl (by simp)))
    · intro l a w K hbf haf hun hS hF hK
      have g0 : a.tmps[0]? = some (.pointer (some ⟨g, 0, none⟩)) := unfed hF 0 (by kernel_rfl) (by kernel_rfl) rfl
      exact op_value rfl (wanted_none rfl) (run_move' (v := .pointer (some ⟨g, 0, none⟩)) rfl (eval_of g0) w) (hK _ w (Moved.refl _ _ w) (hS.same (by decide) (by decide)) (says_exact 33 rfl (by simp)))
    · intro l a w K hbf haf hun hS hF hK
      have g33 := fedX hF 33 (.pointer (some ⟨g, 0, none⟩)) (by kernel_rfl) (by kernel_rfl) rfl
      exact op_value (v := .pointer (some ⟨g, 0, none⟩)) rfl (wanted_none rfl) (by simp [go_sem, g33, hir, hkr]) (hK _ w (Moved.refl _ _ w) (hS.same (by decide) (by decide)) (says_exact 34 rfl (by simp)))
    · intro l a w K hbf haf hun hS hF hK
      have g34 := fedX hF 34 (.pointer (some ⟨g, 0, none⟩)) (by kernel_rfl) (by kernel_rfl) rfl
      exact op_value (v := .pointer (some ⟨g, 0, none⟩)) rfl (wanted_none rfl) (by simp [go_sem, g34, hir, hkr]) (hK _ w (Moved.refl _ _ w) (hS.same (by decide) (by decide)) (says_exact 35 rfl (by simp)))
    · intro l a w K hbf haf hun hS hF hK
      have g35 := fedX hF 35 (.pointer (some ⟨g, 0, none⟩)) (by kernel_rfl) (by kernel_rfl) rfl
      obtain rfl := hS.first (hbf 25 (by kernel_rfl)) (hbf 27 (by kernel_rfl))
      exact op_value (v := .slice (some ⟨b, 0, none⟩) rs.length cap) rfl (wanted_none rfl) (by simp [go_sem, g35, hgc]) (hK _ _ (Moved.refl _ _ _) (hS.same (by decide) (by decide)) (says_exact 36 rfl (by simp)))
    · intro l a w K hbf haf hun hS hF hK
      have g1 : a.tmps[1]? = some (.int .i64 i) := unfed hF 1 (by kernel_rfl) (by kernel_rfl) rfl
      exact op_value rfl (wanted_none rfl) (run_move' (v := .int .i64 i) rfl (eval_of g1) w) (hK _ w (Moved.refl _ _ w) (hS.same (by decide) (by decide)) (says_exact 37 rfl (by simp)))
    · intro l a w K hbf haf hun hS hF hK
      have g36 := fedX hF 36 (.slice (some ⟨b, 0, none⟩) rs.length cap) (by kernel_rfl) (by kernel_rfl) rfl
      have g37 := fedX hF 37 (.int .i64 i) (by kernel_rfl) (by kernel_rfl) rfl
      exact op_value (v := .pointer (some ⟨b, i * 3, none⟩)) rfl (wanted_none rfl) (by simp [go_sem, g36, g37, hir, hkr]) (hK _ w (Moved.refl _ _ w) (hS.same (by decide) (by decide)) (says_exact 38 rfl (by simp)))
    · intro l a w K hbf haf hun hS hF hK
      have g38 := fedX hF 38 (.pointer (some ⟨b, i * 3, none⟩)) (by kernel_rfl) (by kernel_rfl) rfl
      obtain rfl := hS.first (hbf 25 (by kernel_rfl)) (hbf 27 (by kernel_rfl))
      exact op_value (v := .agg #[.int .i64 fi, .int .i64 ti, .slice Ai ni ci]) rfl (wanted_none rfl) (by simp [go_sem, g38, i0, i1, i2]) (hK _ _ (Moved.refl _ _ _) (hS.same (by decide) (by decide)) (says_exact 39 rfl (by simp)))
    · intro l a w K hbf haf hun hS hF hK
      have g19 := fedX hF 19 (.slice (some ⟨b, 0, none⟩) rs.length cap) (by kernel_rfl) (by kernel_rfl) rfl
      have g20 := fedX hF 20 (.int .i64 i) (by kernel_rfl) (by kernel_rfl) rfl
      exact op_value (v := .pointer (some ⟨b, i * 3, none⟩)) rfl (wanted_none rfl) (by simp [go_sem, g19, g20, hir, hkr]) (hK _ w (Moved.refl _ _ w) (hS.same (by decide) (by decide)) (says_exact 40 rfl (by simp)))
    · intro l a w K hbf haf hun hS hF hK
      have g40 := fedX hF 40 (.pointer (some ⟨b, i * 3, none⟩)) (by kernel_rfl) (by kernel_rfl) rfl
      have g32 := fedX hF 32 (.agg #[.int .i64 fk, .int .i64 tk, .slice Ak nk ck]) (by kernel_rfl) (by kernel_rfl) rfl
      obtain rfl := hS.first hun (hbf 27 (by kernel_rfl))
      exact op_stored (w' := W1) rfl (wanted_none rfl) (by rw [HW1.out]; simp [go_sem, g40, g32, i0, i1, i2, zi0, zi1, zi2]) (hK _ _ ⟨HZ1.out, fun _ _ hn => absurd trivial hn⟩ (Staged.toMid rfl (hbf 27 (by kernel_rfl)) (by decide)) (fun t ht => by cases ht))
    · intro l a w K hbf haf hun hS hF hK
      have g24 := fedX hF 24 (.slice (some ⟨b, 0, none⟩) rs.length cap) (by kernel_rfl) (by kernel_rfl) rfl
      have g25 := fedX hF 25 (.int .i64 k) (by kernel_rfl) (by kernel_rfl) rfl
      exact op_value (v := .pointer (some ⟨b, k * 3, none⟩)) rfl (wanted_none rfl) (by simp [go_sem, g24, g25, hir, hkr]) (hK _ w (Moved.refl _ _ w) (hS.same (by decide) (by decide)) (says_exact 41 rfl (by simp)))
    · intro l a w K hbf haf hun hS hF hK
      have g41 := fedX hF 41 (.pointer (some ⟨b, k * 3, none⟩)) (by kernel_rfl) (by kernel_rfl) rfl
      have g39 := fedX hF 39 (.agg #[.int .i64 fi, .int .i64 ti, .slice Ai ni ci]) (by kernel_rfl) (by kernel_rfl) rfl
      obtain rfl := hS.mid (haf 25 (by kernel_rfl)) hun
      exact op_stored (w' := W2) rfl (wanted_none rfl) (by rw [HW2.out]; simp [go_sem, g41, g39, j0, j1, j2, zj0, zj1, zj2]) (hK _ _ ⟨HZ2.out, fun _ _ hn => absurd trivial hn⟩ (Staged.toLast rfl) (fun t ht => by cases ht))
  · intro l fv_ w hl hS hf
    have hC := hS.last (hl 27 (by simp))
    have f16 : fv_ 16 = .pointer (some ⟨g, 0, none⟩) := (hf 16 (by simp)).1 _ rfl
    have f17 : fv_ 17 = .pointer (some ⟨g, 0, none⟩) := (hf 17 (by simp)).1 _ rfl
    have f18 : fv_ 18 = .pointer (some ⟨g, 0, none⟩) := (hf 18 (by simp)).1 _ rfl
    have f19 : fv_ 19 = .slice (some ⟨b, 0, none⟩) rs.length cap := (hf 19 (by simp)).1 _ rfl
    have f20 : fv_ 20 = .int .i64 i := (hf 20 (by simp)).1 _ rfl
    have f21 : fv_ 21 = .pointer (some ⟨g, 0, none⟩) := (hf 21 (by simp)).1 _ rfl
    have f22 : fv_ 22 = .pointer (some ⟨g, 0, none⟩) := (hf 22 (by simp)).1 _ rfl
    have f23 : fv_ 23 = .pointer (some ⟨g, 0, none⟩) := (hf 23 (by simp)).1 _ rfl
    have f24 : fv_ 24 = .slice (some ⟨b, 0, none⟩) rs.length cap := (hf 24 (by simp)).1 _ rfl
    have f25 : fv_ 25 = .int .i64 k := (hf 25 (by simp)).1 _ rfl
    have f26 : fv_ 26 = .pointer (some ⟨g, 0, none⟩) := (hf 26 (by simp)).1 _ rfl
    have f27 : fv_ 27 = .pointer (some ⟨g, 0, none⟩) := (hf 27 (by simp)).1 _ rfl
    have f28 : fv_ 28 = .pointer (some ⟨g, 0, none⟩) := (hf 28 (by simp)).1 _ rfl
    have f29 : fv_ 29 = .slice (some ⟨b, 0, none⟩) rs.length cap := (hf 29 (by simp)).1 _ rfl
    have f30 : fv_ 30 = .int .i64 k := (hf 30 (by simp)).1 _ rfl
    have f31 : fv_ 31 = .pointer (some ⟨b, k * 3, none⟩) := (hf 31 (by simp)).1 _ rfl
    have f32 : fv_ 32 = .agg #[.int .i64 fk, .int .i64 tk, .slice Ak nk ck] := (hf 32 (by simp)).1 _ rfl
    have f33 : fv_ 33 = .pointer (some ⟨g, 0, none⟩) := (hf 33 (by simp)).1 _ rfl
    have f34 : fv_ 34 = .pointer (some ⟨g, 0, none⟩) := (hf 34 (by simp)).1 _ rfl
    have f35 : fv_ 35 = .pointer (some ⟨g, 0, none⟩) := (hf 35 (by simp)).1 _ rfl
    have f36 : fv_ 36 = .slice (some ⟨b, 0, none⟩) rs.length cap := (hf 36 (by simp)).1 _ rfl
    have f37 : fv_ 37 = .int .i64 i := (hf 37 (by simp)).1 _ rfl
    have f38 : fv_ 38 = .pointer (some ⟨b, i * 3, none⟩) := (hf 38 (by simp)).1 _ rfl
    have f39 : fv_ 39 = .agg #[.int .i64 fi, .int .i64 ti, .slice Ai ni ci] := (hf 39 (by simp)).1 _ rfl
    have f40 : fv_ 40 = .pointer (some ⟨b, i * 3, none⟩) := (hf 40 (by simp)).1 _ rfl
    have f41 : fv_ 41 = .pointer (some ⟨b, k * 3, none⟩) := (hf 41 (by simp)).1 _ rfl
    simp only [putAll, List.foldl_cons, List.foldl_nil, List.setIfInBounds_toArray, List.set_cons_succ, List.set_cons_zero, f16, f17, f18, f19, f20, f21, f22, f23, f24, f25, f26, f27, f28, f29, f30, f31, f32, f33, f34, f35, f36, f37, f38, f39, f40, f41]
    clear f16 f17 f18 f19 f20 f21 f22 f23 f24 f25 f26 f27 f28 f29 f30 f31 f32 f33 f34 f35 f36 f37 f38 f39 f40 f41 hf
    subst hC
    go_wp2
    go_ret
    exact ⟨by rw [HE.out]; rfl, HFIN.out⟩

/-- 'Swap', whatever it is given -/
theorem swap_any {F : Nat → Prop} {w : World} {g : Nat} {ps : List Pk} (h : NetHas F w g ps) (i k : Int) :
    Calls Try.prog 14 #[.pointer (some ⟨g, 0, none⟩), .int .i64 i, .int .i64 k] w (SwapPost F w g ps i k) := by
  by_cases hi : 0 ≤ i ∧ i < ps.length ∧ 0 ≤ k ∧ k < ps.length
  · obtain ⟨I, rfl⟩ := Int.eq_ofNat_of_zero_le hi.1
    obtain ⟨K, rfl⟩ := Int.eq_ofNat_of_zero_le hi.2.2.1
    exact swap_in h I K (by omega) (by omega)
  · exact swap_out h i k hi

end Go.Proofs.Ytckcagklojpfhaa
