/- The document's 'put' and 'Read' of layer 3. Conditions: at most 2^20 sectors. -/
import Derived.Test.YtcbdlggjpedffaaRef
namespace Go.Proofs.Ytcbdlggjpedffaa
open Go.RowKit
set_option linter.unusedSimpArgs false

/-- a list of the same length with one other, in a block that the call made -/
theorem refput_any (B : Nat) (w : World) (v : Value) (L : List (List UInt8)) (i : Nat) (s : List UInt8) (h : w.ownsRow B 9 1 v L.length (svs L)) (hi : i < L.length) (hL : L.length ≤ 1048576) :
    Calls Try.prog 32 #[v, .int .i64 (i : Int), .string ⟨s.toArray⟩] w fun e w' => ∃ v', e = .returned v' ∧ w'.ownsRow w.heap.size 9 1 v' L.length (svs (L.set i s)) ∧ Below w.heap.size w w' := by
  obtain ⟨i0, hi0, hz0, hz1, hz2⟩ := info_parts Try.info9
  obtain ⟨g, c, rfl, _, hgl, hgc, hcm⟩ : ∃ g c, v = .slice (some ⟨g, 0, none⟩) L.length c ∧ B ≤ g ∧ g < w.heap.size ∧ L.length ≤ c ∧ c ≤ maxLen := by
    rcases h.2 with ⟨rfl, h0⟩ | ⟨g, cap, cur, rfl, hg, hh, h1, h2, _⟩
    · omega
    · exact ⟨g, cap, rfl, hg, (Array.getElem?_eq_some_iff.1 hh).1, h1, h2⟩
  have HCL := Lib.hid (h.cells (g := g) rfl)
  have HIL := Lib.hid hi
  clear h hgl
  go_enter Try.func32, Try.ntmps32
  go_wp2_with (at_builtin; refine wpList_append_own _ rfl _ _ 40 rfl w.heap.size 9 i0 _ 1 16 Try.underlying40 hi0 hz0 hz1 hz2 rfl (by decide) (.slice none 0 0) 0 [] rfl (World.ownsRow_nil _ _ _ _) ⟨g, 0, none⟩ L.length c (svs L) rfl (by rw [svs_len]; omega) HCL.out (svs_one L) (by unfold maxLen; omega) (by omega) (Nat.le_refl _) ?_; intro v1 w1 hown1 hgrow1 _; have HO1 := Lib.hid (show w1.ownsRow w.heap.size 9 1 v1 L.length (svs L) by simpa using hown1); have HB1 := Lib.hid ((Below.refl w.heap.size w).grown hgrow1 (Nat.le_refl _) (fun k hk => by cases hk)); clear hown1 hgrow1; obtain ⟨g1, c1, hv1, _, hgl1⟩ := HO1.out.form (by omega); subst hv1; have hil : (i : Int) < (L.length : Int) := (by have := HIL.out; omega); obtain ⟨u, hcu⟩ : ∃ u, w1.cell? ⟨g1, i, none⟩ = some u := ⟨_, by rw [HO1.out.cellAt i (by omega)]; exact List.getElem?_eq_getElem (by rw [svs_len]; exact HIL.out)⟩; have hfu := HO1.out.frozenAt i)
  go_ret
  have hst := (HO1.out.stored i (.string ⟨s.toArray⟩)).1
  rw [svs_set] at hst
  exact ⟨_, rfl, hst, HB1.out.setCell (p := ⟨g1, i, none⟩) ((HO1.out.lt g1 rfl).1) _⟩

/-! ### 'Read' -/
def strOr (d : DK) (i : Int) : List UInt8 := if upE d i = 0 then readD d i.toNat else []

theorem laidS_at {ws : List Wt} {i k : Nat} {p : Wt} {s : List UInt8} (hp : ws[k]? = some p) (hpi : p.1 = i) (hlast : ∀ (j : Nat) (q : Wt), k < j → ws[j]? = some q → q.1 ≠ i) : laidS ws i s = p.2 := by
  induction ws generalizing k s with
  | nil => cases hp
  | cons q ws ih =>
    cases k with
    | zero =>
      simp at hp
      subst hp
      show laidS ws i (if q.1 = i then q.2 else s) = q.2
      rw [if_pos hpi]
      have : ∀ (ws : List Wt) (s : List UInt8), (∀ (j : Nat) (r : Wt), ws[j]? = some r → r.1 ≠ i) → laidS ws i s = s := by
        intro ws
        induction ws with
        | nil => intro s _; rfl
        | cons r ws ih2 =>
          intro s hh
          show laidS ws i (if r.1 = i then r.2 else s) = s
          rw [if_neg (hh 0 r rfl)]
          exact ih2 s fun j t ht => hh (j + 1) t (by simpa using ht)
      exact this ws _ fun j r hr => hlast (j + 1) r (by omega) (by simpa using hr)
    | succ k =>
      exact ih (by simpa using hp) fun j r hj hr => hlast (j + 1) r (by omega) (by simpa using hr)
theorem laidS_none {ws : List Wt} {i : Nat} (h : ∀ (j : Nat) (q : Wt), ws[j]? = some q → q.1 ≠ i) (s : List UInt8) : laidS ws i s = s := by
  induction ws generalizing s with
  | nil => rfl
  | cons r ws ih =>
    show laidS ws i (if r.1 = i then r.2 else s) = s
    rw [if_neg (h 0 r rfl)]
    exact ih (fun j t ht => h (j + 1) t (by simpa using ht)) s

set_option maxHeartbeats 1000000 in
theorem refread_any (B : Nat) (w : World) (v : Value) (d : DK) (i : Int) (h : RefB B w v d) (hW : d.waits.length ≤ 1048576) :
    Calls Try.prog 33 #[v, .int .i64 i] w fun e w' => e = .returned (.tuple #[.string ⟨(strOr d i).toArray⟩, .int .i64 (upE d i)]) ∧ Below w.heap.size w w' := by
  have hup := fun (x : World) (hx : RefB B x v d) => refup_any B x v d i hx
  have HH := Lib.hid h
  obtain ⟨Lv, Wv, hv, h1, h2⟩ := h
  obtain ⟨A1, c1, rfl⟩ := ownsRow_form h1
  obtain ⟨A2, c2, rfl⟩ := ownsRow_form h2
  subst hv
  have hb0 : Below w.heap.size w (w.alloc (.cells #[.slice A1 d.L.length c1, .slice A2 d.waits.length c2, .int .i64 d.left, .bool d.down] 46)) := (Below.refl _ _).alloc (Nat.le_refl _) _
  have HB0 := Lib.hid hb0
  have HUP := Lib.hid (hup _ (HH.out.below hb0))
  have HX := Lib.hid (heap_alloc_last w (.cells #[.slice A1 d.L.length c1, .slice A2 d.waits.length c2, .int .i64 d.left, .bool d.down] 46))
  have H1 := Lib.hid (own_below h1 hb0)
  have H2 := Lib.hid (own_below h2 hb0)
  have HSZ := Lib.hid (show w.heap.size < (w.alloc (.cells #[.slice A1 d.L.length c1, .slice A2 d.waits.length c2, .int .i64 d.left, .bool d.down] 46)).heap.size by simp)
  clear hup h1 h2 hb0 HH
  go_enter Try.func33, Try.ntmps33
  go_wp2_with fail
  refine HUP.out.mono ?_
  rintro e w1 ⟨rfl, hb1⟩
  clear HUP
  have hx1 := (hb1.block _ HSZ.out).trans HX.out
  have q0 : w1.cell? ⟨w.heap.size, 0, none⟩ = some (.slice A1 d.L.length c1) := by rw [cell_of_row w1 _ _ _ 46 (0, 0) hx1]; rfl
  have q1 : w1.cell? ⟨w.heap.size, 1, none⟩ = some (.slice A2 d.waits.length c2) := by rw [cell_of_row w1 _ _ _ 46 (0, 0) hx1]; rfl
  have H11 := Lib.hid (own_below H1.out hb1)
  have H21 := Lib.hid (own_below H2.out hb1)
  have HB1 := Lib.hid (HB0.out.trans (hb1.mono HB0.out.size))
  clear hb1 hx1 HX H1 H2 HB0 HSZ
  by_cases he : upE d i = 0
  · obtain ⟨_, i0, i1⟩ := upE_in he
    obtain ⟨I, rfl⟩ := Int.eq_ofNat_of_zero_le i0
    have HS := Lib.hid (show strOr d (I : Int) = readD d I ∧ upE d (I : Int) = 0 from ⟨by unfold strOr; rw [if_pos he]; rfl, he⟩)
    rw [he]
    clear he i0
    have hIl : I < d.L.length := by omega
    go_wp2
    go_loopw [7] (fun t wr => ∃ k : Nat, k ≤ d.waits.length ∧ t = .int .i64 ((k : Int) - 1) ∧ wr = w1 ∧ ∀ (j : Nat) (q : Wt), k ≤ j → d.waits[j]? = some q → q.1 ≠ I) (fun t _ => (intOf t + 1).toNat)
    case atStart => exact ⟨d.waits.length, Nat.le_refl _, rfl, rfl, fun j q hj hq => by rw [List.getElem?_eq_none hj] at hq; cases hq⟩
    case round =>
      obtain ⟨k, hk, rfl, rfl, hlast⟩ := hrel
      have HLA := Lib.hid hlast
      clear hlast
      rcases k with _ | k
      · have hRD := Lib.hid (show readD d I = d.L[I]?.getD [] by unfold readD; exact laidS_none (fun j q hq => HLA.out j q (Nat.zero_le _) hq) _)
        have hx : d.L[I]? = some d.L[I] := List.getElem?_eq_getElem hIl
        have HRD := Lib.hid (show readD d I = d.L[I] by rw [hRD.out, hx]; rfl)
        obtain ⟨g1, c1', hv1, _, hgl1⟩ := H11.out.form (by omega)
        injection hv1 with hv1 _ hv3
        subst hv1
        subst hv3
        have hcx : wr.cell? ⟨g1, I, none⟩ = some (.string ⟨d.L[I].toArray⟩) := by rw [H11.out.cellAt I (by omega)]; exact svs_get hx
        have hil : (I : Int) < (d.L.length : Int) := by omega
        clear hx hRD
        generalize d.L[I] = s at *
        go_wp2
        go_ret2
        exact ⟨by rw [HS.out.1, HS.out.2, HRD.out]; rfl, HB1.out⟩
      · have hp : d.waits[k]? = some d.waits[k] := List.getElem?_eq_getElem (by omega)
        obtain ⟨g2, c2', hv2, _, hgl2⟩ := H21.out.form (by omega)
        injection hv2 with hv1 _ hv3
        subst hv1
        subst hv3
        obtain ⟨f1, f2⟩ := flatS_get hp
        have e1 : wr.cell? ⟨g2, k * 2, none⟩ = some (.int .i64 (d.waits[k].1 : Int)) := by have := H21.out.cells (g := g2) rfl _ _ f1; rwa [Addr.add_mid, Nat.zero_add] at this
        have e2 : wr.cell? ⟨g2, k * 2 + 1, none⟩ = some (.string ⟨d.waits[k].2.toArray⟩) := by have := H21.out.cells (g := g2) rfl _ _ f2; rwa [Addr.add_mid, Nat.zero_add] at this
        have hkl : (k : Int) < (d.waits.length : Int) := by omega
        have hk1 : ((k + 1 : Nat) : Int) - 1 = (k : Int) := by omega
        rw [hk1]
        have HP := Lib.hid hp
        clear hp f1 f2 hk1
        generalize d.waits[k] = p at *
        by_cases hpi : p.1 = I
        · have HRD := Lib.hid (show readD d I = p.2 by unfold readD; exact laidS_at HP.out hpi (fun j q hj hq => HLA.out j q (by omega) hq))
          have hpb : ((p.1 : Int) == (I : Int)) = true := by rw [beq_iff_eq]; omega
          clear hpi
          go_wp2
          go_ret2
          exact ⟨by rw [HS.out.1, HS.out.2, HRD.out]; rfl, HB1.out⟩
        · have hpb : ((p.1 : Int) == (I : Int)) = false := by rw [beq_eq_false_iff_ne]; omega
          have HNE := Lib.hid hpi
          clear hpi
          go_wp2
          go_roundw
          case rel => exact ⟨k, by omega, by first | trivial | go_num, trivial, fun j q hj hq => by rcases Nat.eq_or_lt_of_le hj with e | e; subst e; rw [HP.out] at hq; injection hq with hq; subst hq; exact HNE.out; exact HLA.out j q (by omega) hq⟩
          case measure => simp [intOf] <;> omega
  · have heb : (upE d i != 0) = true := by simpa using he
    have HS := Lib.hid (show strOr d i = [] by unfold strOr; rw [if_neg he])
    have HE := Lib.hid he
    clear he
    go_wp2
    go_ret2
    exact ⟨by rw [HS.out]; rfl, HB1.out⟩

end Go.Proofs.Ytcbdlggjpedffaa
