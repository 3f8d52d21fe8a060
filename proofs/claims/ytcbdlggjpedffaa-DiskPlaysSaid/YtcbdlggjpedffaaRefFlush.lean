/- The document's 'Flush' of layer 3. Conditions: at most 2^20 sectors, and writes that wait; each of a sector that is. -/
import Derived.Test.YtcbdlggjpedffaaRefWrite
import Derived.Test.YtcbdlggjpedffaaReg
namespace Go.Proofs.Ytcbdlggjpedffaa
open Go.RowKit
set_option linter.unusedSimpArgs false

theorem laidL_take {ws : List Wt} {L : List (List UInt8)} {k : Nat} {p : Wt} (hp : ws[k]? = some p) : laidL (ws.take (k + 1)) L = (laidL (ws.take k) L).set p.1 p.2 := by
  rw [List.take_add_one, hp]
  exact laidL_snoc _ _ _

set_option maxRecDepth 100000 in
set_option maxHeartbeats 2000000 in
theorem refflush_any (B : Nat) (W : World) (v : Value) (d : DK) (h : RefB B W v d) (hB : B ≤ W.heap.size) (hW : d.waits.length ≤ 1048576) (hL : d.L.length ≤ 1048576) (hl : d.left ≤ 9223372036854775807) (hin : ∀ p ∈ d.waits, p.1 < d.L.length) :
    Calls Try.prog 23 #[v] W (RefPostE B W (flushD d) (flushE d)) := by
  have HH := Lib.hid h
  have hup := fun (x : World) (hx : RefB B x v d) => refup_any B x v d 0 hx
  have hcn := fun (x : World) (hx : RefB B x v d) => refcounts_any B x v d hx hl
  have HBW := Lib.hid hB
  have HIN := Lib.hid hin
  obtain ⟨Lv, Wv, hv, h1, h2⟩ := h
  obtain ⟨A1, c1, rfl⟩ := ownsRow_form h1
  obtain ⟨A2, c2, rfl⟩ := ownsRow_form h2
  subst hv
  have hba : Below W.heap.size W (W.alloc (.cells #[.slice A1 d.L.length c1, .slice A2 d.waits.length c2, .int .i64 d.left, .bool d.down] 46)) := (Below.refl _ _).alloc (Nat.le_refl _) _
  have hb0 : Below W.heap.size W ((W.alloc (.cells #[.slice A1 d.L.length c1, .slice A2 d.waits.length c2, .int .i64 d.left, .bool d.down] 46)).alloc (.cells #[.slice none 0 0, .slice none 0 0, .int .i64 0, .bool false] 46)) := hba.alloc hba.size _
  have HB0 := Lib.hid hb0
  have HCN := Lib.hid hcn
  have HUP := Lib.hid (hup _ (HH.out.below hb0))
  have HR0 := Lib.hid (HH.out.below hb0)
  have HX := Lib.hid (show BoxD ((W.alloc (.cells #[.slice A1 d.L.length c1, .slice A2 d.waits.length c2, .int .i64 d.left, .bool d.down] 46)).alloc (.cells #[.slice none 0 0, .slice none 0 0, .int .i64 0, .bool false] 46)) W.heap.size #[.slice A1 d.L.length c1, .slice A2 d.waits.length c2, .int .i64 d.left, .bool d.down] from (BoxD.new W #[.slice A1 d.L.length c1, .slice A2 d.waits.length c2, .int .i64 d.left, .bool d.down]).below ((Below.refl _ _).alloc (Nat.le_refl _) _) (by simp))
  have hy := BoxD.new (W.alloc (.cells #[.slice A1 d.L.length c1, .slice A2 d.waits.length c2, .int .i64 d.left, .bool d.down] 46)) #[.slice none 0 0, .slice none 0 0, .int .i64 0, .bool false]
  rw [show (W.alloc (.cells #[.slice A1 d.L.length c1, .slice A2 d.waits.length c2, .int .i64 d.left, .bool d.down] 46)).heap.size = W.heap.size + 1 by simp] at hy
  have HY := Lib.hid hy
  have HSZ := Lib.hid (show ((W.alloc (.cells #[.slice A1 d.L.length c1, .slice A2 d.waits.length c2, .int .i64 d.left, .bool d.down] 46)).alloc (.cells #[.slice none 0 0, .slice none 0 0, .int .i64 0, .bool false] 46)).heap.size = W.heap.size + 2 by simp)
  clear hup hcn h1 h2 hba hb0 hy HH hin
  go_enter Try.func23, Try.ntmps23
  go_wp2_with fail
  refine HUP.out.mono ?_
  rintro e w1 ⟨rfl, hb1⟩
  clear HUP
  have HX1 := Lib.hid (HX.out.below hb1 (by have := HSZ.out; omega))
  have HY1 := Lib.hid (HY.out.below hb1 (by have := HSZ.out; omega))
  have HR1 := Lib.hid (HR0.out.below hb1)
  have HB1 := Lib.hid (HB0.out.trans (hb1.mono HB0.out.size))
  clear hb1 HX HY HR0 HB0 HSZ
  obtain ⟨q0, q1, q2, q3⟩ := HX1.out.four
  by_cases he : upE d 0 = 0
  · have HEI := Lib.hid he
    rw [he]
    clear he
    go_wp2_with fail
    clear q0 q1 q2 q3
    refine (HCN.out w1 HR1.out).mono ?_
    rintro e w2 ⟨v2, rfl, hr2, hb2⟩
    obtain ⟨Lv2, Wv2, hv2, g1, g2⟩ := hr2
    obtain ⟨A3, c3, rfl⟩ := ownsRow_form g1
    obtain ⟨A4, c4, rfl⟩ := ownsRow_form g2
    subst hv2
    have HX2 := Lib.hid (HX1.out.below hb2 HX1.out.lt)
    have HY2 := Lib.hid (HY1.out.below hb2 HY1.out.lt)
    have HB2 := Lib.hid (HB1.out.trans (hb2.mono HB1.out.size))
    obtain ⟨q0, q1, q2, q3⟩ := (HX2.out.row #[.slice A3 (countD d).L.length c3, .slice A4 (countD d).waits.length c4, .int .i64 (countD d).left, .bool (countD d).down]).four
    have G1 := Lib.hid (own_box g1 HX2.out (by decide) #[.slice A3 (countD d).L.length c3, .slice A4 (countD d).waits.length c4, .int .i64 (countD d).left, .bool (countD d).down])
    have G2 := Lib.hid (own_box g2 HX2.out (by decide) #[.slice A3 (countD d).L.length c3, .slice A4 (countD d).waits.length c4, .int .i64 (countD d).left, .bool (countD d).down])
    have HX3 := Lib.hid (HX2.out.row #[.slice A3 (countD d).L.length c3, .slice A4 (countD d).waits.length c4, .int .i64 (countD d).left, .bool (countD d).down])
    have HY3 := Lib.hid (show BoxD (w2.setRow W.heap.size #[.slice A3 (countD d).L.length c3, .slice A4 (countD d).waits.length c4, .int .i64 (countD d).left, .bool (countD d).down]) (W.heap.size + 1) #[.slice none 0 0, .slice none 0 0, .int .i64 0, .bool false] from (setRow_other (by omega) _).trans HY2.out)
    have HB3 := Lib.hid (HB2.out.trans (below_box w2 W.heap.size #[.slice A3 (countD d).L.length c3, .slice A4 (countD d).waits.length c4, .int .i64 (countD d).left, .bool (countD d).down]))
    clear g1 g2 hb2 HX1 HY1 HR1 HB1 HB2
    by_cases hc : countE d = 0
    · have HFD := Lib.hid (show flushD d = { countD d with L := laidL (countD d).waits (countD d).L, waits := [] } by unfold flushD; rw [if_neg (by simp [HEI.out]), if_neg (by simp [hc]), countD_waits, countD_L])
      have HFE := Lib.hid (show flushE d = 0 by unfold flushE; rw [if_neg (by simp [HEI.out]), hc])
      have HWL := Lib.hid (show (countD d).waits.length ≤ 1048576 by rw [countD_waits]; exact hW)
      have HLL := Lib.hid (show (countD d).L.length ≤ 1048576 by rw [countD_L]; exact hL)
      have HIN2 := Lib.hid (show ∀ p ∈ (countD d).waits, p.1 < (countD d).L.length by rw [countD_waits, countD_L]; exact HIN.out)
      rw [hc]
      clear hc HCN HIN
      go_upto_region 7 with (refine wpList_store_row rfl 46 (.tmp 1) (.tmp 15) rfl W.heap.size #[.slice A3 (countD d).L.length c3, .slice A4 (countD d).waits.length c4, .int .i64 (countD d).left, .bool (countD d).down] rfl rfl 46 #[.slice A1 d.L.length c1, .slice A2 d.waits.length c2, .int .i64 d.left, .bool d.down] HX2.out (by rw [Try.size46]; rfl) rfl (by simp [Value.oneCell']) ?_)
      clear HX2 HY2
      generalize w2.setRow W.heap.size #[.slice A3 (countD d).L.length c3, .slice A4 (countD d).waits.length c4, .int .i64 (countD d).left, .bool (countD d).down] = w3 at *
      generalize countD d = e at *
      have hwl := HWL.out
      have HFIN := Lib.hid (show ∀ (A5 : Option Addr) (c5 : Nat) (wr : World), BoxD wr W.heap.size #[.slice A5 e.L.length c5, .slice A4 e.waits.length c4, .int .i64 e.left, .bool e.down] → BoxD wr (W.heap.size + 1) #[.slice none 0 0, .slice none 0 0, .int .i64 0, .bool false] → wr.ownsRow B 9 1 (.slice A5 e.L.length c5) e.L.length (svs (laidL e.waits e.L)) → Below W.heap.size W wr → RefPostE B W (flushD d) (flushE d) (.returned (.tuple #[.agg #[.slice A5 e.L.length c5, .slice none 0 0, .int .i64 e.left, .bool e.down], .int .i64 0])) ((wr.setCell ⟨W.heap.size, 1, none⟩ (.slice none 0 0)).setRow (W.heap.size + 1) #[.slice A5 e.L.length c5, .slice none 0 0, .int .i64 e.left, .bool e.down]) from by
        intro A5 c5 wr hx hy ho hb
        have hy6 : BoxD (wr.setCell ⟨W.heap.size, 1, none⟩ (.slice none 0 0)) (W.heap.size + 1) #[.slice none 0 0, .slice none 0 0, .int .i64 0, .bool false] := (heap_setCell_other wr ⟨W.heap.size, 1, none⟩ (W.heap.size + 1) _ (by simp)).trans hy
        rw [HFD.out, HFE.out]
        refine ⟨_, rfl, ⟨.slice A5 e.L.length c5, .slice none 0 0, rfl, ?_, World.ownsRow_nil _ _ _ _⟩, (hb.setCell (p := ⟨W.heap.size, 1, none⟩) (Nat.le_refl _) _).trans ((below_box _ _ _).mono (by omega))⟩
        show World.ownsRow _ _ _ _ _ (laidL e.waits e.L).length _
        rw [laidL_len]
        exact own_box (own_boxc ho hx (by decide)) hy6 (by decide) _)
      have HINI := Lib.hid (show svs e.L = svs (laidL (e.waits.take 0) e.L) from rfl)
      clear q0 q1 q2 q3
      go_wp2
      go_loopw [5] (fun t wr => ∃ (k : Nat) (A5 : Option Addr) (c5 : Nat), k ≤ e.waits.length ∧ t = .int .i64 k ∧ BoxD wr W.heap.size #[.slice A5 e.L.length c5, .slice A4 e.waits.length c4, .int .i64 e.left, .bool e.down] ∧ BoxD wr (W.heap.size + 1) #[.slice none 0 0, .slice none 0 0, .int .i64 0, .bool false] ∧ wr.ownsRow B 9 1 (.slice A5 e.L.length c5) e.L.length (svs (laidL (e.waits.take k) e.L)) ∧ wr.ownsRow B 72 2 (.slice A4 e.waits.length c4) e.waits.length (flatS e.waits) ∧ Below W.heap.size W wr) (fun t _ => e.waits.length - (intOf t).toNat)
      case atStart => exact ⟨0, A3, c3, Nat.zero_le _, rfl, HX3.out, HY3.out, by rw [← HINI.out]; exact G1.out, G2.out, HB3.out⟩
      case round =>
        obtain ⟨k, A5, c5, hk, rfl, hx, hy, hrow, hwr, hb⟩ := hrel
        have HX := Lib.hid hx
        have HY := Lib.hid hy
        have HROW := Lib.hid hrow
        have HWR := Lib.hid hwr
        have HB := Lib.hid hb
        obtain ⟨q0, q1, q2, q3⟩ := hx.four
        clear hx hy hrow hwr hb HX3 HY3 G1 G2 HB3
        rcases Nat.lt_or_ge k e.waits.length with hlt | hge
        · have hkl : (k : Int) < (e.waits.length : Int) := by omega
          have hk0 : (0 : Int) ≤ (k : Int) := by omega
          have hp : e.waits[k]? = some e.waits[k] := List.getElem?_eq_getElem hlt
          obtain ⟨g4, c4', hv4, _, hgl4⟩ := HWR.out.form (by omega)
          injection hv4 with hv1 _ hv3
          subst hv1
          subst hv3
          have HG4 := Lib.hid (HWR.out.lt g4 rfl).2
          obtain ⟨f1, f2⟩ := flatS_get hp
          have e1 : wr.cell? ⟨g4, k * 2, none⟩ = some (.int .i64 (e.waits[k].1 : Int)) := by have := HWR.out.cells (g := g4) rfl _ _ f1; rwa [Addr.add_mid, Nat.zero_add] at this
          have e2 : wr.cell? ⟨g4, k * 2 + 1, none⟩ = some (.string ⟨e.waits[k].2.toArray⟩) := by have := HWR.out.cells (g := g4) rfl _ _ f2; rwa [Addr.add_mid, Nat.zero_add] at this
          have HPI := Lib.hid (HIN2.out _ (List.getElem_mem hlt))
          have HLT := Lib.hid (laidL_take (L := e.L) hp)
          have HRL := Lib.hid (show (laidL (e.waits.take k) e.L).length = e.L.length from laidL_len _ _)
          clear hp f1 f2 q2 q3
          generalize e.waits[k] = p at *
          generalize laidL (e.waits.take k) e.L = R at *
          go_wp2
          clear q0 q1
          refine region_turns (by kernel_rfl) [28, 29, 30, 31, 32, 33, 34, 35, 36, 37, 38, 39, 40, 41, 42, 43] rfl (by simp) (by kernel_rfl) (Staged 14 16 (fun w' => Below wr.heap.size wr w') (fun w' => Below wr.heap.size wr w') (fun w' => ∃ A8 c8 w9, Below wr.heap.size wr w9 ∧ w9.ownsRow wr.heap.size 9 1 (.slice A8 e.L.length c8) e.L.length (svs (R.set p.1 p.2)) ∧ w' = w9.setCell ⟨W.heap.size, 0, none⟩ (.slice A8 e.L.length c8))) (Moved (fun i k => i = 16 ∧ k = W.heap.size)) (Says (fun q_ => match q_ with | 28 => some (.pointer (some ⟨W.heap.size, 0, none⟩)) | 29 => some (.slice A5 e.L.length c5) | 30 => some (.pointer (some ⟨W.heap.size, 1, none⟩)) | 31 => some (.slice (some ⟨g4, 0, none⟩) e.waits.length c4) | 32 => some (.int .i64 (k : Int)) | 33 => some (.pointer (some ⟨g4, k * 2, none⟩)) | 34 => some (.pointer (some ⟨g4, k * 2, none⟩)) | 35 => some (.int .i64 (p.1 : Int)) | 36 => some (.pointer (some ⟨W.heap.size, 1, none⟩)) | 37 => some (.slice (some ⟨g4, 0, none⟩) e.waits.length c4) | 38 => some (.int .i64 (k : Int)) | 39 => some (.pointer (some ⟨g4, k * 2, none⟩)) | 40 => some (.pointer (some ⟨g4, k * 2 + 1, none⟩)) | 41 => some (.string ⟨p.2.toArray⟩) | 43 => some (.pointer (some ⟨W.heap.size, 0, none⟩)) | _ => none) (fun q_ v w => (q_ = 42 → w.ownsRow wr.heap.size 9 1 v e.L.length (svs (R.set p.1 p.2))) ∧ True)) ?_ ?_ (turns_of_all rfl ?_) ?_
          · intro l hl
            refine Staged.start ?_ (hl _) (hl _)
            exact below_of_drewN wr 1 _
          · rintro i tt v w w' hnw hM ⟨h1, h2⟩
            obtain ⟨s42, _⟩ := h2
            refine ⟨h1, fun e => ownsRow_on (s42 e) fun k hk => hM.2 k ((s42 e).lt k hk).2 (fun hh => by have h5 := ((s42 e).lt k hk).1; have h6 := HX.out.lt; omega), trivial⟩
          · refine ⟨?_, ?_, ?_, ?_, ?_, ?_, ?_, ?_, ?_, ?_, ?_, ?_, ?_, ?_, ?_, ?_, ?_, trivial⟩
            · intro l a w K hbf haf hun hS hF hK
              have g1 : a.tmps[1]? = some (.pointer (some ⟨W.heap.size, 0, none⟩)) := unfed hF 1 (by kernel_rfl) (by kernel_rfl) rfl
              exact op_value (v := .pointer (some ⟨W.heap.size, 0, none⟩)) rfl (wanted_none rfl) (by simp [go_sem, g1]) (hK _ w (Moved.refl _ _ w) (hS.same (by decide) (by decide)) (says_exact 28 rfl (by simp)))
            · intro l a w K hbf haf hun hS hF hK
              have g28 := fedX hF 28 (.pointer (some ⟨W.heap.size, 0, none⟩)) (by kernel_rfl) (by kernel_rfl) rfl
              have hA := hS.either (hbf 16 (by kernel_rfl))
              have hc := (hA.cell (p := ⟨W.heap.size, 0, none⟩) HX.out.lt).trans (HX.out.cell 0)
              exact op_value (v := .slice A5 e.L.length c5) rfl (wanted_none rfl) (by simp [go_sem, g28, hc]) (hK _ w (Moved.refl _ _ w) (hS.same (by decide) (by decide)) (says_exact 29 rfl (by simp)))
            · intro l a w K hbf haf hun hS hF hK
              have g1 : a.tmps[1]? = some (.pointer (some ⟨W.heap.size, 0, none⟩)) := unfed hF 1 (by kernel_rfl) (by kernel_rfl) rfl
              exact op_value (v := .pointer (some ⟨W.heap.size, 1, none⟩)) rfl (wanted_none rfl) (by simp [go_sem, g1]) (hK _ w (Moved.refl _ _ w) (hS.same (by decide) (by decide)) (says_exact 30 rfl (by simp)))
            · intro l a w K hbf haf hun hS hF hK
              have g30 := fedX hF 30 (.pointer (some ⟨W.heap.size, 1, none⟩)) (by kernel_rfl) (by kernel_rfl) rfl
              have hA := hS.either (hbf 16 (by kernel_rfl))
              have hc := (hA.cell (p := ⟨W.heap.size, 1, none⟩) HX.out.lt).trans (HX.out.cell 1)
              exact op_value (v := .slice (some ⟨g4, 0, none⟩) e.waits.length c4) rfl (wanted_none rfl) (by simp [go_sem, g30, hc]) (hK _ w (Moved.refl _ _ w) (hS.same (by decide) (by decide)) (says_exact 31 rfl (by simp)))
            · intro l a w K hbf haf hun hS hF hK
              have g5 : a.tmps[5]? = some (.int .i64 (k : Int)) := unfed hF 5 (by kernel_rfl) (by kernel_rfl) rfl
              exact op_value rfl (wanted_none rfl) (run_move' (v := .int .i64 (k : Int)) rfl (eval_of g5) w) (hK _ w (Moved.refl _ _ w) (hS.same (by decide) (by decide)) (says_exact 32 rfl (by simp)))
            · intro l a w K hbf haf hun hS hF hK
              have g31 := fedX hF 31 (.slice (some ⟨g4, 0, none⟩) e.waits.length c4) (by kernel_rfl) (by kernel_rfl) rfl
              have g32 := fedX hF 32 (.int .i64 (k : Int)) (by kernel_rfl) (by kernel_rfl) rfl
              exact op_value (v := .pointer (some ⟨g4, k * 2, none⟩)) rfl (wanted_none rfl) (by simp [go_sem, g31, g32, hkl, hk0]) (hK _ w (Moved.refl _ _ w) (hS.same (by decide) (by decide)) (says_exact 33 rfl (by simp)))
            · intro l a w K hbf haf hun hS hF hK
              have g33 := fedX hF 33 (.pointer (some ⟨g4, k * 2, none⟩)) (by kernel_rfl) (by kernel_rfl) rfl
              exact op_value (v := .pointer (some ⟨g4, k * 2, none⟩)) rfl (wanted_none rfl) (by simp [go_sem, g33]) (hK _ w (Moved.refl _ _ w) (hS.same (by decide) (by decide)) (says_exact 34 rfl (by simp)))
            · intro l a w K hbf haf hun hS hF hK
              have g34 := fedX hF 34 (.pointer (some ⟨g4, k * 2, none⟩)) (by kernel_rfl) (by kernel_rfl) rfl
              have hA := hS.either (hbf 16 (by kernel_rfl))
              have hc := (hA.cell (p := ⟨g4, k * 2, none⟩) HG4.out).trans e1
              exact op_value (v := .int .i64 (p.1 : Int)) rfl (wanted_none rfl) (by simp [go_sem, g34, hc]) (hK _ w (Moved.refl _ _ w) (hS.same (by decide) (by decide)) (says_exact 35 rfl (by simp)))
            · intro l a w K hbf haf hun hS hF hK
              have g1 : a.tmps[1]? = some (.pointer (some ⟨W.heap.size, 0, none⟩)) := unfed hF 1 (by kernel_rfl) (by kernel_rfl) rfl
              exact op_value (v := .pointer (some ⟨W.heap.size, 1, none⟩)) rfl (wanted_none rfl) (by simp [go_sem, g1]) (hK _ w (Moved.refl _ _ w) (hS.same (by decide) (by decide)) (says_exact 36 rfl (by simp)))
            · intro l a w K hbf haf hun hS hF hK
              have g36 := fedX hF 36 (.pointer (some ⟨W.heap.size, 1, none⟩)) (by kernel_rfl) (by kernel_rfl) rfl
              have hA := hS.either (hbf 16 (by kernel_rfl))
              have hc := (hA.cell (p := ⟨W.heap.size, 1, none⟩) HX.out.lt).trans (HX.out.cell 1)
              exact op_value (v := .slice (some ⟨g4, 0, none⟩) e.waits.length c4) rfl (wanted_none rfl) (by simp [go_sem, g36, hc]) (hK _ w (Moved.refl _ _ w) (hS.same (by decide) (by decide)) (says_exact 37 rfl (by simp)))
            · intro l a w K hbf haf hun hS hF hK
              have g5 : a.tmps[5]? = some (.int .i64 (k : Int)) := unfed hF 5 (by kernel_rfl) (by kernel_rfl) rfl
              exact op_value rfl (wanted_none rfl) (run_move' (v := .int .i64 (k : Int)) rfl (eval_of g5) w) (hK _ w (Moved.refl _ _ w) (hS.same (by decide) (by decide)) (says_exact 38 rfl (by simp)))
            · intro l a w K hbf haf hun hS hF hK
              have g37 := fedX hF 37 (.slice (some ⟨g4, 0, none⟩) e.waits.length c4) (by kernel_rfl) (by kernel_rfl) rfl
              have g38 := fedX hF 38 (.int .i64 (k : Int)) (by kernel_rfl) (by kernel_rfl) rfl
              exact op_value (v := .pointer (some ⟨g4, k * 2, none⟩)) rfl (wanted_none rfl) (by simp [go_sem, g37, g38, hkl, hk0]) (hK _ w (Moved.refl _ _ w) (hS.same (by decide) (by decide)) (says_exact 39 rfl (by simp)))
            · intro l a w K hbf haf hun hS hF hK
              have g39 := fedX hF 39 (.pointer (some ⟨g4, k * 2, none⟩)) (by kernel_rfl) (by kernel_rfl) rfl
              exact op_value (v := .pointer (some ⟨g4, k * 2 + 1, none⟩)) rfl (wanted_none rfl) (by simp [go_sem, g39]) (hK _ w (Moved.refl _ _ w) (hS.same (by decide) (by decide)) (says_exact 40 rfl (by simp)))
            · intro l a w K hbf haf hun hS hF hK
              have g40 := fedX hF 40 (.pointer (some ⟨g4, k * 2 + 1, none⟩)) (by kernel_rfl) (by kernel_rfl) rfl
              have hA := hS.either (hbf 16 (by kernel_rfl))
              have hc := (hA.cell (p := ⟨g4, k * 2 + 1, none⟩) HG4.out).trans e2
              exact op_value (v := .string ⟨p.2.toArray⟩) rfl (wanted_none rfl) (by simp [go_sem, g40, hc]) (hK _ w (Moved.refl _ _ w) (hS.same (by decide) (by decide)) (says_exact 41 rfl (by simp)))
            · intro l a w K hbf haf hun hS hF hK
              have g29 := fedX hF 29 (.slice A5 e.L.length c5) (by kernel_rfl) (by kernel_rfl) rfl
              have g35 := fedX hF 35 (.int .i64 (p.1 : Int)) (by kernel_rfl) (by kernel_rfl) rfl
              have g41 := fedX hF 41 (.string ⟨p.2.toArray⟩) (by kernel_rfl) (by kernel_rfl) rfl
              have hA := hS.either (hbf 16 (by kernel_rfl))
              refine op_call (g := 32) (args := #[.slice A5 e.L.length c5, .int .i64 (p.1 : Int), .string ⟨p.2.toArray⟩]) rfl (wanted_none rfl) (by simp [go_sem, g29, g35, g41]) ?_
              refine (refput_any B w _ R p.1 p.2 (by rw [HRL.out]; exact own_below HROW.out hA) (by rw [HRL.out]; exact HPI.out) (by rw [HRL.out]; exact HLL.out)).mono ?_
              rintro e w9 ⟨v9, rfl, ho9, hb9⟩
              rw [HRL.out] at ho9
              exact ⟨_, rfl, hK _ w9 ⟨hb9.size, fun k hk _ => hb9.block k hk⟩ (Staged.keepE (bthen hA hb9) (hbf 16 (by kernel_rfl)) (by decide)) (says_special 42 rfl (by simp; exact own_from ho9 hA.size))⟩
            · intro l a w K hbf haf hun hS hF hK
              have g1 : a.tmps[1]? = some (.pointer (some ⟨W.heap.size, 0, none⟩)) := unfed hF 1 (by kernel_rfl) (by kernel_rfl) rfl
              exact op_value (v := .pointer (some ⟨W.heap.size, 0, none⟩)) rfl (wanted_none rfl) (by simp [go_sem, g1]) (hK _ w (Moved.refl _ _ w) (hS.same (by decide) (by decide)) (says_exact 43 rfl (by simp)))
            · intro l a w K hbf haf hun hS hF hK
              have g43 := fedX hF 43 (.pointer (some ⟨W.heap.size, 0, none⟩)) (by kernel_rfl) (by kernel_rfl) rfl
              obtain ⟨v42, g42, s420⟩ := fed hF 42 (by kernel_rfl) (by kernel_rfl)
              have s42 : w.ownsRow wr.heap.size 9 1 v42 e.L.length (svs (R.set p.1 p.2)) := s420.2.1 rfl
              have hB := hS.either hun
              obtain ⟨A8, c8, rfl⟩ := ownsRow_form s42
              have hxw := HX.out.below hB HX.out.lt
              have hcg := hxw.cell 0
              have hzg := hxw.frozen 0
              exact op_stored (w' := w.setCell ⟨W.heap.size, 0, none⟩ (.slice A8 e.L.length c8)) rfl (wanted_none rfl) (by simp [go_sem, g43, g42, hcg, hzg]) (hK _ _ ⟨by simp [World.setCell], fun k hk hn => Below.heap_setCell _ _ _ _ (fun e => hn ⟨rfl, e⟩)⟩ (Staged.toLast ⟨A8, c8, w, hB, s42, rfl⟩) (fun t ht => by cases ht))
          · intro l fv_ w hl hS hf
            have hC := hS.last (hl 16 (by simp))
            have f28 : fv_ 28 = .pointer (some ⟨W.heap.size, 0, none⟩) := (hf 28 (by simp)).1 _ rfl
            have f29 : fv_ 29 = .slice A5 e.L.length c5 := (hf 29 (by simp)).1 _ rfl
            have f30 : fv_ 30 = .pointer (some ⟨W.heap.size, 1, none⟩) := (hf 30 (by simp)).1 _ rfl
            have f31 : fv_ 31 = .slice (some ⟨g4, 0, none⟩) e.waits.length c4 := (hf 31 (by simp)).1 _ rfl
            have f32 : fv_ 32 = .int .i64 (k : Int) := (hf 32 (by simp)).1 _ rfl
            have f33 : fv_ 33 = .pointer (some ⟨g4, k * 2, none⟩) := (hf 33 (by simp)).1 _ rfl
            have f34 : fv_ 34 = .pointer (some ⟨g4, k * 2, none⟩) := (hf 34 (by simp)).1 _ rfl
            have f35 : fv_ 35 = .int .i64 (p.1 : Int) := (hf 35 (by simp)).1 _ rfl
            have f36 : fv_ 36 = .pointer (some ⟨W.heap.size, 1, none⟩) := (hf 36 (by simp)).1 _ rfl
            have f37 : fv_ 37 = .slice (some ⟨g4, 0, none⟩) e.waits.length c4 := (hf 37 (by simp)).1 _ rfl
            have f38 : fv_ 38 = .int .i64 (k : Int) := (hf 38 (by simp)).1 _ rfl
            have f39 : fv_ 39 = .pointer (some ⟨g4, k * 2, none⟩) := (hf 39 (by simp)).1 _ rfl
            have f40 : fv_ 40 = .pointer (some ⟨g4, k * 2 + 1, none⟩) := (hf 40 (by simp)).1 _ rfl
            have f41 : fv_ 41 = .string ⟨p.2.toArray⟩ := (hf 41 (by simp)).1 _ rfl
            have f42 : w.ownsRow wr.heap.size 9 1 (fv_ 42) e.L.length (svs (R.set p.1 p.2)) := (hf 42 (by simp)).2.1 rfl
            have f43 : fv_ 43 = .pointer (some ⟨W.heap.size, 0, none⟩) := (hf 43 (by simp)).1 _ rfl
            simp only [putAll, List.foldl_cons, List.foldl_nil, List.setIfInBounds_toArray, List.set_cons_succ, List.set_cons_zero, f28, f29, f30, f31, f32, f33, f34, f35, f36, f37, f38, f39, f40, f41, f43]
            clear f28 f29 f30 f31 f32 f33 f34 f35 f36 f37 f38 f39 f40 f41 f43 hf
            clear f42
            obtain ⟨A8, c8, w9, hb9, ho9, rfl⟩ := hC
            have hx9 := HX.out.below hb9 HX.out.lt
            have hy9 := HY.out.below hb9 HY.out.lt
            have HX8 := Lib.hid (show BoxD (w9.setCell ⟨W.heap.size, 0, none⟩ (.slice A8 e.L.length c8)) W.heap.size #[.slice A8 e.L.length c8, .slice (some ⟨g4, 0, none⟩) e.waits.length c4, .int .i64 e.left, .bool e.down] from hx9.set 0 _)
            have HY8 := Lib.hid (show BoxD (w9.setCell ⟨W.heap.size, 0, none⟩ (.slice A8 e.L.length c8)) (W.heap.size + 1) #[.slice none 0 0, .slice none 0 0, .int .i64 0, .bool false] from (heap_setCell_other w9 ⟨W.heap.size, 0, none⟩ (W.heap.size + 1) _ (by simp)).trans hy9)
            have HR8 := Lib.hid (show (w9.setCell ⟨W.heap.size, 0, none⟩ (.slice A8 e.L.length c8)).ownsRow B 9 1 (.slice A8 e.L.length c8) e.L.length (svs (laidL (e.waits.take (k + 1)) e.L)) from by
              rw [HLT.out]
              exact own_boxc (own_from ho9 (by have := HBW.out; have := HX.out.lt; omega)) hx9 (by decide))
            have HW8 := Lib.hid (show (w9.setCell ⟨W.heap.size, 0, none⟩ (.slice A8 e.L.length c8)).ownsRow B 72 2 (.slice (some ⟨g4, 0, none⟩) e.waits.length c4) e.waits.length (flatS e.waits) from own_boxc (own_below HWR.out hb9) hx9 (by decide))
            have HB8 := Lib.hid ((HB.out.trans (hb9.mono (by have := HX.out.lt; omega))).setCell (p := ⟨W.heap.size, 0, none⟩) (Nat.le_refl _) (.slice A8 e.L.length c8))
            clear hb9 ho9 hx9 hy9 e1 e2
            generalize w9.setCell ⟨W.heap.size, 0, none⟩ (.slice A8 e.L.length c8) = w8 at *
            go_wp2
            go_roundw
            case rel => exact ⟨k + 1, A8, c8, by omega, by go_num, HX8.out, HY8.out, HR8.out, HW8.out, HB8.out⟩
            case measure => simp [intOf]; omega
        · obtain rfl : k = e.waits.length := by omega
          have HR9 := Lib.hid (show wr.ownsRow B 9 1 (.slice A5 e.L.length c5) e.L.length (svs (laidL e.waits e.L)) by have := HROW.out; rwa [List.take_of_length_le (Nat.le_refl _)] at this)
          have hfroz := HX.out.frozen 1
          obtain ⟨r0, r1, r2, r3⟩ := (show BoxD (wr.setCell ⟨W.heap.size, 1, none⟩ (.slice none 0 0)) W.heap.size #[.slice A5 e.L.length c5, .slice none 0 0, .int .i64 e.left, .bool e.down] from HX.out.set 1 _).four
          have HY6 := Lib.hid (show BoxD (wr.setCell ⟨W.heap.size, 1, none⟩ (.slice none 0 0)) (W.heap.size + 1) #[.slice none 0 0, .slice none 0 0, .int .i64 0, .bool false] from (heap_setCell_other wr ⟨W.heap.size, 1, none⟩ (W.heap.size + 1) _ (by simp)).trans HY.out)
          go_wp2_with (refine wpList_store_row rfl 46 (.tmp 2) (.tmp 45) rfl (W.heap.size + 1) #[.slice A5 e.L.length c5, .slice none 0 0, .int .i64 e.left, .bool e.down] rfl rfl 46 #[.slice none 0 0, .slice none 0 0, .int .i64 0, .bool false] HY6.out (by rw [Try.size46]; rfl) rfl (by simp [Value.oneCell']) ?_)
          refine bodyPost_ret (res2 rfl _ rfl (HY6.out.row _) rfl) rfl ?_
          exact HFIN.out _ _ _ HX.out HY.out HR9.out HB.out
    · have hcb : (countE d != 0) = true := by simpa using hc
      have HP := Lib.hid (show RefPostE B W (flushD d) (flushE d) (.returned (.tuple #[.agg #[.slice A3 (countD d).L.length c3, .slice A4 (countD d).waits.length c4, .int .i64 (countD d).left, .bool (countD d).down], .int .i64 (countE d)])) ((w2.setRow W.heap.size #[.slice A3 (countD d).L.length c3, .slice A4 (countD d).waits.length c4, .int .i64 (countD d).left, .bool (countD d).down]).setRow (W.heap.size + 1) #[.slice A3 (countD d).L.length c3, .slice A4 (countD d).waits.length c4, .int .i64 (countD d).left, .bool (countD d).down]) from by
        rw [show flushD d = countD d by unfold flushD; rw [if_neg (by simp [HEI.out]), if_pos hc], show flushE d = countE d by unfold flushE; rw [if_neg (by simp [HEI.out])]]
        exact ⟨_, rfl, ⟨_, _, rfl, own_box G1.out HY3.out (by decide) _, own_box G2.out HY3.out (by decide) _⟩, HB3.out.trans ((below_box _ _ _).mono (by omega))⟩)
      clear hc
      go_wp2_with (first
        | (refine wpList_store_row rfl 46 (.tmp 1) (.tmp 15) rfl W.heap.size #[.slice A3 (countD d).L.length c3, .slice A4 (countD d).waits.length c4, .int .i64 (countD d).left, .bool (countD d).down] rfl rfl 46 #[.slice A1 d.L.length c1, .slice A2 d.waits.length c2, .int .i64 d.left, .bool d.down] HX2.out (by rw [Try.size46]; rfl) rfl (by simp [Value.oneCell']) ?_)
        | (refine wpList_store_row rfl 46 (.tmp 2) (.tmp 19) rfl (W.heap.size + 1) #[.slice A3 (countD d).L.length c3, .slice A4 (countD d).waits.length c4, .int .i64 (countD d).left, .bool (countD d).down] rfl rfl 46 #[.slice none 0 0, .slice none 0 0, .int .i64 0, .bool false] HY3.out (by rw [Try.size46]; rfl) rfl (by simp [Value.oneCell']) ?_))
      refine bodyPost_ret (res2 rfl _ rfl (HY3.out.row _) rfl) rfl ?_
      exact HP.out
  · have heb : (upE d 0 != 0) = true := by simpa using he
    have HP := Lib.hid (show RefPostE B W (flushD d) (flushE d) (.returned (.tuple #[.agg #[.slice A1 d.L.length c1, .slice A2 d.waits.length c2, .int .i64 d.left, .bool d.down], .int .i64 (upE d 0)])) (w1.setRow (W.heap.size + 1) #[.slice A1 d.L.length c1, .slice A2 d.waits.length c2, .int .i64 d.left, .bool d.down]) from by
      rw [show flushD d = d by unfold flushD; rw [if_pos he], show flushE d = upE d 0 by unfold flushE; rw [if_pos he]]
      exact ⟨_, rfl, HR1.out.row HY1.out _, HB1.out.trans ((below_box _ _ _).mono (by omega))⟩)
    clear he
    go_wp2_with (refine wpList_store_row rfl 46 (.tmp 2) (.tmp 10) rfl (W.heap.size + 1) #[.slice A1 d.L.length c1, .slice A2 d.waits.length c2, .int .i64 d.left, .bool d.down] rfl rfl 46 #[.slice none 0 0, .slice none 0 0, .int .i64 0, .bool false] HY1.out (by rw [Try.size46]; rfl) rfl (by simp [Value.oneCell']) ?_)
    refine bodyPost_ret (res2 rfl _ rfl (HY1.out.row _) rfl) rfl ?_
    exact HP.out

end Go.Proofs.Ytcbdlggjpedffaa
