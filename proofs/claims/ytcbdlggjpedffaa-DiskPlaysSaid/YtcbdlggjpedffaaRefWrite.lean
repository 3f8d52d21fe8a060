/- The document's 'Write' of layer 3. Conditions: at most 2^20 sectors, and writes that wait. -/
import Derived.Test.YtcbdlggjpedffaaRefBox
namespace Go.Proofs.Ytcbdlggjpedffaa
open Go.RowKit
set_option linter.unusedSimpArgs false

theorem cells_new2 (w : World) (x y : Value) (t : TypeId) : ∀ j u, [x, y][j]? = some u → (w.alloc (.cells #[x, y] t)).cell? ((⟨w.heap.size, 0, none⟩ : Addr).add j) = some u := by
  intro j u hu
  rw [show (⟨w.heap.size, 0, none⟩ : Addr).add j = ⟨w.heap.size, j, none⟩ from by unfold Addr.add; split <;> simp_all, cell_of_row _ _ _ _ _ _ (heap_alloc_new w _), ← Array.getElem?_toList]
  exact hu

set_option maxHeartbeats 2000000 in
theorem refwrite_any (B : Nat) (w : World) (v : Value) (d : DK) (i : Int) (s : List UInt8) (h : RefB B w v d) (hB : B ≤ w.heap.size) (hW : d.waits.length ≤ 1048576) (hl : d.left ≤ 9223372036854775807) :
    Calls Try.prog 22 #[v, .int .i64 i, .string ⟨s.toArray⟩] w (RefPostE B w (writeD d i s) (writeE d i s.length)) := by
  obtain ⟨i0, hi0, hz0, hz1, hz2⟩ := info_parts Try.info72
  have HH := Lib.hid h
  have hup := fun (x : World) (hx : RefB B x v d) => refup_any B x v d i hx
  have hcn := fun (x : World) (hx : RefB B x v d) => refcounts_any B x v d hx hl
  have HBW := Lib.hid hB
  obtain ⟨Lv, Wv, hv, h1, h2⟩ := h
  obtain ⟨A1, c1, rfl⟩ := ownsRow_form h1
  obtain ⟨A2, c2, rfl⟩ := ownsRow_form h2
  subst hv
  have hba : Below w.heap.size w (w.alloc (.cells #[.slice A1 d.L.length c1, .slice A2 d.waits.length c2, .int .i64 d.left, .bool d.down] 46)) := (Below.refl _ _).alloc (Nat.le_refl _) _
  have hb0 : Below w.heap.size w ((w.alloc (.cells #[.slice A1 d.L.length c1, .slice A2 d.waits.length c2, .int .i64 d.left, .bool d.down] 46)).alloc (.cells #[.slice none 0 0, .slice none 0 0, .int .i64 0, .bool false] 46)) := hba.alloc hba.size _
  have HB0 := Lib.hid hb0
  have HCN := Lib.hid hcn
  have HUP := Lib.hid (hup _ (HH.out.below hb0))
  have HR0 := Lib.hid (HH.out.below hb0)
  have HX := Lib.hid (show BoxD ((w.alloc (.cells #[.slice A1 d.L.length c1, .slice A2 d.waits.length c2, .int .i64 d.left, .bool d.down] 46)).alloc (.cells #[.slice none 0 0, .slice none 0 0, .int .i64 0, .bool false] 46)) w.heap.size #[.slice A1 d.L.length c1, .slice A2 d.waits.length c2, .int .i64 d.left, .bool d.down] from (BoxD.new w #[.slice A1 d.L.length c1, .slice A2 d.waits.length c2, .int .i64 d.left, .bool d.down]).below ((Below.refl _ _).alloc (Nat.le_refl _) _) (by simp))
  have hy := BoxD.new (w.alloc (.cells #[.slice A1 d.L.length c1, .slice A2 d.waits.length c2, .int .i64 d.left, .bool d.down] 46)) #[.slice none 0 0, .slice none 0 0, .int .i64 0, .bool false]
  rw [show (w.alloc (.cells #[.slice A1 d.L.length c1, .slice A2 d.waits.length c2, .int .i64 d.left, .bool d.down] 46)).heap.size = w.heap.size + 1 by simp] at hy
  have HY := Lib.hid hy
  have HSZ := Lib.hid (show ((w.alloc (.cells #[.slice A1 d.L.length c1, .slice A2 d.waits.length c2, .int .i64 d.left, .bool d.down] 46)).alloc (.cells #[.slice none 0 0, .slice none 0 0, .int .i64 0, .bool false] 46)).heap.size = w.heap.size + 2 by simp)
  clear hup hcn h1 h2 hba hb0 hy HH
  go_enter Try.func22, Try.ntmps22
  go_wp2_with fail
  refine HUP.out.mono ?_
  rintro e w1 ⟨rfl, hb1⟩
  clear HUP
  have HX1 := Lib.hid (HX.out.below hb1 (by have := HSZ.out; omega))
  have HY1 := Lib.hid (HY.out.below hb1 (by have := HSZ.out; omega))
  have HR1 := Lib.hid (HR0.out.below hb1)
  have HB1 := Lib.hid (HB0.out.trans (hb1.mono HB0.out.size))
  clear hb1 HX HY HR0 HB0 HSZ
  obtain ⟨q0, q1, q2, q3⟩ := HX1.out.four
  by_cases he : upE d i = 0
  · obtain ⟨hdn, i0', i1'⟩ := upE_in he
    clear hdn
    obtain ⟨I, rfl⟩ := Int.eq_ofNat_of_zero_le i0'
    have HEI := Lib.hid he
    rw [he]
    clear he
    by_cases hs : s.length = 128
    · have HS := Lib.hid hs
      have hsb : ((s.length : Int) != 128) = false := by rw [hs]; rfl
      clear hs
      go_wp2_with fail
      clear hsb q0 q1 q2 q3
      refine (HCN.out w1 HR1.out).mono ?_
      rintro e w2 ⟨v2, rfl, hr2, hb2⟩
      obtain ⟨Lv2, Wv2, hv2, g1, g2⟩ := hr2
      obtain ⟨A3, c3, rfl⟩ := ownsRow_form g1
      obtain ⟨A4, c4, rfl⟩ := ownsRow_form g2
      subst hv2
      have HX2 := Lib.hid (HX1.out.below hb2 HX1.out.lt)
      have HY2 := Lib.hid (HY1.out.below hb2 HY1.out.lt)
      have HB2 := Lib.hid (HB1.out.trans (hb2.mono HB1.out.size))
      obtain ⟨q0, q1, q2, q3⟩ := (HX2.out.row #[.slice A3 (countD d).L.length c3, .slice A4 (countD d).waits.length c4, .int .i64 (countD d).left, .bool (countD d).down]).four
      have G1 := Lib.hid (own_box g1 HX2.out (by decide) #[.slice A3 (countD d).L.length c3, .slice A4 (countD d).waits.length c4, .int .i64 (countD d).left, .bool (countD d).down])
      have G2 := Lib.hid (own_box g2 HX2.out (by decide) #[.slice A3 (countD d).L.length c3, .slice A4 (countD d).waits.length c4, .int .i64 (countD d).left, .bool (countD d).down])
      have HX3 := Lib.hid (HX2.out.row #[.slice A3 (countD d).L.length c3, .slice A4 (countD d).waits.length c4, .int .i64 (countD d).left, .bool (countD d).down])
      have HY3 := Lib.hid (show BoxD (w2.setRow w.heap.size #[.slice A3 (countD d).L.length c3, .slice A4 (countD d).waits.length c4, .int .i64 (countD d).left, .bool (countD d).down]) (w.heap.size + 1) #[.slice none 0 0, .slice none 0 0, .int .i64 0, .bool false] from (setRow_other (by omega) _).trans HY2.out)
      have HB3 := Lib.hid (HB2.out.trans (below_box w2 w.heap.size #[.slice A3 (countD d).L.length c3, .slice A4 (countD d).waits.length c4, .int .i64 (countD d).left, .bool (countD d).down]))
      clear g1 g2 hb2 HX1 HY1 HR1 HB1 HB2
      by_cases hc : countE d = 0
      · skip
        have HWD := Lib.hid (show writeD d (I : Int) s = { countD d with waits := (countD d).waits ++ [(I, s)] } by unfold writeD; rw [if_neg (by simp [HEI.out, HS.out]), if_neg (by simp [hc]), countD_waits]; rfl)
        have HWE := Lib.hid (show writeE d (I : Int) s.length = 0 by unfold writeE; rw [if_neg (by simp [HEI.out]), if_neg (by simp [HS.out]), hc])
        have HWL := Lib.hid (show (countD d).waits.length ≤ 1048576 by rw [countD_waits]; exact hW)
        rw [hc]
        clear hc HCN
        go_upto_region 9 with (refine wpList_store_row rfl 46 (.tmp 3) (.tmp 24) rfl w.heap.size #[.slice A3 (countD d).L.length c3, .slice A4 (countD d).waits.length c4, .int .i64 (countD d).left, .bool (countD d).down] rfl rfl 46 #[.slice A1 d.L.length c1, .slice A2 d.waits.length c2, .int .i64 d.left, .bool d.down] HX2.out (by rw [Try.size46]; rfl) rfl (by simp [Value.oneCell']) ?_)
        clear HX2 HY2
        generalize w2.setRow w.heap.size #[.slice A3 (countD d).L.length c3, .slice A4 (countD d).waits.length c4, .int .i64 (countD d).left, .bool (countD d).down] = w3 at *
        generalize countD d = e at *
        have hwl := HWL.out
        have HSZ := Lib.hid (show w.heap.size + 1 < w3.heap.size from HY3.out.lt)
        have HK := Lib.hid (show ∀ (v1 : Value) (w4 : World), w4.ownsRow w3.heap.size 72 2 v1 e.waits.length (flatS e.waits) → Below w3.heap.size w3 w4 → ∀ (v5 : Value) (w5 : World), (w4.alloc (.cells #[.int .i64 (I : Int), .string ⟨s.toArray⟩] 72)).grownBy w5 v1.ownBlock → Below w3.heap.size w3 w5 from fun v1 w4 ho hb v5 w5 hg => (hb.alloc hb.size _).grown hg (by simpa using Nat.le_trans hb.size (Nat.le_succ _)) (fun k hk => (ho.lt k hk).1))
        have HFIN := Lib.hid (show ∀ (g5 c5 : Nat) (w5 : World), w5.ownsRow w3.heap.size 72 2 (.slice (some ⟨g5, 0, none⟩) (e.waits.length + 1) c5) (e.waits.length + 1) (flatS e.waits ++ [.int .i64 (I : Int), .string ⟨s.toArray⟩]) → Below w3.heap.size w3 w5 → RefPostE B w (writeD d (I : Int) s) (writeE d (I : Int) s.length) (.returned (.tuple #[.agg #[.slice A3 e.L.length c3, .slice (some ⟨g5, 0, none⟩) (e.waits.length + 1) c5, .int .i64 e.left, .bool e.down], .int .i64 0])) ((w5.setCell ⟨w.heap.size, 1, none⟩ (.slice (some ⟨g5, 0, none⟩) (e.waits.length + 1) c5)).setRow (w.heap.size + 1) #[.slice A3 e.L.length c3, .slice (some ⟨g5, 0, none⟩) (e.waits.length + 1) c5, .int .i64 e.left, .bool e.down]) from by
          intro g5 c5 w5 ho hb
          have hx5 := HX3.out.below hb HX3.out.lt
          have hy5 := HY3.out.below hb HY3.out.lt
          have hy6 : BoxD (w5.setCell ⟨w.heap.size, 1, none⟩ (.slice (some ⟨g5, 0, none⟩) (e.waits.length + 1) c5)) (w.heap.size + 1) #[.slice none 0 0, .slice none 0 0, .int .i64 0, .bool false] := (heap_setCell_other w5 ⟨w.heap.size, 1, none⟩ (w.heap.size + 1) _ (by simp)).trans hy5
          rw [HWD.out, HWE.out]
          refine ⟨_, rfl, ⟨_, .slice (some ⟨g5, 0, none⟩) (e.waits.length + 1) c5, rfl, own_box (own_boxc (own_below G1.out hb) hx5 (by decide)) hy6 (by decide) _, ?_⟩, ?_⟩
          · rw [List.length_append, flatS_append]
            exact own_box (own_boxc (own_from ho (by have := HBW.out; have := HSZ.out; omega)) hx5 (by decide)) hy6 (by decide) _
          · exact ((HB3.out.trans (hb.mono (by have := HSZ.out; omega))).setCell (p := ⟨w.heap.size, 1, none⟩) (Nat.le_refl _) _).trans ((below_box _ _ _).mono (by omega)))
        have hpart : (A4 = none ∧ e.waits = [] ∧ c4 = 0) ∨ ∃ g4, A4 = some ⟨g4, 0, none⟩ ∧ e.waits.length ≤ c4 := by
          rcases G2.out.2 with ⟨h1, h0⟩ | ⟨g, cap, cur, h1, hg, hh, h2, h3, _⟩
          · injection h1 with a b c
            exact .inl ⟨a, List.eq_nil_of_length_eq_zero h0, c⟩
          · injection h1 with a b c
            subst c
            exact .inr ⟨g, a, h2⟩
        rcases hpart with ⟨rfl, hnil, rfl⟩ | ⟨g4, rfl, hc4⟩
        · skip
          simp only [hnil, List.length_nil, Nat.zero_add] at *
          go_wp2_with (first
            | (at_builtin; refine wpList_append_own_none rfl _ _ 44 rfl w3.heap.size 72 i0 2 Try.underlying44 hi0 (.slice none 0 0) 0 [] rfl (World.ownsRow_nil _ _ _ _) rfl ?_; have _t1 := trivial)
            | (at_builtin; refine wpList_append_own _ rfl _ _ 44 rfl w3.heap.size 72 i0 _ 2 24 Try.underlying44 hi0 hz0 hz1 hz2 rfl (by decide) (.slice none 0 0) 0 [] rfl (World.ownsRow_nil _ _ _ _) ⟨w3.heap.size, 0, none⟩ 1 1 [.int .i64 (I : Int), .string ⟨s.toArray⟩] rfl rfl (cells_new2 w3 _ _ 72) (by simp [Value.oneCell']) (by unfold maxLen; omega) (by omega) (by simp) ?_; intro v5 w5 hown5 hgrow5 _; have HO5 := Lib.hid hown5; have HB5 := Lib.hid (HK.out (.slice none 0 0) w3 (World.ownsRow_nil _ _ _ _) (Below.refl _ _) v5 w5 hgrow5); clear hown5 hgrow5; obtain ⟨g5, c5, hv5, _, _⟩ := HO5.out.form (by omega); subst hv5; have HX5 := Lib.hid (HX3.out.below HB5.out HX3.out.lt); have HY5 := Lib.hid (HY3.out.below HB5.out HY3.out.lt); have hcell := HX5.out.cell 1; have hfroz := HX5.out.frozen 1; obtain ⟨r0, r1, r2, r3⟩ := (show BoxD (w5.setCell ⟨w.heap.size, 1, none⟩ (.slice (some ⟨g5, 0, none⟩) 1 c5)) w.heap.size #[.slice A3 e.L.length c3, .slice (some ⟨g5, 0, none⟩) 1 c5, .int .i64 e.left, .bool e.down] from HX5.out.set 1 _).four; have HY6 := Lib.hid (show BoxD (w5.setCell ⟨w.heap.size, 1, none⟩ (.slice (some ⟨g5, 0, none⟩) 1 c5)) (w.heap.size + 1) #[.slice none 0 0, .slice none 0 0, .int .i64 0, .bool false] from (heap_setCell_other w5 ⟨w.heap.size, 1, none⟩ (w.heap.size + 1) _ (by simp)).trans HY5.out))
            | (refine wpList_store_row rfl 46 (.tmp 6) (.tmp 41) rfl (w.heap.size + 1) #[.slice A3 e.L.length c3, .slice (some ⟨g5, 0, none⟩) 1 c5, .int .i64 e.left, .bool e.down] rfl rfl 46 #[.slice none 0 0, .slice none 0 0, .int .i64 0, .bool false] HY6.out (by rw [Try.size46]; rfl) rfl (by simp [Value.oneCell']) ?_))
          refine bodyPost_ret (res2 rfl _ rfl (HY6.out.row _) rfl) rfl ?_
          exact HFIN.out _ _ _ HO5.out HB5.out
        · have HCL := Lib.hid (G2.out.cells (g := g4) rfl)
          go_wp2_with (first
            | (at_builtin; refine wpList_append_own _ rfl _ _ 44 rfl w3.heap.size 72 i0 _ 2 24 Try.underlying44 hi0 hz0 hz1 hz2 rfl (by decide) (.slice none 0 0) 0 [] rfl (World.ownsRow_nil _ _ _ _) ⟨g4, 0, none⟩ e.waits.length c4 (flatS e.waits) rfl (by rw [flatS_len]) HCL.out (flatS_one e.waits) (by unfold maxLen; omega) (by omega) (Nat.le_refl _) ?_; intro v4 w4 hown4 hgrow4 _; have HO4 := Lib.hid (show w4.ownsRow w3.heap.size 72 2 v4 e.waits.length (flatS e.waits) by simpa using hown4); have HB4 := Lib.hid ((Below.refl w3.heap.size w3).grown hgrow4 (Nat.le_refl _) (fun k hk => by cases hk)); clear hown4 hgrow4)
            | (at_builtin; refine wpList_append_own _ rfl _ _ 44 rfl w3.heap.size 72 i0 _ 2 24 Try.underlying44 hi0 hz0 hz1 hz2 rfl (by decide) v4 e.waits.length (flatS e.waits) rfl (HO4.out.alloc _) ⟨w4.heap.size, 0, none⟩ 1 1 [.int .i64 (I : Int), .string ⟨s.toArray⟩] rfl rfl (cells_new2 w4 _ _ 72) (by simp [Value.oneCell']) (by unfold maxLen; omega) (by omega) (by have := HB4.out.size; simp; omega) ?_; intro v5 w5 hown5 hgrow5 _; have HO5 := Lib.hid hown5; have HB5 := Lib.hid (HK.out v4 w4 (by exact (HO4.out)) HB4.out v5 w5 hgrow5); clear hown5 hgrow5; obtain ⟨g5, c5, hv5, _, _⟩ := HO5.out.form (by omega); subst hv5; have HX5 := Lib.hid (HX3.out.below HB5.out HX3.out.lt); have HY5 := Lib.hid (HY3.out.below HB5.out HY3.out.lt); have hcell := HX5.out.cell 1; have hfroz := HX5.out.frozen 1; obtain ⟨r0, r1, r2, r3⟩ := (show BoxD (w5.setCell ⟨w.heap.size, 1, none⟩ (.slice (some ⟨g5, 0, none⟩) (e.waits.length + 1) c5)) w.heap.size #[.slice A3 e.L.length c3, .slice (some ⟨g5, 0, none⟩) (e.waits.length + 1) c5, .int .i64 e.left, .bool e.down] from HX5.out.set 1 _).four; have HY6 := Lib.hid (show BoxD (w5.setCell ⟨w.heap.size, 1, none⟩ (.slice (some ⟨g5, 0, none⟩) (e.waits.length + 1) c5)) (w.heap.size + 1) #[.slice none 0 0, .slice none 0 0, .int .i64 0, .bool false] from (heap_setCell_other w5 ⟨w.heap.size, 1, none⟩ (w.heap.size + 1) _ (by simp)).trans HY5.out))
            | (refine wpList_store_row rfl 46 (.tmp 6) (.tmp 41) rfl (w.heap.size + 1) #[.slice A3 e.L.length c3, .slice (some ⟨g5, 0, none⟩) (e.waits.length + 1) c5, .int .i64 e.left, .bool e.down] rfl rfl 46 #[.slice none 0 0, .slice none 0 0, .int .i64 0, .bool false] HY6.out (by rw [Try.size46]; rfl) rfl (by simp [Value.oneCell']) ?_))
          refine bodyPost_ret (res2 rfl _ rfl (HY6.out.row _) rfl) rfl ?_
          exact HFIN.out _ _ _ HO5.out HB5.out
      · have hcb : (countE d != 0) = true := by simpa using hc
        have HP := Lib.hid (show RefPostE B w (writeD d (I : Int) s) (writeE d (I : Int) s.length) (.returned (.tuple #[.agg #[.slice A3 (countD d).L.length c3, .slice A4 (countD d).waits.length c4, .int .i64 (countD d).left, .bool (countD d).down], .int .i64 (countE d)])) ((w2.setRow w.heap.size #[.slice A3 (countD d).L.length c3, .slice A4 (countD d).waits.length c4, .int .i64 (countD d).left, .bool (countD d).down]).setRow (w.heap.size + 1) #[.slice A3 (countD d).L.length c3, .slice A4 (countD d).waits.length c4, .int .i64 (countD d).left, .bool (countD d).down]) from by
          rw [show writeD d (I : Int) s = countD d by unfold writeD; rw [if_neg (by simp [HEI.out, HS.out]), if_pos hc], show writeE d (I : Int) s.length = countE d by unfold writeE; rw [if_neg (by simp [HEI.out]), if_neg (by simp [HS.out])]]
          exact ⟨_, rfl, ⟨_, _, rfl, own_box G1.out HY3.out (by decide) _, own_box G2.out HY3.out (by decide) _⟩, HB3.out.trans ((below_box _ _ _).mono (by omega))⟩)
        clear hc
        go_wp2_with (first
          | (refine wpList_store_row rfl 46 (.tmp 3) (.tmp 24) rfl w.heap.size #[.slice A3 (countD d).L.length c3, .slice A4 (countD d).waits.length c4, .int .i64 (countD d).left, .bool (countD d).down] rfl rfl 46 #[.slice A1 d.L.length c1, .slice A2 d.waits.length c2, .int .i64 d.left, .bool d.down] HX2.out (by rw [Try.size46]; rfl) rfl (by simp [Value.oneCell']) ?_)
          | (refine wpList_store_row rfl 46 (.tmp 6) (.tmp 28) rfl (w.heap.size + 1) #[.slice A3 (countD d).L.length c3, .slice A4 (countD d).waits.length c4, .int .i64 (countD d).left, .bool (countD d).down] rfl rfl 46 #[.slice none 0 0, .slice none 0 0, .int .i64 0, .bool false] HY3.out (by rw [Try.size46]; rfl) rfl (by simp [Value.oneCell']) ?_))
        refine bodyPost_ret (res2 rfl _ rfl (HY3.out.row _) rfl) rfl ?_
        exact HP.out
    · have hsb : ((s.length : Int) != 128) = true := by simp; omega
      skip
      have HP := Lib.hid (show RefPostE B w (writeD d (I : Int) s) (writeE d (I : Int) s.length) (.returned (.tuple #[.agg #[.slice A1 d.L.length c1, .slice A2 d.waits.length c2, .int .i64 d.left, .bool d.down], .int .i64 1])) (w1.setRow (w.heap.size + 1) #[.slice A1 d.L.length c1, .slice A2 d.waits.length c2, .int .i64 d.left, .bool d.down]) from by
        rw [show writeD d (I : Int) s = d by unfold writeD; rw [if_pos (.inr hs)], show writeE d (I : Int) s.length = 1 by unfold writeE; rw [if_neg (by simp [HEI.out]), if_pos hs]]
        exact ⟨_, rfl, HR1.out.row HY1.out _, HB1.out.trans ((below_box _ _ _).mono (by omega))⟩)
      go_wp2_with (refine wpList_store_row rfl 46 (.tmp 6) (.tmp 20) rfl (w.heap.size + 1) #[.slice A1 d.L.length c1, .slice A2 d.waits.length c2, .int .i64 d.left, .bool d.down] rfl rfl 46 #[.slice none 0 0, .slice none 0 0, .int .i64 0, .bool false] HY1.out (by rw [Try.size46]; rfl) rfl (by simp [Value.oneCell']) ?_)
      refine bodyPost_ret (res2 rfl _ rfl (HY1.out.row _) rfl) rfl ?_
      exact HP.out
  · have heb : (upE d i != 0) = true := by simpa using he
    have HP := Lib.hid (show RefPostE B w (writeD d i s) (writeE d i s.length) (.returned (.tuple #[.agg #[.slice A1 d.L.length c1, .slice A2 d.waits.length c2, .int .i64 d.left, .bool d.down], .int .i64 (upE d i)])) (w1.setRow (w.heap.size + 1) #[.slice A1 d.L.length c1, .slice A2 d.waits.length c2, .int .i64 d.left, .bool d.down]) from by
      rw [show writeD d i s = d by unfold writeD; rw [if_pos (.inl he)], show writeE d i s.length = upE d i by unfold writeE; rw [if_pos he]]
      exact ⟨_, rfl, HR1.out.row HY1.out _, HB1.out.trans ((below_box _ _ _).mono (by omega))⟩)
    clear he
    go_wp2_with (refine wpList_store_row rfl 46 (.tmp 6) (.tmp 15) rfl (w.heap.size + 1) #[.slice A1 d.L.length c1, .slice A2 d.waits.length c2, .int .i64 d.left, .bool d.down] rfl rfl 46 #[.slice none 0 0, .slice none 0 0, .int .i64 0, .bool false] HY1.out (by rw [Try.size46]; rfl) rfl (by simp [Value.oneCell']) ?_)
    refine bodyPost_ret (res2 rfl _ rfl (HY1.out.row _) rfl) rfl ?_
    exact HP.out

end Go.Proofs.Ytcbdlggjpedffaa
