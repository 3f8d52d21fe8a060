/- The walk of the statement NetPlays: for every script it is true, and what was there before stands. -/
import Derived.Test.YtckcagklojpfhaaPlaysP
import Derived.BigQuiet
import Derived.Deep.DeepCutAuto
import Derived.Deep.CutBlock
namespace Go.Proofs.Ytckcagklojpfhaa.netPlays
open Go.RowKit netFull
set_option linter.unusedSimpArgs false

set_option maxRecDepth 100000 in
set_option maxHeartbeats 4000000 in
theorem law_any (v : Value) (L : List AC) (w : World) (hr : RdActs w v L) : Calls Try.prog 3 #[v] w (Yes w) := by
  have HR := Lib.hid hr
  obtain ⟨A, c, rfl, _⟩ := hr
  go_enter Try.func3, Try.ntmps3
  go_wp2_with fail
  refine (awake_any w).mono ?_
  rintro e w1 ⟨rfl, hb1⟩
  have HB1 := Lib.hid hb1
  have HR1 := Lib.hid (HR.out.on hb1)
  clear hb1
  go_wp2_with fail
  refine (new_at w1).mono ?_
  rintro e w2 ⟨g, rfl, hn2, hb2⟩
  have HN2 := Lib.hid hn2
  have HB2 := Lib.hid hb2
  clear hn2 hb2
  go_wp2
  go_loopw [5, 6] (fun lv i wr => ∃ (k : Nat) (ps : List Pk), k ≤ 60 ∧ i = .int .i64 k ∧ ps.length ≤ k ∧ NetB w1.heap.size wr g ps ∧ RefB w1.heap.size wr lv ps ∧ Below w1.heap.size w1 wr) (fun _ i _ => 60 - (intOf i).toNat)
  case atStart => exact ⟨0, [], Nat.zero_le _, rfl, Nat.le_refl _, HN2.out, RefB.nil _ _, HB2.out⟩
  case round =>
    obtain ⟨k, ps, hk, rfl, hpl, hnk, hrk, hbk⟩ := hrel
    have HNK := Lib.hid hnk
    have HRK := Lib.hid hrk
    have HBK := Lib.hid hbk
    have HRA := Lib.hid hpl
    obtain ⟨AL, cL, rfl⟩ := hrk.form
    clear hnk hrk hbk HN2 HB2
    by_cases hlt : k < L.length
    · have hlt' : (k : Int) < (L.length : Int) := by omega
      by_cases h60 : k < 60
      · have h60' : (k : Int) < 60 := by omega
        have hd : L[k]? = some L[k] := List.getElem?_eq_getElem hlt
        obtain ⟨b, o, hA, hbl, hac⟩ := HR1.out.get hd
        subst hA
        generalize L[k] = a at *
        obtain ⟨c0, c1, c2, c3, c4, A5, c5', c5, hrd⟩ := hac
        have HRD1 := Lib.hid hrd
        have hcc := fun (j : Nat) => HBK.out.cell (p := ⟨b, j, none⟩) hbl
        have c0 := (hcc _).trans c0
        have c1 := (hcc _).trans c1
        have c2 := (hcc _).trans c2
        have c3 := (hcc _).trans c3
        have c4 := (hcc _).trans c4
        have c5 := (hcc _).trans c5
        clear hrd hcc
        rcases Nat.lt_or_ge 50 a.d.length with hbig | hsm
        · have hbig' : (50 : Int) < (a.d.length : Int) := by omega
          go_wp2
          go_ret
          exact ⟨rfl, bthen HB1.out (HBK.out.alloc HBK.out.size _)⟩
        · have hsm' : ¬ (50 : Int) < (a.d.length : Int) := by omega
          obtain ⟨q, hq⟩ : ∃ q, bits .and .i64 a.kind 7 = q := ⟨_, rfl⟩
          go_upto_block 2 with (fail)
          clear hq c0 c1 c2 c3 c4 c5
          have hb2 : Below wr.heap.size wr (wr.alloc (.cells #[.int .i64 a.kind, .int .i64 a.i, .int .i64 a.k, .int .i64 a.f, .int .i64 a.t, .slice A5 a.d.length c5'] 29)) := (Below.refl _ _).alloc (Nat.le_refl _) _
          have HNF := Lib.hid (NetHas.below (F := fun j => w1.heap.size ≤ j ∧ j < wr.heap.size) (HNK.out.mono (fun j hj h => ⟨h, hj⟩)) hb2)
          have HRK2 := Lib.hid (HRK.out.below hb2)
          have HB2 := Lib.hid (HBK.out.trans (hb2.mono HBK.out.size))
          have HRD2 := Lib.hid ((HRD1.out.below HB2.out).mono HB2.out.size)
          have HLT := Lib.hid (show wr.heap.size < (wr.alloc (.cells #[.int .i64 a.kind, .int .i64 a.i, .int .i64 a.k, .int .i64 a.f, .int .i64 a.t, .slice A5 a.d.length c5'] 29)).heap.size by simp)
          have HC := Lib.hid (show (wr.alloc (.cells #[.int .i64 a.kind, .int .i64 a.i, .int .i64 a.k, .int .i64 a.f, .int .i64 a.t, .slice A5 a.d.length c5'] 29)).cell? ⟨wr.heap.size, 1, none⟩ = some (.int .i64 a.i) ∧ (wr.alloc (.cells #[.int .i64 a.kind, .int .i64 a.i, .int .i64 a.k, .int .i64 a.f, .int .i64 a.t, .slice A5 a.d.length c5'] 29)).cell? ⟨wr.heap.size, 2, none⟩ = some (.int .i64 a.k) ∧ (wr.alloc (.cells #[.int .i64 a.kind, .int .i64 a.i, .int .i64 a.k, .int .i64 a.f, .int .i64 a.t, .slice A5 a.d.length c5'] 29)).cell? ⟨wr.heap.size, 3, none⟩ = some (.int .i64 a.f) ∧ (wr.alloc (.cells #[.int .i64 a.kind, .int .i64 a.i, .int .i64 a.k, .int .i64 a.f, .int .i64 a.t, .slice A5 a.d.length c5'] 29)).cell? ⟨wr.heap.size, 4, none⟩ = some (.int .i64 a.t) ∧ (wr.alloc (.cells #[.int .i64 a.kind, .int .i64 a.i, .int .i64 a.k, .int .i64 a.f, .int .i64 a.t, .slice A5 a.d.length c5'] 29)).cell? ⟨wr.heap.size, 5, none⟩ = some (.slice A5 a.d.length c5') from ⟨by go_simp, by go_simp, by go_simp, by go_simp, by go_simp⟩)
          clear hb2 hbl hd
          go_cut [5, 8, 9] (fun lv ev fv wx => ∃ (ps' : List Pk) (er : Int), ev = .int .i64 er ∧ fv = .int .i64 er ∧ ps'.length ≤ k + 1 ∧ NetB w1.heap.size wx g ps' ∧ RefB w1.heap.size wx lv ps' ∧ Below w1.heap.size w1 wx)
          case first =>
            by_cases hp : q = 0 ∨ q = 1 ∨ q = 2 ∨ q = 3
            · rcases hp with rfl | rfl | rfl | rfl
              all_goals
                go_wp2_with fail
                refine (put_ref HNF.out HRK2.out a.f a.t _ a.d HRD2.out (by omega)).mono ?_
                rintro e w3 ⟨rfl, hn3, hk3, hr3⟩
                have hb3 : Below w1.heap.size w1 w3 := HB2.out.trans (hk3.below HB2.out.size (fun j h => h.1))
                have hz3 := hk3.block wr.heap.size HLT.out (fun h => by have := h.2; omega)
                have e0 := (World.cell?_of_block (a := ⟨wr.heap.size, 3, none⟩) hz3).trans HC.out.2.2.1
                have e1 := (World.cell?_of_block (a := ⟨wr.heap.size, 4, none⟩) hz3).trans HC.out.2.2.2.1
                have e2 := (World.cell?_of_block (a := ⟨wr.heap.size, 5, none⟩) hz3).trans HC.out.2.2.2.2
                have hcv := conv_rd (HRD1.out.below hb3)
                have HN3 := Lib.hid (show NetB w1.heap.size w3 g (putL ps (a.f, a.t, a.d)) from hn3.mono (fun j _ h => by rcases h with h | h; exact h.1; exact Nat.le_trans HB2.out.size h))
                have HB3 := Lib.hid hb3
                have HR3 := Lib.hid hr3
                clear hn3 hk3 hr3 hb3 hz3
                go_wp2_with fail
                clear e0 e1 e2 hcv
                refine (refput_any w1.heap.size w3 _ ps a.f a.t a.d HR3.out HB3.out.size).mono ?_
                rintro e w4 ⟨v4, rfl, ho4, hb4⟩
                have HN4 := Lib.hid (HN3.out.below hb4)
                have HB4 := Lib.hid (HB3.out.trans (hb4.mono HB3.out.size))
                have HO4 := Lib.hid ho4
                clear ho4 hb4
                go_wp2
                go_meet
                exact ⟨putL ps (a.f, a.t, a.d), putE ps a.f a.t, rfl, rfl, Nat.le_trans (putL_len _ _) (by have := HRA.out; omega), HN4.out, HO4.out, HB4.out⟩
            · have q0 : (q == 0) = false := by rw [beq_eq_false_iff_ne]; omega
              have q1 : (q == 1) = false := by rw [beq_eq_false_iff_ne]; omega
              have q2 : (q == 2) = false := by rw [beq_eq_false_iff_ne]; omega
              have q3 : (q == 3) = false := by rw [beq_eq_false_iff_ne]; omega
              by_cases hd : q = 4 ∨ q = 5
              · clear hp
                rcases hd with rfl | rfl
                all_goals
                  go_wp2_with fail
                  refine (drop_ref HNF.out HRK2.out a.i (by have := HRA.out; omega)).mono ?_
                  rintro e w3 ⟨rfl, hn3, hk3, hr3⟩
                  have hb3 : Below w1.heap.size w1 w3 := HB2.out.trans (hk3.below HB2.out.size (fun j h => h.1))
                  have hz3 := hk3.block wr.heap.size HLT.out (fun h => by have := h.2; omega)
                  have e0 := (World.cell?_of_block (a := ⟨wr.heap.size, 1, none⟩) hz3).trans HC.out.1
                  have HN3 := Lib.hid (show NetB w1.heap.size w3 g (dropL ps a.i) from hn3.mono (fun j _ h => h.1))
                  have HB3 := Lib.hid hb3
                  have HR3 := Lib.hid hr3
                  clear hn3 hk3 hr3 hb3 hz3
                  go_wp2_with fail
                  clear e0
                  refine (refdrop_any w1.heap.size w3 _ ps a.i HR3.out HB3.out.size (by have := HRA.out; omega)).mono ?_
                  rintro e w4 ⟨v4, rfl, ho4, hb4⟩
                  have HN4 := Lib.hid (HN3.out.below hb4)
                  have HB4 := Lib.hid (HB3.out.trans (hb4.mono HB3.out.size))
                  have HO4 := Lib.hid ho4
                  clear ho4 hb4
                  go_wp2
                  go_meet
                  exact ⟨dropL ps a.i, thereE ps.length [a.i], rfl, rfl, Nat.le_trans (dropL_len _ _) (by have := HRA.out; omega), HN4.out, HO4.out, HB4.out⟩
              · have q4 : (q == 4) = false := by rw [beq_eq_false_iff_ne]; omega
                have q5 : (q == 5) = false := by rw [beq_eq_false_iff_ne]; omega
                clear hp hd
                go_wp2_with fail
                refine (swap_ref HNF.out HRK2.out a.i a.k).mono ?_
                rintro e w3 ⟨rfl, hn3, hk3, hr3⟩
                have hb3 : Below w1.heap.size w1 w3 := HB2.out.trans (hk3.below HB2.out.size (fun j h => h.1))
                have hz3 := hk3.block wr.heap.size HLT.out (fun h => by have := h.2; omega)
                have e0 := (World.cell?_of_block (a := ⟨wr.heap.size, 1, none⟩) hz3).trans HC.out.1
                have e1 := (World.cell?_of_block (a := ⟨wr.heap.size, 2, none⟩) hz3).trans HC.out.2.1
                have HN3 := Lib.hid (show NetB w1.heap.size w3 g (swapL ps a.i a.k) from hn3.mono (fun j _ h => h.1))
                have HB3 := Lib.hid hb3
                have HR3 := Lib.hid hr3
                clear hn3 hk3 hr3 hb3 hz3
                go_wp2_with fail
                clear e0 e1
                refine (refswap_any w1.heap.size w3 _ ps a.i a.k HR3.out HB3.out.size (by have := HRA.out; omega)).mono ?_
                rintro e w4 ⟨v4, rfl, ho4, hb4⟩
                have HN4 := Lib.hid (HN3.out.below hb4)
                have HB4 := Lib.hid (HB3.out.trans (hb4.mono HB3.out.size))
                have HO4 := Lib.hid ho4
                clear ho4 hb4
                go_wp2
                go_meet
                exact ⟨swapL ps a.i a.k, thereE ps.length [a.i, a.k], rfl, rfl, by rw [swapL_len]; have := HRA.out; omega, HN4.out, HO4.out, HB4.out⟩
          case rest =>
            obtain ⟨ps', er, rfl, rfl, hpl', hnk, hrk, hbk⟩ := hcut
            clear HNF HRK2 HB2 HRD2 HLT HC HNK HRK HBK HRA
            have HNK := Lib.hid hnk
            have HRK := Lib.hid hrk
            have HBK := Lib.hid hbk
            have HPL := Lib.hid hpl'
            obtain ⟨AR, cR, rfl⟩ := hrk.form
            clear hnk hrk hbk
            have hp61 : ps'.length ≤ 60 := by omega
            go_wp2_with fail
            refine (len_any HNK.out).mono ?_
            rintro e w5 ⟨rfl, rfl⟩
            obtain ⟨kk, rfl⟩ : ∃ kk, kk = k := ⟨_, rfl⟩
            go_wp2
            go_loopw [10] (fun i wr => ∃ j : Int, -1 ≤ j ∧ j ≤ ps'.length + 1 ∧ i = .int .i64 j ∧ NetB w1.heap.size wr g ps' ∧ RefB w1.heap.size wr (.slice AR ps'.length cR) ps' ∧ Below w1.heap.size w1 wr) (fun i _ => ((ps'.length : Int) + 1 - intOf i).toNat)
            case atStart => exact ⟨-1, by omega, by omega, rfl, HNK.out, HRK.out, HBK.out⟩
            case round =>
              clear HNK HRK HBK
              obtain ⟨j, hj0, hj1, rfl, hnk, hrk, hbk⟩ := hrel
              have HNK := Lib.hid hnk
              have HRK := Lib.hid hrk
              have HBK := Lib.hid hbk
              clear hnk hrk hbk
              by_cases hjl : j ≤ ps'.length
              · by_cases hjn : j = -1
                · subst hjn
                  go_wp2_with fail
                  refine (look_out HNK.out _ (by omega)).mono ?_
                  rintro e w6 ⟨rfl, hb6⟩
                  have hb7 : Below w6.heap.size w6 (w6.alloc (.cells #[.int .i64 0, .int .i64 0, .slice none 0 0] 33)) := (Below.refl _ _).alloc (Nat.le_refl _) _
                  have hb67 := bthen hb6 hb7
                  have HN7 := Lib.hid (HNK.out.below hb67)
                  have HR7 := Lib.hid (HRK.out.below hb67)
                  have HB7 := Lib.hid (HBK.out.trans (hb67.mono HBK.out.size))
                  clear hb6 hb7 hb67
                  go_wp2_with fail
                  go_quiet (fail)
                  go_wp2
                  go_roundw
                  case rel => exact ⟨_, by omega, by omega, rfl, HN7.out.below (below_of_drewN _ _ _), HR7.out, below_drewN HB7.out _⟩
                  case measure => first | (simp [intOf]; done) | (simp [intOf]; omega)
                · by_cases hjt : j = ps'.length
                  · subst hjt
                    have hjlt : ¬ (ps'.length : Int) < (ps'.length : Int) := by omega
                    have hjld : decide ((ps'.length : Int) < (ps'.length : Int)) = false := by simp
                    have hj00 : (0 : Int) ≤ (ps'.length : Int) := by omega
                    go_wp2_with fail
                    refine (look_out HNK.out _ (by omega)).mono ?_
                    rintro e w6 ⟨rfl, hb6⟩
                    have hb7 : Below w6.heap.size w6 (w6.alloc (.cells #[.int .i64 0, .int .i64 0, .slice none 0 0] 33)) := (Below.refl _ _).alloc (Nat.le_refl _) _
                    have hb67 := bthen hb6 hb7
                    have HN7 := Lib.hid (HNK.out.below hb67)
                    have HR7 := Lib.hid (HRK.out.below hb67)
                    have HB7 := Lib.hid (HBK.out.trans (hb67.mono HBK.out.size))
                    clear hb6 hb7 hb67
                    go_wp2_with fail
                    go_quiet (fail)
                    go_wp2
                    go_roundw
                    case rel => exact ⟨_, by omega, by omega, rfl, HN7.out.below (below_of_drewN _ _ _), HR7.out, below_drewN HB7.out _⟩
                    case measure => first | (simp [intOf]; done) | (simp [intOf]; omega)
                  · obtain ⟨J, rfl⟩ := Int.eq_ofNat_of_zero_le (show 0 ≤ j by omega)
                    have hJ : J < ps'.length := by omega
                    have hJ' : (J : Int) < (ps'.length : Int) := by omega
                    obtain ⟨⟨f, t, d⟩, hp⟩ : ∃ p, ps'[J]? = some p := ⟨_, List.getElem?_eq_getElem hJ⟩
                    have HP := Lib.hid hp
                    rcases HRK.out.part with ⟨hv, hz⟩ | ⟨gr, cr, hv, _, hgrl, _, _⟩
                    · exfalso; rw [hz] at hJ; simp at hJ
                    injection hv with hv1 _ hv3
                    subst hv1
                    subst hv3
                    clear hp hjn hjt
                    go_wp2_with fail
                    refine (look_in HNK.out J _ HP.out).mono ?_
                    rintro e w6 ⟨v6, rfl, ho6, hb6⟩
                    obtain ⟨A6, c6, hv6⟩ := ownsRow_form ho6
                    change v6 = .slice A6 d.length c6 at hv6
                    subst hv6
                    have hb7 : Below w6.heap.size w6 (w6.alloc (.cells #[.int .i64 f, .int .i64 t, .slice A6 d.length c6] 33)) := (Below.refl _ _).alloc (Nat.le_refl _) _
                    have hb67 := bthen hb6 hb7
                    have HN7 := Lib.hid (HNK.out.below hb67)
                    have HR7 := Lib.hid (HRK.out.below hb67)
                    have HB7 := Lib.hid (HBK.out.trans (hb67.mono HBK.out.size))
                    have ho7 := Rd.of_own (ownsRow_below ho6 hb7)
                    have hq0 := conv_rd ho7
                    have hq1 := fun n => conv_rd (ho7.drewN n)
                    obtain ⟨r0, r1, r2⟩ := HR7.out.cell HP.out
                    clear hb6 hb7 hb67 ho6 ho7
                    go_wp2_with fail
                    go_quiet (fail)
                    clear hq0 hq1 r0 r1 r2
                    go_wp2
                    go_roundw
                    case rel => exact ⟨_, by omega, by omega, rfl, HN7.out.below (below_of_drewN _ _ _), HR7.out, below_drewN HB7.out _⟩
                    case measure => first | (simp [intOf]; done) | (simp [intOf]; omega)
              · have hjg : ¬ j ≤ (ps'.length : Int) := by omega
                clear hjl
                go_wp2
                go_roundw
                case rel => exact ⟨kk + 1, ps', by omega, (by first | rfl | go_num), HPL.out, HNK.out, HRK.out, HBK.out⟩
                case measure => first | (simp [intOf]; done) | (simp [intOf]; omega)
      · have h60' : ¬ (k : Int) < 60 := by omega
        have h60d : decide ((k : Int) < 60) = false := by simpa using h60'
        clear HNK HRK HRA
        go_wp2_with fail
        refine (look_nil 0 _).mono ?_
        rintro e w8 ⟨rfl, hb8⟩
        have HB8 := Lib.hid (HBK.out.trans (hb8.mono HBK.out.size))
        have HB9 := Lib.hid (HB8.out.alloc HB8.out.size (.cells #[.int .i64 0, .int .i64 0, .slice none 0 0] 33))
        clear hb8
        go_wp2_with fail
        refine (put_nil (.slice none 0 0) 0 0 _).mono ?_
        rintro e w10 ⟨rfl, hb10⟩
        have HB10 := Lib.hid (HB9.out.trans (hb10.mono HB9.out.size))
        clear hb10
        go_wp2_with fail
        refine (drop_nil 0 _).mono ?_
        rintro e w11 ⟨rfl, hb11⟩
        have HB11 := Lib.hid (HB10.out.trans (hb11.mono HB10.out.size))
        clear hb11
        go_wp2_with fail
        refine (swap_nil 0 0 _).mono ?_
        rintro e w12 ⟨rfl, hb12⟩
        have HB12 := Lib.hid (HB11.out.trans (hb12.mono HB11.out.size))
        clear hb12
        go_wp2_with fail
        refine (len_nil _).mono ?_
        rintro e w13 ⟨rfl, rfl⟩
        go_wp2
        go_ret
        exact ⟨rfl, bthen HB1.out HB12.out⟩
    · have hlt' : ¬ (k : Int) < (L.length : Int) := by omega
      have hltd : decide ((k : Int) < (L.length : Int)) = false := by simpa using hlt'
      clear HNK HRK HRA
      go_wp2_with fail
      refine (look_nil 0 _).mono ?_
      rintro e w8 ⟨rfl, hb8⟩
      have HB8 := Lib.hid (HBK.out.trans (hb8.mono HBK.out.size))
      have HB9 := Lib.hid (HB8.out.alloc HB8.out.size (.cells #[.int .i64 0, .int .i64 0, .slice none 0 0] 33))
      clear hb8
      go_wp2_with fail
      refine (put_nil (.slice none 0 0) 0 0 _).mono ?_
      rintro e w10 ⟨rfl, hb10⟩
      have HB10 := Lib.hid (HB9.out.trans (hb10.mono HB9.out.size))
      clear hb10
      go_wp2_with fail
      refine (drop_nil 0 _).mono ?_
      rintro e w11 ⟨rfl, hb11⟩
      have HB11 := Lib.hid (HB10.out.trans (hb11.mono HB10.out.size))
      clear hb11
      go_wp2_with fail
      refine (swap_nil 0 0 _).mono ?_
      rintro e w12 ⟨rfl, hb12⟩
      have HB12 := Lib.hid (HB11.out.trans (hb12.mono HB11.out.size))
      clear hb12
      go_wp2_with fail
      refine (len_nil _).mono ?_
      rintro e w13 ⟨rfl, rfl⟩
      go_wp2
      go_ret
      exact ⟨rfl, bthen HB1.out HB12.out⟩

end Go.Proofs.Ytckcagklojpfhaa.netPlays
