/- The walk of the statement DiskSure: for every three lists of bytes it is true, and what was there before stands. -/
import Derived.Test.YtcbdlggjpedffaaReg
import Derived.Test.YtcbdlggjpedffaaPicksW
import Derived.BigQuiet
namespace Go.Proofs.Ytcbdlggjpedffaa.diskSure
open Go.RowKit
open Go.Proofs.Ytcbdlggjpedffaa.diskPicks (laidL_get rd_lit2)
set_option linter.unusedSimpArgs false

/-- behind k writes -/
def dG (L : List (List UInt8)) (t : Nat → Wt) (k : Nat) : DK := ⟨L, (List.range k).map t, -1, false⟩
theorem dG_live (L : List (List UInt8)) (t : Nat → Wt) (k : Nat) : Live (dG L t k) := ⟨rfl, rfl⟩
theorem dG_waits (L : List (List UInt8)) (t : Nat → Wt) (k : Nat) : (dG L t k).waits.length = k := by simp [dG]
theorem dG_succ {L : List (List UInt8)} {t : Nat → Wt} {k j : Nat} {s : List UInt8} (ht : t k = (j, s)) (hj : j < L.length) (hs : s.length = 128) : writeD (dG L t k) (j : Int) s = dG L t (k + 1) := by
  rw [live_writeD (dG_live L t k) (by simpa [dG] using hj) hs]
  simp [dG, List.range_succ, ht]
theorem dG_E {L : List (List UInt8)} {t : Nat → Wt} {k j : Nat} {s : List UInt8} (hj : j < L.length) (hs : s.length = 128) : writeE (dG L t k) (j : Int) s.length = 0 := live_writeE (dG_live L t k) ⟨by omega, by simp [dG]; omega⟩ hs

def tF (fs : List UInt8) (j : Nat) : Wt := (j, fullL [fs.getD j 0, 1] false)
def tG (ls : List UInt8) (n : Nat) (j : Nat) : Wt := ((ls.getD j 0).toNat % n, fullL [UInt8.ofNat j, 2] false)
def LZ (n : Nat) : List (List UInt8) := List.replicate n zeroS
def LF (fs : List UInt8) : List (List UInt8) := laidL ((List.range fs.length).map (tF fs)) (LZ fs.length)
theorem LF_len (fs : List UInt8) : (LF fs).length = fs.length := by unfold LF; rw [laidL_len]; simp [LZ]
theorem LF_get (fs : List UInt8) {i : Nat} (h : i < fs.length) : (LF fs)[i]? = some (tF fs i).2 := by
  have := laidL_get (fun j => (tF fs j).2) i (List.range fs.length) (LZ fs.length)
  rw [if_pos ⟨List.mem_range.2 h, by simpa [LZ] using h⟩] at this
  exact this
theorem flushed (fs : List UInt8) (h : 0 < fs.length) : flushD (dG (LZ fs.length) (tF fs) fs.length) = dG (LF fs) (tG [] 0) 0 := by
  rw [live_flushD (dG_live _ _ _) (by simpa [dG, LZ] using h)]
  rfl

theorem laidL_or (i : Nat) : ∀ (ws : List Wt) (L : List (List UInt8)), (laidL ws L)[i]? = L[i]? ∨ ∃ p ∈ ws, p.1 = i ∧ (laidL ws L)[i]? = some p.2
  | [], L => .inl rfl
  | p :: ws, L => by
    have e : laidL (p :: ws) L = laidL ws (L.set p.1 p.2) := rfl
    rw [e]
    rcases laidL_or i ws (L.set p.1 p.2) with h | ⟨q, hq, h1, h2⟩
    · rw [h, List.getElem?_set]
      by_cases hp : p.1 = i
      · rw [if_pos hp]
        by_cases hl : p.1 < L.length
        · rw [if_pos hl]
          exact .inr ⟨p, List.mem_cons_self, hp, rfl⟩
        · rw [if_neg hl]
          exact .inl (List.getElem?_eq_none (by omega)).symm
      · rw [if_neg hp]
        exact .inl rfl
    · exact .inr ⟨q, List.mem_cons_of_mem _ hq, h1, h2⟩

/-- is write K what this sector holds? -/
def hitP (n : Nat) (ls ps : List UInt8) (i : Nat) (x0 x1 : UInt8) (K : Nat) : Prop := pickB ps K = true ∧ (ls.getD K 0).toNat % n = i ∧ x0.toNat = K ∧ x1.toNat = 2

def dC (fs ls ps : List UInt8) : DK := crashD (dG (LF fs) (tG ls fs.length) ls.length) ps
theorem dC_waits (fs ls ps : List UInt8) : (dC fs ls ps).waits = [] := rfl
theorem dC_len (fs ls ps : List UInt8) : (dC fs ls ps).L.length = fs.length := by unfold dC crashD; rw [laidL_len]; exact LF_len fs
theorem dC_up {fs ls ps : List UInt8} {i : Nat} (h : i < fs.length) : upE (dC fs ls ps) (i : Int) = 0 := live_up ⟨rfl, rfl⟩ ⟨by omega, by rw [dC_len]; omega⟩
theorem dC_N (fs ls ps : List UInt8) : crashN (dG (LF fs) (tG ls fs.length) ls.length) ps ≤ ls.length := by
  unfold crashN
  rw [dG_waits]
  unfold picks
  have := List.length_filter_le (pickB ps) (List.range ls.length)
  simpa using this

theorem dC_read {fs ls ps : List UInt8} {i : Nat} (h : i < fs.length) (h30 : ls.length ≤ 30) : ∃ (s : List UInt8) (x0 x1 : UInt8), readD (dC fs ls ps) i = s ∧ s.length = 128 ∧ s[0]? = some x0 ∧ s[1]? = some x1 ∧
    ((x0 = fs.getD i 0 ∧ x1 = 1) ∨ ∃ K, K < ls.length ∧ hitP fs.length ls ps i x0 x1 K) := by
  have hr : readD (dC fs ls ps) i = (dC fs ls ps).L[i]?.getD [] := rfl
  have hL : (dC fs ls ps).L = laidL ((picks ps (dG (LF fs) (tG ls fs.length) ls.length).waits.length).filterMap (fun k => (dG (LF fs) (tG ls fs.length) ls.length).waits[k]?)) (LF fs) := rfl
  rw [hr, hL]
  rcases laidL_or i ((picks ps (dG (LF fs) (tG ls fs.length) ls.length).waits.length).filterMap (fun k => (dG (LF fs) (tG ls fs.length) ls.length).waits[k]?)) (LF fs) with e | ⟨p, hp, h1, e⟩
  · rw [e, LF_get fs h]
    exact ⟨_, fs.getD i 0, 1, rfl, fullL_length _ false, rfl, rfl, .inl ⟨rfl, rfl⟩⟩
  · rw [e]
    obtain ⟨K, hK, hKp⟩ := List.mem_filterMap.1 hp
    obtain ⟨hK1, hK2⟩ := mem_picks hK
    rw [dG_waits] at hK1
    have e2 : p = tG ls fs.length K := by
      simp [dG, hK1] at hKp
      exact hKp.symm
    subst e2
    exact ⟨_, UInt8.ofNat K, 2, rfl, fullL_length _ false, rfl, rfl, .inr ⟨K, hK1, hK2, h1, by rw [UInt8.toNat_ofNat']; omega, rfl⟩⟩

set_option maxRecDepth 100000 in
theorem long1 (v1 v2 v3 : Value) (fs ls ps : List UInt8) (w : World) (h1 : Rd w w.heap.size v1 (bv fs)) (h2 : Rd w w.heap.size v2 (bv ls)) (h3 : Rd w w.heap.size v3 (bv ps)) (h0 : fs.length = 0) : Calls Try.prog 5 #[v1, v2, v3] w (Yes w) := by
  obtain ⟨A1, c0, rfl, _⟩ := h1.form
  obtain ⟨A2, c1, rfl, _⟩ := h2.form
  obtain ⟨A3, c2, rfl, _⟩ := h3.form
  rw [bv_length] at *
  rw [bv_length] at *
  rw [bv_length] at *
  clear h1 h2 h3
  have g1 : ((fs.length : Int) == 0) = true := by rw [beq_iff_eq]; omega
  go_enter Try.func5, Try.ntmps5
  go_wp2_with fail
  refine (awake_any w).mono ?_
  rintro e w1 ⟨rfl, hb1⟩
  have HB1 := Lib.hid hb1
  clear hb1
  go_wp2
  go_ret
  exact ⟨rfl, HB1.out⟩

set_option maxRecDepth 100000 in
theorem long2 (v1 v2 v3 : Value) (fs ls ps : List UInt8) (w : World) (h1 : Rd w w.heap.size v1 (bv fs)) (h2 : Rd w w.heap.size v2 (bv ls)) (h3 : Rd w w.heap.size v3 (bv ps)) (h0 : 12 < fs.length) : Calls Try.prog 5 #[v1, v2, v3] w (Yes w) := by
  obtain ⟨A1, c0, rfl, _⟩ := h1.form
  obtain ⟨A2, c1, rfl, _⟩ := h2.form
  obtain ⟨A3, c2, rfl, _⟩ := h3.form
  rw [bv_length] at *
  rw [bv_length] at *
  rw [bv_length] at *
  clear h1 h2 h3
  have g1 : ((fs.length : Int) == 0) = false := by rw [beq_eq_false_iff_ne]; omega
  have g2 : (12 : Int) < (fs.length : Int) := by omega
  go_enter Try.func5, Try.ntmps5
  go_wp2_with fail
  refine (awake_any w).mono ?_
  rintro e w1 ⟨rfl, hb1⟩
  have HB1 := Lib.hid hb1
  clear hb1
  go_wp2
  go_ret
  exact ⟨rfl, HB1.out⟩

set_option maxRecDepth 100000 in
theorem long3 (v1 v2 v3 : Value) (fs ls ps : List UInt8) (w : World) (h1 : Rd w w.heap.size v1 (bv fs)) (h2 : Rd w w.heap.size v2 (bv ls)) (h3 : Rd w w.heap.size v3 (bv ps)) (h0 : 0 < fs.length) (h00 : fs.length ≤ 12) (h000 : 30 < ls.length) : Calls Try.prog 5 #[v1, v2, v3] w (Yes w) := by
  obtain ⟨A1, c0, rfl, _⟩ := h1.form
  obtain ⟨A2, c1, rfl, _⟩ := h2.form
  obtain ⟨A3, c2, rfl, _⟩ := h3.form
  rw [bv_length] at *
  rw [bv_length] at *
  rw [bv_length] at *
  clear h1 h2 h3
  have g1 : ((fs.length : Int) == 0) = false := by rw [beq_eq_false_iff_ne]; omega
  have g2 : decide ((12 : Int) < (fs.length : Int)) = false := by simp; omega
  have g3 : (30 : Int) < (ls.length : Int) := by omega
  go_enter Try.func5, Try.ntmps5
  go_wp2_with fail
  refine (awake_any w).mono ?_
  rintro e w1 ⟨rfl, hb1⟩
  have HB1 := Lib.hid hb1
  clear hb1
  go_wp2
  go_ret
  exact ⟨rfl, HB1.out⟩


set_option maxRecDepth 100000 in
set_option maxHeartbeats 4000000 in
theorem short (v1 v2 v3 : Value) (fs ls ps : List UInt8) (w : World) (h1 : Rd w w.heap.size v1 (bv fs)) (h2 : Rd w w.heap.size v2 (bv ls)) (h3 : Rd w w.heap.size v3 (bv ps)) (hn : 0 < fs.length) (hn2 : fs.length ≤ 12) (hm : ls.length ≤ 30) : Calls Try.prog 5 #[v1, v2, v3] w (Yes w) := by
  have H1 := Lib.hid h1
  have H2 := Lib.hid h2
  have H3 := Lib.hid h3
  obtain ⟨A1, c0, rfl, _⟩ := h1.form
  obtain ⟨A2, c1, rfl, _⟩ := h2.form
  obtain ⟨A3, c2, rfl, _⟩ := h3.form
  rw [bv_length] at *
  rw [bv_length] at *
  rw [bv_length] at *
  clear h1 h2 h3
  have g1 : ((fs.length : Int) == 0) = false := by rw [beq_eq_false_iff_ne]; omega
  have g2 : decide ((12 : Int) < (fs.length : Int)) = false := by simp; omega
  have g3 : decide ((30 : Int) < (ls.length : Int)) = false := by simp; omega
  go_enter Try.func5, Try.ntmps5
  go_wp2_with fail
  refine (awake_any w).mono ?_
  rintro e w1 ⟨rfl, hb1⟩
  have HB1 := Lib.hid hb1
  have HR1 := Lib.hid (H1.out.on hb1)
  have HR2 := Lib.hid (H2.out.on hb1)
  have HR3 := Lib.hid (H3.out.on hb1)
  clear hb1
  go_wp2_with fail
  clear g1 g2 g3
  refine (new_at fs.length w1 hn (by omega)).mono ?_
  rintro e w2 ⟨g, rfl, hd2, hb2⟩
  have HD2 := Lib.hid (show DiskB w1.heap.size w2 g (dG (LZ fs.length) (tF fs) 0) 0 from hd2)
  have HB2 := Lib.hid hb2
  clear hd2 hb2
  go_wp2
  go_loopw [11] (fun t wr => ∃ i : Nat, i ≤ fs.length ∧ t = .int .i64 i ∧ DiskB w1.heap.size wr g (dG (LZ fs.length) (tF fs) i) 0 ∧ Below w1.heap.size w1 wr) (fun t _ => fs.length - (intOf t).toNat)
  case atStart => exact ⟨0, Nat.zero_le _, rfl, HD2.out, HB2.out⟩
  case round =>
    obtain ⟨i, hi, rfl, hd, hb⟩ := hrel
    have HDK := Lib.hid hd
    have HBK := Lib.hid hb
    clear hd hb
    rcases Nat.lt_or_ge i fs.length with hlt | hge
    · have hlt' : (i : Int) < (fs.length : Int) := by omega
      have hx : fs[i]? = some fs[i] := List.getElem?_eq_getElem hlt
      have HY := Lib.hid (show tF fs i = (i, fullL [fs[i], 1] false) by unfold tF; rw [List.getD_eq_getElem?_getD, hx]; rfl)
      obtain ⟨gb, o, rfl, hgb, hc⟩ := HR1.out.open_ (by intro e; have := bv_length fs; rw [e] at this; simp at this; omega)
      have hcx := (HBK.out.cell (p := ⟨gb, o + i, none⟩) hgb).trans (hc _ _ (bv_get hx))
      clear hx hc
      generalize fs[i] = y at *
      have hyl : y.toNat < 256 := y.toNat_lt
      have hb3 : Below wr.heap.size wr (wr.alloc (.cells #[.int .u8 y.toNat, .int .u8 1] 5)) := (Below.refl _ _).alloc (Nat.le_refl _) _
      have HD3 := Lib.hid (HDK.out.below hb3)
      have HB3 := Lib.hid (HBK.out.trans (hb3.mono HBK.out.size))
      have hr3 := rd_lit2 (x := y.toNat) (y := 1) hyl (by omega) (heap_alloc_last wr (.cells #[.int .u8 y.toNat, .int .u8 1] 5))
      rw [UInt8.ofNat_toNat, show UInt8.ofNat 1 = 1 from rfl] at hr3
      have HR3' := Lib.hid hr3
      clear hb3 hr3
      go_wp2_with fail
      clear hcx
      refine (full_any _ _ false _ _ HR3'.out (Nat.le_refl _)).mono ?_
      rintro e w4 ⟨v4, rfl, hr4, hv4, hb4⟩
      have HR4 := Lib.hid hr4
      have HV4 := Lib.hid hv4
      have HB4 := Lib.hid hb4
      clear hr4 hv4 hb4
      go_wp2_with fail
      refine (write_at HD3.out HB3.out.size HB4.out (i : Int) v4 _ HR4.out HV4.out (by rw [dG_waits]; omega)).mono ?_
      rintro e w5 ⟨rfl, hd5, hb5⟩
      rw [dG_E (by simpa [LZ] using hlt) (fullL_length _ false)]
      rw [dG_succ HY.out (by simpa [LZ] using hlt) (fullL_length _ false)] at hd5
      have HD5 := Lib.hid hd5
      have HB5 := Lib.hid (HB3.out.trans hb5)
      clear hd5 hb5
      go_wp2
      go_roundw
      case rel => exact ⟨i + 1, by omega, by go_num, HD5.out, HB5.out⟩
      case measure => simp [intOf]; omega
    · obtain rfl : i = fs.length := by omega
      clear hge hi
      go_wp2_with fail
      refine (flush_at HDK.out HBK.out.size (by rw [dG_waits]; omega)).mono ?_
      rintro e w3 ⟨rfl, ⟨M2, hM2, hd3⟩, hb3⟩
      rw [dG_waits] at hM2
      rw [live_flushE (dG_live _ _ _) (by simpa [dG, LZ] using hn)]
      rw [flushed fs hn] at hd3
      have HD3 := Lib.hid (show DiskB w1.heap.size w3 g (dG (LF fs) (tG ls fs.length) 0) M2 from hd3)
      have HB3 := Lib.hid (HBK.out.trans hb3)
      clear hd3 hb3 HDK HBK
      go_wp2
      go_loopw [12] (fun t wr => ∃ k : Nat, k ≤ ls.length ∧ t = .int .i64 k ∧ DiskB w1.heap.size wr g (dG (LF fs) (tG ls fs.length) k) M2 ∧ Below w1.heap.size w1 wr) (fun t _ => ls.length - (intOf t).toNat)
      case atStart => exact ⟨0, Nat.zero_le _, rfl, HD3.out, HB3.out⟩
      case round =>
        obtain ⟨k, hk, rfl, hd, hb⟩ := hrel
        have HDK := Lib.hid hd
        have HBK := Lib.hid hb
        clear hd hb
        rcases Nat.lt_or_ge k ls.length with hlt | hge
        · have hkl : (k : Int) < (ls.length : Int) := by omega
          have hk0 : (0 : Int) ≤ (k : Int) := by omega
          have hx : ls[k]? = some ls[k] := List.getElem?_eq_getElem hlt
          have HZ := Lib.hid (show ls.getD k 0 = ls[k] by rw [List.getD_eq_getElem?_getD, hx]; rfl)
          obtain ⟨gb, o, rfl, hgb, hc⟩ := HR2.out.open_ (by intro e; have := bv_length ls; rw [e] at this; simp at this; omega)
          have hcx := (HBK.out.cell (p := ⟨gb, o + k, none⟩) hgb).trans (hc _ _ (bv_get hx))
          have hgw : gb < wr.heap.size := Nat.lt_of_lt_of_le hgb HBK.out.size
          clear hx hc
          generalize ls[k] = z at *
          have hzl : z.toNat < 256 := z.toNat_lt
          obtain ⟨j, hj⟩ : ∃ j : Nat, j = z.toNat % fs.length := ⟨_, rfl⟩
          have hjt : (z.toNat : Int).tmod (fs.length : Int) = (j : Int) := by rw [hj]; rfl
          have hjl : j < fs.length := by rw [hj]; exact Nat.mod_lt _ hn
          have HT := Lib.hid (show tG ls fs.length k = (j, fullL [UInt8.ofNat k, 2] false) by unfold tG; rw [HZ.out, hj])
          clear hj
          have HE := Lib.hid (dG_E (L := LF fs) (t := tG ls fs.length) (k := k) (j := j) (s := fullL [UInt8.ofNat k, 2] false) (by rw [LF_len]; exact hjl) (fullL_length _ false))
          have HSUC := Lib.hid (dG_succ HT.out (by rw [LF_len]; exact hjl) (fullL_length _ false))
          have hjw : IntKind.i64.wrap (j : Int) = (j : Int) := by rw [IntKind.wrap]; simp [IntKind.bits, IntKind.signed]; omega
          have hzw : IntKind.i64.wrap (z.toNat : Int) = (z.toNat : Int) := by rw [IntKind.wrap]; simp [IntKind.bits, IntKind.signed]; omega
          have hkw : IntKind.u8.wrap (k : Int) = (k : Int) := by rw [IntKind.wrap]; simp [IntKind.bits, IntKind.signed]; omega
          have hn0 : ¬ fs.length = 0 := by omega
          go_wp2
          refine region_turns (by kernel_rfl) [67, 68, 69, 70, 71, 72, 73, 74, 75, 76, 77, 78, 79, 80] rfl (by simp) (by kernel_rfl) (Staged 11 12 (fun w' => Below wr.heap.size wr w') (fun w' => Below wr.heap.size wr w') (fun w' => DiskB w1.heap.size w' g (writeD (dG (LF fs) (tG ls fs.length) k) (j : Int) (fullL [UInt8.ofNat k, 2] false)) M2 ∧ Below w1.heap.size wr w')) (Moved (fun i k => i = 12 ∧ k < wr.heap.size)) (Says (fun q_ => match q_ with | 67 => some (.pointer (some ⟨g, 0, none⟩)) | 68 => some (.slice (some ⟨gb, o, none⟩) ls.length c1) | 69 => some (.int .i64 (k : Int)) | 70 => some (.pointer (some ⟨gb, o + k, none⟩)) | 71 => some (.int .u8 (z.toNat : Int)) | 72 => some (.int .i64 (z.toNat : Int)) | 73 => some (.int .i64 (fs.length : Int)) | 74 => some (.int .i64 (j : Int)) | 75 => some (.int .i64 (k : Int)) | 76 => some (.int .u8 (k : Int)) | 79 => some (.int .i64 0) | 80 => some (.bool false) | _ => none) (fun q_ v w => (q_ = 77 → FullV wr.heap.size [UInt8.ofNat k, UInt8.ofNat 2] v w) ∧ (q_ = 78 → FullV wr.heap.size (fullL [UInt8.ofNat k, 2] false) v w) ∧ True)) ?_ ?_ (turns_of_all rfl ?_) ?_
          · intro l hl
            refine Staged.start ?_ (hl _) (hl _)
            exact below_of_drewN wr 1 _
          · rintro i tt v w w' hnw hM ⟨h1, h2⟩
            obtain ⟨s77, s78, _⟩ := h2
            have hlow : ∀ k, k < w.heap.size → wr.heap.size ≤ k → w'.heap[k]? = w.heap[k]? := fun k hk hk0 => hM.2 k hk (fun e => by omega)
            exact ⟨h1, fun e => (s77 e).stays hM.1 hlow, fun e => (s78 e).stays hM.1 hlow, trivial⟩
          · refine ⟨?_, ?_, ?_, ?_, ?_, ?_, ?_, ?_, ?_, ?_, ?_, ?_, ?_, ?_, trivial⟩
            · intro l a w K hbf haf hun hS hF hK
              have g9 : a.tmps[9]? = some (.pointer (some ⟨g, 0, none⟩)) := unfed hF 9 (by kernel_rfl) (by kernel_rfl) rfl
              exact op_value rfl (wanted_none rfl) (run_move' (v := .pointer (some ⟨g, 0, none⟩)) rfl (eval_of g9) w) (hK _ w (Moved.refl _ _ w) (hS.same (by decide) (by decide)) (says_exact 67 rfl (by simp)))
            · intro l a w K hbf haf hun hS hF hK
              have g1 : a.tmps[1]? = some (.slice (some ⟨gb, o, none⟩) ls.length c1) := unfed hF 1 (by kernel_rfl) (by kernel_rfl) rfl
              exact op_value rfl (wanted_none rfl) (run_move' (v := .slice (some ⟨gb, o, none⟩) ls.length c1) rfl (eval_of g1) w) (hK _ w (Moved.refl _ _ w) (hS.same (by decide) (by decide)) (says_exact 68 rfl (by simp)))
            · intro l a w K hbf haf hun hS hF hK
              have g12 : a.tmps[12]? = some (.int .i64 (k : Int)) := unfed hF 12 (by kernel_rfl) (by kernel_rfl) rfl
              exact op_value rfl (wanted_none rfl) (run_move' (v := .int .i64 (k : Int)) rfl (eval_of g12) w) (hK _ w (Moved.refl _ _ w) (hS.same (by decide) (by decide)) (says_exact 69 rfl (by simp)))
            · intro l a w K hbf haf hun hS hF hK
              have g68 := fedX hF 68 (.slice (some ⟨gb, o, none⟩) ls.length c1) (by kernel_rfl) (by kernel_rfl) rfl
              have g69 := fedX hF 69 (.int .i64 (k : Int)) (by kernel_rfl) (by kernel_rfl) rfl
              exact op_value (v := .pointer (some ⟨gb, o + k, none⟩)) rfl (wanted_none rfl) (by simp [go_sem, g68, g69, hkl, hk0]) (hK _ w (Moved.refl _ _ w) (hS.same (by decide) (by decide)) (says_exact 70 rfl (by simp)))
            · intro l a w K hbf haf hun hS hF hK
              have g70 := fedX hF 70 (.pointer (some ⟨gb, o + k, none⟩)) (by kernel_rfl) (by kernel_rfl) rfl
              have hA := hS.either (hbf 12 (by kernel_rfl))
              have hc := (hA.cell (p := ⟨gb, o + k, none⟩) hgw).trans hcx
              exact op_value (v := .int .u8 (z.toNat : Int)) rfl (wanted_none rfl) (by simp [go_sem, g70, hc]) (hK _ w (Moved.refl _ _ w) (hS.same (by decide) (by decide)) (says_exact 71 rfl (by simp)))
            · intro l a w K hbf haf hun hS hF hK
              have g71 := fedX hF 71 (.int .u8 (z.toNat : Int)) (by kernel_rfl) (by kernel_rfl) rfl
              exact op_value (v := .int .i64 (z.toNat : Int)) rfl (wanted_none rfl) (by simp [go_sem, g71, hzw]) (hK _ w (Moved.refl _ _ w) (hS.same (by decide) (by decide)) (says_exact 72 rfl (by simp)))
            · intro l a w K hbf haf hun hS hF hK
              have g8 : a.tmps[8]? = some (.int .i64 (fs.length : Int)) := unfed hF 8 (by kernel_rfl) (by kernel_rfl) rfl
              exact op_value rfl (wanted_none rfl) (run_move' (v := .int .i64 (fs.length : Int)) rfl (eval_of g8) w) (hK _ w (Moved.refl _ _ w) (hS.same (by decide) (by decide)) (says_exact 73 rfl (by simp)))
            · intro l a w K hbf haf hun hS hF hK
              have g72 := fedX hF 72 (.int .i64 (z.toNat : Int)) (by kernel_rfl) (by kernel_rfl) rfl
              have g73 := fedX hF 73 (.int .i64 (fs.length : Int)) (by kernel_rfl) (by kernel_rfl) rfl
              exact op_value (v := .int .i64 (j : Int)) rfl (wanted_none rfl) (by simp [go_sem, g72, g73, hjt, hn0, hjw]) (hK _ w (Moved.refl _ _ w) (hS.same (by decide) (by decide)) (says_exact 74 rfl (by simp)))
            · intro l a w K hbf haf hun hS hF hK
              have g12 : a.tmps[12]? = some (.int .i64 (k : Int)) := unfed hF 12 (by kernel_rfl) (by kernel_rfl) rfl
              exact op_value rfl (wanted_none rfl) (run_move' (v := .int .i64 (k : Int)) rfl (eval_of g12) w) (hK _ w (Moved.refl _ _ w) (hS.same (by decide) (by decide)) (says_exact 75 rfl (by simp)))
            · intro l a w K hbf haf hun hS hF hK
              have g75 := fedX hF 75 (.int .i64 (k : Int)) (by kernel_rfl) (by kernel_rfl) rfl
              exact op_value (v := .int .u8 (k : Int)) rfl (wanted_none rfl) (by simp [go_sem, g75, hkw]) (hK _ w (Moved.refl _ _ w) (hS.same (by decide) (by decide)) (says_exact 76 rfl (by simp)))
            · intro l a w K hbf haf hun hS hF hK
              have g76 := fedX hF 76 (.int .u8 (k : Int)) (by kernel_rfl) (by kernel_rfl) rfl
              have hA := hS.either (hbf 12 (by kernel_rfl))
              exact op_value (v := .slice (some ⟨w.heap.size, 0, none⟩) 2 2) (w' := w.alloc (.cells #[.int .u8 (k : Int), .int .u8 2] 5)) rfl (wanted_none rfl) (by simp [go_sem, g76]) (hK _ _ ⟨by simp, fun j hj _ => ((Below.refl _ w).alloc (Nat.le_refl _) _).block j hj⟩ (Staged.keepE (hA.alloc hA.size _) (hbf 12 (by kernel_rfl)) (by decide)) (says_special 77 rfl (by simp; exact ⟨rd_lit2 (x := k) (y := 2) (by omega) (by omega) (heap_alloc_last w _), fun b hb => by have hb' : some w.heap.size = some b := hb; injection hb' with e; have := hA.size; omega⟩)))
            · intro l a w K hbf haf hun hS hF hK
              obtain ⟨v77, g77, s770⟩ := fed hF 77 (by kernel_rfl) (by kernel_rfl)
              have s77 : FullV wr.heap.size [UInt8.ofNat k, UInt8.ofNat 2] v77 w := s770.2.1 rfl
              have hA := hS.either (hbf 12 (by kernel_rfl))
              refine op_call (g := 13) (args := #[v77, .bool false]) rfl (wanted_none rfl) (by simp [go_sem, g77]) ?_
              refine (full_any v77 [UInt8.ofNat k, UInt8.ofNat 2] false _ _ s77.1 (Nat.le_refl _)).mono ?_
              rintro e w9 ⟨v9, rfl, hr9, hv9, hb9⟩
              exact ⟨_, rfl, hK _ w9 ⟨hb9.size, fun k hk _ => hb9.block k hk⟩ (Staged.keepE (bthen hA hb9) (hbf 12 (by kernel_rfl)) (by decide)) (says_special 78 rfl (by simp; exact ⟨hr9, fun b hb => Nat.le_trans hA.size (hv9 b hb)⟩))⟩
            · intro l a w K hbf haf hun hS hF hK
              have g67 := fedX hF 67 (.pointer (some ⟨g, 0, none⟩)) (by kernel_rfl) (by kernel_rfl) rfl
              have g74 := fedX hF 74 (.int .i64 (j : Int)) (by kernel_rfl) (by kernel_rfl) rfl
              obtain ⟨v78, g78, s780⟩ := fed hF 78 (by kernel_rfl) (by kernel_rfl)
              have s78 : FullV wr.heap.size (fullL [UInt8.ofNat k, 2] false) v78 w := s780.2.2.1 rfl
              have hB := hS.either hun
              refine op_call (g := 12) (args := #[.pointer (some ⟨g, 0, none⟩), .int .i64 (j : Int), v78]) rfl (wanted_none rfl) (by simp [go_sem, g67, g74, g78]) ?_
              refine (write_reg HDK.out HBK.out.size hB (j : Int) v78 _ s78 (by rw [dG_waits]; omega)).mono ?_
              rintro e w9 ⟨rfl, hd9, hb9, hz9, hk9⟩
              rw [HE.out]
              exact ⟨_, rfl, hK _ w9 ⟨hz9, fun k hk hn => hk9 k hk (by omega)⟩ (Staged.toLast ⟨hd9, hb9⟩) (says_exact 79 rfl (by simp))⟩
            · intro l a w K hbf haf hun hS hF hK
              have g79 := fedX hF 79 (.int .i64 0) (by kernel_rfl) (by kernel_rfl) rfl
              exact op_value (v := .bool false) rfl (wanted_none rfl) (by simp [go_sem, g79]) (hK _ w (Moved.refl _ _ w) (hS.same (by decide) (by decide)) (says_exact 80 rfl (by simp)))
          · intro l fv_ w hl hS hf
            have hC := hS.last (hl 12 (by simp))
            have f67 : fv_ 67 = .pointer (some ⟨g, 0, none⟩) := (hf 67 (by simp)).1 _ rfl
            have f68 : fv_ 68 = .slice (some ⟨gb, o, none⟩) ls.length c1 := (hf 68 (by simp)).1 _ rfl
            have f69 : fv_ 69 = .int .i64 (k : Int) := (hf 69 (by simp)).1 _ rfl
            have f70 : fv_ 70 = .pointer (some ⟨gb, o + k, none⟩) := (hf 70 (by simp)).1 _ rfl
            have f71 : fv_ 71 = .int .u8 (z.toNat : Int) := (hf 71 (by simp)).1 _ rfl
            have f72 : fv_ 72 = .int .i64 (z.toNat : Int) := (hf 72 (by simp)).1 _ rfl
            have f73 : fv_ 73 = .int .i64 (fs.length : Int) := (hf 73 (by simp)).1 _ rfl
            have f74 : fv_ 74 = .int .i64 (j : Int) := (hf 74 (by simp)).1 _ rfl
            have f75 : fv_ 75 = .int .i64 (k : Int) := (hf 75 (by simp)).1 _ rfl
            have f76 : fv_ 76 = .int .u8 (k : Int) := (hf 76 (by simp)).1 _ rfl
            have f77 : FullV wr.heap.size [UInt8.ofNat k, UInt8.ofNat 2] (fv_ 77) w := (hf 77 (by simp)).2.1 rfl
            have f78 : FullV wr.heap.size (fullL [UInt8.ofNat k, 2] false) (fv_ 78) w := (hf 78 (by simp)).2.2.1 rfl
            have f79 : fv_ 79 = .int .i64 0 := (hf 79 (by simp)).1 _ rfl
            have f80 : fv_ 80 = .bool false := (hf 80 (by simp)).1 _ rfl
            simp only [putAll, List.foldl_cons, List.foldl_nil, List.setIfInBounds_toArray, List.set_cons_succ, List.set_cons_zero, f67, f68, f69, f70, f71, f72, f73, f74, f75, f76, f79, f80]
            clear f67 f68 f69 f70 f71 f72 f73 f74 f75 f76 f79 f80 hf
            clear f77 f78
            obtain ⟨hd5, hb5⟩ := hC
            rw [HSUC.out] at hd5
            have HD5 := Lib.hid hd5
            have HB5 := Lib.hid (HBK.out.trans hb5)
            clear hd5 hb5 hcx hjt hjw hzw hkw
            go_wp2
            go_roundw
            case rel => exact ⟨k + 1, by omega, by go_num, HD5.out, HB5.out⟩
            case measure => simp [intOf]; omega
        · obtain rfl : k = ls.length := by omega
          clear hge hk
          go_wp2_with fail
          refine (waits_any HDK.out).mono ?_
          rintro e w3' ⟨rfl, rfl⟩
          rw [dG_waits]
          go_wp2_with fail
          obtain ⟨pn, hcr⟩ := crash_at_big HDK.out HBK.out.size _ ps ((HR3.out.below HBK.out).mono HBK.out.size) (by rw [dG_waits]; omega)
          refine hcr.mono ?_
          clear hcr
          rintro e w4 ⟨rfl, ⟨M3, _, hd4⟩, hb4⟩
          have hcn := dC_N fs ls (ps.take pn)
          generalize crashN (dG (LF fs) (tG ls fs.length) ls.length) (ps.take pn) = q at *
          have hcq : decide (ls.length < q) = false := by simp; omega
          have hcq' : ¬ ls.length < q := by omega
          clear hcn
          have HD4 := Lib.hid (show DiskB w1.heap.size w4 g (dC fs ls (ps.take pn)) M3 from hd4)
          have HB4 := Lib.hid (HBK.out.trans hb4)
          clear hd4 hb4
          go_wp2
          clear hcq hcq'
          go_loopw [13] (fun t wr => ∃ i : Nat, i ≤ fs.length ∧ t = .int .i64 i ∧ DiskB w1.heap.size wr g (dC fs ls (ps.take pn)) M3 ∧ Below w1.heap.size w1 wr) (fun t _ => fs.length - (intOf t).toNat)
          case atStart => exact ⟨0, Nat.zero_le _, rfl, HD4.out, HB4.out⟩
          case round =>
            obtain ⟨i, hi, rfl, hd, hb⟩ := hrel
            have HDK := Lib.hid hd
            have HBK := Lib.hid hb
            clear hd hb
            rcases Nat.lt_or_ge i fs.length with hlt | hge
            · have hlt' : (i : Int) < (fs.length : Int) := by omega
              obtain ⟨s, x0, x1, hrd, hsl, hs0, hs1, hfin⟩ := dC_read (ps := ps.take pn) hlt hm
              have HRD := Lib.hid (show readD (dC fs ls (ps.take pn)) i = s ∧ s.length = 128 ∧ s[0]? = some x0 ∧ s[1]? = some x1 from ⟨hrd, hsl, hs0, hs1⟩)
              have HFIN := Lib.hid (show (x0 = fs.getD i 0 ∧ x1 = 1) ∨ ∃ K, K < ls.length ∧ hitP fs.length ls ps i x0 x1 K from hfin.imp id fun ⟨K, h1, h2, h3⟩ => ⟨K, h1, pickB_take h2, h3⟩)
              clear hrd hsl hs0 hs1 hfin
              go_wp2_with fail
              refine (read_in HDK.out i (dC_up hlt)).mono ?_
              rintro e w5 ⟨v5, rfl, ho5, hb5⟩
              rw [HRD.out.1, HRD.out.2.1] at ho5
              obtain ⟨b5, c5, hv5, _, hbl5⟩ := ho5.form (by omega)
              subst hv5
              have hx0 := own_nth ho5 HRD.out.2.2.1
              have hx1 := own_nth ho5 HRD.out.2.2.2
              have hx : fs[i]? = some fs[i] := List.getElem?_eq_getElem hlt
              have HY := Lib.hid (show fs.getD i 0 = fs[i] by rw [List.getD_eq_getElem?_getD, hx]; rfl)
              obtain ⟨gb, o, rfl, hgb, hc⟩ := HR1.out.open_ (by intro e; have := bv_length fs; rw [e] at this; simp at this; omega)
              have HD5 := Lib.hid (HDK.out.below hb5)
              have HB5 := Lib.hid (HBK.out.trans (hb5.mono HBK.out.size))
              have hcx := (HB5.out.cell (p := ⟨gb, o + i, none⟩) hgb).trans (hc _ _ (bv_get hx))
              clear ho5 hb5 hx hc
              generalize fs[i] = y at *
              obtain ⟨wx, rfl⟩ : ∃ wx, wx = w5 := ⟨_, rfl⟩
              have hxl0 : x0.toNat < 256 := x0.toNat_lt
              have hxl1 : x1.toNat < 256 := x1.toNat_lt
              by_cases hq : x0 = y
              · have hq' : ((x0.toNat : Int) == (y.toNat : Int)) = true := by rw [hq]; simp
                have HST := Lib.hid (show x0 = fs.getD i 0 ∧ x1 = 1 → ((x1.toNat : Int) == 1) = true from fun e => by rw [e.2]; rfl)
                clear hq
                go_wp2_with fail
                go_quiet (fail)
                have hy0 : (wx.drewN nq).cell? ⟨b5, 0, none⟩ = some (.int .u8 (x0.toNat : Int)) := hx0
                have hy1 : (wx.drewN nq).cell? ⟨b5, 1, none⟩ = some (.int .u8 (x1.toNat : Int)) := hx1
                have hb6 : Below wx.heap.size wx (wx.drewN nq) := below_of_drewN wx nq _
                have HD6 := Lib.hid (HD5.out.below hb6)
                have HB6 := Lib.hid (HB5.out.trans (hb6.mono HB5.out.size))
                clear hx0 hx1 hcx hb6 hq' HD5 HB5
                generalize wx.drewN nq = wz at *

                go_wp2
                go_loopw [16, 17] (fun f t wy => ∃ (b : Bool) (k : Nat), k ≤ ls.length ∧ f = .bool b ∧ t = .int .i64 k ∧ wy = wz ∧ (x0 = fs.getD i 0 ∧ x1 = 1 → b = true) ∧ (∀ K, K < k → hitP fs.length ls ps i x0 x1 K → b = true)) (fun _ t _ => ls.length - (intOf t).toNat)
                case atStart => exact ⟨_, 0, Nat.zero_le _, rfl, rfl, rfl, HST.out, fun K hK => by omega⟩
                case round =>
                  obtain ⟨b, k, hk, rfl, rfl, rfl, hb1, hb2⟩ := hrel
                  have HH1 := Lib.hid hb1
                  have HH2 := Lib.hid hb2
                  clear hb1 hb2
                  rcases Nat.lt_or_ge k ls.length with hkl | hge
                  · have hkl' : (k : Int) < (ls.length : Int) := by omega
                    have hk30 : k < 30 := by omega
                    cases b with
                    | true =>
                      go_wp2
                      go_roundw
                      case rel => exact ⟨true, k + 1, by omega, rfl, by go_num, trivial, fun _ => rfl, fun _ _ _ => rfl⟩
                      case measure => simp [intOf]; omega
                    | false =>
                      have hx : ls[k]? = some ls[k] := List.getElem?_eq_getElem hkl
                      have HZ := Lib.hid (show ls.getD k 0 = ls[k] by rw [List.getD_eq_getElem?_getD, hx]; rfl)
                      obtain ⟨gl, ol, rfl, hgl, hcl⟩ := HR2.out.open_ (by intro e; have := bv_length ls; rw [e] at this; simp at this; omega)
                      have hcz := ((HB6.out.cell (p := ⟨gl, ol + k, none⟩) hgl)).trans (hcl _ _ (bv_get hx))
                      clear hx hcl
                      generalize ls[k] = z at *
                      have hzl : z.toNat < 256 := z.toNat_lt
                      obtain ⟨j, hj⟩ : ∃ j : Nat, j = z.toNat % fs.length := ⟨_, rfl⟩
                      have hjt : (z.toNat : Int).tmod (fs.length : Int) = (j : Int) := by rw [hj]; rfl
                      have hjl : j < fs.length := by rw [hj]; exact Nat.mod_lt _ (by omega)
                      have HJ := Lib.hid hj
                      have HJT := Lib.hid hjt
                      clear hj hjt
                      by_cases ha : j = i
                      · have ha' : ((j : Int) == (i : Int)) = true := by rw [beq_iff_eq]; omega
                        by_cases hb : x0.toNat = k
                        · have hb' : ((x0.toNat : Int) == (k : Int)) = true := by rw [beq_iff_eq]; omega
                          by_cases hc : x1.toNat = 2
                          · have hc' : ((x1.toNat : Int) == 2) = true := by rw [beq_iff_eq]; omega
                            by_cases hd : k / 8 < ps.length
                            · have hd' : (k : Int) / 8 < (ps.length : Int) := by omega
                              have hp : ps[k / 8]? = some ps[k / 8] := List.getElem?_eq_getElem hd
                              have HPB := Lib.hid (pickB_at hp)
                              have hpl : ps[k / 8].toNat < 256 := ps[k / 8].toNat_lt
                              have hid0 : (0 : Int) ≤ (k : Int) / 8 := by omega
                              have hidn : ((k : Int) / 8).toNat = k / 8 := by omega
                              obtain ⟨gp, op, rfl, hgp, hcp⟩ := HR3.out.open_ (by intro e; have := bv_length ps; rw [e] at this; simp at this; omega)
                              have hcq := ((HB6.out.cell (p := ⟨gp, op + k / 8, none⟩) hgp)).trans (hcp _ _ (bv_get hp))
                              clear hp hcp ha hb hc
                              generalize ps[k / 8] = y at *
                              have hbit := bits_pick y k
                              cases hbv : bitV y k with
                              | true =>
                                rw [hbv] at hbit
                                have HPV := Lib.hid (HPB.out.trans hbv)
                                clear hbv
                                have hjt := HJT.out
                                go_wp2
                                go_roundw
                                case rel => exact ⟨true, k + 1, by omega, rfl, by go_num, trivial, fun _ => rfl, fun _ _ _ => rfl⟩
                                case measure => simp [intOf]; omega
                              | false =>
                                rw [hbv] at hbit
                                have HPV := Lib.hid (HPB.out.trans hbv)
                                have HNO := Lib.hid (show ¬ hitP fs.length ls ps i x0 x1 k from fun e => by have := e.1; rw [HPV.out] at this; cases this)
                                clear hbv
                                have hjt := HJT.out
                                go_wp2
                                clear hjt
                                go_roundw
                                case rel => exact ⟨false, k + 1, by omega, rfl, by go_num, trivial, HH1.out, fun K hK h => by rcases Nat.eq_or_lt_of_le (Nat.le_of_lt_succ hK) with e | e; subst e; exact absurd h HNO.out; exact HH2.out K e h⟩
                                case measure => simp [intOf]; omega
                            · have hd' : decide ((k : Int) / 8 < (ps.length : Int)) = false := by simp; omega
                              have HNO := Lib.hid (show ¬ hitP fs.length ls ps i x0 x1 k from fun e => by have := e.1; rw [pickB_out (by omega)] at this; cases this)
                              clear ha hb hc
                              have hjt := HJT.out
                              go_wp2
                              clear hjt
                              go_roundw
                              case rel => exact ⟨false, k + 1, by omega, rfl, by go_num, trivial, HH1.out, fun K hK h => by rcases Nat.eq_or_lt_of_le (Nat.le_of_lt_succ hK) with e | e; subst e; exact absurd h HNO.out; exact HH2.out K e h⟩
                              case measure => simp [intOf]; omega
                          · have hc' : ((x1.toNat : Int) == 2) = false := by rw [beq_eq_false_iff_ne]; omega
                            have HNO := Lib.hid (show ¬ hitP fs.length ls ps i x0 x1 k from fun e => hc e.2.2.2)
                            clear ha hb
                            have hjt := HJT.out
                            go_wp2
                            clear hjt
                            go_roundw
                            case rel => exact ⟨false, k + 1, by omega, rfl, by go_num, trivial, HH1.out, fun K hK h => by rcases Nat.eq_or_lt_of_le (Nat.le_of_lt_succ hK) with e | e; subst e; exact absurd h HNO.out; exact HH2.out K e h⟩
                            case measure => simp [intOf]; omega
                        · have hb' : ((x0.toNat : Int) == (k : Int)) = false := by rw [beq_eq_false_iff_ne]; omega
                          have HNO := Lib.hid (show ¬ hitP fs.length ls ps i x0 x1 k from fun e => hb e.2.2.1)
                          clear ha
                          have hjt := HJT.out
                          go_wp2
                          clear hjt
                          go_roundw
                          case rel => exact ⟨false, k + 1, by omega, rfl, by go_num, trivial, HH1.out, fun K hK h => by rcases Nat.eq_or_lt_of_le (Nat.le_of_lt_succ hK) with e | e; subst e; exact absurd h HNO.out; exact HH2.out K e h⟩
                          case measure => simp [intOf]; omega
                      · have ha' : ((j : Int) == (i : Int)) = false := by rw [beq_eq_false_iff_ne]; omega
                        have HNO := Lib.hid (show ¬ hitP fs.length ls ps i x0 x1 k from fun e => ha (by have := e.2.1; rw [HZ.out] at this; rw [HJ.out]; exact this))
                        have hjt := HJT.out
                        go_wp2
                        clear hjt
                        go_roundw
                        case rel => exact ⟨false, k + 1, by omega, rfl, by go_num, trivial, HH1.out, fun K hK h => by rcases Nat.eq_or_lt_of_le (Nat.le_of_lt_succ hK) with e | e; subst e; exact absurd h HNO.out; exact HH2.out K e h⟩
                        case measure => simp [intOf]; omega
                  · obtain rfl : k = ls.length := by omega
                    obtain rfl : b = true := HFIN.out.elim HH1.out (fun ⟨K, hK, h⟩ => HH2.out K hK h)
                    go_wp2
                    go_roundw
                    case rel => exact ⟨i + 1, by omega, by go_num, HD6.out, HB6.out⟩
                    case measure => simp [intOf]; omega
              · have hq' : ((x0.toNat : Int) == (y.toNat : Int)) = false := by rw [beq_eq_false_iff_ne]; intro e; exact hq (UInt8.toNat_inj.1 (by omega))
                have HST := Lib.hid (show x0 = fs.getD i 0 ∧ x1 = 1 → false = true from fun e => absurd (e.1.trans HY.out) hq)
                clear hq
                go_wp2_with fail
                go_quiet (fail)
                have hy0 : (wx.drewN nq).cell? ⟨b5, 0, none⟩ = some (.int .u8 (x0.toNat : Int)) := hx0
                have hy1 : (wx.drewN nq).cell? ⟨b5, 1, none⟩ = some (.int .u8 (x1.toNat : Int)) := hx1
                have hb6 : Below wx.heap.size wx (wx.drewN nq) := below_of_drewN wx nq _
                have HD6 := Lib.hid (HD5.out.below hb6)
                have HB6 := Lib.hid (HB5.out.trans (hb6.mono HB5.out.size))
                clear hx0 hx1 hcx hb6 hq' HD5 HB5
                generalize wx.drewN nq = wz at *

                go_wp2
                go_loopw [16, 17] (fun f t wy => ∃ (b : Bool) (k : Nat), k ≤ ls.length ∧ f = .bool b ∧ t = .int .i64 k ∧ wy = wz ∧ (x0 = fs.getD i 0 ∧ x1 = 1 → b = true) ∧ (∀ K, K < k → hitP fs.length ls ps i x0 x1 K → b = true)) (fun _ t _ => ls.length - (intOf t).toNat)
                case atStart => exact ⟨_, 0, Nat.zero_le _, rfl, rfl, rfl, HST.out, fun K hK => by omega⟩
                case round =>
                  obtain ⟨b, k, hk, rfl, rfl, rfl, hb1, hb2⟩ := hrel
                  have HH1 := Lib.hid hb1
                  have HH2 := Lib.hid hb2
                  clear hb1 hb2
                  rcases Nat.lt_or_ge k ls.length with hkl | hge
                  · have hkl' : (k : Int) < (ls.length : Int) := by omega
                    have hk30 : k < 30 := by omega
                    cases b with
                    | true =>
                      go_wp2
                      go_roundw
                      case rel => exact ⟨true, k + 1, by omega, rfl, by go_num, trivial, fun _ => rfl, fun _ _ _ => rfl⟩
                      case measure => simp [intOf]; omega
                    | false =>
                      have hx : ls[k]? = some ls[k] := List.getElem?_eq_getElem hkl
                      have HZ := Lib.hid (show ls.getD k 0 = ls[k] by rw [List.getD_eq_getElem?_getD, hx]; rfl)
                      obtain ⟨gl, ol, rfl, hgl, hcl⟩ := HR2.out.open_ (by intro e; have := bv_length ls; rw [e] at this; simp at this; omega)
                      have hcz := ((HB6.out.cell (p := ⟨gl, ol + k, none⟩) hgl)).trans (hcl _ _ (bv_get hx))
                      clear hx hcl
                      generalize ls[k] = z at *
                      have hzl : z.toNat < 256 := z.toNat_lt
                      obtain ⟨j, hj⟩ : ∃ j : Nat, j = z.toNat % fs.length := ⟨_, rfl⟩
                      have hjt : (z.toNat : Int).tmod (fs.length : Int) = (j : Int) := by rw [hj]; rfl
                      have hjl : j < fs.length := by rw [hj]; exact Nat.mod_lt _ (by omega)
                      have HJ := Lib.hid hj
                      have HJT := Lib.hid hjt
                      clear hj hjt
                      by_cases ha : j = i
                      · have ha' : ((j : Int) == (i : Int)) = true := by rw [beq_iff_eq]; omega
                        by_cases hb : x0.toNat = k
                        · have hb' : ((x0.toNat : Int) == (k : Int)) = true := by rw [beq_iff_eq]; omega
                          by_cases hc : x1.toNat = 2
                          · have hc' : ((x1.toNat : Int) == 2) = true := by rw [beq_iff_eq]; omega
                            by_cases hd : k / 8 < ps.length
                            · have hd' : (k : Int) / 8 < (ps.length : Int) := by omega
                              have hp : ps[k / 8]? = some ps[k / 8] := List.getElem?_eq_getElem hd
                              have HPB := Lib.hid (pickB_at hp)
                              have hpl : ps[k / 8].toNat < 256 := ps[k / 8].toNat_lt
                              have hid0 : (0 : Int) ≤ (k : Int) / 8 := by omega
                              have hidn : ((k : Int) / 8).toNat = k / 8 := by omega
                              obtain ⟨gp, op, rfl, hgp, hcp⟩ := HR3.out.open_ (by intro e; have := bv_length ps; rw [e] at this; simp at this; omega)
                              have hcq := ((HB6.out.cell (p := ⟨gp, op + k / 8, none⟩) hgp)).trans (hcp _ _ (bv_get hp))
                              clear hp hcp ha hb hc
                              generalize ps[k / 8] = y at *
                              have hbit := bits_pick y k
                              cases hbv : bitV y k with
                              | true =>
                                rw [hbv] at hbit
                                have HPV := Lib.hid (HPB.out.trans hbv)
                                clear hbv
                                have hjt := HJT.out
                                go_wp2
                                go_roundw
                                case rel => exact ⟨true, k + 1, by omega, rfl, by go_num, trivial, fun _ => rfl, fun _ _ _ => rfl⟩
                                case measure => simp [intOf]; omega
                              | false =>
                                rw [hbv] at hbit
                                have HPV := Lib.hid (HPB.out.trans hbv)
                                have HNO := Lib.hid (show ¬ hitP fs.length ls ps i x0 x1 k from fun e => by have := e.1; rw [HPV.out] at this; cases this)
                                clear hbv
                                have hjt := HJT.out
                                go_wp2
                                clear hjt
                                go_roundw
                                case rel => exact ⟨false, k + 1, by omega, rfl, by go_num, trivial, HH1.out, fun K hK h => by rcases Nat.eq_or_lt_of_le (Nat.le_of_lt_succ hK) with e | e; subst e; exact absurd h HNO.out; exact HH2.out K e h⟩
                                case measure => simp [intOf]; omega
                            · have hd' : decide ((k : Int) / 8 < (ps.length : Int)) = false := by simp; omega
                              have HNO := Lib.hid (show ¬ hitP fs.length ls ps i x0 x1 k from fun e => by have := e.1; rw [pickB_out (by omega)] at this; cases this)
                              clear ha hb hc
                              have hjt := HJT.out
                              go_wp2
                              clear hjt
                              go_roundw
                              case rel => exact ⟨false, k + 1, by omega, rfl, by go_num, trivial, HH1.out, fun K hK h => by rcases Nat.eq_or_lt_of_le (Nat.le_of_lt_succ hK) with e | e; subst e; exact absurd h HNO.out; exact HH2.out K e h⟩
                              case measure => simp [intOf]; omega
                          · have hc' : ((x1.toNat : Int) == 2) = false := by rw [beq_eq_false_iff_ne]; omega
                            have HNO := Lib.hid (show ¬ hitP fs.length ls ps i x0 x1 k from fun e => hc e.2.2.2)
                            clear ha hb
                            have hjt := HJT.out
                            go_wp2
                            clear hjt
                            go_roundw
                            case rel => exact ⟨false, k + 1, by omega, rfl, by go_num, trivial, HH1.out, fun K hK h => by rcases Nat.eq_or_lt_of_le (Nat.le_of_lt_succ hK) with e | e; subst e; exact absurd h HNO.out; exact HH2.out K e h⟩
                            case measure => simp [intOf]; omega
                        · have hb' : ((x0.toNat : Int) == (k : Int)) = false := by rw [beq_eq_false_iff_ne]; omega
                          have HNO := Lib.hid (show ¬ hitP fs.length ls ps i x0 x1 k from fun e => hb e.2.2.1)
                          clear ha
                          have hjt := HJT.out
                          go_wp2
                          clear hjt
                          go_roundw
                          case rel => exact ⟨false, k + 1, by omega, rfl, by go_num, trivial, HH1.out, fun K hK h => by rcases Nat.eq_or_lt_of_le (Nat.le_of_lt_succ hK) with e | e; subst e; exact absurd h HNO.out; exact HH2.out K e h⟩
                          case measure => simp [intOf]; omega
                      · have ha' : ((j : Int) == (i : Int)) = false := by rw [beq_eq_false_iff_ne]; omega
                        have HNO := Lib.hid (show ¬ hitP fs.length ls ps i x0 x1 k from fun e => ha (by have := e.2.1; rw [HZ.out] at this; rw [HJ.out]; exact this))
                        have hjt := HJT.out
                        go_wp2
                        clear hjt
                        go_roundw
                        case rel => exact ⟨false, k + 1, by omega, rfl, by go_num, trivial, HH1.out, fun K hK h => by rcases Nat.eq_or_lt_of_le (Nat.le_of_lt_succ hK) with e | e; subst e; exact absurd h HNO.out; exact HH2.out K e h⟩
                        case measure => simp [intOf]; omega
                  · obtain rfl : k = ls.length := by omega
                    obtain rfl : b = true := HFIN.out.elim HH1.out (fun ⟨K, hK, h⟩ => HH2.out K hK h)
                    go_wp2
                    go_roundw
                    case rel => exact ⟨i + 1, by omega, by go_num, HD6.out, HB6.out⟩
                    case measure => simp [intOf]; omega
            · obtain rfl : i = fs.length := by omega
              go_wp2_with fail
              refine (waits_any HDK.out).mono ?_
              rintro e w5' ⟨rfl, rfl⟩
              rw [dC_waits]
              go_wp2
              go_ret
              exact ⟨rfl, bthen HB1.out HBK.out⟩

theorem law_any (v1 : Value) (fs : List UInt8) (v2 : Value) (ls : List UInt8) (v3 : Value) (ps : List UInt8) (w : World) (h1 : Rd w w.heap.size v1 (bv fs)) (h2 : Rd w w.heap.size v2 (bv ls)) (h3 : Rd w w.heap.size v3 (bv ps)) : Calls Try.prog 5 #[v1, v2, v3] w (Yes w) := by
  rcases Nat.eq_zero_or_pos fs.length with h | h
  · exact long1 v1 v2 v3 fs ls ps w h1 h2 h3 h
  · rcases Nat.lt_or_ge 12 fs.length with h12 | h12
    · exact long2 v1 v2 v3 fs ls ps w h1 h2 h3 h12
    · rcases Nat.lt_or_ge 30 ls.length with h30 | h30
      · exact long3 v1 v2 v3 fs ls ps w h1 h2 h3 h h12 h30
      · exact short v1 v2 v3 fs ls ps w h1 h2 h3 h h12 h30

end Go.Proofs.Ytcbdlggjpedffaa.diskSure
