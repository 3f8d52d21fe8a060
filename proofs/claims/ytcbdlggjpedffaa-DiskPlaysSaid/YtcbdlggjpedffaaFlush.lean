/- 'Flush' of a disk: all that waits is sure; or an error. Condition: the map has room for what waits. -/
import Derived.Test.YtcbdlggjpedffaaWrite
namespace Go.Proofs.Ytcbdlggjpedffaa
open Go.RowKit Go.Maps
set_option linter.unusedSimpArgs false

theorem flush_nil (w : World) : Calls Try.prog 18 #[.pointer none] w fun e w' => e = .returned (.int .i64 1) ∧ w' = w := by
  go_enter Try.func18, Try.ntmps18
  go_wp2_with fail
  refine (up_nil _ _).mono ?_
  rintro e w' ⟨rfl, rfl⟩
  go_wp2
  go_ret
  exact ⟨rfl, rfl⟩

theorem flush_up {F : Nat → Prop} {w : World} {g : Nat} {d : DK} {M : Nat} (h : DiskHas F w g d M) (he : upE d 0 ≠ 0) :
    Calls Try.prog 18 #[.pointer (some ⟨g, 0, none⟩)] w fun e w' => e = .returned (.int .i64 (upE d 0)) ∧ w' = w := by
  have hb : (upE d 0 != 0) = true := by simpa using he
  have HE := Lib.hid he
  clear he
  go_enter Try.func18, Try.ntmps18
  go_wp2_with fail
  refine (up_any h _).mono ?_
  rintro e w' ⟨rfl, rfl⟩
  go_wp2
  go_ret
  exact ⟨rfl, rfl⟩

def FlushPost (F : Nat → Prop) (w : World) (g : Nat) (d : DK) (M : Nat) (err : Int) (e : Ending) (w' : World) : Prop := e = .returned (.int .i64 err) ∧ DiskHas F w' g d M ∧ Kept F w w'

theorem flush_stops {F : Nat → Prop} {w : World} {g : Nat} {d : DK} {M : Nat} (h : DiskHas F w g d M) (he : upE d 0 = 0) (hc : countE d ≠ 0) :
    Calls Try.prog 18 #[.pointer (some ⟨g, 0, none⟩)] w (FlushPost F w g (countD d) M (countE d)) := by
  have hb : (countE d != 0) = true := by simpa using hc
  have hup := up_any h 0
  rw [he] at hup
  have HUP := Lib.hid hup
  obtain ⟨mb, sv, h⟩ := h
  have HH := Lib.hid h
  have HC := Lib.hid hc
  clear he hup hc h
  go_enter Try.func18, Try.ntmps18
  go_wp2_with fail
  refine HUP.out.mono ?_
  rintro e wq ⟨rfl, rfl⟩
  go_wp2_with fail
  refine (counts_any HH.out).mono ?_
  rintro e w1 ⟨rfl, h1, hk1⟩
  have H1 := Lib.hid (show FlushPost F wq g (countD d) M (countE d) (.returned (.int .i64 (countE d))) w1 from ⟨rfl, ⟨mb, sv, h1⟩, hk1⟩)
  clear h1 hk1
  go_wp2
  go_ret
  exact H1.out

/-! ### a write that is laid -/
theorem laidL_snoc (ws : List Wt) (p : Wt) (L : List (List UInt8)) : laidL (ws ++ [p]) L = (laidL ws L).set p.1 p.2 := by simp [laidL]
theorem laidL_len (ws : List Wt) (L : List (List UInt8)) : (laidL ws L).length = L.length := by
  unfold laidL
  induction ws generalizing L with
  | nil => rfl
  | cons p ws ih => rw [List.foldl_cons, ih]; simp

theorem DiskIs.stored {F : Nat → Prop} {w w' : World} {g : Nat} {d : DK} {M mb : Nat} {sv : Value} (h : DiskIs F w g d M mb sv) {i : Nat} {s : List UInt8} (hs : s.length = 128) (ho : OwnM w' mb (M + 1) (d.L.set i s)) (hg : w.grownBy w' (some mb)) :
    DiskIs F w' g { d with L := d.L.set i s } (M + 1) mb sv := by
  have hk : ∀ k, k < w.heap.size → k ≠ mb → w'.heap[k]? = w.heap[k]? := fun k hk hne => hg.block k hk (fun e => hne (by injection e))
  refine ⟨?_, h.fg, ho, h.fm, ownsRow_on h.row (fun k e => hk k (own_lives h.row e) (h.mp.ne_own h.row e)), h.fr, ?_, ?_, ?_, h.lft⟩
  · rw [hk g h.glt (h.mp.ne_cells h.blk)]
    simpa using h.blk
  · intro t ht
    rcases List.mem_or_eq_of_mem_set ht with ht | ht
    · exact h.secs t ht
    · rw [ht]; exact hs
  · intro p hp
    simpa using h.wts p hp
  · simpa using h.big

theorem kept_grown {F : Nat → Prop} {w w' : World} {mb : Nat} (hg : w.grownBy w' (some mb)) (hF : F mb) : Kept F w w' :=
  ⟨hg.os, hg.tape, hg.output, hg.size, fun k hk hn => hg.block k hk (fun e => hn (by injection e with e; rw [e]; exact hF))⟩

theorem rangeAt_drew {w : World} {b o : Nat} {cs : List Value} (h : w.rangeAt b o cs) : w.drew.rangeAt b o cs := fun j v hv => h j v hv

set_option maxRecDepth 100000 in
set_option maxHeartbeats 1000000 in
theorem flush_in {F : Nat → Prop} {w : World} {g : Nat} {d0 : DK} {M : Nat} (h : DiskHas F w g d0 M) (hF : ∀ k, F k → k < w.heap.size) (he : upE d0 0 = 0) (hc : countE d0 = 0) (hM : M + d0.waits.length ≤ 1099511627776) :
    Calls Try.prog 18 #[.pointer (some ⟨g, 0, none⟩)] w (FlushPost F w g { countD d0 with L := laidL d0.waits d0.L, waits := [] } (M + d0.waits.length) 0) := by
  have hup := up_any h 0
  rw [he] at hup
  have HUP := Lib.hid hup
  obtain ⟨mb, sv, h⟩ := h
  have hcn := counts_any h
  rw [hc] at hcn
  have HCN := Lib.hid hcn
  have HM := Lib.hid hM
  have HF0 := Lib.hid hF
  clear he hup hc hcn h hM hF
  go_enter Try.func18, Try.ntmps18
  go_wp2_with fail
  refine HUP.out.mono ?_
  rintro e w00 ⟨rfl, rfl⟩
  clear HUP
  go_wp2_with fail
  refine HCN.out.mono ?_
  rintro e wq ⟨rfl, h1, hk1⟩
  have HD := Lib.hid h1
  have HKQ := Lib.hid hk1
  have HFQ := Lib.hid (fun k hk => Nat.lt_of_lt_of_le (HF0.out k hk) HKQ.out.size)
  have HMD := Lib.hid (show M + (countD d0).waits.length ≤ 1099511627776 by rw [countD_waits]; exact HM.out)
  have HFIN := Lib.hid (show ∀ w', DiskHas F w' g { countD d0 with L := laidL (countD d0).waits (countD d0).L, waits := [] } (M + (countD d0).waits.length) ∧ Kept F wq w' → FlushPost F w00 g { countD d0 with L := laidL d0.waits d0.L, waits := [] } (M + d0.waits.length) 0 (.returned (.int .i64 0)) w' from fun w' hh => ⟨rfl, by rw [countD_waits, countD_L] at hh; exact hh.1, HKQ.out.then hh.2⟩)
  clear h1 hk1 HCN HM HF0
  generalize hdd : countD d0 = d at *
  have HDD := Lib.hid hdd
  clear hdd
  obtain ⟨A, c, hsv⟩ := HD.out.form
  obtain ⟨_, _, c2, _, _⟩ := HD.out.cells
  rw [hsv] at c2
  subst hsv
  go_wp2
  go_loopw [22] (fun t wr => ∃ k : Nat, k ≤ d.waits.length ∧ t = .int .i64 k ∧ DiskIs F wr g { d with L := laidL (d.waits.take k) d.L } (M + k) mb (.slice A d.waits.length c) ∧ Kept F wq wr) (fun t _ => d.waits.length - (intOf t).toNat)
  case atStart => exact ⟨0, Nat.zero_le _, rfl, HD.out, Kept.refl _ _⟩
  case round =>
    clear c2
    obtain ⟨k, hk, rfl, hd, hkp⟩ := hrel
    have HDK := Lib.hid hd
    have HK := Lib.hid hkp
    have HW := Lib.hid (fun p hp => (HD.out.wts p hp).1)
    have hwm : (d.waits.length : Int) ≤ 9223372036854775807 := by have h1 := own_max HD.out.row; unfold maxLen at h1; omega
    clear hd hkp
    rcases Nat.lt_or_ge k d.waits.length with hlt | hge
    · have hlt' : (k : Int) < (d.waits.length : Int) := by omega
      have hp : d.waits[k]? = some d.waits[k] := List.getElem?_eq_getElem hlt
      have HTK := Lib.hid (show laidL (d.waits.take (k + 1)) d.L = (laidL (d.waits.take k) d.L).set d.waits[k].1 d.waits[k].2 by rw [List.take_succ_eq_append_getElem hlt, laidL_snoc])
      have HP := Lib.hid hp
      have HPL := Lib.hid ((HD.out.wts _ (List.getElem_mem hlt)).1)
      have HPI := Lib.hid ((HD.out.wts _ (List.getElem_mem hlt)).2)
      clear hp
      generalize d.waits[k] = p at *
      have hrow := HDK.out.row
      obtain ⟨gr, cr, hv, _, hgl⟩ := hrow.form (show 0 < d.waits.length by omega)
      injection hv with hv1 _ hv3
      subst hv1
      subst hv3
      have HRG := Lib.hid (rangeAt_of_own hrow HW.out HP.out)
      have HCW := Lib.hid (show (wcells (p.1 : Int) p.2).toArray.size = 129 by simp [wcells_length, HPL.out])
      clear hrow
      go_wp2_with (first
        | (refine wpList_load_mid rfl 66 (.tmp 24) rfl gr (k * 129) rfl (wcells (p.1 : Int) p.2) _ HRG.out Try.underlying66 rfl (by rw [Try.size66, wcells_length, HPL.out]) ?_)
        | (refine wpList_alloc_store rfl rfl 66 6 (.tmp 25) rfl rfl rfl rfl (wcells (p.1 : Int) p.2).toArray (Value.int .i64 0 :: bv zeroS).toArray (by simp [Act.put]) rfl (by rw [HCW.out]; exact Try.zero66) (by rw [HCW.out]; simp [bv_length, zeroS_length]) (all_one (wcells_one _ _)) ?_; have hb9 : Below wr.heap.size wr (wr.alloc (.cells (wcells (p.1 : Int) p.2).toArray 66)) := (Below.refl _ _).alloc (Nat.le_refl _) _; have hblk9 := heap_alloc_last wr (.cells (wcells (p.1 : Int) p.2).toArray 66); obtain ⟨w9, hw9⟩ : ∃ w9, w9 = wr.alloc (.cells (wcells (p.1 : Int) p.2).toArray 66) := ⟨_, rfl⟩; rw [← hw9] at hb9 hblk9 ⊢; have q0 : w9.cell? ⟨wr.heap.size, 0, none⟩ = some (.int .i64 (p.1 : Int)) := (by rw [cell_of_row w9 _ 0 _ 66 (0, 0) hblk9]; rfl); have HR9 := Lib.hid (show w9.rangeAt wr.heap.size 1 (bv p.2) from wcells_tail hblk9); have HD9 := Lib.hid (HDK.out.below hb9); have HK9 := Lib.hid (HK.out.then (Kept.of_below hb9)); have q1 := HD9.out.cells.2.1; clear hw9 hb9 hblk9))
      refine wp_region_still_tail 8 (by kernel_rfl) (by kernel_rfl) ?_
      simp only [List.take_succ_cons, List.take_zero, List.drop_succ_cons, List.drop_zero]
      iterate 7 still_step
      refine still_value (.agg (bv p.2).toArray) rfl (exec_load (w := w9.drew) (bv p.2) _ rfl rfl (rangeAt_drew HR9.out) Try.underlying64 rfl (by rw [Try.size64, bv_length, HPL.out])) ?_
      refine wpStill_nil ?_
      change wpList _ _ _ _ _ w9.drew
      obtain ⟨w10, hrun, hown, hgr⟩ := (HD9.out.mp.on (w' := w9.drew) rfl).store (i := p.1) p.2 (by have h1 := HPI.out; have h2 := HD.out.big.2; omega) (by have := HMD.out; unfold maxLen; omega)
      have HDN := Lib.hid (show DiskIs F w10 g { d with L := laidL (d.waits.take (k + 1)) d.L } (M + (k + 1)) mb (.slice (some ⟨gr, 0, none⟩) d.waits.length c) from by
        rw [HTK.out]
        exact (HD9.out.below (below_of_drewN w9 1 _)).stored HPL.out hown hgr)
      have HKN := Lib.hid (HK9.out.then ((Kept.of_below (below_of_drewN w9 1 _)).then (kept_grown hgr HD9.out.fm)))
      clear hown hgr q0 q1
      go_wp2
      go_roundw
      case rel => exact ⟨k + 1, by omega, by go_num, HDN.out, HKN.out⟩
      case measure => simp [intOf]; omega
    · obtain rfl : d.waits.length = k := by omega
      have hd := HDK.out
      rw [List.take_length] at hd
      have hz := hd.frozen 2
      obtain ⟨_, _, q2, _, _⟩ := hd.cells
      have HF2 := Lib.hid (show FlushPost F w00 g { d with L := laidL d0.waits d0.L, waits := [] } (M + d0.waits.length) 0 (.returned (.int .i64 0)) (wr.setCell ⟨g, 2, none⟩ (.slice none 0 0)) from HFIN.out _ ⟨⟨mb, _, hd.set_none⟩, HK.out.then (kept_set hd.fg _ _)⟩)
      clear hd hge hk
      go_wp2
      go_ret
      exact HF2.out

/-- 'Flush', whatever it is given -/
theorem flush_any {F : Nat → Prop} {w : World} {g : Nat} {d : DK} {M : Nat} (h : DiskHas F w g d M) (hM : M + d.waits.length ≤ 1099511627776) :
    Calls Try.prog 18 #[.pointer (some ⟨g, 0, none⟩)] w fun e w' => ∃ M', M' ≤ M + d.waits.length ∧ FlushPost F w g (flushD d) M' (flushE d) e w' := by
  by_cases he : upE d 0 = 0
  · by_cases hc : countE d = 0
    · have hw : flushD d = { countD d with L := laidL d.waits d.L, waits := [] } := by unfold flushD; rw [if_neg (by simp [he]), if_neg (by simp [hc])]
      have hE : flushE d = 0 := by unfold flushE; simp [he, hc]
      rw [hw, hE]
      refine (flush_in (F := fun k => F k ∧ k < w.heap.size) (h.mono fun k hk hF => ⟨hF, hk⟩) (fun k hk => hk.2) he hc hM).mono ?_
      rintro e w' ⟨rfl, hD, hK⟩
      exact ⟨_, Nat.le_refl _, rfl, hD.mono fun k _ hk => hk.1, hK.weak fun k hk => hk.1⟩
    · have hw : flushD d = countD d := by unfold flushD; rw [if_neg (by simp [he]), if_pos (by simp [hc])]
      have hE : flushE d = countE d := by unfold flushE; simp [he]
      rw [hw, hE]
      exact (flush_stops h he hc).mono fun e w' hh => ⟨M, by omega, hh⟩
  · have hw : flushD d = d := by unfold flushD; rw [if_pos he]
    have hE : flushE d = upE d 0 := by unfold flushE; simp [he]
    rw [hw, hE]
    refine (flush_up h he).mono ?_
    rintro e w' ⟨rfl, rfl⟩
    exact ⟨M, by omega, rfl, h, Kept.refl _ _⟩

end Go.Proofs.Ytcbdlggjpedffaa
