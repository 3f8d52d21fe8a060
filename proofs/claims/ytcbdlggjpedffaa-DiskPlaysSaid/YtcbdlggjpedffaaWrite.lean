/- 'Write' of a disk: one more write waits; or an error. Condition: at most 2^20 writes wait. -/
import Derived.Test.YtcbdlggjpedffaaRead
namespace Go.Proofs.Ytcbdlggjpedffaa
open Go.RowKit Go.Maps
set_option linter.unusedSimpArgs false

theorem write_nil (i : Int) (v : Value) (w : World) : Calls Try.prog 12 #[.pointer none, .int .i64 i, v] w fun e w' => e = .returned (.int .i64 1) ∧ w' = w := by
  go_enter Try.func12, Try.ntmps12
  go_wp2_with fail
  refine (up_nil _ _).mono ?_
  rintro e w' ⟨rfl, rfl⟩
  go_wp2
  go_ret
  exact ⟨rfl, rfl⟩

theorem write_up {F : Nat → Prop} {w : World} {g : Nat} {d : DK} {M : Nat} (h : DiskHas F w g d M) (i : Int) (v : Value) (he : upE d i ≠ 0) :
    Calls Try.prog 12 #[.pointer (some ⟨g, 0, none⟩), .int .i64 i, v] w fun e w' => e = .returned (.int .i64 (upE d i)) ∧ w' = w := by
  have hb : (upE d i != 0) = true := by simpa using he
  have HE := Lib.hid he
  clear he
  go_enter Try.func12, Try.ntmps12
  go_wp2_with fail
  refine (up_any h _).mono ?_
  rintro e w' ⟨rfl, rfl⟩
  go_wp2
  go_ret
  exact ⟨rfl, rfl⟩

theorem write_len {F : Nat → Prop} {w : World} {g : Nat} {d : DK} {M : Nat} (h : DiskHas F w g d M) (i : Int) (A : Option Addr) (n c : Nat) (he : upE d i = 0) (hn : n ≠ 128) :
    Calls Try.prog 12 #[.pointer (some ⟨g, 0, none⟩), .int .i64 i, .slice A n c] w fun e w' => e = .returned (.int .i64 1) ∧ w' = w := by
  have hb : ((n : Int) != 128) = true := by simp; omega
  have hup := up_any h i
  rw [he] at hup
  have HUP := Lib.hid hup
  clear he hup
  go_enter Try.func12, Try.ntmps12
  go_wp2_with fail
  refine HUP.out.mono ?_
  rintro e w' ⟨rfl, rfl⟩
  go_wp2
  go_ret
  exact ⟨rfl, rfl⟩

def WritePost (F : Nat → Prop) (w : World) (g : Nat) (d : DK) (M : Nat) (err : Int) (e : Ending) (w' : World) : Prop := e = .returned (.int .i64 err) ∧ DiskHas (More F w.heap.size) w' g d M ∧ Kept F w w'

theorem write_stops {F : Nat → Prop} {w : World} {g : Nat} {d : DK} {M : Nat} (h : DiskHas F w g d M) (i : Int) (A : Option Addr) (c : Nat) (he : upE d i = 0) (hc : countE d ≠ 0) :
    Calls Try.prog 12 #[.pointer (some ⟨g, 0, none⟩), .int .i64 i, .slice A 128 c] w (WritePost F w g (countD d) M (countE d)) := by
  have hb : (countE d != 0) = true := by simpa using hc
  have hup := up_any h i
  rw [he] at hup
  have HUP := Lib.hid hup
  obtain ⟨mb, sv, h⟩ := h
  have HH := Lib.hid h
  have HC := Lib.hid hc
  clear he hup hc h
  go_enter Try.func12, Try.ntmps12
  go_wp2_with fail
  refine HUP.out.mono ?_
  rintro e wq ⟨rfl, rfl⟩
  go_wp2_with fail
  refine (counts_any HH.out).mono ?_
  rintro e w1 ⟨rfl, h1, hk1⟩
  have H1 := Lib.hid (show WritePost F wq g (countD d) M (countE d) (.returned (.int .i64 (countE d))) w1 from ⟨rfl, ⟨mb, sv, h1.mono fun k _ hk => .inl hk⟩, hk1⟩)
  clear h1 hk1
  go_wp2
  go_ret
  exact H1.out

theorem rd_kept {F : Nat → Prop} {w w' : World} {b o n c : Nat} {xs : List Value} (h : Rd w w.heap.size (.slice (some ⟨b, o, none⟩) n c) xs) (hk : Kept F w w') (hb : ¬ F b) : Rd w' w'.heap.size (.slice (some ⟨b, o, none⟩) n c) xs := by
  obtain ⟨A, c', hv, h1, h2, h3, h4⟩ := h
  refine ⟨A, c', hv, h1, h2, h3, fun hne => ?_⟩
  obtain ⟨b', o', hA, hlt, hc⟩ := h4 hne
  refine ⟨b', o', hA, Nat.lt_of_lt_of_le hlt hk.size, fun j u hu => ?_⟩
  injection hv with hv
  rw [hA] at hv
  injection hv with hv
  injection hv with hv
  subst hv
  exact (World.cell?_of_block (hk.block b hlt hb)).trans (hc j u hu)

/-! ### the store -/
def OneW (n : Nat) (i : Nat) (s : List UInt8) (v : Value) (w : World) : Prop := ∃ b, v = .slice (some ⟨b, 0, none⟩) 1 1 ∧ n ≤ b ∧ w.heap[b]? = some (.cells (wcells (i : Int) s).toArray 66 (0, 0))
def NewRowW (F : Nat → Prop) (n g : Nat) (ws : List Wt) (i : Nat) (s : List UInt8) (v : Value) (w : World) : Prop :=
  w.ownsRow 0 66 129 v (ws.length + 1) (flatW (ws ++ [(i, s)])) ∧ ∀ k, v.ownBlock = some k → More F n k ∧ k ≠ g
def AddedW (F : Nat → Prop) (w0 : World) (g : Nat) (d : DK) (M mb : Nat) (w : World) : Prop := Kept F w0 w ∧ w.heap[g]? = w0.heap[g]? ∧ OwnM w mb M d.L

section
variable {F : Nat → Prop} {w0 w : World} {g : Nat} {d : DK} {M mb : Nat} {sv : Value} {i : Nat} {s : List UInt8}

theorem write_append (hD : DiskIs F w0 g d M mb sv) (hF : ∀ k, F k → k < w0.heap.size) (hA : Below w0.heap.size w0 w) {v : Value} (hv : OneW w0.heap.size i s v w) (hs : s.length = 128) (hl : d.waits.length ≤ 1048576) :
    ∃ v8 w8, (Builtin.append_ #[59, 59] 59 #[sv, v]).run Try.prog w = .ok v8 w8 ∧ w.heap.size ≤ w8.heap.size ∧ (∀ k, k < w.heap.size → w0.heap.size ≤ k → w8.heap[k]? = w.heap[k]?) ∧ AddedW F w0 g d M mb w8 ∧ NewRowW F w0.heap.size g d.waits i s v8 w8 := by
  obtain ⟨i0, hi, hz0, hz1, hz2⟩ := info_parts Try.info66
  obtain ⟨b, rfl, hb, hbl⟩ := hv
  have hDw := hD.below hA
  obtain ⟨v8, w8, hr, h1, h2, _, h5⟩ := run_append_own_at (P := Try.prog) w 0 59 59 66 i0 (.agg (Value.int .i64 0 :: bv zeroS).toArray) 129 136 Try.underlying59 hi hz0 hz1 hz2 (by simp [Value.cells, bv_length, zeroS_length]) (by decide) sv d.waits.length (flatW d.waits) hDw.row
    ⟨b, 0, none⟩ 1 1 (wcells (i : Int) s) (by rw [wcells_length, hs]) (fun j u hu => by
      rw [Addr.add_mid, Nat.zero_add, cell_of_row w b j _ 66 (0, 0) hbl]
      simpa using hu) (wcells_one _ _) (by unfold maxLen; omega) (by omega) (Nat.zero_le _)
  have hrow : ∀ k, sv.ownBlock = some k → k < w0.heap.size := fun k hk => hF k (hD.fr k hk)
  have hfar : ∀ k, k < w.heap.size → w0.heap.size ≤ k → w8.heap[k]? = w.heap[k]? := fun k hk hk0 => h2.block k hk (fun e => by have := hrow k e.symm; omega)
  have hg8 : w8.heap[g]? = w0.heap[g]? := by
    rw [h2.block g (Nat.lt_of_lt_of_le hD.glt hA.size) (fun e => own_ne_blk hDw.row hDw.blk (by decide) e.symm rfl)]
    exact hA.block g hD.glt
  refine ⟨v8, w8, hr, h2.size, hfar, ⟨⟨h2.os.trans hA.os, h2.tape.trans hA.tape, h2.output.trans hA.output, Nat.le_trans hA.size h2.size, fun k hk hnF => ?_⟩, hg8, ?_⟩, ?_, ?_⟩
  · rw [h2.block k (Nat.lt_of_lt_of_le hk hA.size) (fun e => hnF (hD.fr k e.symm)), hA.block k hk]
  · exact hDw.mp.on (h2.block mb hDw.mp.lt (fun e => hDw.mp.ne_own hDw.row e.symm rfl))
  · rw [flatW_append]
    have : flatW [(i, s)] = wcells (i : Int) s := by simp [flatW]
    rw [this]
    exact h1
  · intro k hk
    refine ⟨?_, ?_⟩
    · rcases h5 with h5 | h5
      · exact .inl (hD.fr k (h5.symm.trans hk))
      · rw [h5] at hk
        injection hk with hk
        exact .inr (by have := hA.size; omega)
    · exact own_ne_blk h1 (hg8.trans hD.blk) (by decide) hk

theorem write_store (hD : DiskIs F w0 g d M mb sv) (hi : i < d.L.length) (hs : s.length = 128) (h : AddedW F w0 g d M mb w) {v : Value} (hv : NewRowW F w0.heap.size g d.waits i s v w) :
    DiskHas (More F w0.heap.size) (w.setCell ⟨g, 2, none⟩ v) g { d with waits := d.waits ++ [(i, s)] } M ∧ Kept F w0 (w.setCell ⟨g, 2, none⟩ v) := by
  obtain ⟨hK, hb, hM⟩ := h
  obtain ⟨h1, h3⟩ := hv
  have hbw := hb.trans hD.blk
  have hs2 := heap_setCell_same w g 2 _ 61 v hbw
  have ho : ∀ k, k ≠ g → (w.setCell ⟨g, 2, none⟩ v).heap[k]? = w.heap[k]? := fun k hk => heap_setCell_other w ⟨g, 2, none⟩ k _ hk
  refine ⟨⟨mb, v, by simpa using hs2, .inl hD.fg, hM.on (ho mb (hM.ne_cells hbw).symm), .inl hD.fm, ?_, fun k hk => (h3 k hk).1, hD.secs, ?_, hD.big, hD.lft⟩, ?_⟩
  · rw [List.length_append]
    exact ownsRow_on h1 fun k hk => ho k (h3 k hk).2
  · intro p hp
    rcases List.mem_append.1 hp with hp | hp
    · exact hD.wts p hp
    · simp at hp
      subst hp
      exact ⟨hs, hi⟩
  · exact hK.then (kept_set hD.fg 2 v)

theorem one_stays {n : Nat} {w' : World} {v : Value} (h : OneW n i s v w) (hk : ∀ k, k < w.heap.size → n ≤ k → w'.heap[k]? = w.heap[k]?) : OneW n i s v w' := by
  obtain ⟨b, rfl, hb, hbl⟩ := h
  exact ⟨b, rfl, hb, by rw [hk b (Array.getElem?_eq_some_iff.1 hbl).1 hb]; exact hbl⟩
theorem new_stays {n : Nat} {ws : List Wt} {w' : World} {v : Value} (h : NewRowW F n g ws i s v w) (hk : ∀ k, k < w.heap.size → k ≠ g → w'.heap[k]? = w.heap[k]?) : NewRowW F n g ws i s v w' := by
  obtain ⟨h1, h3⟩ := h
  exact ⟨ownsRow_on h1 fun k e => hk k (h1.lt k e).2 (h3 k e).2, h3⟩
end

set_option maxRecDepth 100000 in
set_option maxHeartbeats 1000000 in
theorem write_in {F : Nat → Prop} {w : World} {g : Nat} {d0 : DK} {M : Nat} (h : DiskHas F w g d0 M) (hF : ∀ k, F k → k < w.heap.size) (i : Nat) (b0 o0 c0 : Nat) (s : List UInt8) (hr : Rd w w.heap.size (.slice (some ⟨b0, o0, none⟩) 128 c0) (bv s)) (hs : s.length = 128)
    (he : upE d0 i = 0) (hc : countE d0 = 0) (hl : d0.waits.length ≤ 1048576) (hfar : ¬ F b0) :
    Calls Try.prog 12 #[.pointer (some ⟨g, 0, none⟩), .int .i64 i, .slice (some ⟨b0, o0, none⟩) 128 c0] w (fun e w' => e = .returned (.int .i64 0) ∧ ∃ n, w.heap.size ≤ n ∧ DiskHas (More F n) w' g { countD d0 with waits := d0.waits ++ [(i, s)] } M ∧ Kept F w w') := by
  have hup := up_any h (i : Int)
  rw [he] at hup
  have HUP := Lib.hid hup
  obtain ⟨mb, sv, h⟩ := h
  have hcn := counts_any h
  rw [hc] at hcn
  have HCN := Lib.hid hcn
  have HI0 := Lib.hid (upE_in he).2.2
  have HRD0 := Lib.hid hr
  have HS := Lib.hid hs
  have HL0 := Lib.hid hl
  have HF0 := Lib.hid hF
  have HFAR := Lib.hid hfar
  clear he hup hc hcn h hr hs hl hF hfar
  go_enter Try.func12, Try.ntmps12
  go_wp2_with fail
  refine HUP.out.mono ?_
  rintro e w00 ⟨rfl, rfl⟩
  clear HUP
  go_wp2_with fail
  refine HCN.out.mono ?_
  rintro e wq ⟨rfl, h1, hk1⟩
  have HD := Lib.hid h1
  have HKQ := Lib.hid hk1
  have HRD := Lib.hid (rd_kept HRD0.out hk1 HFAR.out)
  have HL := Lib.hid (show (countD d0).waits.length ≤ 1048576 by rw [countD_waits]; exact HL0.out)
  have HI := Lib.hid (show i < (countD d0).L.length by have := HI0.out; rw [countD_L]; omega)
  have HFIN := Lib.hid (show ∀ w', DiskHas (More F wq.heap.size) w' g { countD d0 with waits := (countD d0).waits ++ [(i, s)] } M ∧ Kept F wq w' → ∃ n, w00.heap.size ≤ n ∧ DiskHas (More F n) w' g { countD d0 with waits := d0.waits ++ [(i, s)] } M ∧ Kept F w00 w' from fun w' hh => ⟨wq.heap.size, HKQ.out.size, by rw [← countD_waits d0]; exact hh.1, HKQ.out.then hh.2⟩)
  have HF := Lib.hid (fun k hk => Nat.lt_of_lt_of_le (HF0.out k hk) HKQ.out.size)
  clear h1 hk1 HCN HRD0 HI0 HL0 HF0 HKQ
  generalize hdd : countD d0 = d at *
  have HDD := Lib.hid hdd
  clear hdd
  go_wp2
  have HG := Lib.hid (HF.out g HD.out.fg)
  refine region_turns (by kernel_rfl) [23, 24, 25, 26, 27, 28, 29, 30, 31, 32, 33, 34, 35, 36] rfl (by simp) (by kernel_rfl) (Staged 11 14 (fun w' => Below wq.heap.size wq w') (fun w' => AddedW F wq g d M mb w') (fun w' => DiskHas (More F wq.heap.size) w' g { d with waits := d.waits ++ [(i, s)] } M ∧ Kept F wq w')) (Moved (fun i k => (i = 11 ∧ k < wq.heap.size) ∨ (i = 14 ∧ k = g))) (Says (fun q_ => match q_ with | 23 => some (.pointer (some ⟨g, 0, none⟩)) | 24 => some (.pointer (some ⟨g, 0, none⟩)) | 25 => some (.pointer (some ⟨g, 0, none⟩)) | 26 => some (.pointer (some ⟨g, 2, none⟩)) | 27 => some (sv) | 28 => some (.int .i64 (i : Int)) | 29 => some (.slice (some ⟨b0, o0, none⟩) 128 c0) | 30 => some (.pointer (some ⟨b0, o0, none⟩)) | 31 => some (.agg (bv s).toArray) | 32 => some (.agg (wcells (i : Int) s).toArray) | 35 => some (.pointer (some ⟨g, 0, none⟩)) | 36 => some (.pointer (some ⟨g, 2, none⟩)) | _ => none) (fun q_ v w => (q_ = 33 → OneW wq.heap.size i s v w) ∧ (q_ = 34 → NewRowW F wq.heap.size g d.waits i s v w) ∧ True)) ?_ ?_ (turns_of_all rfl ?_) ?_
  · intro l hl
    refine Staged.start ?_ (hl _) (hl _)
    exact below_of_drewN wq 1 _
  · rintro i tt v w w' hnw hM ⟨h1, h2⟩
    obtain ⟨s33, s34, _⟩ := h2
    have hlow : ∀ k, k < w.heap.size → wq.heap.size ≤ k → w'.heap[k]? = w.heap[k]? := fun k hk hk0 => hM.2 k hk (fun e => by have := HG.out; rcases e with ⟨_, e⟩ | ⟨_, e⟩ <;> omega)
    refine ⟨h1, fun e => one_stays (s33 e) hlow, fun e => ?_, trivial⟩
    subst e
    have h8 := (hnw 11 _ rfl rfl).1
    exact new_stays (s34 rfl) fun k hk hne => hM.2 k hk (fun e => by rcases e with ⟨e, _⟩ | ⟨_, e⟩ <;> omega)
  · refine ⟨?_, ?_, ?_, ?_, ?_, ?_, ?_, ?_, ?_, ?_, ?_, ?_, ?_, ?_, ?_, trivial⟩
    · intro l a w K hbf haf hun hS hF hK
      have g0 : a.tmps[0]? = some (.pointer (some ⟨g, 0, none⟩)) := unfed hF 0 (by kernel_rfl) (by kernel_rfl) rfl
      exact op_value rfl (wanted_none rfl) (run_move' (v := .pointer (some ⟨g, 0, none⟩)) rfl (eval_of g0) w) (hK _ w (Moved.refl _ _ w) (hS.same (by decide) (by decide)) (says_exact 23 rfl (by simp)))
    · intro l a w K hbf haf hun hS hF hK
      have g0 : a.tmps[0]? = some (.pointer (some ⟨g, 0, none⟩)) := unfed hF 0 (by kernel_rfl) (by kernel_rfl) rfl
      exact op_value rfl (wanted_none rfl) (run_move' (v := .pointer (some ⟨g, 0, none⟩)) rfl (eval_of g0) w) (hK _ w (Moved.refl _ _ w) (hS.same (by decide) (by decide)) (says_exact 24 rfl (by simp)))
    · intro l a w K hbf haf hun hS hF hK
      have g24 := fedX hF 24 (.pointer (some ⟨g, 0, none⟩)) (by kernel_rfl) (by kernel_rfl) rfl
      exact op_value (v := .pointer (some ⟨g, 0, none⟩)) rfl (wanted_none rfl) (by simp [go_sem, g24]) (hK _ w (Moved.refl _ _ w) (hS.same (by decide) (by decide)) (says_exact 25 rfl (by simp)))
    · intro l a w K hbf haf hun hS hF hK
      have g25 := fedX hF 25 (.pointer (some ⟨g, 0, none⟩)) (by kernel_rfl) (by kernel_rfl) rfl
      exact op_value (v := .pointer (some ⟨g, 2, none⟩)) rfl (wanted_none rfl) (by simp [go_sem, g25]) (hK _ w (Moved.refl _ _ w) (hS.same (by decide) (by decide)) (says_exact 26 rfl (by simp)))
    · intro l a w K hbf haf hun hS hF hK
      have g26 := fedX hF 26 (.pointer (some ⟨g, 2, none⟩)) (by kernel_rfl) (by kernel_rfl) rfl
      have hA := hS.first (hbf 11 (by kernel_rfl)) (hbf 14 (by kernel_rfl))
      have hc := (HD.out.below hA).cells.2.2.1
      exact op_value (v := sv) rfl (wanted_none rfl) (by simp [go_sem, g26, hc]) (hK _ w (Moved.refl _ _ w) (hS.same (by decide) (by decide)) (says_exact 27 rfl (by simp)))
    · intro l a w K hbf haf hun hS hF hK
      have g1 : a.tmps[1]? = some (.int .i64 (i : Int)) := unfed hF 1 (by kernel_rfl) (by kernel_rfl) rfl
      exact op_value rfl (wanted_none rfl) (run_move' (v := .int .i64 (i : Int)) rfl (eval_of g1) w) (hK _ w (Moved.refl _ _ w) (hS.same (by decide) (by decide)) (says_exact 28 rfl (by simp)))
    · intro l a w K hbf haf hun hS hF hK
      have g2 : a.tmps[2]? = some (.slice (some ⟨b0, o0, none⟩) 128 c0) := unfed hF 2 (by kernel_rfl) (by kernel_rfl) rfl
      exact op_value rfl (wanted_none rfl) (run_move' (v := .slice (some ⟨b0, o0, none⟩) 128 c0) rfl (eval_of g2) w) (hK _ w (Moved.refl _ _ w) (hS.same (by decide) (by decide)) (says_exact 29 rfl (by simp)))
    · intro l a w K hbf haf hun hS hF hK
      have g29 := fedX hF 29 (.slice (some ⟨b0, o0, none⟩) 128 c0) (by kernel_rfl) (by kernel_rfl) rfl
      exact op_value (v := .pointer (some ⟨b0, o0, none⟩)) rfl (wanted_none rfl) (by simp [execOp, Instr.arrayAt, run_underlying Try.underlying64, eval_of g29, Result.andThen]) (hK _ w (Moved.refl _ _ w) (hS.same (by decide) (by decide)) (says_exact 30 rfl (by simp)))
    · intro l a w K hbf haf hun hS hF hK
      have g30 := fedX hF 30 (.pointer (some ⟨b0, o0, none⟩)) (by kernel_rfl) (by kernel_rfl) rfl
      have hA := hS.first (hbf 11 (by kernel_rfl)) (hbf 14 (by kernel_rfl))
      exact op_value (v := .agg (bv s).toArray) rfl (wanted_none rfl) (exec_load (bv s) _ rfl (eval_of g30) (rangeAt_of_rd (HRD.out.on hA)) Try.underlying64 rfl (by rw [Try.size64, bv_length, HS.out])) (hK _ w (Moved.refl _ _ w) (hS.same (by decide) (by decide)) (says_exact 31 rfl (by simp)))
    · intro l a w K hbf haf hun hS hF hK
      have g28 := fedX hF 28 (.int .i64 (i : Int)) (by kernel_rfl) (by kernel_rfl) rfl
      have g31 := fedX hF 31 (.agg (bv s).toArray) (by kernel_rfl) (by kernel_rfl) rfl
      exact op_value (v := .agg (wcells (i : Int) s).toArray) rfl (wanted_none rfl) (by simp [execOp, eval_of g28, eval_of g31, run_build66 w (i : Int) s HS.out, Result.andThen]) (hK _ w (Moved.refl _ _ w) (hS.same (by decide) (by decide)) (says_exact 32 rfl (by simp)))
    · intro l a w K hbf haf hun hS hF hK
      have g32 := fedX hF 32 (.agg (wcells (i : Int) s).toArray) (by kernel_rfl) (by kernel_rfl) rfl
      have hA := hS.first (hbf 11 (by kernel_rfl)) (hbf 14 (by kernel_rfl))
      exact op_value (v := .slice (some ⟨w.heap.size, 0, none⟩) 1 1) (w' := w.alloc (.cells (wcells (i : Int) s).toArray 66)) rfl (wanted_none rfl) (by simp [execOp, eval_of g32, run_slice66 w (i : Int) s HS.out, Result.andThen]) (hK _ _ ⟨by simp, fun k hk _ => ((Below.refl _ w).alloc (Nat.le_refl _) _).block k hk⟩ (Staged.stay (hA.alloc hA.size _) (hbf 11 (by kernel_rfl)) (hbf 14 (by kernel_rfl)) (by decide) (by decide)) (says_special 33 rfl (by simp; exact ⟨w.heap.size, rfl, hA.size, heap_alloc_last w _⟩)))
    · intro l a w K hbf haf hun hS hF hK
      have g27 := fedX hF 27 (sv) (by kernel_rfl) (by kernel_rfl) rfl
      obtain ⟨v33, g33, s330⟩ := fed hF 33 (by kernel_rfl) (by kernel_rfl)
      have s33 : OneW wq.heap.size i s v33 w := s330.2.1 rfl
      have hA := hS.first hun (hbf 14 (by kernel_rfl))
      obtain ⟨v8, w8, hr8, hz8, hfar, hadd, hnew⟩ := write_append HD.out HF.out hA s33 HS.out HL.out
      exact op_value (v := v8) (w' := w8) rfl (wanted_none rfl) (by simp [execOp, resolve, invoke, builtin, eval_of g27, eval_of g33, hr8]) (hK _ w8 ⟨hz8, fun k hk hn => hfar k hk (by omega)⟩ (Staged.toMid hadd (hbf 14 (by kernel_rfl)) (by decide)) (says_special 34 rfl (by simp; exact hnew)))
    · intro l a w K hbf haf hun hS hF hK
      have g23 := fedX hF 23 (.pointer (some ⟨g, 0, none⟩)) (by kernel_rfl) (by kernel_rfl) rfl
      exact op_value (v := .pointer (some ⟨g, 0, none⟩)) rfl (wanted_none rfl) (by simp [go_sem, g23]) (hK _ w (Moved.refl _ _ w) (hS.same (by decide) (by decide)) (says_exact 35 rfl (by simp)))
    · intro l a w K hbf haf hun hS hF hK
      have g35 := fedX hF 35 (.pointer (some ⟨g, 0, none⟩)) (by kernel_rfl) (by kernel_rfl) rfl
      exact op_value (v := .pointer (some ⟨g, 2, none⟩)) rfl (wanted_none rfl) (by simp [go_sem, g35]) (hK _ w (Moved.refl _ _ w) (hS.same (by decide) (by decide)) (says_exact 36 rfl (by simp)))
    · intro l a w K hbf haf hun hS hF hK
      have g36 := fedX hF 36 (.pointer (some ⟨g, 2, none⟩)) (by kernel_rfl) (by kernel_rfl) rfl
      obtain ⟨v34, g34, s340⟩ := fed hF 34 (by kernel_rfl) (by kernel_rfl)
      have s34 : NewRowW F wq.heap.size g d.waits i s v34 w := s340.2.2.1 rfl
      have hB := hS.mid (haf 11 (by kernel_rfl)) hun
      obtain ⟨A8, c8, rfl⟩ := ownsRow_form s34.1
      have hbg := hB.2.1.trans HD.out.blk
      have hcg : w.cell? ⟨g, 2, none⟩ = some sv := by rw [cell_of_row w g 2 _ 61 (0, 0) hbg]; rfl
      have hzg : w.frozen? ⟨g, 2, none⟩ = false := frozen_of_row w g 2 _ 61 hbg
      exact op_stored (w' := w.setCell ⟨g, 2, none⟩ (.slice A8 (d.waits.length + 1) c8)) rfl (wanted_none rfl) (by simp [go_sem, g36, g34, hcg, hzg]) (hK _ _ ⟨by simp [World.setCell], fun k hk hn => Below.heap_setCell _ _ _ _ (fun e => hn (.inr ⟨rfl, e⟩))⟩ (Staged.toLast (write_store HD.out HI.out HS.out hB s34)) (fun t ht => by cases ht))
  · intro l fv_ w hl hS hf
    have hC := hS.last (hl 14 (by simp))
    have f23 : fv_ 23 = .pointer (some ⟨g, 0, none⟩) := (hf 23 (by simp)).1 _ rfl
    have f24 : fv_ 24 = .pointer (some ⟨g, 0, none⟩) := (hf 24 (by simp)).1 _ rfl
    have f25 : fv_ 25 = .pointer (some ⟨g, 0, none⟩) := (hf 25 (by simp)).1 _ rfl
    have f26 : fv_ 26 = .pointer (some ⟨g, 2, none⟩) := (hf 26 (by simp)).1 _ rfl
    have f27 : fv_ 27 = sv := (hf 27 (by simp)).1 _ rfl
    have f28 : fv_ 28 = .int .i64 (i : Int) := (hf 28 (by simp)).1 _ rfl
    have f29 : fv_ 29 = .slice (some ⟨b0, o0, none⟩) 128 c0 := (hf 29 (by simp)).1 _ rfl
    have f30 : fv_ 30 = .pointer (some ⟨b0, o0, none⟩) := (hf 30 (by simp)).1 _ rfl
    have f31 : fv_ 31 = .agg (bv s).toArray := (hf 31 (by simp)).1 _ rfl
    have f32 : fv_ 32 = .agg (wcells (i : Int) s).toArray := (hf 32 (by simp)).1 _ rfl
    have f33 : OneW wq.heap.size i s (fv_ 33) w := (hf 33 (by simp)).2.1 rfl
    have f34 : NewRowW F wq.heap.size g d.waits i s (fv_ 34) w := (hf 34 (by simp)).2.2.1 rfl
    have f35 : fv_ 35 = .pointer (some ⟨g, 0, none⟩) := (hf 35 (by simp)).1 _ rfl
    have f36 : fv_ 36 = .pointer (some ⟨g, 2, none⟩) := (hf 36 (by simp)).1 _ rfl
    simp only [putAll, List.foldl_cons, List.foldl_nil, List.setIfInBounds_toArray, List.set_cons_succ, List.set_cons_zero, f23, f24, f25, f26, f27, f28, f29, f30, f31, f32, f35, f36]
    clear f23 f24 f25 f26 f27 f28 f29 f30 f31 f32 f35 f36 hf
    clear f33 f34
    go_wp2
    go_ret
    exact ⟨rfl, by rw [HDD.out]; exact HFIN.out w hC⟩

/-- 'Write', whatever it is given -/
theorem write_any {F : Nat → Prop} {w : World} {g : Nat} {d : DK} {M : Nat} (h : DiskHas F w g d M) (i : Int) (v : Value) (s : List UInt8) (hr : Rd w w.heap.size v (bv s)) (hl : d.waits.length ≤ 1048576) (hfar : ∀ b, v.ownBlock = some b → ¬ F b) :
    Calls Try.prog 12 #[.pointer (some ⟨g, 0, none⟩), .int .i64 i, v] w (WritePost F w g (writeD d i s) M (writeE d i s.length)) := by
  obtain ⟨A, c, rfl, _⟩ := hr.form
  rw [bv_length] at *
  by_cases he : upE d i = 0
  · by_cases hs : s.length = 128
    · by_cases hc : countE d = 0
      · obtain ⟨_, i0, i1⟩ := upE_in he
        obtain ⟨I, rfl⟩ := Int.eq_ofNat_of_zero_le i0
        obtain ⟨b0, o0, rfl, _, _⟩ := hr.open_ (by intro e; have := bv_length s; rw [e] at this; simp at this; omega)
        rw [hs] at hr ⊢
        have hw : writeD d I s = { countD d with waits := d.waits ++ [(I, s)] } := by unfold writeD; rw [if_neg (by simp [he, hs]), if_neg (by simp [hc])]; rfl
        have hE : writeE d I 128 = 0 := by unfold writeE; simp [he, hc]
        rw [hw, hE]
        refine (write_in (F := fun k => F k ∧ k < w.heap.size) (h.mono fun k hk hF => ⟨hF, hk⟩) (fun k hk => hk.2) I b0 o0 c s hr hs he hc hl (fun e => hfar b0 rfl e.1)).mono ?_
        rintro e w' ⟨rfl, n, hn, hD, hK⟩
        exact ⟨rfl, hD.mono fun k _ hk => by rcases hk with hk | hk; exact .inl hk.1; exact .inr (Nat.le_trans hn hk), hK.weak fun k hk => hk.1⟩
      · have hw : writeD d i s = countD d := by unfold writeD; rw [if_neg (by simp [he, hs]), if_pos (by simp [hc])]
        have hE : writeE d i s.length = countE d := by unfold writeE; simp [he, hs]
        rw [hw, hE, hs]
        exact write_stops h i A c he hc
    · have hw : writeD d i s = d := by unfold writeD; rw [if_pos (.inr hs)]
      have hE : writeE d i s.length = 1 := by unfold writeE; simp [he, hs]
      rw [hw, hE]
      refine (write_len h i A s.length c he hs).mono ?_
      rintro e w' ⟨rfl, rfl⟩
      exact ⟨rfl, h.mono fun k _ hk => .inl hk, Kept.refl _ _⟩
  · have hw : writeD d i s = d := by unfold writeD; rw [if_pos (.inl he)]
    have hE : writeE d i s.length = upE d i := by unfold writeE; simp [he]
    rw [hw, hE]
    refine (write_up h i _ he).mono ?_
    rintro e w' ⟨rfl, rfl⟩
    exact ⟨rfl, h.mono fun k _ hk => .inl hk, Kept.refl _ _⟩

end Go.Proofs.Ytcbdlggjpedffaa
