/- The document's 'New' of layer 3. Condition: at most 65536 sectors. -/
import Derived.Test.YtcbdlggjpedffaaRefFlush
namespace Go.Proofs.Ytcbdlggjpedffaa
open Go.RowKit
set_option linter.unusedSimpArgs false

theorem Try.zero46 : (Try.prog.info? 46).map (fun i => (i.zero, i.size)) = some (some (.agg #[.slice none 0 0, .slice none 0 0, .int .i64 0, .bool false]), 4) := by kernel_rfl

def OneS (n : Nat) (s : List UInt8) (v : Value) (w : World) : Prop := ∃ b, v = .slice (some ⟨b, 0, none⟩) 1 1 ∧ n ≤ b ∧ w.heap[b]? = some (.cells #[.string ⟨s.toArray⟩] 9 (0, 0))
theorem OneS.stays {n : Nat} {s : List UInt8} {v : Value} {w w' : World} (h : OneS n s v w) (hk : ∀ k, k < w.heap.size → n ≤ k → w'.heap[k]? = w.heap[k]?) : OneS n s v w' := by
  obtain ⟨b, rfl, hb, hbl⟩ := h
  exact ⟨b, rfl, hb, by rw [hk b (Array.getElem?_eq_some_iff.1 hbl).1 hb]; exact hbl⟩
theorem svs_snoc (k : Nat) : svs (List.replicate (k + 1) zeroS) = svs (List.replicate k zeroS) ++ [.string ⟨zeroS.toArray⟩] := by
  rw [List.replicate_succ']
  simp [svs]

theorem new_append {wr w : World} {nb k c5 : Nat} {A5 : Option Addr} (hrow : wr.ownsRow (nb + 2) 9 1 (.slice A5 k c5) k (svs (List.replicate k zeroS))) (hnb : nb + 2 ≤ wr.heap.size) (hA : Below wr.heap.size wr w) {v : Value} (hv : OneS wr.heap.size zeroS v w) (hk : k ≤ 1048576) :
    ∃ v8 w8, (Builtin.append_ #[40, 40] 40 #[.slice A5 k c5, v]).run Try.prog w = .ok v8 w8 ∧ w.heap.size ≤ w8.heap.size ∧ (∀ j, j < w.heap.size → wr.heap.size ≤ j → w8.heap[j]? = w.heap[j]?) ∧ Kept (fun j => (Value.slice A5 k c5).ownBlock = some j) wr w8 ∧
      w8.ownsRow (nb + 2) 9 1 v8 (k + 1) (svs (List.replicate k zeroS) ++ [.string ⟨zeroS.toArray⟩]) := by
  obtain ⟨i0, hi, hz0, hz1, hz2⟩ := info_parts Try.info9
  obtain ⟨b, rfl, hb, hbl⟩ := hv
  obtain ⟨v8, w8, hr, h1, h2, _, h5⟩ := run_append_own_at (P := Try.prog) w (nb + 2) 40 40 9 i0 (.string ⟨#[]⟩) 1 16 Try.underlying40 hi hz0 hz1 hz2 rfl (by decide) (.slice A5 k c5) k (svs (List.replicate k zeroS)) (own_below hrow hA)
    ⟨b, 0, none⟩ 1 1 [.string ⟨zeroS.toArray⟩] rfl (fun j u hu => by
      rw [Addr.add_mid, Nat.zero_add, cell_of_row w b j _ 9 (0, 0) hbl]
      simpa using hu) (by simp [Value.oneCell']) (by unfold maxLen; omega) (by omega) (Nat.le_trans hnb hA.size)
  refine ⟨v8, w8, hr, h2.size, fun j hj hj0 => h2.block j hj (fun e => by have := (hrow.lt j e.symm).2; omega), ⟨h2.os.trans hA.os, h2.tape.trans hA.tape, h2.output.trans hA.output, Nat.le_trans hA.size h2.size, fun j hj hn => ?_⟩, h1⟩
  rw [h2.block j (Nat.lt_of_lt_of_le hj hA.size) (fun e => hn e.symm), hA.block j hj]

/-- of a number out of bounds -/
theorem refnew_out (n : Int) (w : World) (hn : n < 1) : Calls Try.prog 21 #[.int .i64 n] w fun e w' => e = .returned (.tuple #[.agg #[.slice none 0 0, .slice none 0 0, .int .i64 0, .bool false], .int .i64 1]) ∧ Below w.heap.size w w' := by
  have HB := Lib.hid (show Below w.heap.size w (w.alloc (.cells #[.slice none 0 0, .slice none 0 0, .int .i64 0, .bool false] 46)) from (Below.refl _ _).alloc (Nat.le_refl _) _)
  go_enter Try.func21, Try.ntmps21
  go_wp2
  refine bodyPost_ret (res2 rfl _ rfl (BoxD.new w _) rfl) rfl ?_
  exact ⟨rfl, HB.out⟩

set_option maxRecDepth 100000 in
set_option maxHeartbeats 2000000 in
theorem refnew_any (n : Nat) (W : World) (h1 : 1 ≤ n) (h2 : n ≤ 65536) : Calls Try.prog 21 #[.int .i64 n] W (RefPostE W.heap.size W (newD n) 0) := by
  obtain ⟨i5, hi5, hz5, hs5, hb5⟩ := info_parts Try.info5
  have n1 : ¬ (n : Int) < 1 := by omega
  have n2 : ¬ (65536 : Int) < (n : Int) := by omega
  have n1d : decide ((n : Int) < 1) = false := by simp; omega
  have n2d : decide ((65536 : Int) < (n : Int)) = false := by simp; omega
  have hba : Below W.heap.size W (W.alloc (.cells #[.slice none 0 0, .slice none 0 0, .int .i64 0, .bool false] 46)) := (Below.refl _ _).alloc (Nat.le_refl _) _
  have HB0 := Lib.hid (show Below W.heap.size W ((W.alloc (.cells #[.slice none 0 0, .slice none 0 0, .int .i64 0, .bool false] 46)).alloc (.cells #[.slice none 0 0, .slice none 0 0, .int .i64 (-1), .bool false] 46)) from hba.alloc hba.size _)
  have HY0 := Lib.hid (show BoxD ((W.alloc (.cells #[.slice none 0 0, .slice none 0 0, .int .i64 0, .bool false] 46)).alloc (.cells #[.slice none 0 0, .slice none 0 0, .int .i64 (-1), .bool false] 46)) W.heap.size #[.slice none 0 0, .slice none 0 0, .int .i64 0, .bool false] from (BoxD.new W #[.slice none 0 0, .slice none 0 0, .int .i64 0, .bool false]).below ((Below.refl _ _).alloc (Nat.le_refl _) _) (by simp))
  have hx := BoxD.new (W.alloc (.cells #[.slice none 0 0, .slice none 0 0, .int .i64 0, .bool false] 46)) #[.slice none 0 0, .slice none 0 0, .int .i64 (-1), .bool false]
  rw [show (W.alloc (.cells #[.slice none 0 0, .slice none 0 0, .int .i64 0, .bool false] 46)).heap.size = W.heap.size + 1 by simp] at hx
  have HX0 := Lib.hid hx
  clear hba hx
  go_enter Try.func21, Try.ntmps21
  go_wp2
  clear n1 n2 n1d n2d
  generalize ((W.alloc (.cells #[.slice none 0 0, .slice none 0 0, .int .i64 0, .bool false] 46)).alloc (.cells #[.slice none 0 0, .slice none 0 0, .int .i64 (-1), .bool false] 46)) = w0 at *
  generalize hnb : W.heap.size = nb at *
  have HWN := Lib.hid hnb
  clear hnb
  go_loopw [5] (fun t wr => ∃ (k : Nat) (A5 : Option Addr) (c5 : Nat), k ≤ n ∧ t = .int .i64 k ∧ BoxD wr (nb + 1) #[.slice A5 k c5, .slice none 0 0, .int .i64 (-1), .bool false] ∧ BoxD wr nb #[.slice none 0 0, .slice none 0 0, .int .i64 0, .bool false] ∧ wr.ownsRow (nb + 2) 9 1 (.slice A5 k c5) k (svs (List.replicate k zeroS)) ∧ Below nb W wr) (fun t _ => n - (intOf t).toNat)
  case atStart => exact ⟨0, none, 0, Nat.zero_le _, rfl, HX0.out, HY0.out, World.ownsRow_nil _ _ _ _, HB0.out⟩
  case round =>
    obtain ⟨k, A5, c5, hk, rfl, hx, hy, hrow, hb⟩ := hrel
    have HX := Lib.hid hx
    have HY := Lib.hid hy
    have HROW := Lib.hid hrow
    have HB := Lib.hid hb
    obtain ⟨q0, q1, q2, q3⟩ := hx.four
    clear hx hy hrow hb HX0 HY0 HB0
    rcases Nat.lt_or_ge k n with hlt | hge
    · have hkl : (k : Int) < (n : Int) := by omega
      have HNB := Lib.hid (show nb + 2 ≤ wr.heap.size from HX.out.lt)
      have HKL := Lib.hid (show k ≤ 1048576 by omega)
      have HNE := Lib.hid (show ¬ (Value.slice A5 k c5).ownBlock = some (nb + 1) from fun e => by have := (HROW.out.lt _ e).1; omega)
      have HNE2 := Lib.hid (show ¬ (Value.slice A5 k c5).ownBlock = some nb from fun e => by have := (HROW.out.lt _ e).1; omega)
      go_wp2
      clear q0 q1 q2 q3
      refine region_turns (by kernel_rfl) [19, 20, 21, 22, 23, 24, 25] rfl (by simp) (by kernel_rfl) (Staged 5 7 (fun w' => Below wr.heap.size wr w') (fun w' => Kept (fun j => (Value.slice A5 k c5).ownBlock = some j) wr w') (fun w' => ∃ A8 c8 w9, Kept (fun j => (Value.slice A5 k c5).ownBlock = some j) wr w9 ∧ w9.ownsRow (nb + 2) 9 1 (.slice A8 (k + 1) c8) (k + 1) (svs (List.replicate k zeroS) ++ [.string ⟨zeroS.toArray⟩]) ∧ w' = w9.setCell ⟨nb + 1, 0, none⟩ (.slice A8 (k + 1) c8))) (Moved (fun i j => (i = 5 ∧ j < wr.heap.size) ∨ (i = 7 ∧ j = nb + 1))) (Says (fun q_ => match q_ with | 19 => some (.pointer (some ⟨nb + 1, 0, none⟩)) | 20 => some (.slice A5 k c5) | 22 => some (.string ⟨zeroS.toArray⟩) | 25 => some (.pointer (some ⟨nb + 1, 0, none⟩)) | _ => none) (fun q_ v w => (q_ = 21 → FullV wr.heap.size zeroS v w) ∧ (q_ = 23 → OneS wr.heap.size zeroS v w) ∧ (q_ = 24 → w.ownsRow (nb + 2) 9 1 v (k + 1) (svs (List.replicate k zeroS) ++ [.string ⟨zeroS.toArray⟩])) ∧ True)) ?_ ?_ (turns_of_all rfl ?_) ?_
      · intro l hl
        refine Staged.start ?_ (hl _) (hl _)
        exact below_of_drewN wr 1 _
      · rintro i tt v w w' hnw hM ⟨h1, h2⟩
        obtain ⟨s21, s23, s24, _⟩ := h2
        have hlow : ∀ j, j < w.heap.size → wr.heap.size ≤ j → w'.heap[j]? = w.heap[j]? := fun j hj hj0 => hM.2 j hj (fun e => by have := HX.out.lt; rcases e with ⟨_, e⟩ | ⟨_, e⟩ <;> omega)
        refine ⟨h1, fun e => (s21 e).stays hM.1 hlow, fun e => (s23 e).stays hlow, fun e => ?_, trivial⟩
        subst e
        have h8 := (hnw 5 _ rfl rfl).1
        exact ownsRow_on (s24 rfl) fun j hj => hM.2 j ((s24 rfl).lt j hj).2 (fun e => by have h9 := ((s24 rfl).lt j hj).1; rcases e with ⟨e, _⟩ | ⟨_, e⟩ <;> omega)
      · refine ⟨?_, ?_, ?_, ?_, ?_, ?_, ?_, ?_, trivial⟩
        · intro l a w K hbf haf hun hS hF hK
          have g4 : a.tmps[4]? = some (.pointer (some ⟨nb + 1, 0, none⟩)) := unfed hF 4 (by kernel_rfl) (by kernel_rfl) rfl
          exact op_value (v := .pointer (some ⟨nb + 1, 0, none⟩)) rfl (wanted_none rfl) (by simp [go_sem, g4]) (hK _ w (Moved.refl _ _ w) (hS.same (by decide) (by decide)) (says_exact 19 rfl (by simp)))
        · intro l a w K hbf haf hun hS hF hK
          have g19 := fedX hF 19 (.pointer (some ⟨nb + 1, 0, none⟩)) (by kernel_rfl) (by kernel_rfl) rfl
          have hA := hS.first (hbf 5 (by kernel_rfl)) (hbf 7 (by kernel_rfl))
          have hc := (hA.cell (p := ⟨nb + 1, 0, none⟩) HX.out.lt).trans (HX.out.cell 0)
          exact op_value (v := .slice A5 k c5) rfl (wanted_none rfl) (by simp [go_sem, g19, hc]) (hK _ w (Moved.refl _ _ w) (hS.same (by decide) (by decide)) (says_exact 20 rfl (by simp)))
        · intro l a w K hbf haf hun hS hF hK
          have hA := hS.first (hbf 5 (by kernel_rfl)) (hbf 7 (by kernel_rfl))
          obtain ⟨w2, hr2, ho2, hg2⟩ := run_make_full (P := Try.prog) w w.heap.size 22 5 i5 (.int .u8 0) 1 Try.underlying22 hi5 hz5 hs5 .i64 .i64 128 (by rw [hb5]; omega) (by unfold maxLen; omega) (Nat.le_refl _)
          rw [show (128 * 1 : Nat) = 128 from rfl, show (Value.int .u8 0).cells = #[Value.int .u8 0] from rfl, zero_cells] at ho2
          have hb2 : Below w.heap.size w w2 := (Below.refl _ _).grown hg2 (Nat.le_refl _) (fun k hk => by cases hk)
          exact op_value (v := .slice (some ⟨w.heap.size, 0, none⟩) 128 128) (w' := w2) rfl (wanted_none rfl) (by have hr2' := hr2; simp at hr2'; simp [go_sem, execOp, hr2']) (hK _ w2 ⟨hb2.size, fun k hk _ => hb2.block k hk⟩ (Staged.stay (bthen hA hb2) (hbf 5 (by kernel_rfl)) (hbf 7 (by kernel_rfl)) (by decide) (by decide)) (says_special 21 rfl (by simp; exact ⟨Rd.of_own ho2, fun b hb => by have hb' : some w.heap.size = some b := hb; injection hb' with e; have := hA.size; omega⟩)))
        · intro l a w K hbf haf hun hS hF hK
          obtain ⟨v21, g21, s210⟩ := fed hF 21 (by kernel_rfl) (by kernel_rfl)
          have s21 : FullV wr.heap.size zeroS v21 w := s210.2.1 rfl
          have hcv := conv_rd s21.1
          exact op_value (v := .string ⟨zeroS.toArray⟩) rfl (wanted_none rfl) (by simp [go_sem, g21, hcv]) (hK _ w (Moved.refl _ _ w) (hS.same (by decide) (by decide)) (says_exact 22 rfl (by simp)))
        · intro l a w K hbf haf hun hS hF hK
          have g22 := fedX hF 22 (.string ⟨zeroS.toArray⟩) (by kernel_rfl) (by kernel_rfl) rfl
          have hA := hS.first (hbf 5 (by kernel_rfl)) (hbf 7 (by kernel_rfl))
          exact op_value (v := .slice (some ⟨w.heap.size, 0, none⟩) 1 1) (w' := w.alloc (.cells #[.string ⟨zeroS.toArray⟩] 9)) rfl (wanted_none rfl) (by simp [go_sem, g22]) (hK _ _ ⟨by simp, fun j hj _ => ((Below.refl _ w).alloc (Nat.le_refl _) _).block j hj⟩ (Staged.stay (hA.alloc hA.size _) (hbf 5 (by kernel_rfl)) (hbf 7 (by kernel_rfl)) (by decide) (by decide)) (says_special 23 rfl (by simp; exact ⟨w.heap.size, rfl, hA.size, heap_alloc_last w _⟩)))
        · intro l a w K hbf haf hun hS hF hK
          have g20 := fedX hF 20 (.slice A5 k c5) (by kernel_rfl) (by kernel_rfl) rfl
          obtain ⟨v23, g23, s230⟩ := fed hF 23 (by kernel_rfl) (by kernel_rfl)
          have s23 : OneS wr.heap.size zeroS v23 w := s230.2.2.1 rfl
          have hA := hS.first hun (hbf 7 (by kernel_rfl))
          obtain ⟨v8, w8, hr8, hz8, hfar, hkp, hown⟩ := new_append HROW.out HNB.out hA s23 HKL.out
          exact op_value (v := v8) (w' := w8) rfl (wanted_none rfl) (by simp [execOp, resolve, invoke, builtin, eval_of g20, eval_of g23, hr8]) (hK _ w8 ⟨hz8, fun j hj hn => hfar j hj (by omega)⟩ (Staged.toMid hkp (hbf 7 (by kernel_rfl)) (by decide)) (says_special 24 rfl (by simp; exact hown)))
        · intro l a w K hbf haf hun hS hF hK
          have g4 : a.tmps[4]? = some (.pointer (some ⟨nb + 1, 0, none⟩)) := unfed hF 4 (by kernel_rfl) (by kernel_rfl) rfl
          exact op_value (v := .pointer (some ⟨nb + 1, 0, none⟩)) rfl (wanted_none rfl) (by simp [go_sem, g4]) (hK _ w (Moved.refl _ _ w) (hS.same (by decide) (by decide)) (says_exact 25 rfl (by simp)))
        · intro l a w K hbf haf hun hS hF hK
          have g25 := fedX hF 25 (.pointer (some ⟨nb + 1, 0, none⟩)) (by kernel_rfl) (by kernel_rfl) rfl
          obtain ⟨v24, g24, s240⟩ := fed hF 24 (by kernel_rfl) (by kernel_rfl)
          have s24 : w.ownsRow (nb + 2) 9 1 v24 (k + 1) (svs (List.replicate k zeroS) ++ [.string ⟨zeroS.toArray⟩]) := s240.2.2.2.1 rfl
          have hB := hS.mid (haf 5 (by kernel_rfl)) hun
          obtain ⟨A8, c8, rfl⟩ := ownsRow_form s24
          have hxw : BoxD w (nb + 1) #[.slice A5 k c5, .slice none 0 0, .int .i64 (-1), .bool false] := (hB.block _ HX.out.lt HNE.out).trans HX.out
          have hcg := hxw.cell 0
          have hzg := hxw.frozen 0
          exact op_stored (w' := w.setCell ⟨nb + 1, 0, none⟩ (.slice A8 (k + 1) c8)) rfl (wanted_none rfl) (by simp [go_sem, g25, g24, hcg, hzg]) (hK _ _ ⟨by simp [World.setCell], fun j hj hn => Below.heap_setCell _ _ _ _ (fun e => hn (.inr ⟨rfl, e⟩))⟩ (Staged.toLast ⟨A8, c8, w, hB, s24, rfl⟩) (fun t ht => by cases ht))
      · intro l fv_ w hl hS hf
        have hC := hS.last (hl 7 (by simp))
        have f19 : fv_ 19 = .pointer (some ⟨nb + 1, 0, none⟩) := (hf 19 (by simp)).1 _ rfl
        have f20 : fv_ 20 = .slice A5 k c5 := (hf 20 (by simp)).1 _ rfl
        have f21 : FullV wr.heap.size zeroS (fv_ 21) w := (hf 21 (by simp)).2.1 rfl
        have f22 : fv_ 22 = .string ⟨zeroS.toArray⟩ := (hf 22 (by simp)).1 _ rfl
        have f23 : OneS wr.heap.size zeroS (fv_ 23) w := (hf 23 (by simp)).2.2.1 rfl
        have f24 : w.ownsRow (nb + 2) 9 1 (fv_ 24) (k + 1) (svs (List.replicate k zeroS) ++ [.string ⟨zeroS.toArray⟩]) := (hf 24 (by simp)).2.2.2.1 rfl
        have f25 : fv_ 25 = .pointer (some ⟨nb + 1, 0, none⟩) := (hf 25 (by simp)).1 _ rfl
        simp only [putAll, List.foldl_cons, List.foldl_nil, List.setIfInBounds_toArray, List.set_cons_succ, List.set_cons_zero, f19, f20, f22, f25]
        clear f19 f20 f22 f25 hf
        clear f21 f23 f24
        obtain ⟨A8, c8, w9, hk9, ho9, rfl⟩ := hC
        have hx9 : BoxD w9 (nb + 1) #[.slice A5 k c5, .slice none 0 0, .int .i64 (-1), .bool false] := (hk9.block _ HX.out.lt HNE.out).trans HX.out
        have hy9 : BoxD w9 nb #[.slice none 0 0, .slice none 0 0, .int .i64 0, .bool false] := (hk9.block _ HY.out.lt HNE2.out).trans HY.out
        have HX8 := Lib.hid (show BoxD (w9.setCell ⟨nb + 1, 0, none⟩ (.slice A8 (k + 1) c8)) (nb + 1) #[.slice A8 (k + 1) c8, .slice none 0 0, .int .i64 (-1), .bool false] from hx9.set 0 _)
        have HY8 := Lib.hid (show BoxD (w9.setCell ⟨nb + 1, 0, none⟩ (.slice A8 (k + 1) c8)) nb #[.slice none 0 0, .slice none 0 0, .int .i64 0, .bool false] from (heap_setCell_other w9 ⟨nb + 1, 0, none⟩ nb _ (by simp)).trans hy9)
        have HR8 := Lib.hid (show (w9.setCell ⟨nb + 1, 0, none⟩ (.slice A8 (k + 1) c8)).ownsRow (nb + 2) 9 1 (.slice A8 (k + 1) c8) (k + 1) (svs (List.replicate (k + 1) zeroS)) from by
          rw [svs_snoc]
          exact own_boxc ho9 hx9 (by decide))
        have HB8 := Lib.hid ((HB.out.trans (hk9.below (by have := HX.out.lt; omega) (fun j hj => by have := (HROW.out.lt j hj).1; omega))).setCell (p := ⟨nb + 1, 0, none⟩) (by simp) (.slice A8 (k + 1) c8))
        clear hk9 ho9 hx9 hy9
        generalize w9.setCell ⟨nb + 1, 0, none⟩ (.slice A8 (k + 1) c8) = w8 at *
        go_wp2
        go_roundw
        case rel => exact ⟨k + 1, A8, c8, by omega, by go_num, HX8.out, HY8.out, HR8.out, HB8.out⟩
        case measure => simp [intOf]; omega
    · obtain rfl : k = n := by omega
      have HP := Lib.hid (show RefPostE nb W (newD k) 0 (.returned (.tuple #[.agg #[.slice A5 k c5, .slice none 0 0, .int .i64 (-1), .bool false], .int .i64 0])) (wr.setRow nb #[.slice A5 k c5, .slice none 0 0, .int .i64 (-1), .bool false]) from by
        refine ⟨_, rfl, ⟨.slice A5 k c5, .slice none 0 0, rfl, ?_, World.ownsRow_nil _ _ _ _⟩, ?_⟩
        · show World.ownsRow _ _ _ _ _ (List.replicate k zeroS).length _
          rw [List.length_replicate]
          exact own_from (own_box HROW.out HY.out (by decide) _) (by omega)
        · rw [HWN.out]
          exact HB.out.trans (below_box _ _ _))
      go_wp2_with (refine wpList_store_row rfl 46 (.tmp 2) (.tmp 26) rfl nb #[.slice A5 k c5, .slice none 0 0, .int .i64 (-1), .bool false] rfl rfl 46 #[.slice none 0 0, .slice none 0 0, .int .i64 0, .bool false] HY.out (by rw [Try.size46]; rfl) rfl (by simp [Value.oneCell']) ?_)
      refine bodyPost_ret (res2 rfl _ rfl (HY.out.row _) rfl) rfl ?_
      exact HP.out

end Go.Proofs.Ytcbdlggjpedffaa
