/- The document's 'Crash' of layer 3. Conditions: at most 2^20 sectors, and writes that wait; each of a sector that is; at most 2^20 bytes that pick. -/
import Derived.Test.YtcbdlggjpedffaaRefFlush
namespace Go.Proofs.Ytcbdlggjpedffaa
open Go.RowKit
set_option linter.unusedSimpArgs false

theorem picks_out {l : List UInt8} {k : Nat} (h : l.length ≤ k / 8) : ∀ j, picks l (k + j) = picks l k
  | 0 => rfl
  | j + 1 => by
    rw [← Nat.add_assoc, picks_succ_miss l (k + j) (pickB_out (by omega)), picks_out h j]

set_option maxRecDepth 100000 in
set_option maxHeartbeats 2000000 in
theorem refcrash_any (B : Nat) (W : World) (v : Value) (d : DK) (ps : List UInt8) (h : RefB B W v d) (hB : B ≤ W.heap.size) (hW : d.waits.length ≤ 1048576) (hL : d.L.length ≤ 1048576) (hin : ∀ p ∈ d.waits, p.1 < d.L.length) (hps : ps.length ≤ 1048576) :
    Calls Try.prog 25 #[v, .string ⟨ps.toArray⟩] W (RefPostE B W (crashD d ps) (crashN d ps : Int)) := by
  have HBW := Lib.hid hB
  have HIN := Lib.hid hin
  have HLL := Lib.hid hL
  obtain ⟨Lv, Wv, hv, h1, h2⟩ := h
  obtain ⟨A1, c1, rfl⟩ := ownsRow_form h1
  obtain ⟨A2, c2, rfl⟩ := ownsRow_form h2
  subst hv
  have hba : Below W.heap.size W (W.alloc (.cells #[.slice A1 d.L.length c1, .slice A2 d.waits.length c2, .int .i64 d.left, .bool d.down] 46)) := (Below.refl _ _).alloc (Nat.le_refl _) _
  have hb0 : Below W.heap.size W ((W.alloc (.cells #[.slice A1 d.L.length c1, .slice A2 d.waits.length c2, .int .i64 d.left, .bool d.down] 46)).alloc (.cells #[.slice none 0 0, .slice none 0 0, .int .i64 0, .bool false] 46)) := hba.alloc hba.size _
  have HB0 := Lib.hid hb0
  have G1 := Lib.hid (own_below h1 hb0)
  have G2 := Lib.hid (own_below h2 hb0)
  have HX0 := Lib.hid (show BoxD ((W.alloc (.cells #[.slice A1 d.L.length c1, .slice A2 d.waits.length c2, .int .i64 d.left, .bool d.down] 46)).alloc (.cells #[.slice none 0 0, .slice none 0 0, .int .i64 0, .bool false] 46)) W.heap.size #[.slice A1 d.L.length c1, .slice A2 d.waits.length c2, .int .i64 d.left, .bool d.down] from (BoxD.new W #[.slice A1 d.L.length c1, .slice A2 d.waits.length c2, .int .i64 d.left, .bool d.down]).below ((Below.refl _ _).alloc (Nat.le_refl _) _) (by simp))
  have hy := BoxD.new (W.alloc (.cells #[.slice A1 d.L.length c1, .slice A2 d.waits.length c2, .int .i64 d.left, .bool d.down] 46)) #[.slice none 0 0, .slice none 0 0, .int .i64 0, .bool false]
  rw [show (W.alloc (.cells #[.slice A1 d.L.length c1, .slice A2 d.waits.length c2, .int .i64 d.left, .bool d.down] 46)).heap.size = W.heap.size + 1 by simp] at hy
  have HY0 := Lib.hid hy
  clear h1 h2 hba hb0 hy hin
  go_enter Try.func25, Try.ntmps25
  go_wp2
  generalize ((W.alloc (.cells #[.slice A1 d.L.length c1, .slice A2 d.waits.length c2, .int .i64 d.left, .bool d.down] 46)).alloc (.cells #[.slice none 0 0, .slice none 0 0, .int .i64 0, .bool false] 46)) = w0 at *
  have HINI := Lib.hid (show svs d.L = svs (laidL ((picks ps 0).filterMap (fun k => d.waits[k]?)) d.L) from rfl)
  go_loopw [6, 7] (fun q t wr => ∃ (k : Nat) (A5 : Option Addr) (c5 : Nat), k ≤ d.waits.length ∧ t = .int .i64 k ∧ q = .int .i64 ((picks ps k).length : Int) ∧ BoxD wr W.heap.size #[.slice A5 d.L.length c5, .slice A2 d.waits.length c2, .int .i64 d.left, .bool d.down] ∧ BoxD wr (W.heap.size + 1) #[.slice none 0 0, .slice none 0 0, .int .i64 0, .bool false] ∧ wr.ownsRow B 9 1 (.slice A5 d.L.length c5) d.L.length (svs (laidL ((picks ps k).filterMap (fun k => d.waits[k]?)) d.L)) ∧ wr.ownsRow B 72 2 (.slice A2 d.waits.length c2) d.waits.length (flatS d.waits) ∧ Below W.heap.size W wr) (fun _ t _ => d.waits.length - (intOf t).toNat)
  case atStart => exact ⟨0, A1, c1, Nat.zero_le _, rfl, rfl, HX0.out, HY0.out, by rw [← HINI.out]; exact G1.out, G2.out, HB0.out⟩
  case round =>
    obtain ⟨k, A5, c5, hk, rfl, rfl, hx, hy, hrow, hwr, hb⟩ := hrel
    have HX := Lib.hid hx
    have HY := Lib.hid hy
    have HROW := Lib.hid hrow
    have HWR := Lib.hid hwr
    have HB := Lib.hid hb
    obtain ⟨q0, q1, q2, q3⟩ := hx.four
    clear hx hy hrow hwr hb HX0 HY0 G1 G2 HB0
    by_cases hgo : k < d.waits.length ∧ k / 8 < ps.length
    · obtain ⟨hlt, hlp⟩ := hgo
      have hkl : (k : Int) < (d.waits.length : Int) := by omega
      have hk0 : (0 : Int) ≤ (k : Int) := by omega
      have hkp : (k : Int) / 8 < (ps.length : Int) := by omega
      obtain ⟨z, hz⟩ : ∃ z, ps[k / 8] = z := ⟨_, rfl⟩
      have hx : ps[k / 8]? = some z := by rw [← hz]; exact List.getElem?_eq_getElem hlp
      have HPB := Lib.hid (pickB_at hx)
      have hid0 : (0 : Int) ≤ (k : Int) / 8 := by omega
      have hidn : ((k : Int) / 8).toNat = k / 8 := by omega
      have HZ0 := Lib.hid (show ∀ h, (ByteArray.mk ps.toArray)[k / 8]'h = z from fun h => hz)
      have hxa : ps.toArray[k / 8]? = some z := by rw [List.getElem?_toArray]; exact hx
      clear hx hz
      have hzl : z.toNat < 256 := z.toNat_lt
      go_wp2
      go_loopw [8, 9] (fun x t wy => ∃ j : Nat, j ≤ k % 8 ∧ t = .int .i64 j ∧ x = .int .i64 ((z.toNat / 2 ^ j : Nat) : Int) ∧ wy = wr) (fun _ t _ => k % 8 - (intOf t).toNat)
      case atStart => exact ⟨0, Nat.zero_le _, rfl, by rw [HZ0.out, IntWalk.wrap64_in _ (by omega)]; simp, rfl⟩
      case round =>
        obtain ⟨j, hj, rfl, rfl, rfl⟩ := hrel
        obtain ⟨a, ha⟩ : ∃ a, a = z.toNat / 2 ^ j := ⟨_, rfl⟩
        have hal : a ≤ 255 := by rw [ha]; exact Nat.le_trans (Nat.div_le_self _ _) (by omega)
        have HA := Lib.hid ha
        rw [← ha]
        clear ha
        rcases Nat.lt_or_ge j (k % 8) with hlj | hgj
        · have hlj' : (j : Int) < (k : Int) % 8 := by omega
          go_wp2
          go_roundw
          case rel => exact ⟨j + 1, by omega, by go_num, by rw [Nat.pow_succ, ← Nat.div_div_eq_div_mul, ← HA.out]; congr 1, trivial⟩
          case measure => simp [intOf]; omega
        · obtain rfl : j = k % 8 := by omega
          have hgj' : decide (((k % 8 : Nat) : Int) < (k : Int) % 8) = false := by simp
          have HBV := Lib.hid (show bitV z k = (a % 2 == 1) by unfold bitV; rw [HA.out])
          cases hbv : bitV z k with
          | false =>
            have hb2 : ((a : Int) % 2 == 1) = false := by have h := HBV.out.symm.trans hbv; rw [beq_eq_false_iff_ne] at h ⊢; omega
            have HPF := Lib.hid (HPB.out.trans hbv)
            clear hbv
            go_wp2
            go_roundw
            case rel => exact ⟨k + 1, A5, c5, by omega, by go_num, by rw [picks_succ_miss ps k HPF.out], HX.out, HY.out, by rw [picks_succ_miss ps k HPF.out]; exact HROW.out, HWR.out, HB.out⟩
            case measure => simp [intOf]; omega
          | true =>
            have hb2 : ((a : Int) % 2 == 1) = true := by have h := HBV.out.symm.trans hbv; rw [beq_iff_eq] at h ⊢; omega
            have HPF := Lib.hid (HPB.out.trans hbv)
            have hp : d.waits[k]? = some d.waits[k] := List.getElem?_eq_getElem hlt
            obtain ⟨g4, c4', hv4, _, hgl4⟩ := HWR.out.form (by omega)
            injection hv4 with hv1 _ hv3
            subst hv1
            subst hv3
            have HG4 := Lib.hid (HWR.out.lt g4 rfl).2
            obtain ⟨f1, f2⟩ := flatS_get hp
            have e1 : wr.cell? ⟨g4, k * 2, none⟩ = some (.int .i64 (d.waits[k].1 : Int)) := by have := HWR.out.cells (g := g4) rfl _ _ f1; rwa [Addr.add_mid, Nat.zero_add] at this
            have e2 : wr.cell? ⟨g4, k * 2 + 1, none⟩ = some (.string ⟨d.waits[k].2.toArray⟩) := by have := HWR.out.cells (g := g4) rfl _ _ f2; rwa [Addr.add_mid, Nat.zero_add] at this
            have HPI := Lib.hid (HIN.out _ (List.getElem_mem hlt))
            have HLT := Lib.hid (show laidL ((picks ps (k + 1)).filterMap (fun k => d.waits[k]?)) d.L = (laidL ((picks ps k).filterMap (fun k => d.waits[k]?)) d.L).set d.waits[k].1 d.waits[k].2 by rw [picks_succ_hit ps k HPF.out, List.filterMap_append, List.filterMap_cons, hp, List.filterMap_nil, laidL_snoc])
            have HRL := Lib.hid (show (laidL ((picks ps k).filterMap (fun k => d.waits[k]?)) d.L).length = d.L.length from laidL_len _ _)
            have HPN := Lib.hid (show ((picks ps (k + 1)).length : Int) = ((picks ps k).length : Int) + 1 by rw [picks_succ_hit ps k HPF.out]; simp)
            have hpn : (picks ps k).length ≤ k := by unfold picks; have := List.length_filter_le (pickB ps) (List.range k); simpa using this
            clear hp f1 f2 q2 q3 hbv
            generalize d.waits[k] = p at *
            generalize laidL ((picks ps k).filterMap (fun k => d.waits[k]?)) d.L = R at *
            go_wp2
            clear q0 q1
            refine region_turns (by kernel_rfl) [40, 41, 42, 43, 44, 45, 46, 47, 48, 49, 50, 51, 52, 53, 54, 55] rfl (by simp) (by kernel_rfl) (Staged 14 16 (fun w' => Below wr.heap.size wr w') (fun w' => Below wr.heap.size wr w') (fun w' => ∃ A8 c8 w9, Below wr.heap.size wr w9 ∧ w9.ownsRow wr.heap.size 9 1 (.slice A8 d.L.length c8) d.L.length (svs (R.set p.1 p.2)) ∧ w' = w9.setCell ⟨W.heap.size, 0, none⟩ (.slice A8 d.L.length c8))) (Moved (fun i k => i = 16 ∧ k = W.heap.size)) (Says (fun q_ => match q_ with | 40 => some (.pointer (some ⟨W.heap.size, 0, none⟩)) | 41 => some (.slice A5 d.L.length c5) | 42 => some (.pointer (some ⟨W.heap.size, 1, none⟩)) | 43 => some (.slice (some ⟨g4, 0, none⟩) d.waits.length c2) | 44 => some (.int .i64 (k : Int)) | 45 => some (.pointer (some ⟨g4, k * 2, none⟩)) | 46 => some (.pointer (some ⟨g4, k * 2, none⟩)) | 47 => some (.int .i64 (p.1 : Int)) | 48 => some (.pointer (some ⟨W.heap.size, 1, none⟩)) | 49 => some (.slice (some ⟨g4, 0, none⟩) d.waits.length c2) | 50 => some (.int .i64 (k : Int)) | 51 => some (.pointer (some ⟨g4, k * 2, none⟩)) | 52 => some (.pointer (some ⟨g4, k * 2 + 1, none⟩)) | 53 => some (.string ⟨p.2.toArray⟩) | 55 => some (.pointer (some ⟨W.heap.size, 0, none⟩)) | _ => none) (fun q_ v w => (q_ = 54 → w.ownsRow wr.heap.size 9 1 v d.L.length (svs (R.set p.1 p.2))) ∧ True)) ?_ ?_ (turns_of_all rfl ?_) ?_
            · intro l hl
              refine Staged.start ?_ (hl _) (hl _)
              exact below_of_drewN wr 1 _
            · rintro i tt v w w' hnw hM ⟨h1, h2⟩
              obtain ⟨s54, _⟩ := h2
              refine ⟨h1, fun e => ownsRow_on (s54 e) fun k hk => hM.2 k ((s54 e).lt k hk).2 (fun hh => by have h5 := ((s54 e).lt k hk).1; have h6 := HX.out.lt; omega), trivial⟩
            · refine ⟨?_, ?_, ?_, ?_, ?_, ?_, ?_, ?_, ?_, ?_, ?_, ?_, ?_, ?_, ?_, ?_, ?_, trivial⟩
              · intro l a w K hbf haf hun hS hF hK
                have g2 : a.tmps[2]? = some (.pointer (some ⟨W.heap.size, 0, none⟩)) := unfed hF 2 (by kernel_rfl) (by kernel_rfl) rfl
                exact op_value (v := .pointer (some ⟨W.heap.size, 0, none⟩)) rfl (wanted_none rfl) (by simp [go_sem, g2]) (hK _ w (Moved.refl _ _ w) (hS.same (by decide) (by decide)) (says_exact 40 rfl (by simp)))
              · intro l a w K hbf haf hun hS hF hK
                have g40 := fedX hF 40 (.pointer (some ⟨W.heap.size, 0, none⟩)) (by kernel_rfl) (by kernel_rfl) rfl
                have hA := hS.either (hbf 16 (by kernel_rfl))
                have hc := (hA.cell (p := ⟨W.heap.size, 0, none⟩) HX.out.lt).trans (HX.out.cell 0)
                exact op_value (v := .slice A5 d.L.length c5) rfl (wanted_none rfl) (by simp [go_sem, g40, hc]) (hK _ w (Moved.refl _ _ w) (hS.same (by decide) (by decide)) (says_exact 41 rfl (by simp)))
              · intro l a w K hbf haf hun hS hF hK
                have g2 : a.tmps[2]? = some (.pointer (some ⟨W.heap.size, 0, none⟩)) := unfed hF 2 (by kernel_rfl) (by kernel_rfl) rfl
                exact op_value (v := .pointer (some ⟨W.heap.size, 1, none⟩)) rfl (wanted_none rfl) (by simp [go_sem, g2]) (hK _ w (Moved.refl _ _ w) (hS.same (by decide) (by decide)) (says_exact 42 rfl (by simp)))
              · intro l a w K hbf haf hun hS hF hK
                have g42 := fedX hF 42 (.pointer (some ⟨W.heap.size, 1, none⟩)) (by kernel_rfl) (by kernel_rfl) rfl
                have hA := hS.either (hbf 16 (by kernel_rfl))
                have hc := (hA.cell (p := ⟨W.heap.size, 1, none⟩) HX.out.lt).trans (HX.out.cell 1)
                exact op_value (v := .slice (some ⟨g4, 0, none⟩) d.waits.length c2) rfl (wanted_none rfl) (by simp [go_sem, g42, hc]) (hK _ w (Moved.refl _ _ w) (hS.same (by decide) (by decide)) (says_exact 43 rfl (by simp)))
              · intro l a w K hbf haf hun hS hF hK
                have g7 : a.tmps[7]? = some (.int .i64 (k : Int)) := unfed hF 7 (by kernel_rfl) (by kernel_rfl) rfl
                exact op_value rfl (wanted_none rfl) (run_move' (v := .int .i64 (k : Int)) rfl (eval_of g7) w) (hK _ w (Moved.refl _ _ w) (hS.same (by decide) (by decide)) (says_exact 44 rfl (by simp)))
              · intro l a w K hbf haf hun hS hF hK
                have g43 := fedX hF 43 (.slice (some ⟨g4, 0, none⟩) d.waits.length c2) (by kernel_rfl) (by kernel_rfl) rfl
                have g44 := fedX hF 44 (.int .i64 (k : Int)) (by kernel_rfl) (by kernel_rfl) rfl
                exact op_value (v := .pointer (some ⟨g4, k * 2, none⟩)) rfl (wanted_none rfl) (by simp [go_sem, g43, g44, hkl, hk0]) (hK _ w (Moved.refl _ _ w) (hS.same (by decide) (by decide)) (says_exact 45 rfl (by simp)))
              · intro l a w K hbf haf hun hS hF hK
                have g45 := fedX hF 45 (.pointer (some ⟨g4, k * 2, none⟩)) (by kernel_rfl) (by kernel_rfl) rfl
                exact op_value (v := .pointer (some ⟨g4, k * 2, none⟩)) rfl (wanted_none rfl) (by simp [go_sem, g45]) (hK _ w (Moved.refl _ _ w) (hS.same (by decide) (by decide)) (says_exact 46 rfl (by simp)))
              · intro l a w K hbf haf hun hS hF hK
                have g46 := fedX hF 46 (.pointer (some ⟨g4, k * 2, none⟩)) (by kernel_rfl) (by kernel_rfl) rfl
                have hA := hS.either (hbf 16 (by kernel_rfl))
                have hc := (hA.cell (p := ⟨g4, k * 2, none⟩) HG4.out).trans e1
                exact op_value (v := .int .i64 (p.1 : Int)) rfl (wanted_none rfl) (by simp [go_sem, g46, hc]) (hK _ w (Moved.refl _ _ w) (hS.same (by decide) (by decide)) (says_exact 47 rfl (by simp)))
              · intro l a w K hbf haf hun hS hF hK
                have g2 : a.tmps[2]? = some (.pointer (some ⟨W.heap.size, 0, none⟩)) := unfed hF 2 (by kernel_rfl) (by kernel_rfl) rfl
                exact op_value (v := .pointer (some ⟨W.heap.size, 1, none⟩)) rfl (wanted_none rfl) (by simp [go_sem, g2]) (hK _ w (Moved.refl _ _ w) (hS.same (by decide) (by decide)) (says_exact 48 rfl (by simp)))
              · intro l a w K hbf haf hun hS hF hK
                have g48 := fedX hF 48 (.pointer (some ⟨W.heap.size, 1, none⟩)) (by kernel_rfl) (by kernel_rfl) rfl
                have hA := hS.either (hbf 16 (by kernel_rfl))
                have hc := (hA.cell (p := ⟨W.heap.size, 1, none⟩) HX.out.lt).trans (HX.out.cell 1)
                exact op_value (v := .slice (some ⟨g4, 0, none⟩) d.waits.length c2) rfl (wanted_none rfl) (by simp [go_sem, g48, hc]) (hK _ w (Moved.refl _ _ w) (hS.same (by decide) (by decide)) (says_exact 49 rfl (by simp)))
              · intro l a w K hbf haf hun hS hF hK
                have g7 : a.tmps[7]? = some (.int .i64 (k : Int)) := unfed hF 7 (by kernel_rfl) (by kernel_rfl) rfl
                exact op_value rfl (wanted_none rfl) (run_move' (v := .int .i64 (k : Int)) rfl (eval_of g7) w) (hK _ w (Moved.refl _ _ w) (hS.same (by decide) (by decide)) (says_exact 50 rfl (by simp)))
              · intro l a w K hbf haf hun hS hF hK
                have g49 := fedX hF 49 (.slice (some ⟨g4, 0, none⟩) d.waits.length c2) (by kernel_rfl) (by kernel_rfl) rfl
                have g50 := fedX hF 50 (.int .i64 (k : Int)) (by kernel_rfl) (by kernel_rfl) rfl
                exact op_value (v := .pointer (some ⟨g4, k * 2, none⟩)) rfl (wanted_none rfl) (by simp [go_sem, g49, g50, hkl, hk0]) (hK _ w (Moved.refl _ _ w) (hS.same (by decide) (by decide)) (says_exact 51 rfl (by simp)))
              · intro l a w K hbf haf hun hS hF hK
                have g51 := fedX hF 51 (.pointer (some ⟨g4, k * 2, none⟩)) (by kernel_rfl) (by kernel_rfl) rfl
                exact op_value (v := .pointer (some ⟨g4, k * 2 + 1, none⟩)) rfl (wanted_none rfl) (by simp [go_sem, g51]) (hK _ w (Moved.refl _ _ w) (hS.same (by decide) (by decide)) (says_exact 52 rfl (by simp)))
              · intro l a w K hbf haf hun hS hF hK
                have g52 := fedX hF 52 (.pointer (some ⟨g4, k * 2 + 1, none⟩)) (by kernel_rfl) (by kernel_rfl) rfl
                have hA := hS.either (hbf 16 (by kernel_rfl))
                have hc := (hA.cell (p := ⟨g4, k * 2 + 1, none⟩) HG4.out).trans e2
                exact op_value (v := .string ⟨p.2.toArray⟩) rfl (wanted_none rfl) (by simp [go_sem, g52, hc]) (hK _ w (Moved.refl _ _ w) (hS.same (by decide) (by decide)) (says_exact 53 rfl (by simp)))
              · intro l a w K hbf haf hun hS hF hK
                have g41 := fedX hF 41 (.slice A5 d.L.length c5) (by kernel_rfl) (by kernel_rfl) rfl
                have g47 := fedX hF 47 (.int .i64 (p.1 : Int)) (by kernel_rfl) (by kernel_rfl) rfl
                have g53 := fedX hF 53 (.string ⟨p.2.toArray⟩) (by kernel_rfl) (by kernel_rfl) rfl
                have hA := hS.either (hbf 16 (by kernel_rfl))
                refine op_call (g := 32) (args := #[.slice A5 d.L.length c5, .int .i64 (p.1 : Int), .string ⟨p.2.toArray⟩]) rfl (wanted_none rfl) (by simp [go_sem, g41, g47, g53]) ?_
                refine (refput_any B w _ R p.1 p.2 (by rw [HRL.out]; exact own_below HROW.out hA) (by rw [HRL.out]; exact HPI.out) (by rw [HRL.out]; exact HLL.out)).mono ?_
                rintro e w9 ⟨v9, rfl, ho9, hb9⟩
                rw [HRL.out] at ho9
                exact ⟨_, rfl, hK _ w9 ⟨hb9.size, fun k hk _ => hb9.block k hk⟩ (Staged.keepE (bthen hA hb9) (hbf 16 (by kernel_rfl)) (by decide)) (says_special 54 rfl (by simp; exact own_from ho9 hA.size))⟩
              · intro l a w K hbf haf hun hS hF hK
                have g2 : a.tmps[2]? = some (.pointer (some ⟨W.heap.size, 0, none⟩)) := unfed hF 2 (by kernel_rfl) (by kernel_rfl) rfl
                exact op_value (v := .pointer (some ⟨W.heap.size, 0, none⟩)) rfl (wanted_none rfl) (by simp [go_sem, g2]) (hK _ w (Moved.refl _ _ w) (hS.same (by decide) (by decide)) (says_exact 55 rfl (by simp)))
              · intro l a w K hbf haf hun hS hF hK
                have g55 := fedX hF 55 (.pointer (some ⟨W.heap.size, 0, none⟩)) (by kernel_rfl) (by kernel_rfl) rfl
                obtain ⟨v54, g54, s540⟩ := fed hF 54 (by kernel_rfl) (by kernel_rfl)
                have s54 : w.ownsRow wr.heap.size 9 1 v54 d.L.length (svs (R.set p.1 p.2)) := s540.2.1 rfl
                have hB := hS.either hun
                obtain ⟨A8, c8, rfl⟩ := ownsRow_form s54
                have hxw := HX.out.below hB HX.out.lt
                have hcg := hxw.cell 0
                have hzg := hxw.frozen 0
                exact op_stored (w' := w.setCell ⟨W.heap.size, 0, none⟩ (.slice A8 d.L.length c8)) rfl (wanted_none rfl) (by simp [go_sem, g55, g54, hcg, hzg]) (hK _ _ ⟨by simp [World.setCell], fun k hk hn => Below.heap_setCell _ _ _ _ (fun e => hn ⟨rfl, e⟩)⟩ (Staged.toLast ⟨A8, c8, w, hB, s54, rfl⟩) (fun t ht => by cases ht))
            · intro l fv_ w hl hS hf
              have hC := hS.last (hl 16 (by simp))
              have f40 : fv_ 40 = .pointer (some ⟨W.heap.size, 0, none⟩) := (hf 40 (by simp)).1 _ rfl
              have f41 : fv_ 41 = .slice A5 d.L.length c5 := (hf 41 (by simp)).1 _ rfl
              have f42 : fv_ 42 = .pointer (some ⟨W.heap.size, 1, none⟩) := (hf 42 (by simp)).1 _ rfl
              have f43 : fv_ 43 = .slice (some ⟨g4, 0, none⟩) d.waits.length c2 := (hf 43 (by simp)).1 _ rfl
              have f44 : fv_ 44 = .int .i64 (k : Int) := (hf 44 (by simp)).1 _ rfl
              have f45 : fv_ 45 = .pointer (some ⟨g4, k * 2, none⟩) := (hf 45 (by simp)).1 _ rfl
              have f46 : fv_ 46 = .pointer (some ⟨g4, k * 2, none⟩) := (hf 46 (by simp)).1 _ rfl
              have f47 : fv_ 47 = .int .i64 (p.1 : Int) := (hf 47 (by simp)).1 _ rfl
              have f48 : fv_ 48 = .pointer (some ⟨W.heap.size, 1, none⟩) := (hf 48 (by simp)).1 _ rfl
              have f49 : fv_ 49 = .slice (some ⟨g4, 0, none⟩) d.waits.length c2 := (hf 49 (by simp)).1 _ rfl
              have f50 : fv_ 50 = .int .i64 (k : Int) := (hf 50 (by simp)).1 _ rfl
              have f51 : fv_ 51 = .pointer (some ⟨g4, k * 2, none⟩) := (hf 51 (by simp)).1 _ rfl
              have f52 : fv_ 52 = .pointer (some ⟨g4, k * 2 + 1, none⟩) := (hf 52 (by simp)).1 _ rfl
              have f53 : fv_ 53 = .string ⟨p.2.toArray⟩ := (hf 53 (by simp)).1 _ rfl
              have f54 : w.ownsRow wr.heap.size 9 1 (fv_ 54) d.L.length (svs (R.set p.1 p.2)) := (hf 54 (by simp)).2.1 rfl
              have f55 : fv_ 55 = .pointer (some ⟨W.heap.size, 0, none⟩) := (hf 55 (by simp)).1 _ rfl
              simp only [putAll, List.foldl_cons, List.foldl_nil, List.setIfInBounds_toArray, List.set_cons_succ, List.set_cons_zero, f40, f41, f42, f43, f44, f45, f46, f47, f48, f49, f50, f51, f52, f53, f55]
              clear f40 f41 f42 f43 f44 f45 f46 f47 f48 f49 f50 f51 f52 f53 f55 hf
              clear f54
              obtain ⟨A8, c8, w9, hb9, ho9, rfl⟩ := hC
              have hx9 := HX.out.below hb9 HX.out.lt
              have hy9 := HY.out.below hb9 HY.out.lt
              have HX8 := Lib.hid (show BoxD (w9.setCell ⟨W.heap.size, 0, none⟩ (.slice A8 d.L.length c8)) W.heap.size #[.slice A8 d.L.length c8, .slice (some ⟨g4, 0, none⟩) d.waits.length c2, .int .i64 d.left, .bool d.down] from hx9.set 0 _)
              have HY8 := Lib.hid (show BoxD (w9.setCell ⟨W.heap.size, 0, none⟩ (.slice A8 d.L.length c8)) (W.heap.size + 1) #[.slice none 0 0, .slice none 0 0, .int .i64 0, .bool false] from (heap_setCell_other w9 ⟨W.heap.size, 0, none⟩ (W.heap.size + 1) _ (by simp)).trans hy9)
              have HR8 := Lib.hid (show (w9.setCell ⟨W.heap.size, 0, none⟩ (.slice A8 d.L.length c8)).ownsRow B 9 1 (.slice A8 d.L.length c8) d.L.length (svs (laidL ((picks ps (k + 1)).filterMap (fun k => d.waits[k]?)) d.L)) from by
                rw [HLT.out]
                exact own_boxc (own_from ho9 (by have := HBW.out; have := HX.out.lt; omega)) hx9 (by decide))
              have HW8 := Lib.hid (show (w9.setCell ⟨W.heap.size, 0, none⟩ (.slice A8 d.L.length c8)).ownsRow B 72 2 (.slice (some ⟨g4, 0, none⟩) d.waits.length c2) d.waits.length (flatS d.waits) from own_boxc (own_below HWR.out hb9) hx9 (by decide))
              have HB8 := Lib.hid ((HB.out.trans (hb9.mono (by have := HX.out.lt; omega))).setCell (p := ⟨W.heap.size, 0, none⟩) (Nat.le_refl _) (.slice A8 d.L.length c8))
              clear hb9 ho9 hx9 hy9 e1 e2
              generalize w9.setCell ⟨W.heap.size, 0, none⟩ (.slice A8 d.L.length c8) = w8 at *
              go_wp2
              go_roundw
              case rel => exact ⟨k + 1, A8, c8, by omega, by go_num, by rw [HPN.out], HX8.out, HY8.out, HR8.out, HW8.out, HB8.out⟩
              case measure => simp [intOf]; omega
    · have hend : picks ps k = picks ps d.waits.length := by
        rcases Nat.eq_or_lt_of_le hk with e | e
        · rw [e]
        · obtain ⟨j, hj⟩ := Nat.exists_eq_add_of_le hk
          rw [hj]
          exact (picks_out (by omega) j).symm
      have HROW2 := Lib.hid (show wr.ownsRow B 9 1 (.slice A5 d.L.length c5) d.L.length (svs (crashD d ps).L) by have := HROW.out; rw [hend] at this; exact this)
      have HNN := Lib.hid (show ((picks ps k).length : Int) = (crashN d ps : Int) by rw [hend]; rfl)
      have HP := Lib.hid (show RefPostE B W (crashD d ps) (crashN d ps : Int) (.returned (.tuple #[.agg #[.slice A5 d.L.length c5, .slice none 0 0, .int .i64 (-1), .bool false], .int .i64 ((picks ps k).length : Int)])) (wr.setRow (W.heap.size + 1) #[.slice A5 d.L.length c5, .slice none 0 0, .int .i64 (-1), .bool false]) from by
        rw [HNN.out]
        refine ⟨_, rfl, ⟨.slice A5 d.L.length c5, .slice none 0 0, rfl, ?_, World.ownsRow_nil _ _ _ _⟩, HB.out.trans ((below_box _ _ _).mono (by omega))⟩
        rw [show (crashD d ps).L.length = d.L.length from laidL_len _ _]
        exact own_box HROW2.out HY.out (by decide) _)
      clear hend
      by_cases hkm : k < d.waits.length
      · have hkl : (k : Int) < (d.waits.length : Int) := by omega
        have hkp : decide ((k : Int) / 8 < (ps.length : Int)) = false := by simp; omega
        clear hgo
        go_wp2_with (refine wpList_store_row rfl 46 (.tmp 4) (.tmp 60) rfl (W.heap.size + 1) #[.slice A5 d.L.length c5, .slice none 0 0, .int .i64 (-1), .bool false] rfl rfl 46 #[.slice none 0 0, .slice none 0 0, .int .i64 0, .bool false] HY.out (by rw [Try.size46]; rfl) rfl (by simp [Value.oneCell']) ?_)
        refine bodyPost_ret (res2 rfl _ rfl (HY.out.row _) rfl) rfl ?_
        exact HP.out
      · obtain rfl : k = d.waits.length := by omega
        clear hgo hkm
        go_wp2_with (refine wpList_store_row rfl 46 (.tmp 4) (.tmp 60) rfl (W.heap.size + 1) #[.slice A5 d.L.length c5, .slice none 0 0, .int .i64 (-1), .bool false] rfl rfl 46 #[.slice none 0 0, .slice none 0 0, .int .i64 0, .bool false] HY.out (by rw [Try.size46]; rfl) rfl (by simp [Value.oneCell']) ?_)
        refine bodyPost_ret (res2 rfl _ rfl (HY.out.row _) rfl) rfl ?_
        exact HP.out

end Go.Proofs.Ytcbdlggjpedffaa
