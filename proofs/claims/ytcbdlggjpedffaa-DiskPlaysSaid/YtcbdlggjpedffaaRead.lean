/- 'Read' of a disk: a sector with what waits, in new memory; or an error. No condition. -/
import Derived.Test.YtcbdlggjpedffaaSmall
namespace Go.Proofs.Ytcbdlggjpedffaa
open Go.RowKit Go.Maps
set_option linter.unusedSimpArgs false

theorem read_nil (i : Int) (w : World) : Calls Try.prog 15 #[.pointer none, .int .i64 i] w fun e w' => e = .returned (.tuple #[.slice none 0 0, .int .i64 1]) ∧ w' = w := by
  go_enter Try.func15, Try.ntmps15
  go_wp2_with fail
  refine (up_nil _ _).mono ?_
  rintro e w' ⟨rfl, rfl⟩
  go_wp2
  go_ret2
  exact ⟨rfl, rfl⟩

theorem read_err {F : Nat → Prop} {w : World} {g : Nat} {d : DK} {M : Nat} (h : DiskHas F w g d M) (i : Int) (he : upE d i ≠ 0) :
    Calls Try.prog 15 #[.pointer (some ⟨g, 0, none⟩), .int .i64 i] w fun e w' => e = .returned (.tuple #[.slice none 0 0, .int .i64 (upE d i)]) ∧ w' = w := by
  have hb : (upE d i != 0) = true := by simpa using he
  have HE := Lib.hid he
  clear he
  go_enter Try.func15, Try.ntmps15
  go_wp2_with fail
  refine (up_any h _).mono ?_
  rintro e w' ⟨rfl, rfl⟩
  go_wp2
  go_ret2
  exact ⟨rfl, rfl⟩

def ReadPost (w : World) (s : List UInt8) (e : Ending) (w' : World) : Prop :=
  ∃ v', e = .returned (.tuple #[v', .int .i64 0]) ∧ w'.ownsRow w.heap.size 5 1 v' s.length (bv s) ∧ Below w.heap.size w w'

theorem laidS_snoc (ws : List Wt) (p : Wt) (i : Nat) (s : List UInt8) : laidS (ws ++ [p]) i s = if p.1 = i then p.2 else laidS ws i s := by
  induction ws generalizing s with
  | nil => rfl
  | cons q ws ih => exact ih _
theorem laidS_len (ws : List Wt) (i : Nat) (s : List UInt8) (hw : ∀ p ∈ ws, p.2.length = 128) (hs : s.length = 128) : (laidS ws i s).length = 128 := by
  induction ws generalizing s with
  | nil => exact hs
  | cons q ws ih =>
    unfold laidS
    refine ih _ (fun p hp => hw p (List.mem_cons_of_mem _ hp)) ?_
    split
    · exact hw q (List.mem_cons_self)
    · exact hs

theorem own_max {w : World} {B e size n : Nat} {v : Value} {xs : List Value} (h : w.ownsRow B e size v n xs) : n ≤ maxLen := by
  rcases h.2 with ⟨_, h0⟩ | ⟨g, cap, cur, _, _, _, h1, h2, _⟩
  · omega
  · omega

theorem wcells_tail {w : World} {b : Nat} {i : Int} {s : List UInt8} {t : TypeId} {fr : Nat × Nat} (h : w.heap[b]? = some (.cells (wcells i s).toArray t fr)) : w.rangeAt b 1 (bv s) := by
  intro j u hu
  rw [cell_of_row w b (1 + j) _ t fr h, Nat.add_comm]
  simpa [wcells] using hu

theorem below_setRow {B : Nat} {a w : World} (h : Below B a w) {g : Nat} (hg : B ≤ g) (cs : Array Value) : Below B a (w.setRow g cs) :=
  ⟨h.os, h.tape, h.output, by simpa using h.size, fun k hk => (setRow_other w g k cs (by omega)).trans (h.block k hk)⟩

theorem upE_in {d : DK} {i : Int} (h : upE d i = 0) : d.down = false ∧ 0 ≤ i ∧ i < d.L.length := by
  unfold upE at h
  cases hd : d.down with
  | true => rw [hd] at h; simp at h
  | false =>
    rw [hd] at h
    simp only [Bool.false_eq_true, if_false] at h
    split at h
    · cases h
    · exact ⟨rfl, by omega, by omega⟩

set_option maxRecDepth 100000 in
set_option maxHeartbeats 1000000 in
theorem read_in {F : Nat → Prop} {w : World} {g : Nat} {d : DK} {M : Nat} (h : DiskHas F w g d M) (i : Nat) (he : upE d i = 0) :
    Calls Try.prog 15 #[.pointer (some ⟨g, 0, none⟩), .int .i64 i] w (ReadPost w (readD d i)) := by
  obtain ⟨i0, hi0, hz0, hz1, hz2⟩ := info_parts Try.info5
  have hup := up_any h (i : Int)
  rw [he] at hup
  obtain ⟨_, _, hin⟩ := upE_in he
  obtain ⟨mb, sv, h⟩ := h
  have hil : i < d.L.length := by omega
  have hs0 : d.L[i]? = some d.L[i] := List.getElem?_eq_getElem hil
  have hs128 : d.L[i].length = 128 := h.secs _ (List.getElem_mem hil)
  have hlook := h.mp.look hs0 (by have := h.big.2; omega)
  have HRD := Lib.hid (show readD d i = laidS d.waits i d.L[i] by unfold readD; rw [hs0]; rfl)
  generalize d.L[i] = s0 at *
  obtain ⟨_, c1, c2, _, _⟩ := h.cells
  obtain ⟨A, c, hsv⟩ := h.form
  rw [hsv] at c2
  have HSV := Lib.hid hsv
  have HH := Lib.hid h
  have HUP := Lib.hid hup
  have hcs : (bv s0).toArray.size = 128 := by simp [bv_length, hs128]
  have HCS := Lib.hid hcs
  have HS := Lib.hid hs128
  clear h he hin hil hs0 hup hsv hcs
  go_enter Try.func15, Try.ntmps15
  go_wp2_with fail
  refine HUP.out.mono ?_
  rintro e wq ⟨rfl, rfl⟩
  clear HUP
  go_wp2_with (refine wpList_alloc_store rfl rfl 64 7 (.tmp 21) rfl rfl rfl rfl (bv s0).toArray zeroA (by simp) rfl (by rw [HCS.out]; exact Try.zero64) (by rw [HCS.out]; simp [zeroA, bv_length, zeroS_length]) (all_one (bv_one s0)) ?_; have hb2 : Below wq.heap.size wq (wq.alloc (.cells (bv s0).toArray 64)) := (Below.refl _ _).alloc (Nat.le_refl _) _; have hblk2 := heap_alloc_last wq (.cells (bv s0).toArray 64); obtain ⟨w2, hw2⟩ : ∃ w2, w2 = wq.alloc (.cells (bv s0).toArray 64) := ⟨_, rfl⟩; rw [← hw2] at hb2 hblk2 ⊢; have HB2 := Lib.hid hb2; have HBL2 := Lib.hid hblk2; obtain ⟨_, _, d2, _, _⟩ := (HH.out.below hb2).cells; rw [HSV.out] at d2; clear hw2 hb2 hblk2 c1 c2 hlook)
  go_loopw [27] (fun t wr => ∃ k : Nat, k ≤ d.waits.length ∧ t = .int .i64 k ∧ wr.heap[wq.heap.size]? = some (.cells (bv (laidS (d.waits.take k) i s0)).toArray 64 (0, 0)) ∧ Below wq.heap.size wq wr) (fun t _ => d.waits.length - (intOf t).toNat)
  case atStart => exact ⟨0, Nat.zero_le _, rfl, HBL2.out, HB2.out⟩
  case round =>
    clear d2 HB2 HBL2
    obtain ⟨k, hk, rfl, hblk, hb⟩ := hrel
    have HBL := Lib.hid hblk
    have HB := Lib.hid hb
    have HW := Lib.hid (fun p hp => (HH.out.wts p hp).1)
    have hlt7 : wq.heap.size < wr.heap.size := (Array.getElem?_eq_some_iff.1 hblk).1
    have HLT := Lib.hid hlt7
    have HLEN := Lib.hid (laidS_len (d.waits.take k) i s0 (fun p hp => HW.out p (List.mem_of_mem_take hp)) HS.out)
    clear hblk hb hlt7
    have hwm : (d.waits.length : Int) ≤ 9223372036854775807 := by have h1 := own_max HH.out.row; unfold maxLen at h1; omega
    rcases Nat.lt_or_ge k d.waits.length with hlt | hge
    · have hlt' : (k : Int) < (d.waits.length : Int) := by omega
      have hp : d.waits[k]? = some d.waits[k] := List.getElem?_eq_getElem hlt
      have HTK := Lib.hid (show laidS (d.waits.take (k + 1)) i s0 = if d.waits[k].1 = i then d.waits[k].2 else laidS (d.waits.take k) i s0 by rw [List.take_succ_eq_append_getElem hlt, laidS_snoc])
      have HP := Lib.hid hp
      have HPL := Lib.hid ((HH.out.wts _ (List.getElem_mem hlt)).1)
      have HPI := Lib.hid ((HH.out.wts _ (List.getElem_mem hlt)).2)
      clear hp
      generalize d.waits[k] = p at *
      have hrow := (HH.out.below HB.out).row
      obtain ⟨gr, cr, hv, _, hgl⟩ := hrow.form (by omega)
      rw [HSV.out] at hv
      injection hv with hv1 _ hv3
      subst hv1
      subst hv3
      rw [HSV.out] at hrow
      have HRG := Lib.hid (rangeAt_of_own hrow HW.out HP.out)
      clear hrow
      have HCW := Lib.hid (show (wcells (p.1 : Int) p.2).toArray.size = 129 by simp [wcells_length, HPL.out])
      by_cases hpi : p.1 = i
      · have hbq : ((p.1 : Int) == (i : Int)) = true := by simp [hpi]
        have HPQ := Lib.hid hpi
        clear hpi
        go_wp2_with (first
            | (refine wpList_load_mid rfl 66 (.tmp 29) rfl gr (k * 129) rfl (wcells (p.1 : Int) p.2) _ HRG.out Try.underlying66 rfl (by rw [Try.size66, wcells_length, HPL.out]) ?_)
            | (refine wpList_alloc_store rfl rfl 66 9 (.tmp 30) rfl rfl rfl rfl (wcells (p.1 : Int) p.2).toArray (Value.int .i64 0 :: bv zeroS).toArray (by simp [Act.put]) rfl (by rw [HCW.out]; exact Try.zero66) (by rw [HCW.out]; simp [bv_length, zeroS_length]) (all_one (wcells_one _ _)) ?_; have hb9 : Below wr.heap.size wr (wr.alloc (.cells (wcells (p.1 : Int) p.2).toArray 66)) := (Below.refl _ _).alloc (Nat.le_refl _) _; have hblk9 := heap_alloc_last wr (.cells (wcells (p.1 : Int) p.2).toArray 66); obtain ⟨w9, hw9⟩ : ∃ w9, w9 = wr.alloc (.cells (wcells (p.1 : Int) p.2).toArray 66) := ⟨_, rfl⟩; rw [← hw9] at hb9 hblk9 ⊢; have HB9 := Lib.hid (HB.out.trans (hb9.mono HB.out.size)); have q0 : w9.cell? ⟨wr.heap.size, 0, none⟩ = some (.int .i64 (p.1 : Int)) := (by rw [cell_of_row w9 _ 0 _ 66 (0, 0) hblk9]; rfl); have HR9 := Lib.hid (show w9.rangeAt wr.heap.size 1 (bv p.2) from wcells_tail hblk9); have HBL9 := Lib.hid ((hb9.block _ HLT.out).trans HBL.out); clear hw9 hb9 hblk9)
            | (refine wpList_load_mid rfl 64 (.tmp 35) rfl wr.heap.size 1 rfl (bv p.2) _ HR9.out Try.underlying64 rfl (by rw [Try.size64, bv_length, HPL.out]) ?_)
            | (refine wpList_store_row rfl 64 (.tmp 7) (.tmp 36) rfl wq.heap.size (bv p.2).toArray rfl rfl 64 _ HBL9.out (by rw [Try.size64]; simp [bv_length, HPL.out]) (by simp [bv_length, HLEN.out, HPL.out]) (all_one (bv_one p.2)) ?_))
        go_roundw
        case rel => exact ⟨k + 1, by omega, by go_num, by rw [HTK.out, if_pos HPQ.out]; exact setRow_heap _ _ _ _ _ _ HBL9.out, below_setRow HB9.out (Nat.le_refl _) _⟩
        case measure => simp [intOf]; omega
      · have hbq : ((p.1 : Int) == (i : Int)) = false := by rw [beq_eq_false_iff_ne]; omega
        have HPQ := Lib.hid hpi
        clear hpi
        go_wp2_with (first
            | (refine wpList_load_mid rfl 66 (.tmp 29) rfl gr (k * 129) rfl (wcells (p.1 : Int) p.2) _ HRG.out Try.underlying66 rfl (by rw [Try.size66, wcells_length, HPL.out]) ?_)
            | (refine wpList_alloc_store rfl rfl 66 9 (.tmp 30) rfl rfl rfl rfl (wcells (p.1 : Int) p.2).toArray (Value.int .i64 0 :: bv zeroS).toArray (by simp [Act.put]) rfl (by rw [HCW.out]; exact Try.zero66) (by rw [HCW.out]; simp [bv_length, zeroS_length]) (all_one (wcells_one _ _)) ?_; have hb9 : Below wr.heap.size wr (wr.alloc (.cells (wcells (p.1 : Int) p.2).toArray 66)) := (Below.refl _ _).alloc (Nat.le_refl _) _; have hblk9 := heap_alloc_last wr (.cells (wcells (p.1 : Int) p.2).toArray 66); obtain ⟨w9, hw9⟩ : ∃ w9, w9 = wr.alloc (.cells (wcells (p.1 : Int) p.2).toArray 66) := ⟨_, rfl⟩; rw [← hw9] at hb9 hblk9 ⊢; have HB9 := Lib.hid (HB.out.trans (hb9.mono HB.out.size)); have q0 : w9.cell? ⟨wr.heap.size, 0, none⟩ = some (.int .i64 (p.1 : Int)) := (by rw [cell_of_row w9 _ 0 _ 66 (0, 0) hblk9]; rfl); have HR9 := Lib.hid (show w9.rangeAt wr.heap.size 1 (bv p.2) from wcells_tail hblk9); have HBL9 := Lib.hid ((hb9.block _ HLT.out).trans HBL.out); clear hw9 hb9 hblk9)
            | (refine wpList_load_mid rfl 64 (.tmp 35) rfl wr.heap.size 1 rfl (bv p.2) _ HR9.out Try.underlying64 rfl (by rw [Try.size64, bv_length, HPL.out]) ?_)
            | (refine wpList_store_row rfl 64 (.tmp 7) (.tmp 36) rfl wq.heap.size (bv p.2).toArray rfl rfl 64 _ HBL9.out (by rw [Try.size64]; simp [bv_length, HPL.out]) (by simp [bv_length, HLEN.out, HPL.out]) (all_one (bv_one p.2)) ?_))
        go_roundw
        case rel => exact ⟨k + 1, by omega, by go_num, by rw [HTK.out, if_neg HPQ.out]; exact HBL9.out, HB9.out⟩
        case measure => simp [intOf]; omega
    · obtain rfl : d.waits.length = k := by omega
      rw [List.take_length] at *
      have hnew : ∀ x : World, (x.alloc (.cells #[] 5)).ownsRow x.heap.size 5 1 (.slice (some ⟨x.heap.size, 0, none⟩) 0 0) 0 [] := fun x => World.ownsRow_lit x #[] 0 (Nat.le_refl _) (by unfold maxLen; omega) (by simp)
      have HNEW := Lib.hid hnew
      have HCL := Lib.hid (show ∀ j u, (bv (laidS d.waits i s0))[j]? = some u → (wr.alloc (.cells #[] 5)).cell? ((⟨wq.heap.size, 0, none⟩ : Addr).add j) = some u from fun j u hu => by
        rw [Addr.add_mid, World.cell?_alloc_lt wr _ _ (by show wq.heap.size < wr.heap.size; exact HLT.out), cell_of_row wr _ _ _ 64 (0, 0) HBL.out]
        simpa using hu)
      clear hnew hge hk
      go_wp2_with (at_builtin; refine wpList_append_own _ rfl _ _ 22 rfl wr.heap.size 5 i0 (.int .u8 0) 1 1 Try.underlying22 hi0 hz0 hz1 hz2 rfl (by decide) _ _ _ rfl (HNEW.out wr) ⟨wq.heap.size, 0, none⟩ 128 128 (bv (laidS d.waits i s0)) rfl (by rw [bv_length, HLEN.out]) HCL.out (bv_one _) (by unfold maxLen; omega) (by omega) (by simp) ?_; intro v' w3 hown3 hgrow3 _; have HO3 := Lib.hid hown3; have HG3 := Lib.hid hgrow3; clear hown3 hgrow3)
      go_ret2
      have hf : Below wq.heap.size wq w3 := (HB.out.alloc HB.out.size _).grown HG3.out (by have := HB.out.size; simp; omega) (fun k hk => by have hk' : some wr.heap.size = some k := hk; injection hk' with e; have := HB.out.size; omega)
      have ho := HO3.out
      rw [List.nil_append, Nat.zero_add] at ho
      refine ⟨v', rfl, ?_, hf⟩
      rw [HRD.out, HLEN.out]
      exact own_from ho HB.out.size

end Go.Proofs.Ytcbdlggjpedffaa
