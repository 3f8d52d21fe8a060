/- The walk of Draw of layer 6: it comes to the plain drawB, or to the error; lists shorter than 2^16, numbers at most 65536. -/
import Derived.Test.YtfijihjbjifhdaaFree
import Derived.Maps.AppendAt
import Derived.RangeFuncWrites
namespace Go.Proofs.Ytfijihjbjifhdaa
open Go.RowKit Go.Shelf

attribute [local go_sem] Oper.semAt_some

/-- What Draw gives: the free places, or none and the error's number. -/
def GivesDraw (w : World) (xs : List Int) (err : Int) (e : Ending) (w' : World) : Prop :=
  ∃ v', e = .returned (.tuple #[v', .int .i64 err]) ∧ Rd w' w'.heap.size v' (iv xs) ∧ Below w.heap.size w w'

theorem draw_neg (v : Value) (n0 many : Int) (h : many < 0) (w : World) :
    Calls Try.prog 9 #[v, .int .i64 n0, .int .i64 many] w (GivesDraw w [] 1) := by
  go_enter Try.func9, Try.ntmps9
  go_wp2
  go_ret2
  exact ⟨_, rfl, Rd.nil _ _, (Below.refl _ _).alloc (Nat.le_refl _) _⟩

theorem draw_zero (v : Value) (n0 : Int) (w : World) :
    Calls Try.prog 9 #[v, .int .i64 n0, .int .i64 0] w (GivesDraw w [] 0) := by
  go_enter Try.func9, Try.ntmps9
  go_wp2
  go_ret2
  exact ⟨_, rfl, Rd.nil _ _, ((Below.refl _ _).alloc (Nat.le_refl _) _).alloc (by simp) _⟩

theorem Try.info3 : (Try.prog.info? 3).map (fun i => (i.zero, i.size, i.bytes)) = some (some (.int .i64 0), 1, 8) := by kernel_rfl

/-- What holds between two rounds: the box of what is gathered, the row that it owns, and all else that was there. -/
structure DrawInv (h : Nat) (W0 : World) (pre : List Int) (W : World) : Prop where
  box : ∃ v, Boxed W (h + 1) 24 v ∧ W.ownsRow (h + 4) 3 1 v pre.length (iv pre)
  kp : KpF h (h + 2) W0 W
  many : W.heap[h]? = W0.heap[h]?
  size : W0.heap.size ≤ W.heap.size

theorem DrawInv.own {h : Nat} {W0 W W' : World} {pre : List Int} {row : Option Nat} (hs : DrawInv h W0 pre W) (h0 : W0.heap.size = h + 4) (hg : W.grownBy W' row)
    (hr : ∀ r, row = some r → W0.heap.size ≤ r ∧ ∃ o : Obj, W.heap[r]? = some o ∧ o.isCells = false) : DrawInv h W0 pre W' := by
  obtain ⟨⟨v, hv, hrow⟩, hk, hm, hz⟩ := hs
  have hne : ∀ k, k < h + 4 → some k ≠ row := fun k hk e => by have := (hr k e.symm).1; omega
  refine ⟨⟨v, hv.kept hg (hne _ (by omega)), hrow.kept hg ?_⟩, ⟨hk.1.grown hg (by omega) (fun k e => by have := (hr k e).1; omega), (hg.block _ (by omega) (hne _ (by omega))).trans hk.2⟩, (hg.block _ (by omega) (hne _ (by omega))).trans hm, Nat.le_trans hz hg.size⟩
  rcases hrow.2 with ⟨rfl, _⟩ | ⟨g, cap, cur, rfl, _, hgb, _⟩
  · exact .inl rfl
  · refine .inr fun e' => ?_
    obtain ⟨_, o, ho, hc⟩ := hr g e'.symm
    rw [hgb] at ho
    cases ho
    cases hc

theorem DrawInv.step {h : Nat} {W0 W w1 : World} {pre : List Int} {v v' : Value} {x : Int} {tmp : Obj} (hv : Boxed W (h + 1) 24 v) (hrow : W.ownsRow (h + 4) 3 1 v pre.length (iv pre))
    (hk : KpF h (h + 2) W0 W) (hm : W.heap[h]? = W0.heap[h]?) (hz : W0.heap.size ≤ W.heap.size) (h0 : W0.heap.size = h + 4)
    (hown' : w1.ownsRow (h + 4) 3 1 v' (pre.length + 1) (iv pre ++ [.int .i64 x])) (hgrow : (W.alloc tmp).grownBy w1 v.ownBlock) :
    Below (h + 4) W w1 ∧ Boxed w1 (h + 1) 24 v ∧ DrawInv h W0 (pre ++ [x]) (w1.setCell ⟨h + 1, 0, none⟩ v') ∧ KeepsOthers W (w1.setCell ⟨h + 1, 0, none⟩ v') ∧ KpF h (h + 2) W (w1.setCell ⟨h + 1, 0, none⟩ v') := by
  have hb : Below (h + 4) W w1 := ((Below.refl _ W).alloc (by omega) tmp).grown hgrow (by simp; omega) (fun k ek => (hrow.lt k ek).1)
  have hv1 : Boxed w1 (h + 1) 24 v := (hb.block (h + 1) (by omega)).trans hv
  have hkp : KpF h (h + 2) W (w1.setCell ⟨h + 1, 0, none⟩ v') :=
    ⟨(hb.mono (by omega)).setCell (p := ⟨h + 1, 0, none⟩) (by simp) _, (heap_setCell_other w1 ⟨h + 1, 0, none⟩ (h + 2) v' (by simp)).trans (hb.block (h + 2) (by omega))⟩
  refine ⟨hb, hv1, ⟨⟨v', hv1.set v', ?_⟩, hk.t hkp, ?_, ?_⟩, ?_, hkp⟩
  · rw [List.length_append, iv_append]
    exact ownsRow_setCell_below hown' (a := ⟨h + 1, 0, none⟩) (by simp) v'
  · exact (heap_setCell_other w1 ⟨h + 1, 0, none⟩ h v' (by simp)).trans ((hb.block h (by omega)).trans hm)
  · have := hb.size
    simp [World.setCell]
    omega
  · refine ((KeepsOthers.alloc W tmp).trans (KeepsOthers.of_grownBy hgrow fun j o ej hj => ?_)).trans (KeepsOthers.setCell _ _ _)
    rcases (hrow.alloc tmp).2 with ⟨rfl, _⟩ | ⟨g, cap, cur, rfl, _, hgb, _⟩
    · simp [Value.ownBlock] at ej
    · obtain rfl : g = j := by simpa [Value.ownBlock] using ej
      rw [hgb] at hj; cases hj; rfl

set_option maxRecDepth 100000 in
set_option maxHeartbeats 2000000 in
theorem draw_in (A : Option Addr) (m c : Nat) (l : List UInt8) (n0 : Int) (many : Nat) (hm : 0 < many) (hN : n0 ≤ 65536) (hmany : many ≤ 65536) (w : World) (hr : Rd w w.heap.size (.slice A m c) (bv l)) :
    CallsIn Fence.wide 5 Try.prog 9 #[.slice A m c, .int .i64 n0, .int .i64 many] w (GivesDraw w (drawB l n0 many) (drawE l n0 many)) := by
  have hfn : Fence.wide.fn 18 := trivial
  obtain ⟨i0, hi, hz0, hz1, hz2⟩ := info_parts Try.info3
  have hm0 : decide ((many : Int) < 0) = false := by simp
  have hm1 : decide ((0 : Int) < (many : Int)) = true := by simpa using hm
  refine callsIn_of_wp_marks Try.func9 rfl trivial ?_ rfl
  simp only [Try.ntmps9, List.size_toArray, List.length_cons, List.length_nil, Nat.reduceAdd, Nat.reduceSub, Array.replicate_succ, Array.replicate_zero, List.push_toArray, List.append_toArray, List.nil_append, List.cons_append]
  gi_wp2_with (gi_at_call 18; refine (free_in _ A _ c n0 _).mono ?_; rintro e w' ⟨rfl, rfl⟩)
  have b0 := Boxed.new w 3 (.int .i64 many)
  have b1 := Boxed.new (w.alloc (.cells #[.int .i64 many] 3)) 24 (.slice none 0 0)
  have b2 := Boxed.new ((w.alloc (.cells #[.int .i64 many] 3)).alloc (.cells #[.slice none 0 0] 24)) 22 (.slice A m c)
  have b3 := Boxed.new (((w.alloc (.cells #[.int .i64 many] 3)).alloc (.cells #[.slice none 0 0] 24)).alloc (.cells #[.slice A m c] 22)) 3 (.int .i64 n0)
  have hB0 : Below w.heap.size w ((((w.alloc (.cells #[.int .i64 many] 3)).alloc (.cells #[.slice none 0 0] 24)).alloc (.cells #[.slice A m c] 22)).alloc (.cells #[.int .i64 n0] 3)) :=
    ((((Below.refl _ w).alloc (Nat.le_refl _) _).alloc (by simp) _).alloc (by simp; omega) _).alloc (by simp; omega) _
  have hsz : ((((w.alloc (.cells #[.int .i64 many] 3)).alloc (.cells #[.slice none 0 0] 24)).alloc (.cells #[.slice A m c] 22)).alloc (.cells #[.int .i64 n0] 3)).heap.size = w.heap.size + 4 := by simp
  have b0' := ((b0.alloc (.cells #[.slice none 0 0] 24)).alloc (.cells #[.slice A m c] 22)).alloc (.cells #[.int .i64 n0] 3)
  have b1' := (b1.alloc (.cells #[.slice A m c] 22)).alloc (.cells #[.int .i64 n0] 3)
  have b2' := b2.alloc (.cells #[.int .i64 n0] 3)
  simp only [World.size_alloc, Nat.add_assoc, Nat.reduceAdd] at b1' b2' b3 ⊢
  clear b0 b1 b2
  generalize ((((w.alloc (.cells #[.int .i64 many] 3)).alloc (.cells #[.slice none 0 0] 24)).alloc (.cells #[.slice A m c] 22)).alloc (.cells #[.int .i64 n0] 3)) = W0 at *
  have HZ := Lib.hid hsz
  clear hsz
  refine wpIn_rangeFunc_ownG rfl (by omega) (gf := 23) (lb := #[.pointer (some ⟨w.heap.size + 3, 0, none⟩), .pointer (some ⟨w.heap.size + 2, 0, none⟩)]) rfl trivial (enters_of Try.func23 (by kernel_rfl) rfl)
    (free_stops 4 (by omega) (w.heap.size + 3) (w.heap.size + 2) w.heap.size (.slice A m c) l n0 (by omega) W0 (by have := HZ.out; omega) b3.cell b2'.cell (hr.below hB0)) KpF.t (KpF.b (by have := HZ.out; omega) (by have := HZ.out; omega)) (Below.refl _ _) (fun _ => rfl)
    (fun pre W => pre.length < many ∧ DrawInv w.heap.size W0 pre W)
    (fun c pre W => c = .exit 0 ∧ pre.length = many ∧ DrawInv w.heap.size W0 pre W)
    (fun s X Y row hs hg hr => ⟨hs.1, hs.2.own HZ.out hg hr⟩)
    (fun c s X Y row hs hg hr => ⟨hs.1, hs.2.1, hs.2.2.own HZ.out hg hr⟩)
    ⟨hm, ⟨⟨_, b1', World.ownsRow_nil _ _ _ _⟩, ⟨Below.refl _ _, rfl⟩, rfl, Nat.le_refl _⟩⟩
    (fun x => { tmps := #[.slice A m c, .int .i64 n0, .int .i64 many, undef, undef, .pointer (some ⟨w.heap.size, 0, none⟩), .slice none 0 0, .int .i64 0, .pointer (some ⟨w.heap.size + 1, 0, none⟩), .int .i64 x, .int .i64 many, .bool false, .int .i64 many, .bool true, .slice A m c, .int .i64 n0,
          .func (.func 23) #[] #[.pointer (some ⟨w.heap.size + 3, 0, none⟩), .pointer (some ⟨w.heap.size + 2, 0, none⟩)], .int .i64 x, undef, undef, undef, undef, undef, undef, undef, undef, undef, undef, undef, undef, undef], defers := [] }) ?assign ?body ?done ?stop
  case assign =>
    intro yl x W K hK
    gi_wp2
    exact hK
  case body =>
    rintro yl pre x W ⟨hlt, hD⟩ _
    obtain ⟨⟨v, hv, hrow⟩, hk, hmm, hz⟩ := hD
    have hc := hv.cell
    have hcm : W.cell? ⟨w.heap.size, 0, none⟩ = some (.int .i64 many) := (World.cell?_of_block hmm).trans b0'.cell
    have hfz := hv.frozen
    have hbase : w.heap.size + 4 ≤ W.heap.size := by have := HZ.out; omega
    gi_wp2_with (gi_at_builtin; refine wpListIn_append_own _ rfl _ _ 24 rfl (w.heap.size + 4) 3 i0 (.int .i64 0) 1 8 Try.underlying24 hi hz0 hz1 hz2 rfl (by decide) _ _ _ rfl (hrow.alloc _) ⟨W.heap.size, 0, none⟩ 1 1 [.int .i64 x] rfl rfl (cell_one_new _ _ _) (by simp [Value.oneCell']) (by unfold maxLen; omega) (by omega) (by simp; omega) ?_; intro v' w1 hown' hgrow _; obtain ⟨g', cap', rfl⟩ := ownsRow_succ hown'; obtain ⟨hb1, hv1, hD2, hk2, hkp2⟩ := DrawInv.step (x := x) hv hrow hk hmm hz HZ.out hown' hgrow; have hc1 := hv1.cell; have hf1 := hv1.frozen; have hm1 := (hb1.cell (p := ⟨w.heap.size, 0, none⟩) (by simp)).trans hcm; have HD2 := Lib.hid hD2; have HK2 := Lib.hid hk2; have HKP := Lib.hid hkp2; clear hD2 hk2 hkp2 hb1)
    · have hq : ((pre.length : Int) + 1 == (many : Int)) = true := by assumption
      have hq' : (pre.length : Int) + 1 = (many : Int) := by simpa using hq
      exact ⟨HK2.out.from _, rfl, by rw [List.length_append]; simp; omega, HD2.out⟩
    · have hq : ((pre.length : Int) + 1 == (many : Int)) = false := by assumption
      have hq' : (pre.length : Int) + 1 ≠ (many : Int) := by simpa using hq
      exact ⟨HK2.out.from _, HKP.out, by rw [List.length_append]; simp; omega, HD2.out⟩
  case done =>
    rintro D ys W hD rfl ⟨hlt, hI⟩ hK
    obtain ⟨⟨v, hv, hrow⟩, hk, hmm, hz⟩ := hI
    have hc := hv.cell
    have hcm : W.cell? ⟨w.heap.size, 0, none⟩ = some (.int .i64 many) := (World.cell?_of_block hmm).trans b0'.cell
    obtain ⟨A', c', rfl⟩ := ownsRow_form hrow
    have hE : drawE l n0 many = 66 := by unfold drawE; rw [if_neg (by omega), if_pos (by omega)]
    have hX : drawB l n0 many = [] := by unfold drawB; rw [if_pos (by omega)]
    have HE := Lib.hid hE
    have HX := Lib.hid hX
    clear hE hX
    gi_wp2
    refine ⟨by simp, .inl ⟨_, _, rfl, run_takeDeferred hK, ?_⟩⟩
    refine ⟨.tuple #[.slice none 0 0, .int .i64 66], by simp [results, Try.f9, go_sem], _, by rw [HE.out], by rw [HX.out]; exact Rd.nil _ _, ?_⟩
    exact hB0.trans (hk.1.trans (belowK_b (w := W0) (by have := HZ.out; omega) W D _ _ hD hK rfl rfl))
  case stop =>
    rintro D c pre W hD hp ⟨rfl, hl, hI⟩ hK
    obtain ⟨⟨v, hv, hrow⟩, hk, hmm, hz⟩ := hI
    have hc := hv.cell
    have hcm : W.cell? ⟨w.heap.size, 0, none⟩ = some (.int .i64 many) := (World.cell?_of_block hmm).trans b0'.cell
    obtain ⟨A', c', rfl⟩ := ownsRow_form hrow
    have hle := hp.length_le
    have htk : (freeB l n0.toNat).take many = pre := by
      rw [← hl]
      exact (List.prefix_iff_eq_take.1 hp).symm
    have hE : drawE l n0 many = 0 := by unfold drawE; rw [if_neg (by omega), if_neg (by omega)]
    have hX : drawB l n0 many = pre := by unfold drawB; rw [if_neg (by omega), Int.toNat_natCast, htk]
    have HE := Lib.hid hE
    have HX := Lib.hid hX
    have HL := Lib.hid hl
    have hlt : ¬ (pre.length : Int) < (many : Int) := by omega
    clear hE hX hl htk
    gi_wp2
    refine ⟨by simp, .inl ⟨_, _, rfl, run_takeDeferred hK, ?_⟩⟩
    refine ⟨.tuple #[.slice A' pre.length c', .int .i64 0], by simp [results, Try.f9, go_sem], _, by rw [HE.out], by rw [HX.out]; exact Rd.of_own (ownsRow_putObj hrow _ hK rfl), ?_⟩
    exact hB0.trans (hk.1.trans (belowK_b (w := W0) (by have := HZ.out; omega) W D _ _ hD hK rfl rfl))

/-- 'Draw', whatever it is given -/
theorem draw_any (v : Value) (l : List UInt8) (n0 many : Int) (hN : n0 ≤ 65536) (hmany : many ≤ 65536) (w : World) (hr : Rd w w.heap.size v (bv l)) :
    Calls Try.prog 9 #[v, .int .i64 n0, .int .i64 many] w (GivesDraw w (drawB l n0 many) (drawE l n0 many)) := by
  rcases Int.lt_trichotomy many 0 with h | rfl | h
  · have hE : drawE l n0 many = 1 := by unfold drawE; rw [if_pos h]
    have hX : drawB l n0 many = [] := by unfold drawB; rw [if_pos (.inl h)]
    rw [hE, hX]
    exact draw_neg v n0 many h w
  · have hE : drawE l n0 0 = 0 := by unfold drawE; rw [if_neg (by omega), if_neg (by omega)]
    have hX : drawB l n0 0 = [] := by unfold drawB; rw [if_neg (by omega)]; rfl
    rw [hE, hX]
    exact draw_zero v n0 w
  · obtain ⟨k, rfl⟩ := Int.eq_ofNat_of_zero_le (show 0 ≤ many by omega)
    obtain ⟨A, c, rfl, _⟩ := hr.form
    exact callsIn_wide.1 (draw_in A _ c l n0 k (by omega) hN (by omega) w hr)

end Go.Proofs.Ytfijihjbjifhdaa
