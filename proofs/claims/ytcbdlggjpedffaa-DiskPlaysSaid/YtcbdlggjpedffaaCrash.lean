/- 'Crash' of a disk: of the writes that wait those are laid that are picked; it begins anew. Conditions: the map has room; at most 2^40 bytes tell what is picked. -/
import Derived.Test.YtcbdlggjpedffaaPick
import Derived.Test.YtcbdlggjpedffaaStageIn
namespace Go.Proofs.Ytcbdlggjpedffaa
open Go.RowKit Go.Maps Go.Shelf
set_option linter.unusedSimpArgs false

attribute [local go_sem] Oper.semAt_some

theorem crash_nil (v : Value) (w : World) : Calls Try.prog 14 #[.pointer none, v] w fun e w' => e = .returned (.int .i64 0) ∧ Below w.heap.size w w' := by
  go_enter Try.func14, Try.ntmps14
  go_wp2
  go_ret
  exact ⟨rfl, (Below.refl _ _).alloc (Nat.le_refl _) _⟩

section
variable {F : Fence} {n : Nat} {P : Program} {ops : Array Oper} {w : World}

theorem wpListIn_load_mid {rest : List Oper} {op : Oper} {a : Act} {Q : Exit → Act → World → Prop} (hgd : op.guard = none) (ty : TypeId) (x : Operand) (ho : op.op = .load ty x)
    (b o : Nat) (hx : a.eval x = .pointer (some ⟨b, o, none⟩)) (cs : List Value) (d : TypeDesc) (hc : w.rangeAt b o cs)
    (hu : P.underlying ty = some d) (hd : d.isRow = true) (hi : (P.info? ty).map (·.size) = some cs.length)
    (h : wpListIn F n P ops Q rest (a.put op.dst (.agg cs.toArray)) w) : wpListIn F n P ops Q (op :: rest) a w := by
  refine wpListIn_plain hgd fun K hK => ?_
  unfold Oper.wpIn
  refine ⟨by simp [Oper.about, ho], ?_⟩
  rw [Oper.semAt_plain F _ _ (by rw [ho]; intro c hc'; cases hc'), exec_load cs d ho hx hc hu hd hi]
  exact hK _ _ h

theorem wpListIn_alloc_store {o1 o2 : Oper} {rest : List Oper} {a : Act} {Q : Exit → Act → World → Prop} (hg1 : o1.guard = none) (hg2 : o2.guard = none) (T : TypeId) (d : Tmp) (x : Operand) (ho1 : o1.op = .alloc T) (hd1 : o1.dst = some d)
    (ho2 : o2.op = .store T (.tmp d) x) (hd2 : o2.dst = none) (cells : Array Value) (z : Array Value) (hin : d < a.tmps.size) (hx : (a.put (some d) (.pointer (some ⟨w.heap.size, 0, none⟩))).eval x = .agg cells)
    (hz : (P.info? T).map (fun i => (i.zero, i.size)) = some (some (.agg z), cells.size)) (hzs : z.size = cells.size) (h1 : cells.all (·.oneCell') = true)
    (h : wpListIn F n P ops Q rest (a.put (some d) (.pointer (some ⟨w.heap.size, 0, none⟩))) (w.alloc (.cells cells T))) : wpListIn F n P ops Q (o1 :: o2 :: rest) a w := by
  obtain ⟨hz1, hz2⟩ := zero_of_info hz
  refine wpListIn_plain hg1 fun K hK => ?_
  have hr1 : (execOp a.eval o1).run P w = .ok (.value (.pointer (some ⟨w.heap.size, 0, none⟩))) (w.alloc (.cells z T)) := by
    unfold execOp
    simp [ho1, Instr.alloc, hz1 w, newVar, newRow, Value.cells, Result.andThen]
  unfold Oper.wpIn
  refine ⟨by simp [Oper.about, ho1], ?_⟩
  rw [Oper.semAt_plain F _ _ (by rw [ho1]; intro c hc'; cases hc'), hr1]
  refine hK _ _ ?_
  rw [hd1]
  refine wpListIn_plain hg2 fun K' hK' => ?_
  have he : (a.put (some d) (.pointer (some ⟨w.heap.size, 0, none⟩))).eval (.tmp d) = .pointer (some ⟨w.heap.size, 0, none⟩) := by simp [Act.eval, Act.put, Array.getD, hin]
  have hr2 : (execOp (a.put (some d) (.pointer (some ⟨w.heap.size, 0, none⟩))).eval o2).run P (w.alloc (.cells z T)) = .ok .skip (w.alloc (.cells cells T)) := by
    unfold execOp
    simp only [ho2, he, hx, Instr.storeAt, Instr.sureAddr, Sem.run_bind, Sem.run_pure, Result.andThen_ok, run_storeVar_row (w.alloc (.cells z T)) w.heap.size T T z cells (heap_alloc_last w _) hz2 hzs h1, World.setRow_alloc_new]
  unfold Oper.wpIn
  refine ⟨by simp [Oper.about, ho2], ?_⟩
  rw [Oper.semAt_plain F _ _ (by rw [ho2]; intro c hc'; cases hc'), hr2]
  simp only [Oper.uponIn]
  rw [hd2]
  exact hK' _ _ h
end

/-- what the writes that are picked are -/
def chosen {N : Nat} (ws : List Wt) (pre : List (Fin N)) : List Wt := pre.filterMap fun x => ws[x.val]?

theorem KpP.b {B0 mb b1 b2 : Nat} {w : World} (hB : B0 ≤ w.heap.size) (h1 : b1 < w.heap.size) (h2 : b2 < w.heap.size) (W : World) (l : Nat) (o o' : Obj) (hl : w.heap.size ≤ l) (_ : W.heap[l]? = some o) (_ : o.isCells = false) (_ : o.isWalk = false) : KpP B0 mb b1 b2 W (W.putObj l o') :=
  ⟨rfl, rfl, rfl, by simp, fun k _ hn => World.putObj_heap_other (fun e => hn (.inr (by omega)))⟩

/-- What holds between two rounds. -/
structure CrashInv (F : Nat → Prop) (h g : Nat) (W0 : World) (d : DK) (M mb : Nat) (sv : Value) (pre : List (Fin d.waits.length)) (W : World) : Prop where
  many : Boxed W (h + 1) 3 (.int .i64 (pre.length : Int))
  ptr : Boxed W h 24 (.pointer (some ⟨g, 0, none⟩))
  disk : DiskIs F W g { d with L := laidL (chosen d.waits pre) d.L } (M + pre.length) mb sv
  kept : Kept (fun k => k = mb ∨ k = h + 1 ∨ h + 4 ≤ k) W0 W

theorem CrashInv.own {F : Nat → Prop} {h g : Nat} {W0 W W' : World} {d : DK} {M mb : Nat} {sv : Value} {pre : List (Fin d.waits.length)} {row : Option Nat} (hs : CrashInv F h g W0 d M mb sv pre W) (h0 : W0.heap.size = h + 4) (hF : ∀ k, F k → k < h) (hg : W.grownBy W' row)
    (hr : ∀ r, row = some r → W0.heap.size ≤ r ∧ ∃ o : Obj, W.heap[r]? = some o ∧ o.isCells = false) : CrashInv F h g W0 d M mb sv pre W' := by
  have hne : ∀ k, k < h + 4 → some k ≠ row := fun k hk e => by have := (hr k e.symm).1; omega
  refine ⟨hs.many.kept hg (hne _ (by omega)), hs.ptr.kept hg (hne _ (by omega)), hs.disk.on fun k hk hFk => hg.block k hk (hne k (by have := hF k hFk; omega)), hs.kept.then ⟨hg.os, hg.tape, hg.output, hg.size, fun k hk hn => hg.block k hk (fun e => ?_)⟩⟩
  have := (hr k e.symm).1
  exact hn (.inr (.inr (by omega)))


theorem picksF_len (l : List UInt8) (N : Nat) : (picksF l N N (Nat.le_refl _)).length ≤ N := by
  have := congrArg List.length (picksF_val l N N (Nat.le_refl _))
  rw [List.length_map] at this
  rw [this]
  unfold picks
  have := List.length_filter_le (pickB l) (List.range N)
  simpa using this

theorem CrashInv.step {F : Nat → Prop} {h g : Nat} {W0 W w9 w10 : World} {d : DK} {M mb : Nat} {sv : Value} {pre : List (Fin d.waits.length)} (hs : CrashInv F h g W0 d M mb sv pre W) (h0 : W0.heap.size = h + 4) (hF : ∀ k, F k → k < h) (hmb : mb < h)
    (hb : Below W.heap.size W w9) (x : Fin d.waits.length) {i : Nat} {s : List UInt8} (hs128 : s.length = 128)
    (hown : OwnM w10 mb (M + pre.length + 1) (laidL (chosen d.waits (pre ++ [x])) d.L)) (hL : laidL (chosen d.waits (pre ++ [x])) d.L = (laidL (chosen d.waits pre) d.L).set i s) (hgr : w9.drew.grownBy w10 (some mb)) :
    KeepsFrom W0.heap.size W (w10.setCell ⟨h + 1, 0, none⟩ (.int .i64 ((pre.length : Int) + 1))) ∧ KpP h mb (h + 3) (h + 2) W (w10.setCell ⟨h + 1, 0, none⟩ (.int .i64 ((pre.length : Int) + 1))) ∧
      CrashInv F h g W0 d M mb sv (pre ++ [x]) (w10.setCell ⟨h + 1, 0, none⟩ (.int .i64 ((pre.length : Int) + 1))) := by
  have hWz : h + 4 ≤ W.heap.size := by rw [← h0]; exact hs.kept.size
  have hz : W.heap.size ≤ (w10.setCell ⟨h + 1, 0, none⟩ (.int .i64 ((pre.length : Int) + 1))).heap.size := by
    have h1 := hb.size
    have h2 := hgr.size
    simp [World.setCell]
    exact Nat.le_trans h1 h2
  have hk10 : ∀ k, k < W.heap.size → k ≠ mb → w10.heap[k]? = W.heap[k]? := fun k hk hn => (hgr.block k (Nat.lt_of_lt_of_le hk hb.size) (fun e => hn (by injection e))).trans (hb.block k hk)
  have hk11 : ∀ k, k < W.heap.size → k ≠ mb → k ≠ h + 1 → (w10.setCell ⟨h + 1, 0, none⟩ (.int .i64 ((pre.length : Int) + 1))).heap[k]? = W.heap[k]? := fun k hk hn hn1 => (heap_setCell_other w10 ⟨h + 1, 0, none⟩ k _ hn1).trans (hk10 k hk hn)
  have hm10 : Boxed w10 (h + 1) 3 (.int .i64 (pre.length : Int)) := (hk10 (h + 1) (by omega) (by omega)).trans hs.many
  have hD10 := (((hs.disk.below hb).below (below_of_drewN w9 1 _)).stored hs128 (by rw [← hL]; exact hown) hgr)
  have hD11 := hD10.on (w' := w10.setCell ⟨h + 1, 0, none⟩ (.int .i64 ((pre.length : Int) + 1))) (fun k hk hFk => heap_setCell_other w10 ⟨h + 1, 0, none⟩ k _ (by have := hF k hFk; simp only; omega))
  refine ⟨⟨hz, fun k o hB hk ho => ?_⟩, ⟨?_, ?_, ?_, hz, fun k hk hn => hk11 k hk (fun e => hn (.inl e)) (fun e => hn (.inr (by omega)))⟩, ?_, ?_, ?_, hs.kept.then ⟨?_, ?_, ?_, hz, fun k hk hn => hk11 k hk (fun e => hn (.inl e)) (fun e => hn (.inr (.inl e)))⟩⟩
  · have hkl := (Array.getElem?_eq_some_iff.1 hk).1
    rw [hk11 k hkl (by omega) (by omega)]
    exact hk
  · exact hgr.os.trans hb.os
  · exact hgr.tape.trans hb.tape
  · exact hgr.output.trans hb.output
  · have := hm10.set (.int .i64 ((pre.length : Int) + 1))
    rw [List.length_append]
    exact this
  · exact (hk11 h (by omega) (by omega) (by omega)).trans hs.ptr
  · rw [List.length_append, hL]
    exact hD11
  · exact hgr.os.trans hb.os
  · exact hgr.tape.trans hb.tape
  · exact hgr.output.trans hb.output

/-- the disk's own block while it begins anew -/
def CrSt (g : Nat) (W : World) (n mb : Nat) (sv : Value) (left : Int) (down : Bool) (l : Nat → Bool) (w : World) : Prop :=
  w.heap[g]? = some (.cells #[.int .i64 n, .map (some mb), if l 5 = true then .slice none 0 0 else sv, .int .i64 (if l 8 = true then -1 else left), .bool (if l 11 = true then false else down)] 61 (0, 0)) ∧
    (∀ k, k ≠ g → w.heap[k]? = W.heap[k]?) ∧ w.os = W.os ∧ w.tape = W.tape ∧ w.output = W.output ∧ w.heap.size = W.heap.size

section
variable {g n mb : Nat} {W w : World} {sv : Value} {left : Int} {down : Bool} {l : Nat → Bool}
theorem CrSt.start (h : W.heap[g]? = some (.cells #[.int .i64 n, .map (some mb), sv, .int .i64 left, .bool down] 61 (0, 0))) (h5 : l 5 = false) (h8 : l 8 = false) (h11 : l 11 = false) : CrSt g W n mb sv left down l W.drew := by
  refine ⟨?_, fun _ _ => rfl, rfl, rfl, rfl, rfl⟩
  rw [h5, h8, h11]
  exact h
theorem CrSt.same (h : CrSt g W n mb sv left down l w) {i : Nat} (n5 : 5 ≠ i) (n8 : 8 ≠ i) (n11 : 11 ≠ i) : CrSt g W n mb sv left down (upd l i) w := by
  unfold CrSt upd at *
  rw [if_neg n5, if_neg n8, if_neg n11]
  exact h
theorem CrSt.cells (h : CrSt g W n mb sv left down l w) : w.cell? ⟨g, 2, none⟩ = some (if l 5 = true then .slice none 0 0 else sv) ∧ w.cell? ⟨g, 3, none⟩ = some (.int .i64 (if l 8 = true then -1 else left)) ∧ w.cell? ⟨g, 4, none⟩ = some (.bool (if l 11 = true then false else down)) := by
  refine ⟨?_, ?_, ?_⟩ <;> (rw [cell_of_row w g _ _ 61 (0, 0) h.1]; rfl)
theorem CrSt.frozen (h : CrSt g W n mb sv left down l w) (j : Nat) : w.frozen? ⟨g, j, none⟩ = false := frozen_of_row w g j _ 61 h.1
theorem CrSt.box (h : CrSt g W n mb sv left down l w) {b o : Nat} {v : Value} (hc : W.cell? ⟨b, o, none⟩ = some v) (hb : b ≠ g) : w.cell? ⟨b, o, none⟩ = some v := (World.cell?_of_block (h.2.1 b hb)).trans hc
theorem CrSt.others (h : CrSt g W n mb sv left down l w) (j : Nat) (v : Value) : (∀ k, k ≠ g → (w.setCell ⟨g, j, none⟩ v).heap[k]? = W.heap[k]?) ∧ (w.setCell ⟨g, j, none⟩ v).os = W.os ∧ (w.setCell ⟨g, j, none⟩ v).tape = W.tape ∧ (w.setCell ⟨g, j, none⟩ v).output = W.output ∧ (w.setCell ⟨g, j, none⟩ v).heap.size = W.heap.size :=
  ⟨fun k hk => (heap_setCell_other w ⟨g, j, none⟩ k v hk).trans (h.2.1 k hk), h.2.2.1, h.2.2.2.1, h.2.2.2.2.1, by simp [World.setCell]; exact h.2.2.2.2.2⟩
theorem CrSt.s2 (h : CrSt g W n mb sv left down l w) : CrSt g W n mb sv left down (upd l 5) (w.setCell ⟨g, 2, none⟩ (.slice none 0 0)) := by
  refine ⟨?_, h.others 2 _⟩
  have := heap_setCell_same w g 2 _ 61 (.slice none 0 0) h.1
  rw [this]
  simp [upd]
theorem CrSt.s3 (h : CrSt g W n mb sv left down l w) : CrSt g W n mb sv left down (upd l 8) (w.setCell ⟨g, 3, none⟩ (.int .i64 (-1))) := by
  refine ⟨?_, h.others 3 _⟩
  have := heap_setCell_same w g 3 _ 61 (.int .i64 (-1)) h.1
  rw [this]
  simp [upd]
theorem CrSt.s4 (h : CrSt g W n mb sv left down l w) : CrSt g W n mb sv left down (upd l 11) (w.setCell ⟨g, 4, none⟩ (.bool false)) := by
  refine ⟨?_, h.others 4 _⟩
  have := heap_setCell_same w g 4 _ 61 (.bool false) h.1
  rw [this]
  simp [upd]
theorem CrSt.done (h : CrSt g W n mb sv left down l w) (h5 : l 5 = true) (h8 : l 8 = true) (h11 : l 11 = true) : w.heap[g]? = some (.cells #[.int .i64 n, .map (some mb), .slice none 0 0, .int .i64 (-1), .bool false] 61 (0, 0)) ∧
    (∀ k, k ≠ g → w.heap[k]? = W.heap[k]?) ∧ w.os = W.os ∧ w.tape = W.tape ∧ w.output = W.output ∧ w.heap.size = W.heap.size := by
  refine ⟨?_, h.2⟩
  have := h.1
  rw [h5, h8, h11] at this
  simpa using this
end

theorem chosen_picks (ws : List Wt) (l : List UInt8) : chosen ws (picksF l ws.length ws.length (Nat.le_refl _)) = (picks l ws.length).filterMap (fun k => ws[k]?) := by
  unfold chosen
  rw [← picksF_val l ws.length ws.length (Nat.le_refl _), List.filterMap_map]
  rfl

theorem crash_end {F : Nat → Prop} {h g : Nat} {w W0 W : World} {d : DK} {M mb : Nat} {sv : Value} {l : List UInt8} {D : Nat} (hh : h = w.heap.size) (hB0 : Below h w W0) (h0 : W0.heap.size = h + 4) (hF : ∀ k, F k → k < h)
    (hI : CrashInv F h g W0 d M mb sv (picksF l d.waits.length d.waits.length (Nat.le_refl _)) W) (hD : W0.heap.size ≤ D) :
    ∀ w' : World, (w'.heap[g]? = some (.cells #[.int .i64 d.L.length, .map (some mb), .slice none 0 0, .int .i64 (-1), .bool false] 61 (0, 0)) ∧ (∀ k, k ≠ g → w'.heap[k]? = W.heap[k]?) ∧ w'.os = W.os ∧ w'.tape = W.tape ∧ w'.output = W.output ∧ w'.heap.size = W.heap.size) →
      Ending.returned (.int .i64 ((picksF l d.waits.length d.waits.length (Nat.le_refl _)).length : Int)) = .returned (.int .i64 ((picks l d.waits.length).length : Int)) ∧ ∃ M', M' ≤ M + d.waits.length ∧ DiskHas F (w'.putObj D (.deferred none)) g (crashD d l) M' ∧ Kept F w (w'.putObj D (.deferred none)) := by
  rintro w' ⟨hg, ho, h1, h2, h3, h4⟩
  have hlen : (picksF l d.waits.length d.waits.length (Nat.le_refl _)).length = (picks l d.waits.length).length := by
    have := congrArg List.length (picksF_val l d.waits.length d.waits.length (Nat.le_refl _))
    rwa [List.length_map] at this
  have hd := hI.disk
  have hD2 : ∀ k, k ≠ D → (w'.putObj D (.deferred none)).heap[k]? = w'.heap[k]? := fun k hk => World.putObj_heap_other hk
  have hgD : g ≠ D := by have := hF g hd.fg; omega
  have hmD : mb ≠ D := by have := hF mb hd.fm; omega
  have hmg : mb ≠ g := (hd.mp.ne_cells hd.blk).symm
  refine ⟨by rw [hlen], M + (picksF l d.waits.length d.waits.length (Nat.le_refl _)).length, Nat.add_le_add_left (picksF_len l d.waits.length) _, ⟨mb, .slice none 0 0, ?_⟩, ?_⟩
  · refine ⟨?_, hd.fg, ?_, hd.fm, World.ownsRow_nil _ _ _ _, (fun k hk => by cases hk), ?_, (fun p hp => by simp [crashD] at hp), ?_, by simp [crashD]⟩
    · rw [hD2 g hgD, hg]
      simp [crashD, laidL_len]
    · have := hd.mp.on (w' := w'.putObj D (.deferred none)) ((hD2 mb hmD).trans (ho mb hmg))
      rw [chosen_picks] at this
      exact this
    · have := hd.secs
      rw [chosen_picks] at this
      exact this
    · have := hd.big
      rw [chosen_picks] at this
      exact this
  · have hks := hI.kept
    refine ⟨h1.trans (hks.os.trans hB0.os), h2.trans (hks.tape.trans hB0.tape), h3.trans (hks.output.trans hB0.output), ?_, fun k hk hn => ?_⟩
    · have h5 := hB0.size
      have h6 := hks.size
      simp
      omega
    · have hkF : k ≠ g := fun e => hn (e ▸ hd.fg)
      rw [hD2 k (by omega), ho k hkF, hks.block k (by omega) (by rintro (e | e | e); exact hn (e ▸ hd.fm); omega; omega)]
      exact hB0.block k (by omega)

set_option maxRecDepth 100000 in
set_option maxHeartbeats 2000000 in
theorem crash_in {F : Nat → Prop} {w : World} {g : Nat} {d : DK} {M : Nat} (hD : DiskHas F w g d M) (hF : ∀ k, F k → k < w.heap.size) (A : Option Addr) (m c : Nat) (l : List UInt8) (hr : Rd w w.heap.size (.slice A l.length c) (bv l)) (hE : Effect m l) (hN : d.waits.length ≤ 1099511627776) (hM : M + d.waits.length ≤ 1099511627776) :
    CallsIn Fence.wide 5 Try.prog 14 #[.pointer (some ⟨g, 0, none⟩), .slice A m c] w (fun e w' => e = .returned (.int .i64 ((picks l d.waits.length).length : Int)) ∧ ∃ M', M' ≤ M + d.waits.length ∧ DiskHas F w' g (crashD d l) M' ∧ Kept F w w') := by
  obtain ⟨mb, sv, hD⟩ := hD
  have hfn : Fence.wide.fn 29 := trivial
  have hgl := hD.glt
  obtain ⟨_, _, c2, _, _⟩ := hD.cells
  obtain ⟨As, cs, rfl⟩ := hD.form
  refine callsIn_of_wp_marks Try.func14 rfl trivial ?_ rfl
  simp only [Try.ntmps14, List.size_toArray, List.length_cons, List.length_nil, Nat.reduceAdd, Nat.reduceSub, Array.replicate_succ, Array.replicate_zero, List.push_toArray, List.append_toArray, List.nil_append, List.cons_append]
  gi_wp2_with (gi_at_call 29; refine (picked_in _ A _ c _ _).mono ?_; rintro e w' ⟨rfl, rfl⟩)
  have b0 := Boxed.new w 24 (.pointer (some ⟨g, 0, none⟩))
  have b1 := Boxed.new (w.alloc (.cells #[.pointer (some ⟨g, 0, none⟩)] 24)) 3 (.int .i64 0)
  have b2 := Boxed.new ((w.alloc (.cells #[.pointer (some ⟨g, 0, none⟩)] 24)).alloc (.cells #[.int .i64 0] 3)) 22 (.slice A m c)
  have b3 := Boxed.new (((w.alloc (.cells #[.pointer (some ⟨g, 0, none⟩)] 24)).alloc (.cells #[.int .i64 0] 3)).alloc (.cells #[.slice A m c] 22)) 3 (.int .i64 d.waits.length)
  have hB0 : Below w.heap.size w ((((w.alloc (.cells #[.pointer (some ⟨g, 0, none⟩)] 24)).alloc (.cells #[.int .i64 0] 3)).alloc (.cells #[.slice A m c] 22)).alloc (.cells #[.int .i64 d.waits.length] 3)) := ((((Below.refl _ w).alloc (Nat.le_refl _) _).alloc (by simp) _).alloc (by simp; omega) _).alloc (by simp; omega) _
  have hsz : ((((w.alloc (.cells #[.pointer (some ⟨g, 0, none⟩)] 24)).alloc (.cells #[.int .i64 0] 3)).alloc (.cells #[.slice A m c] 22)).alloc (.cells #[.int .i64 d.waits.length] 3)).heap.size = w.heap.size + 4 := by simp
  have b0' := ((b0.alloc (.cells #[.int .i64 0] 3)).alloc (.cells #[.slice A m c] 22)).alloc (.cells #[.int .i64 d.waits.length] 3)
  have b1' := (b1.alloc (.cells #[.slice A m c] 22)).alloc (.cells #[.int .i64 d.waits.length] 3)
  have b2' := b2.alloc (.cells #[.int .i64 d.waits.length] 3)
  simp only [World.size_alloc, Nat.add_assoc, Nat.reduceAdd] at b1' b2' b3 ⊢
  clear b0 b1 b2 c2
  generalize ((((w.alloc (.cells #[.pointer (some ⟨g, 0, none⟩)] 24)).alloc (.cells #[.int .i64 0] 3)).alloc (.cells #[.slice A m c] 22)).alloc (.cells #[.int .i64 d.waits.length] 3)) = W0 at *
  have HZ := Lib.hid hsz
  have HB0 := Lib.hid hB0
  have HD0 := Lib.hid (hD.below hB0)
  have HFB := Lib.hid hF
  have HW := Lib.hid (fun p hp => (HD0.out.wts p hp).1)
  generalize hh : w.heap.size = h at *
  have HH := Lib.hid hh
  have hmap : ∃ es clock, W0.heap[mb]? = some (.map es clock) := by
    obtain ⟨D, ⟨es, clock, hb, _⟩, _⟩ := HD0.out.mp
    exact ⟨es, clock, hb⟩
  have HMB := Lib.hid (HFB.out mb HD0.out.fm)
  have HGB := Lib.hid (HFB.out g HD0.out.fg)
  clear hsz hD hF hgl hh
  refine wpIn_rangeFunc_ownG rfl (by omega) (gf := 34) (lb := #[.pointer (some ⟨h + 3, 0, none⟩), .pointer (some ⟨h + 2, 0, none⟩)]) rfl trivial (enters_of Try.func34 (by kernel_rfl) rfl)
    (picked_stops 4 (by omega) (h + 3) (h + 2) h mb A m c l d.waits.length hN hE W0 (by have := HZ.out; omega) b3.cell b2'.cell (hr.below hB0) hmap) KpP.t (KpP.b (by have := HZ.out; omega) (by have := HZ.out; omega) (by have := HZ.out; omega)) (Below.refl _ _) (fun _ => rfl)
    (fun pre W => CrashInv F h g W0 d M mb (.slice As d.waits.length cs) pre W)
    (fun _ _ _ => False)
    (fun s X Y row hs hg hr => hs.own HZ.out HFB.out hg hr)
    (fun c s X Y row hs hg hr => hs)
    ⟨b1', b0', HD0.out, Kept.refl _ _⟩
    (fun x => { tmps := #[.pointer (some ⟨g, 0, none⟩), .slice A m c, .pointer (some ⟨h, 0, none⟩), undef, .int .i64 0, .pointer (some ⟨h + 1, 0, none⟩), .int .i64 (x.val : Int), undef, .pointer (some ⟨g, 0, none⟩), .bool false, .slice A m c, .pointer (some ⟨g, 0, none⟩), .pointer (some ⟨g, 0, none⟩), .pointer (some ⟨g, 2, none⟩), .slice As d.waits.length cs, .int .i64 d.waits.length,
          .func (.func 34) #[] #[.pointer (some ⟨h + 3, 0, none⟩), .pointer (some ⟨h + 2, 0, none⟩)], .int .i64 (x.val : Int), undef, undef, undef, undef, undef, undef, undef, undef, undef, undef, undef, undef, undef, undef, undef, undef, undef, undef, undef, undef, undef, undef, undef, undef, undef, undef, undef], defers := [] }) ?assign ?body ?done ?stop
  case assign =>
    intro yl x W K hK
    gi_wp2
    exact hK
  case body =>
    rintro yl pre ⟨xv, hxn⟩ W hI hlen
    have hln : pre.length < d.waits.length := Nat.lt_of_lt_of_le hlen (picksF_len l d.waits.length)
    have HLN := Lib.hid (show M + pre.length < 1099511627776 by omega)
    clear hlen
    have hp : d.waits[xv]? = some d.waits[xv] := List.getElem?_eq_getElem hxn
    have hxl : (xv : Int) < (d.waits.length : Int) := by omega
    have HP := Lib.hid hp
    have HPL := Lib.hid ((HD0.out.wts _ (List.getElem_mem hxn)).1)
    have HPI := Lib.hid ((HD0.out.wts _ (List.getElem_mem hxn)).2)
    have HCH := Lib.hid (show laidL (chosen d.waits (pre ++ [⟨xv, hxn⟩])) d.L = (laidL (chosen d.waits pre) d.L).set d.waits[xv].1 d.waits[xv].2 by
      unfold chosen
      rw [List.filterMap_append, List.filterMap_cons, hp, List.filterMap_nil, laidL_snoc])
    clear hp
    generalize d.waits[xv] = p at *
    have HI := Lib.hid hI
    have hrow := hI.disk.row
    obtain ⟨gr, cr, hv, _, hgl⟩ := hrow.form (show 0 < d.waits.length by omega)
    injection hv with hv1 _ hv3
    subst hv1
    subst hv3
    have HRG := Lib.hid (rangeAt_of_own hrow HW.out HP.out)
    have HCW := Lib.hid (show (wcells (p.1 : Int) p.2).toArray.size = 129 by simp [wcells_length, HPL.out])
    have hbase : h + 4 ≤ W.heap.size := by have h1 := HZ.out; have h2 := hI.kept.size; omega
    have HBS := Lib.hid hbase
    have q3 := hI.ptr.cell
    have q4 := hI.disk.cells.2.2.1
    clear hI hrow hbase
    gi_wp2_with (first
      | (refine wpListIn_load_mid rfl 66 (.tmp 23) rfl gr (xv * 129) rfl (wcells (p.1 : Int) p.2) _ HRG.out Try.underlying66 rfl (by rw [Try.size66, wcells_length, HPL.out]) ?_)
      | (refine wpListIn_alloc_store rfl rfl 66 7 (.tmp 24) rfl rfl rfl rfl (wcells (p.1 : Int) p.2).toArray (Value.int .i64 0 :: bv zeroS).toArray (by simp [Act.put]) rfl (by rw [HCW.out]; exact Try.zero66) (by rw [HCW.out]; simp [bv_length, zeroS_length]) (all_one (wcells_one _ _)) ?_; have hb9 : Below W.heap.size W (W.alloc (.cells (wcells (p.1 : Int) p.2).toArray 66)) := (Below.refl _ _).alloc (Nat.le_refl _) _; have hblk9 := heap_alloc_last W (.cells (wcells (p.1 : Int) p.2).toArray 66); have hko9 := KeepsOthers.alloc W (.cells (wcells (p.1 : Int) p.2).toArray 66); obtain ⟨w9, hw9⟩ : ∃ w9, w9 = W.alloc (.cells (wcells (p.1 : Int) p.2).toArray 66) := ⟨_, rfl⟩; rw [← hw9] at hb9 hblk9 hko9 ⊢; have q0 : w9.cell? ⟨W.heap.size, 0, none⟩ = some (.int .i64 (p.1 : Int)) := (by rw [cell_of_row w9 _ 0 _ 66 (0, 0) hblk9]; rfl); have HR9 := Lib.hid (show w9.rangeAt W.heap.size 1 (bv p.2) from wcells_tail hblk9); have HB9 := Lib.hid hb9; have HKO := Lib.hid hko9; clear hw9 hb9 hblk9 hko9 q3 q4))
    have HD9 := Lib.hid (HI.out.disk.below HB9.out)
    obtain ⟨w10, hrun, hown, hgr⟩ := (HD9.out.mp.on (w' := w9.drew) rfl).store (i := p.1) p.2 (by have h1 := HPI.out; have h2 := HD0.out.big.2; omega) (by have h1 := HLN.out; unfold maxLen; omega)
    have HST := Lib.hid (HI.out.step HZ.out HFB.out HMB.out HB9.out ⟨xv, hxn⟩ (i := p.1) HPL.out (by rw [HCH.out]; exact hown) HCH.out hgr)
    have HRUN := Lib.hid hrun
    have HMV := Lib.hid (show Moved (fun _ k => k = mb) 8 w9.drew w10 from ⟨hgr.size, fun k hk hn => hgr.block k hk (fun e => hn (by injection e))⟩)
    have hk12 : ∀ k, k < W.heap.size → k ≠ mb → w10.heap[k]? = W.heap[k]? := fun k hk hn => (hgr.block k (Nat.lt_of_lt_of_le hk HB9.out.size) (fun e => hn (by injection e))).trans (HB9.out.block k hk)
    have q1 := HD9.out.cells.2.1
    have q2 : w9.cell? ⟨h, 0, none⟩ = some (.pointer (some ⟨g, 0, none⟩)) := (World.cell?_of_block (HB9.out.block h (by have := HBS.out; omega))).trans HI.out.ptr.cell
    have q5 : w10.cell? ⟨h + 1, 0, none⟩ = some (.int .i64 (pre.length : Int)) := (World.cell?_of_block (hk12 (h + 1) (by have := HBS.out; omega) (by have := HMB.out; omega))).trans HI.out.many.cell
    have q6 : w10.frozen? ⟨h + 1, 0, none⟩ = false := (World.frozen?_of_block (hk12 (h + 1) (by have := HBS.out; omega) (by have := HMB.out; omega))).trans HI.out.many.frozen
    have HQ := Lib.hid (And.intro q5 q6)
    clear hrun hown hgr hk12 q5 q6
    refine region_turnsIn (by kernel_rfl) [25, 26, 27, 28, 29, 30, 31, 32] rfl (by simp) (by kernel_rfl) (Staged 8 8 (fun w' => w' = w9.drew) (fun _ => False) (fun w' => w' = w10)) (Moved (fun _ k => k = mb)) (Says (fun q_ => match q_ with | 25 => some (.pointer (some ⟨g, 0, none⟩)) | 26 => some (.pointer (some ⟨g, 0, none⟩)) | 27 => some (.pointer (some ⟨g, 1, none⟩)) | 28 => some (.map (some mb)) | 29 => some (.pointer (some ⟨W.heap.size, 0, none⟩)) | 30 => some (.int .i64 (p.1 : Int)) | 31 => some (.pointer (some ⟨W.heap.size, 1, none⟩)) | 32 => some (.agg (bv p.2).toArray) | _ => none) (fun q_ v w => True)) ?_ ?_ (turnsIn_of_all rfl ?_) ?_
    · intro l hl
      refine Staged.start ?_ (hl _) (hl _)
      rfl
    · rintro i tt v w w' hnw hM ⟨h1, h2⟩
      exact ⟨h1, trivial⟩
    · refine ⟨?_, ?_, ?_, ?_, ?_, ?_, ?_, ?_, ?_, trivial⟩
      · intro l a w K hbf haf hun hS hF hK
        have g2 : a.tmps[2]? = some (.pointer (some ⟨h, 0, none⟩)) := unfed hF 2 (by kernel_rfl) (by kernel_rfl) rfl
        have hA := hS.first (hbf 8 (by kernel_rfl)) (hbf 8 (by kernel_rfl))
        subst hA
        exact opIn_value (v := .pointer (some ⟨g, 0, none⟩)) rfl (wanted_none rfl) (by simp [go_sem, g2, q2]) (hK _ _ (Moved.refl _ _ _) (hS.same (by decide) (by decide)) (says_exact 25 rfl (by simp)))
      · intro l a w K hbf haf hun hS hF hK
        have g25 := fedX hF 25 (.pointer (some ⟨g, 0, none⟩)) (by kernel_rfl) (by kernel_rfl) rfl
        exact opIn_value (v := .pointer (some ⟨g, 0, none⟩)) rfl (wanted_none rfl) (by simp [go_sem, g25]) (hK _ w (Moved.refl _ _ w) (hS.same (by decide) (by decide)) (says_exact 26 rfl (by simp)))
      · intro l a w K hbf haf hun hS hF hK
        have g26 := fedX hF 26 (.pointer (some ⟨g, 0, none⟩)) (by kernel_rfl) (by kernel_rfl) rfl
        exact opIn_value (v := .pointer (some ⟨g, 1, none⟩)) rfl (wanted_none rfl) (by simp [go_sem, g26]) (hK _ w (Moved.refl _ _ w) (hS.same (by decide) (by decide)) (says_exact 27 rfl (by simp)))
      · intro l a w K hbf haf hun hS hF hK
        have g27 := fedX hF 27 (.pointer (some ⟨g, 1, none⟩)) (by kernel_rfl) (by kernel_rfl) rfl
        have hA := hS.first (hbf 8 (by kernel_rfl)) (hbf 8 (by kernel_rfl))
        subst hA
        exact opIn_value (v := .map (some mb)) rfl (wanted_none rfl) (by simp [go_sem, g27, q1]) (hK _ _ (Moved.refl _ _ _) (hS.same (by decide) (by decide)) (says_exact 28 rfl (by simp)))
      · intro l a w K hbf haf hun hS hF hK
        have g7 : a.tmps[7]? = some (.pointer (some ⟨W.heap.size, 0, none⟩)) := unfed hF 7 (by kernel_rfl) (by kernel_rfl) rfl
        exact opIn_value (v := .pointer (some ⟨W.heap.size, 0, none⟩)) rfl (wanted_none rfl) (by simp [go_sem, g7]) (hK _ w (Moved.refl _ _ w) (hS.same (by decide) (by decide)) (says_exact 29 rfl (by simp)))
      · intro l a w K hbf haf hun hS hF hK
        have g29 := fedX hF 29 (.pointer (some ⟨W.heap.size, 0, none⟩)) (by kernel_rfl) (by kernel_rfl) rfl
        have hA := hS.first (hbf 8 (by kernel_rfl)) (hbf 8 (by kernel_rfl))
        subst hA
        exact opIn_value (v := .int .i64 (p.1 : Int)) rfl (wanted_none rfl) (by simp [go_sem, g29, q0]) (hK _ _ (Moved.refl _ _ _) (hS.same (by decide) (by decide)) (says_exact 30 rfl (by simp)))
      · intro l a w K hbf haf hun hS hF hK
        have g7 : a.tmps[7]? = some (.pointer (some ⟨W.heap.size, 0, none⟩)) := unfed hF 7 (by kernel_rfl) (by kernel_rfl) rfl
        exact opIn_value (v := .pointer (some ⟨W.heap.size, 1, none⟩)) rfl (wanted_none rfl) (by simp [go_sem, g7]) (hK _ w (Moved.refl _ _ w) (hS.same (by decide) (by decide)) (says_exact 31 rfl (by simp)))
      · intro l a w K hbf haf hun hS hF hK
        have g31 := fedX hF 31 (.pointer (some ⟨W.heap.size, 1, none⟩)) (by kernel_rfl) (by kernel_rfl) rfl
        have hA := hS.first (hbf 8 (by kernel_rfl)) (hbf 8 (by kernel_rfl))
        subst hA
        exact opIn_value (v := .agg (bv p.2).toArray) rfl (wanted_none rfl) (exec_load (bv p.2) _ rfl (eval_of g31) (rangeAt_drew HR9.out) Try.underlying64 rfl (by rw [Try.size64, bv_length, HPL.out])) (hK _ _ (Moved.refl _ _ _) (hS.same (by decide) (by decide)) (says_exact 32 rfl (by simp)))
      · intro l a w K hbf haf hun hS hF hK
        have g28 := fedX hF 28 (.map (some mb)) (by kernel_rfl) (by kernel_rfl) rfl
        have g30 := fedX hF 30 (.int .i64 (p.1 : Int)) (by kernel_rfl) (by kernel_rfl) rfl
        have g32 := fedX hF 32 (.agg (bv p.2).toArray) (by kernel_rfl) (by kernel_rfl) rfl
        have hA := hS.first hun hun
        subst hA
        exact opIn_stored (w' := w10) rfl (wanted_none rfl) (by simp [execOp, eval_of g28, eval_of g30, eval_of g32, HRUN.out, Result.andThen]) (hK _ _ HMV.out (Staged.toLast rfl) (fun t ht => by cases ht))
    · intro l fv_ w hl hS hf
      have hC := hS.last (hl 8 (by simp))
      have f25 : fv_ 25 = .pointer (some ⟨g, 0, none⟩) := (hf 25 (by simp)).1 _ rfl
      have f26 : fv_ 26 = .pointer (some ⟨g, 0, none⟩) := (hf 26 (by simp)).1 _ rfl
      have f27 : fv_ 27 = .pointer (some ⟨g, 1, none⟩) := (hf 27 (by simp)).1 _ rfl
      have f28 : fv_ 28 = .map (some mb) := (hf 28 (by simp)).1 _ rfl
      have f29 : fv_ 29 = .pointer (some ⟨W.heap.size, 0, none⟩) := (hf 29 (by simp)).1 _ rfl
      have f30 : fv_ 30 = .int .i64 (p.1 : Int) := (hf 30 (by simp)).1 _ rfl
      have f31 : fv_ 31 = .pointer (some ⟨W.heap.size, 1, none⟩) := (hf 31 (by simp)).1 _ rfl
      have f32 : fv_ 32 = .agg (bv p.2).toArray := (hf 32 (by simp)).1 _ rfl
      simp only [putAll, List.foldl_cons, List.foldl_nil, List.setIfInBounds_toArray, List.set_cons_succ, List.set_cons_zero, f25, f26, f27, f28, f29, f30, f31, f32]
      clear f25 f26 f27 f28 f29 f30 f31 f32 hf
      subst hC
      clear q0 q1 q2
      have q5 := HQ.out.1
      have q6 := HQ.out.2
      gi_wp2
      exact HST.out
  case done =>
    rintro D ys W hD rfl hI hK
    have HI := Lib.hid hI
    have HBX := Lib.hid hI.ptr.cell
    have HGH := Lib.hid (show h ≠ g by have := HGB.out; omega)
    have HEND := Lib.hid (crash_end (l := l) HH.out.symm HB0.out HZ.out HFB.out hI hD)
    gi_wp2
    refine region_turnsIn (by kernel_rfl) [35, 36, 37, 38, 39, 40, 41, 42, 43] rfl (by simp) (by kernel_rfl) (CrSt g W d.L.length mb (.slice As d.waits.length cs) d.left d.down) (Moved (fun _ k => k = g)) (Says (fun q_ => match q_ with | 35 => some (.pointer (some ⟨g, 0, none⟩)) | 36 => some (.pointer (some ⟨g, 0, none⟩)) | 37 => some (.pointer (some ⟨g, 0, none⟩)) | 38 => some (.pointer (some ⟨g, 0, none⟩)) | 39 => some (.pointer (some ⟨g, 2, none⟩)) | 40 => some (.pointer (some ⟨g, 0, none⟩)) | 41 => some (.pointer (some ⟨g, 3, none⟩)) | 42 => some (.pointer (some ⟨g, 0, none⟩)) | 43 => some (.pointer (some ⟨g, 4, none⟩)) | _ => none) (fun q_ v w => True)) ?_ ?_ (turnsIn_of_all rfl ?_) ?_
    · intro lst hl
      exact CrSt.start (by have := HI.out.disk.blk; simp only [laidL_len] at this; exact this) (hl _) (hl _) (hl _)
    · rintro i tt v w w' hnw hM ⟨h1, h2⟩
      exact ⟨h1, trivial⟩
    · refine ⟨?_, ?_, ?_, ?_, ?_, ?_, ?_, ?_, ?_, ?_, ?_, ?_, trivial⟩
      · intro lst a w K hbf haf hun hS hF hK
        have g2 : a.tmps[2]? = some (.pointer (some ⟨h, 0, none⟩)) := unfed hF 2 (by kernel_rfl) (by kernel_rfl) rfl
        have hc := hS.box HBX.out HGH.out
        exact opIn_value (v := .pointer (some ⟨g, 0, none⟩)) rfl (wanted_none rfl) (by simp [go_sem, g2, hc]) (hK _ w (Moved.refl _ _ w) (hS.same (by decide) (by decide) (by decide)) (says_exact 35 rfl (by simp)))
      · intro lst a w K hbf haf hun hS hF hK
        have g2 : a.tmps[2]? = some (.pointer (some ⟨h, 0, none⟩)) := unfed hF 2 (by kernel_rfl) (by kernel_rfl) rfl
        have hc := hS.box HBX.out HGH.out
        exact opIn_value (v := .pointer (some ⟨g, 0, none⟩)) rfl (wanted_none rfl) (by simp [go_sem, g2, hc]) (hK _ w (Moved.refl _ _ w) (hS.same (by decide) (by decide) (by decide)) (says_exact 36 rfl (by simp)))
      · intro lst a w K hbf haf hun hS hF hK
        have g2 : a.tmps[2]? = some (.pointer (some ⟨h, 0, none⟩)) := unfed hF 2 (by kernel_rfl) (by kernel_rfl) rfl
        have hc := hS.box HBX.out HGH.out
        exact opIn_value (v := .pointer (some ⟨g, 0, none⟩)) rfl (wanted_none rfl) (by simp [go_sem, g2, hc]) (hK _ w (Moved.refl _ _ w) (hS.same (by decide) (by decide) (by decide)) (says_exact 37 rfl (by simp)))
      · intro lst a w K hbf haf hun hS hF hK
        have g35 := fedX hF 35 (.pointer (some ⟨g, 0, none⟩)) (by kernel_rfl) (by kernel_rfl) rfl
        exact opIn_value (v := .pointer (some ⟨g, 0, none⟩)) rfl (wanted_none rfl) (by simp [go_sem, g35]) (hK _ w (Moved.refl _ _ w) (hS.same (by decide) (by decide) (by decide)) (says_exact 38 rfl (by simp)))
      · intro lst a w K hbf haf hun hS hF hK
        have g38 := fedX hF 38 (.pointer (some ⟨g, 0, none⟩)) (by kernel_rfl) (by kernel_rfl) rfl
        exact opIn_value (v := .pointer (some ⟨g, 2, none⟩)) rfl (wanted_none rfl) (by simp [go_sem, g38]) (hK _ w (Moved.refl _ _ w) (hS.same (by decide) (by decide) (by decide)) (says_exact 39 rfl (by simp)))
      · intro lst a w K hbf haf hun hS hF hK
        have g39 := fedX hF 39 (.pointer (some ⟨g, 2, none⟩)) (by kernel_rfl) (by kernel_rfl) rfl
        have hc := hS.cells.1
        exact opIn_stored (w' := w.setCell ⟨g, 2, none⟩ (.slice none 0 0)) rfl (wanted_none rfl) (by simp [go_sem, g39, hc, hS.frozen 2]) (hK _ _ ⟨by simp [World.setCell], fun k hk hn => Below.heap_setCell _ _ _ _ hn⟩ (hS.s2) (fun t ht => by cases ht))
      · intro lst a w K hbf haf hun hS hF hK
        have g36 := fedX hF 36 (.pointer (some ⟨g, 0, none⟩)) (by kernel_rfl) (by kernel_rfl) rfl
        exact opIn_value (v := .pointer (some ⟨g, 0, none⟩)) rfl (wanted_none rfl) (by simp [go_sem, g36]) (hK _ w (Moved.refl _ _ w) (hS.same (by decide) (by decide) (by decide)) (says_exact 40 rfl (by simp)))
      · intro lst a w K hbf haf hun hS hF hK
        have g40 := fedX hF 40 (.pointer (some ⟨g, 0, none⟩)) (by kernel_rfl) (by kernel_rfl) rfl
        exact opIn_value (v := .pointer (some ⟨g, 3, none⟩)) rfl (wanted_none rfl) (by simp [go_sem, g40]) (hK _ w (Moved.refl _ _ w) (hS.same (by decide) (by decide) (by decide)) (says_exact 41 rfl (by simp)))
      · intro lst a w K hbf haf hun hS hF hK
        have g41 := fedX hF 41 (.pointer (some ⟨g, 3, none⟩)) (by kernel_rfl) (by kernel_rfl) rfl
        have hc := hS.cells.2.1
        exact opIn_stored (w' := w.setCell ⟨g, 3, none⟩ (.int .i64 (-1))) rfl (wanted_none rfl) (by simp [go_sem, g41, hc, hS.frozen 3]) (hK _ _ ⟨by simp [World.setCell], fun k hk hn => Below.heap_setCell _ _ _ _ hn⟩ (hS.s3) (fun t ht => by cases ht))
      · intro lst a w K hbf haf hun hS hF hK
        have g37 := fedX hF 37 (.pointer (some ⟨g, 0, none⟩)) (by kernel_rfl) (by kernel_rfl) rfl
        exact opIn_value (v := .pointer (some ⟨g, 0, none⟩)) rfl (wanted_none rfl) (by simp [go_sem, g37]) (hK _ w (Moved.refl _ _ w) (hS.same (by decide) (by decide) (by decide)) (says_exact 42 rfl (by simp)))
      · intro lst a w K hbf haf hun hS hF hK
        have g42 := fedX hF 42 (.pointer (some ⟨g, 0, none⟩)) (by kernel_rfl) (by kernel_rfl) rfl
        exact opIn_value (v := .pointer (some ⟨g, 4, none⟩)) rfl (wanted_none rfl) (by simp [go_sem, g42]) (hK _ w (Moved.refl _ _ w) (hS.same (by decide) (by decide) (by decide)) (says_exact 43 rfl (by simp)))
      · intro lst a w K hbf haf hun hS hF hK
        have g43 := fedX hF 43 (.pointer (some ⟨g, 4, none⟩)) (by kernel_rfl) (by kernel_rfl) rfl
        have hc := hS.cells.2.2
        exact opIn_stored (w' := w.setCell ⟨g, 4, none⟩ (.bool false)) rfl (wanted_none rfl) (by simp [go_sem, g43, hc, hS.frozen 4]) (hK _ _ ⟨by simp [World.setCell], fun k hk hn => Below.heap_setCell _ _ _ _ hn⟩ (hS.s4) (fun t ht => by cases ht))
    · intro lst fv_ w_ hl hS hf
      have hC := hS
      have f35 : fv_ 35 = .pointer (some ⟨g, 0, none⟩) := (hf 35 (by simp)).1 _ rfl
      have f36 : fv_ 36 = .pointer (some ⟨g, 0, none⟩) := (hf 36 (by simp)).1 _ rfl
      have f37 : fv_ 37 = .pointer (some ⟨g, 0, none⟩) := (hf 37 (by simp)).1 _ rfl
      have f38 : fv_ 38 = .pointer (some ⟨g, 0, none⟩) := (hf 38 (by simp)).1 _ rfl
      have f39 : fv_ 39 = .pointer (some ⟨g, 2, none⟩) := (hf 39 (by simp)).1 _ rfl
      have f40 : fv_ 40 = .pointer (some ⟨g, 0, none⟩) := (hf 40 (by simp)).1 _ rfl
      have f41 : fv_ 41 = .pointer (some ⟨g, 3, none⟩) := (hf 41 (by simp)).1 _ rfl
      have f42 : fv_ 42 = .pointer (some ⟨g, 0, none⟩) := (hf 42 (by simp)).1 _ rfl
      have f43 : fv_ 43 = .pointer (some ⟨g, 4, none⟩) := (hf 43 (by simp)).1 _ rfl
      simp only [putAll, List.foldl_cons, List.foldl_nil, List.setIfInBounds_toArray, List.set_cons_succ, List.set_cons_zero, f35, f36, f37, f38, f39, f40, f41, f42, f43]
      clear f35 f36 f37 f38 f39 f40 f41 f42 f43 hf
      have HS := Lib.hid (hC.done (hl 5 (by simp)) (hl 8 (by simp)) (hl 11 (by simp)))
      clear hC hS hl
      have hmc := (World.cell?_of_block (HS.out.2.1 (h + 1) (by have := HGB.out; omega))).trans HI.out.many.cell
      gi_wp2
      refine ⟨by simp, .inl ⟨_, _, rfl, run_takeDeferred ((HS.out.2.1 D (by have h1 := HGB.out; have h2 := HZ.out; omega)).trans hK), ?_⟩⟩
      refine ⟨.int .i64 ((picksF l d.waits.length d.waits.length (Nat.le_refl _)).length : Int), by simp [results, Try.f14, go_sem], ?_⟩
      exact HEND.out w_ HS.out
  case stop =>
    rintro D c pre W hD hp hI hK
    exact hI.elim

def crashN (d : DK) (l : List UInt8) : Nat := (picks l d.waits.length).length

/-- 'Crash', whatever it is given -/
theorem crash_any {F : Nat → Prop} {w : World} {g : Nat} {d : DK} {M : Nat} (h : DiskHas F w g d M) (v : Value) (l : List UInt8) (hr : Rd w w.heap.size v (bv l)) (hl8 : l.length ≤ 1099511627776) (hM : M + d.waits.length ≤ 1099511627776) :
    Calls Try.prog 14 #[.pointer (some ⟨g, 0, none⟩), v] w fun e w' => e = .returned (.int .i64 (crashN d l : Int)) ∧ ∃ M', M' ≤ M + d.waits.length ∧ DiskHas F w' g (crashD d l) M' ∧ Kept F w w' := by
  obtain ⟨A, c, rfl, _⟩ := hr.form
  rw [bv_length] at hr ⊢
  refine (callsIn_wide.1 (crash_in (F := fun k => F k ∧ k < w.heap.size) (h.mono fun k hk hF => ⟨hF, hk⟩) (fun k hk => hk.2) A _ c l hr (effect_all l hl8) (by omega) hM)).mono ?_
  rintro e w' ⟨rfl, M', hM', hD, hK⟩
  exact ⟨rfl, M', hM', hD.mono fun k _ hk => hk.1, hK.weak fun k hk => hk.1⟩

/-- 'Crash', of a list of any length: what '8*len(b)' leaves of it is picked -/
theorem crash_big {F : Nat → Prop} {w : World} {g : Nat} {d : DK} {M : Nat} (h : DiskHas F w g d M) (v : Value) (l : List UInt8) (hr : Rd w w.heap.size v (bv l)) (hM : M + d.waits.length ≤ 1099511627776) :
    ∃ n, Calls Try.prog 14 #[.pointer (some ⟨g, 0, none⟩), v] w fun e w' => e = .returned (.int .i64 (crashN d (l.take n) : Int)) ∧ ∃ M', M' ≤ M + d.waits.length ∧ DiskHas F w' g (crashD d (l.take n)) M' ∧ Kept F w w' := by
  obtain ⟨A, c, rfl, h1, h2, h3⟩ := hr.form
  obtain ⟨n, hn⟩ := effect_of l
  refine ⟨n, ?_⟩
  have hr' : Rd w w.heap.size (.slice A (l.take n).length c) (bv (l.take n)) := by
    have hx := hr.take (min n l.length) c (by rw [bv_length]; omega) (by rw [bv_length] at h1; omega) h2 h3
    rw [← bv_take] at hx
    rw [show l.take n = l.take (min n l.length) by rw [Nat.min_def]; split; rfl; rw [List.take_of_length_le (by omega), List.take_of_length_le (Nat.le_refl _)]]
    rw [List.length_take, Nat.min_eq_left (Nat.min_le_right _ _)]
    exact hx
  rw [bv_length]
  refine (callsIn_wide.1 (crash_in (F := fun k => F k ∧ k < w.heap.size) (h.mono fun k hk hF => ⟨hF, hk⟩) (fun k hk => hk.2) A _ c _ hr' hn (by omega) hM)).mono ?_
  rintro e w' ⟨rfl, M', hM', hD, hK⟩
  exact ⟨rfl, M', hM', hD.mono fun k _ hk => hk.1, hK.weak fun k hk => hk.1⟩

end Go.Proofs.Ytcbdlggjpedffaa
