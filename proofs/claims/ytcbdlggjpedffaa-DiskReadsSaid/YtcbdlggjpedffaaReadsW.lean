/- The walk of the statement DiskReads: for every two lists of bytes it is true, and what was there before stands. -/
import Derived.Test.YtcbdlggjpedffaaTri
import Derived.Test.YtcbdlggjpedffaaConv
namespace Go.Proofs.Ytcbdlggjpedffaa.diskReads
open Go.RowKit
set_option linter.unusedSimpArgs false

theorem Try.info9 : (Try.prog.info? 9).map (fun i => (i.zero, i.size, i.bytes)) = some (some (.string ⟨#[]⟩), 1, 16) := by kernel_rfl

/-! ### one disk; blocks that P names are none of it -/
def Solo (B : Nat) (P : Nat → Prop) (w : World) (g : Nat) (d : DK) (M : Nat) : Prop := (∀ k, P k → k < w.heap.size) ∧ ∃ F : Nat → Prop, (∀ k, F k → B ≤ k ∧ k < w.heap.size ∧ ¬ P k) ∧ DiskHas F w g d M

section
variable {B : Nat} {P Q : Nat → Prop} {w w' : World} {g M : Nat} {d : DK}
theorem Solo.below (h : Solo B P w g d M) (hb : Below w.heap.size w w') : Solo B P w' g d M := by
  obtain ⟨h0, F, h1, hx⟩ := h
  exact ⟨fun k hk => Nat.lt_of_lt_of_le (h0 k hk) hb.size, F, fun k hk => ⟨(h1 k hk).1, Nat.lt_of_lt_of_le (h1 k hk).2.1 hb.size, (h1 k hk).2.2⟩, hx.below hb⟩
theorem Solo.grow (h : Solo B P w g d M) (hb : Below w.heap.size w w') : Solo B (fun k => P k ∨ (w.heap.size ≤ k ∧ k < w'.heap.size)) w' g d M := by
  obtain ⟨h0, F, h1, hx⟩ := h
  refine ⟨fun k hk => by rcases hk with hk | hk; exact Nat.lt_of_lt_of_le (h0 k hk) hb.size; exact hk.2, F, fun k hk => ⟨(h1 k hk).1, Nat.lt_of_lt_of_le (h1 k hk).2.1 hb.size, fun e => ?_⟩, hx.below hb⟩
  have h5 := h1 k hk
  rcases e with e | e
  · exact h5.2.2 e
  · omega
theorem Solo.weak (h : Solo B P w g d M) (hQ : ∀ k, Q k → P k) : Solo B Q w g d M := by
  obtain ⟨h0, F, h1, hx⟩ := h
  exact ⟨fun k hk => h0 k (hQ k hk), F, fun k hk => ⟨(h1 k hk).1, (h1 k hk).2.1, fun e => (h1 k hk).2.2 (hQ k e)⟩, hx⟩
theorem Solo.setOut (h : Solo B P w g d M) {g' : Nat} (hP : P g') (j : Nat) (v : Value) : Solo B P (w.setCell ⟨g', j, none⟩ v) g d M := by
  obtain ⟨h0, F, h1, hx⟩ := h
  have hz : (w.setCell ⟨g', j, none⟩ v).heap.size = w.heap.size := by simp [World.setCell]
  exact ⟨fun k hk => by rw [hz]; exact h0 k hk, F, fun k hk => by rw [hz]; exact h1 k hk, hx.on fun k hk hF => heap_setCell_other w ⟨g', j, none⟩ k _ (fun e => (h1 k hF).2.2 (by have e' : k = g' := e; rw [e']; exact hP))⟩
theorem Solo.act (h : Solo B P w g d M) : ∃ F : Nat → Prop, (∀ k, F k → B ≤ k ∧ k < w.heap.size ∧ ¬ P k) ∧ DiskHas F w g d M ∧
    ∀ w' d' M', DiskHas (More F w.heap.size) w' g d' M' → Kept F w w' → Solo B P w' g d' M' ∧ Spares B P w w' := by
  obtain ⟨h0, F, h1, hx⟩ := h
  refine ⟨F, h1, hx, fun w' d' M' hd hk => ?_⟩
  have hBw : B ≤ w.heap.size := by
    obtain ⟨mb, sv, hx'⟩ := hx
    have e1 := (h1 _ hx'.fg).1
    have e2 := hx'.glt
    omega
  refine ⟨⟨fun k hP => Nat.lt_of_lt_of_le (h0 k hP) hk.size, fun k => More F w.heap.size k ∧ k < w'.heap.size, fun k hF => ?_, hd.mono fun k hlt hF => ⟨hF, hlt⟩⟩, hk.below hBw fun k hF => (h1 k hF).1, hk.size, fun k hlt hP => hk.block k hlt (fun e => (h1 k e).2.2 hP)⟩
  obtain ⟨hF | hF, hlt⟩ := hF
  · exact ⟨(h1 k hF).1, hlt, (h1 k hF).2.2⟩
  · exact ⟨by omega, hlt, fun e => by have := h0 k e; omega⟩
theorem Solo.write (h : Solo B P w g d M) (i : Int) (v : Value) (s : List UInt8) (hr : Rd w w.heap.size v (bv s)) (hv : ∀ b, v.ownBlock = some b → P b) (hl : d.waits.length ≤ 1048576) :
    Calls Try.prog 12 #[.pointer (some ⟨g, 0, none⟩), .int .i64 i, v] w fun e w' => e = .returned (.int .i64 (writeE d i s.length)) ∧ Solo B P w' g (writeD d i s) M ∧ Spares B P w w' := by
  obtain ⟨F, h1, hx, ha⟩ := h.act
  refine (write_any hx i v s hr hl (fun b hb e => (h1 b e).2.2 (hv b hb))).mono ?_
  rintro e w' ⟨rfl, hd, hk⟩
  exact ⟨rfl, ha _ _ _ hd hk⟩
theorem Solo.flush (h : Solo B P w g d M) (hM : M + d.waits.length ≤ 1099511627776) :
    Calls Try.prog 18 #[.pointer (some ⟨g, 0, none⟩)] w fun e w' => e = .returned (.int .i64 (flushE d)) ∧ (∃ M', M' ≤ M + d.waits.length ∧ Solo B P w' g (flushD d) M') ∧ Spares B P w w' := by
  obtain ⟨F, h1, hx, ha⟩ := h.act
  refine (flush_any hx hM).mono ?_
  rintro e w' ⟨M', hM', rfl, hd, hk⟩
  have := ha w' _ M' (hd.mono fun k _ hF => .inl hF) hk
  exact ⟨rfl, ⟨M', hM', this.1⟩, this.2⟩
theorem Solo.read (h : Solo B P w g d M) (i : Nat) (he : upE d i = 0) :
    Calls Try.prog 15 #[.pointer (some ⟨g, 0, none⟩), .int .i64 i] w (ReadPost w (readD d i)) := by
  obtain ⟨_, F, _, hx⟩ := h
  exact read_in hx i he
theorem Solo.mk' (h : DiskB B w g d M) (hgw : w.heap.size ≤ w'.heap.size) (hb : Below w.heap.size w w') (hg : ∀ k, P k → w.heap.size ≤ k ∧ k < w'.heap.size) : Solo B P w' g d M :=
  ⟨fun k hk => (hg k hk).2, fun k => B ≤ k ∧ k < w.heap.size, fun k hk => ⟨hk.1, by omega, fun e => by have := hg k e; omega⟩, (h.mono (F' := fun k => B ≤ k ∧ k < w.heap.size) fun k hlt hk => ⟨hk, hlt⟩).below hb⟩
end

theorem row_same {B : Nat} {P : Nat → Prop} {w w' : World} {e g n c : Nat} {xs : List Value} (h : w.ownsRow B e 1 (.slice (some ⟨g, 0, none⟩) n c) n xs) (hs : Spares B P w w') (hP : P g) : w'.ownsRow B e 1 (.slice (some ⟨g, 0, none⟩) n c) n xs :=
  ownsRow_on h fun k e => hs.2.2 k (h.lt k e).2 (by have e' : some g = some k := e; injection e' with e'; subst e'; exact hP)
theorem _root_.Go.World.ownsRow.on_below {B : Nat} {w w' : World} {e n sz : Nat} {v : Value} {xs : List Value} (h : w.ownsRow B e sz v n xs) (hb : Below w.heap.size w w') : w'.ownsRow B e sz v n xs := ownsRow_on h fun k e => hb.block k (h.lt k e).2

/-! ### plain -/
def sv (xs : List (List UInt8)) : List Value := xs.map fun l => .string ⟨l.toArray⟩
theorem sv_len (xs : List (List UInt8)) : (sv xs).length = xs.length := by simp [sv]
theorem sv_set (xs : List (List UInt8)) (k : Nat) (l : List UInt8) : (sv xs).set k (.string ⟨l.toArray⟩) = sv (xs.set k l) := by simp [sv, List.map_set]
def lastK (k : Nat) : List (List UInt8) := List.replicate k zeroS ++ List.replicate (4 - k) []
theorem lastK_set {k : Nat} (hk : k < 4) : (lastK k).set k zeroS = lastK (k + 1) := by
  match k, hk with
  | 0, _ => rfl
  | 1, _ => rfl
  | 2, _ => rfl
  | 3, _ => rfl
theorem lastK_len {k : Nat} (hk : k ≤ 4) : (lastK k).length = 4 := by simp [lastK]; omega
theorem zero_4 : (madeCells #[Value.string ⟨#[]⟩] 4).toList = sv (lastK 0) := by
  rw [toList_madeCells_one]
  rfl

theorem laid_flush (i : Nat) : ∀ (ws : List Wt) (L : List (List UInt8)), i < L.length → (laidL ws L)[i]?.getD [] = laidS ws i (L[i]?.getD [])
  | [], L, _ => rfl
  | p :: ws, L, h => by
    show (laidL ws (L.set p.1 p.2))[i]?.getD [] = laidS ws i (if p.1 = i then p.2 else L[i]?.getD [])
    rw [laid_flush i ws _ (by rw [List.length_set]; exact h), List.getElem?_set]
    by_cases hp : p.1 = i
    · rw [if_pos hp, if_pos hp, if_pos (by omega)]
      rfl
    · rw [if_neg hp, if_neg hp]

structure St (d : DK) (i : Nat) (R : List (List UInt8)) : Prop where
  live : Live d
  len : d.L.length = 4
  wl : d.waits.length ≤ i
  rl : R.length = 4
  rd : ∀ j, j < 4 → readD d j = R[j]?.getD []

theorem St.start : St (newD 4) 0 (lastK 4) := ⟨⟨rfl, rfl⟩, by simp [newD], Nat.le_refl _, rfl, fun j hj => by
  show (List.replicate 4 zeroS)[j]?.getD [] = (List.replicate 4 zeroS ++ [])[j]?.getD []
  rw [List.append_nil]⟩
section
variable {d : DK} {i : Nat} {R : List (List UInt8)}
theorem St.up (h : St d i R) {j : Nat} (hj : j < 4) : upE d (j : Int) = 0 := live_up h.live ⟨by omega, by rw [h.len]; omega⟩
theorem St.get (h : St d i R) {j : Nat} (hj : j < 4) : (sv R)[j]? = some (.string ⟨(R[j]?.getD []).toArray⟩) := by
  have hr := h.rl
  simp [sv, List.getElem?_eq_getElem (show j < R.length by omega)]
theorem St.writeE (h : St d i R) {k : Nat} {s : List UInt8} (hk : k < 4) (hs : s.length = 128) : writeE d (k : Int) s.length = 0 := live_writeE h.live ⟨by omega, by rw [h.len]; omega⟩ hs
theorem St.write (h : St d i R) {k : Nat} {s : List UInt8} (hk : k < 4) (hs : s.length = 128) : St (writeD d (k : Int) s) (i + 1) (R.set k s) := by
  rw [live_writeD h.live (by rw [h.len]; exact hk) hs]
  refine ⟨h.live, h.len, by have := h.wl; simp; omega, by rw [List.length_set]; exact h.rl, fun j hj => ?_⟩
  show laidS (d.waits ++ [(k, s)]) j (d.L[j]?.getD []) = _
  rw [laidS_snoc, List.getElem?_set]
  have hr := h.rl
  by_cases hkj : k = j
  · rw [if_pos hkj, if_pos hkj, if_pos (by omega)]
    rfl
  · rw [if_neg hkj, if_neg hkj]
    exact h.rd j hj
theorem St.flushE (h : St d i R) : flushE d = 0 := live_flushE h.live (by rw [h.len]; omega)
theorem St.flush (h : St d i R) : St (flushD d) i R := by
  rw [live_flushD h.live (by rw [h.len]; omega)]
  refine ⟨h.live, by show (laidL _ _).length = 4; rw [laidL_len]; exact h.len, Nat.zero_le _, h.rl, fun j hj => ?_⟩
  rw [← h.rd j hj]
  exact laid_flush j d.waits d.L (by rw [h.len]; exact hj)
end

theorem and1 : ∀ x : Fin 256, bits BinOp.and IntKind.u8 (x.val : Int) 1 = ((x.val % 2 : Nat) : Int) := by decide +kernel
theorem bits1 (x : UInt8) : bits BinOp.and IntKind.u8 (x.toNat : Int) 1 = ((x.toNat % 2 : Nat) : Int) := and1 ⟨x.toNat, x.toNat_lt⟩

theorem rd_lit3 {w : World} {b : Nat} {x y z : Nat} {fr : Nat × Nat} (hx : x < 256) (hy : y < 256) (hz : z < 256) (h : w.heap[b]? = some (.cells #[.int .u8 x, .int .u8 y, .int .u8 z] 5 fr)) : Rd w w.heap.size (.slice (some ⟨b, 0, none⟩) 3 3) (bv [UInt8.ofNat x, UInt8.ofNat y, UInt8.ofNat z]) := by
  have ex : (((UInt8.ofNat x).toNat : Nat) : Int) = (x : Int) := by rw [UInt8.toNat_ofNat']; omega
  have ey : (((UInt8.ofNat y).toNat : Nat) : Int) = (y : Int) := by rw [UInt8.toNat_ofNat']; omega
  have ez : (((UInt8.ofNat z).toNat : Nat) : Int) = (z : Int) := by rw [UInt8.toNat_ofNat']; omega
  refine ⟨_, _, rfl, Nat.le_refl _, by unfold maxLen; simp [bv], (fun h => by cases h), fun _ => ⟨b, 0, rfl, (Array.getElem?_eq_some_iff.1 h).1, fun j u hu => ?_⟩⟩
  match j, hu with
  | 0, hu => simp only [bv, List.map_cons, ex, List.getElem?_cons_zero, Option.some.injEq] at hu; subst hu; rw [cell_of_row w b _ _ 5 fr h]; rfl
  | 1, hu => simp only [bv, List.map_cons, ey, List.getElem?_cons_succ, List.getElem?_cons_zero, Option.some.injEq] at hu; subst hu; rw [cell_of_row w b _ _ 5 fr h]; rfl
  | 2, hu => simp only [bv, List.map_cons, ez, List.getElem?_cons_succ, List.getElem?_cons_zero, Option.some.injEq] at hu; subst hu; rw [cell_of_row w b _ _ 5 fr h]; rfl
  | j + 3, hu => simp [bv] at hu

set_option maxRecDepth 100000 in
theorem long1 (v1 v2 : Value) (ls fl : List UInt8) (w : World) (h1 : Rd w w.heap.size v1 (bv ls)) (h2 : Rd w w.heap.size v2 (bv fl)) (h0 : 40 < ls.length) : Calls Try.prog 7 #[v1, v2] w (Yes w) := by
  obtain ⟨A1, c0, rfl, _⟩ := h1.form
  obtain ⟨A2, c1, rfl, _⟩ := h2.form
  rw [bv_length] at *
  rw [bv_length] at *
  clear h1 h2
  have g1 : (40 : Int) < (ls.length : Int) := by omega
  go_enter Try.func7, Try.ntmps7
  go_wp2_with fail
  refine (awake_any w).mono ?_
  rintro e w1 ⟨rfl, hb1⟩
  have HB1 := Lib.hid hb1
  clear hb1
  go_wp2
  go_ret
  exact ⟨rfl, HB1.out⟩
set_option maxRecDepth 100000 in
theorem long2 (v1 v2 : Value) (ls fl : List UInt8) (w : World) (h1 : Rd w w.heap.size v1 (bv ls)) (h2 : Rd w w.heap.size v2 (bv fl)) (h0 : ls.length ≤ 40) (h00 : fl.length < ls.length) : Calls Try.prog 7 #[v1, v2] w (Yes w) := by
  obtain ⟨A1, c0, rfl, _⟩ := h1.form
  obtain ⟨A2, c1, rfl, _⟩ := h2.form
  rw [bv_length] at *
  rw [bv_length] at *
  clear h1 h2
  have g1 : decide ((40 : Int) < (ls.length : Int)) = false := by simp; omega
  go_enter Try.func7, Try.ntmps7
  go_wp2_with fail
  refine (awake_any w).mono ?_
  rintro e w1 ⟨rfl, hb1⟩
  have HB1 := Lib.hid hb1
  clear hb1
  go_wp2
  go_ret
  exact ⟨rfl, HB1.out⟩

set_option maxRecDepth 100000 in
set_option maxHeartbeats 4000000 in
theorem short (v1 v2 : Value) (ls fl : List UInt8) (w : World) (h1 : Rd w w.heap.size v1 (bv ls)) (h2 : Rd w w.heap.size v2 (bv fl)) (hl : ls.length ≤ 40) (hfl : ls.length ≤ fl.length) : Calls Try.prog 7 #[v1, v2] w (Yes w) := by
  obtain ⟨i0, hi0, hz0, hz1, hz2⟩ := info_parts Try.info9
  have H1 := Lib.hid h1
  have H2 := Lib.hid h2
  obtain ⟨A1, c0, rfl, _⟩ := h1.form
  obtain ⟨A2, c1, rfl, _⟩ := h2.form
  rw [bv_length] at *
  rw [bv_length] at *
  clear h1 h2
  have g1 : decide ((40 : Int) < (ls.length : Int)) = false := by simp; omega
  have g2 : decide (fl.length < ls.length) = false := by simp; omega
  have g3 : ¬ fl.length < ls.length := by omega
  go_enter Try.func7, Try.ntmps7
  go_wp2_with fail
  refine (awake_any w).mono ?_
  rintro e w1 ⟨rfl, hb1⟩
  have HB1 := Lib.hid hb1
  have HR1 := Lib.hid (H1.out.on hb1)
  have HR2 := Lib.hid (H2.out.on hb1)
  clear hb1
  go_wp2_with fail
  clear g1 g2 g3
  refine (new_at 4 w1 (by omega) (by omega)).mono ?_
  rintro e w2 ⟨g, rfl, hd2, hb2⟩
  have HD2 := Lib.hid hd2
  have HB2 := Lib.hid hb2
  clear hd2 hb2
  go_wp2_with (refine wpList_make_full _ rfl _ _ 40 rfl w2.heap.size 9 i0 (.string ⟨#[]⟩) 1 Try.underlying40 hi0 hz0 hz1 .i64 .i64 4 4 4 rfl rfl rfl rfl (by rw [hz2]; omega) (by unfold maxLen; omega) (Nat.le_refl _) ?_; intro w3 hown3 hg3; have HO3 := Lib.hid hown3; have HG3 := Lib.hid hg3; clear hown3 hg3)
  have hb3 : Below w2.heap.size w2 w3 := (Below.refl _ _).grown HG3.out (Nat.le_refl _) (fun k hk => by cases hk)
  have hown := HO3.out
  rw [show (4 * 1 : Nat) = 4 from rfl, show (Value.string ⟨#[]⟩).cells = #[Value.string ⟨#[]⟩] from rfl, zero_4] at hown
  have hgl := (hown.lt w2.heap.size rfl).2
  have HT3 := Lib.hid (Solo.mk' (w' := w3) (P := fun b => b = w2.heap.size) HD2.out hb3.size hb3 (fun k hk => by have hk' : k = w2.heap.size := hk; omega))
  have HROW3 := Lib.hid (show w3.ownsRow w1.heap.size 9 1 (.slice (some ⟨w2.heap.size, 0, none⟩) 4 4) 4 (sv (lastK 0)) from own_from hown HB2.out.size)
  have HB3 := Lib.hid (bthen HB2.out hb3)
  have HGL := Lib.hid HB2.out.size
  clear hown hb3 HO3 HG3 hgl HD2 HB2
  generalize w2.heap.size = gl at *
  go_wp2
  go_loopw [9] (fun t wr => ∃ k : Nat, k ≤ 4 ∧ t = .int .i64 k ∧ Solo w1.heap.size (fun b => b = gl) wr g (newD 4) 0 ∧ wr.ownsRow w1.heap.size 9 1 (.slice (some ⟨gl, 0, none⟩) 4 4) 4 (sv (lastK k)) ∧ Below w1.heap.size w1 wr) (fun t _ => 4 - (intOf t).toNat)
  case atStart => exact ⟨0, Nat.zero_le _, rfl, HT3.out, HROW3.out, HB3.out⟩
  case round =>
    obtain ⟨k, hk, rfl, ht, hrow, hb⟩ := hrel
    have HTK := Lib.hid ht
    have HROWK := Lib.hid hrow
    have HBK := Lib.hid hb
    clear ht hrow hb HT3 HROW3 HB3
    rcases Nat.lt_or_ge k 4 with hlt | hge
    · have hlt' : (k : Int) < 4 := by omega
      go_wp2_with fail
      refine (full_any _ [] false _ _ (Rd.nil wr wr.heap.size) (Nat.le_refl _)).mono ?_
      rintro e w4 ⟨v4, rfl, hr4, hv4, hb4⟩
      have HT4 := Lib.hid (HTK.out.below hb4)
      have HROW4 := Lib.hid (HROWK.out.on_below hb4)
      have HB4 := Lib.hid (bthen HBK.out hb4)
      have HR4 := Lib.hid (show Rd w4 w4.heap.size v4 (bv zeroS) from hr4)
      clear hr4 hv4 hb4 HTK HROWK HBK
      have hcv := conv_rd HR4.out
      have hrow := HROW4.out
      have hco : ∃ u, w4.cell? ⟨gl, k, none⟩ = some u := ⟨_, by rw [hrow.cellAt k (by omega)]; exact List.getElem?_eq_getElem (by rw [sv_len, lastK_len hk]; exact hlt)⟩
      obtain ⟨u, hcu⟩ := hco
      have hfu := hrow.frozenAt k
      have hst := (hrow.stored k (.string ⟨zeroS.toArray⟩)).1
      rw [sv_set, lastK_set hlt] at hst
      have HROW5 := Lib.hid hst
      have HT5 := Lib.hid (HT4.out.setOut (g' := gl) rfl k (.string ⟨zeroS.toArray⟩))
      have HB5 := Lib.hid (HB4.out.setCell (p := ⟨gl, k, none⟩) HGL.out (.string ⟨zeroS.toArray⟩))
      clear hrow hst
      go_wp2
      go_roundw
      case rel => exact ⟨k + 1, by omega, by go_num, HT5.out, HROW5.out, HB5.out⟩
      case measure => simp [intOf]; omega
    · obtain rfl : k = 4 := by omega
      clear hge hk
      go_wp2
      go_loopw [10] (fun t wr => ∃ (i : Nat) (d : DK) (M : Nat) (R : List (List UInt8)), i ≤ ls.length ∧ t = .int .i64 i ∧ St d i R ∧ M ≤ 60 * i ∧ Solo w1.heap.size (fun b => b = gl) wr g d M ∧ wr.ownsRow w1.heap.size 9 1 (.slice (some ⟨gl, 0, none⟩) 4 4) 4 (sv R) ∧ Below w1.heap.size w1 wr) (fun t _ => ls.length - (intOf t).toNat)
      case atStart => exact ⟨0, _, 0, _, Nat.zero_le _, rfl, St.start, Nat.le_refl _, HTK.out, HROWK.out, HBK.out⟩
      case round =>
        obtain ⟨i, d, M, R, hi, rfl, hst, hM, ht, hrow, hb⟩ := hrel
        have HSTK := Lib.hid hst
        have HWL := Lib.hid hst.wl
        have HTI := Lib.hid ht
        have HROWI := Lib.hid hrow
        have HBI := Lib.hid hb
        clear ht hrow hb hst HTK HROWK HBK
        rcases Nat.lt_or_ge i ls.length with hlt | hge
        · have hil : (i : Int) < (ls.length : Int) := by omega
          have hifl : (i : Int) < (fl.length : Int) := by omega
          have hx : ls[i]? = some ls[i] := List.getElem?_eq_getElem hlt
          have hy : fl[i]? = some fl[i] := List.getElem?_eq_getElem (by omega)
          obtain ⟨gr, o, rfl, hgr, hc⟩ := HR1.out.open_ (by intro e; have := bv_length ls; rw [e] at this; simp at this; omega)
          have HCX := Lib.hid (show gr < w1.heap.size ∧ w1.cell? ⟨gr, o + i, none⟩ = some (.int .u8 (ls[i].toNat : Int)) from ⟨hgr, hc _ _ (bv_get hx)⟩)
          obtain ⟨gf, p, rfl, hgf, hcf⟩ := HR2.out.open_ (by intro e; have := bv_length fl; rw [e] at this; simp at this; omega)
          have HCY := Lib.hid (show gf < w1.heap.size ∧ w1.cell? ⟨gf, p + i, none⟩ = some (.int .u8 (fl[i].toNat : Int)) from ⟨hgf, hcf _ _ (bv_get hy)⟩)
          clear hx hc hy hcf
          generalize ls[i] = x at *
          generalize fl[i] = y at *
          have hxl : x.toNat < 256 := x.toNat_lt
          have hyl : y.toNat < 256 := y.toNat_lt
          obtain ⟨k, hj⟩ : ∃ k : Nat, k = x.toNat % 4 := ⟨_, rfl⟩
          have hkl : k < 4 := by omega
          have hbt : bits BinOp.and IntKind.u8 (x.toNat : Int) 3 = (k : Int) := by rw [bits3, hj]
          clear hj
          have HE := Lib.hid (HSTK.out.writeE (k := k) (s := fullL [x, UInt8.ofNat i, 7] false) hkl (fullL_length _ false))
          have HSTW := Lib.hid (HSTK.out.write (k := k) (s := fullL [x, UInt8.ofNat i, 7] false) hkl (fullL_length _ false))
          have hb3 : Below wr.heap.size wr (wr.alloc (.cells #[.int .u8 x.toNat, .int .u8 i, .int .u8 7] 5)) := (Below.refl _ _).alloc (Nat.le_refl _) _
          have HB3 := Lib.hid hb3
          have hr3 := rd_lit3 (x := x.toNat) (y := i) (z := 7) hxl (by omega) (by omega) (heap_alloc_last wr (.cells #[.int .u8 x.toNat, .int .u8 i, .int .u8 7] 5))
          rw [UInt8.ofNat_toNat, show UInt8.ofNat 7 = 7 from rfl] at hr3
          have HR3 := Lib.hid hr3
          have hcx := (HBI.out.cell (p := ⟨gr, o + i, none⟩) HCX.out.1).trans HCX.out.2
          clear hb3 hr3
          go_wp2_with fail
          clear hcx hbt
          refine (full_any _ _ false _ _ HR3.out (Nat.le_refl _)).mono ?_
          rintro e w4 ⟨v4, rfl, hr4, hv4, hb4⟩
          have hb4' := HB3.out.trans (hb4.mono HB3.out.size)
          have HT4 := Lib.hid (HTI.out.grow hb4')
          have HR4 := Lib.hid hr4
          have HV4 := Lib.hid (show ∀ b, v4.ownBlock = some b → b = gl ∨ (wr.heap.size ≤ b ∧ b < w4.heap.size) from fun b e => .inr ⟨Nat.le_trans HB3.out.size (hv4 b e), hr4.own_lt (by intro e; have := bv_length (fullL [x, UInt8.ofNat i, 7] false); rw [e, fullL_length] at this; simp at this) e⟩)
          have HROW4 := Lib.hid (HROWI.out.on_below hb4')
          have HB4 := Lib.hid (bthen HBI.out hb4')
          clear hr4 hv4 hb4 hb4' HTI HROWI HBI HB3 HR3
          generalize fullL [x, UInt8.ofNat i, 7] false = s at *
          go_wp2_with fail
          refine (HT4.out.write (k : Int) v4 _ HR4.out HV4.out (by have := HWL.out; omega)).mono ?_
          rintro e w5 ⟨rfl, ht5, hs5⟩
          rw [HE.out]
          have HT5 := Lib.hid ht5
          have HR5 := Lib.hid (HR4.out.same hs5.2.1 (fun b hb hlt => hs5.2.2 b hlt (HV4.out b hb)))
          have HROW5 := Lib.hid (row_same HROW4.out hs5 (.inl rfl))
          have HB5 := Lib.hid (HB4.out.trans hs5.1)
          have hcy := (HB5.out.cell (p := ⟨gf, p + i, none⟩) HCY.out.1).trans HCY.out.2
          clear ht5 hs5 HT4 HR4 HROW4 HB4
          rcases Nat.mod_two_eq_zero_or_one y.toNat with hy2 | hy2
          · have hbo : (bits BinOp.and IntKind.u8 (y.toNat : Int) 1 == 1) = false := by rw [bits1, hy2]; rfl
            clear hy2
            obtain ⟨wz, rfl⟩ : ∃ wz, wz = w5 := ⟨_, rfl⟩
            have HST5 := HSTW
            have HTZ := HT5
            have HROWZ := HROW5
            have HBZ := HB5
            have HRZ := HR5
            clear HT5 HROW5 HB5 HR5
            have hcv := conv_rd HRZ.out
            have hrow := HROWZ.out
            have hco : ∃ u, wz.cell? ⟨gl, k, none⟩ = some u := ⟨_, by rw [hrow.cellAt k (by omega)]; exact List.getElem?_eq_getElem (by rw [sv_len, HSTK.out.rl]; exact hkl)⟩
            obtain ⟨u, hcu⟩ := hco
            have hfu := hrow.frozenAt k
            have hst := (hrow.stored k (.string ⟨s.toArray⟩)).1
            rw [sv_set] at hst
            have HROW7 := Lib.hid hst
            have HT7 := Lib.hid (HTZ.out.setOut (g' := gl) (.inl rfl) k (.string ⟨s.toArray⟩))
            have HB7 := Lib.hid (HBZ.out.setCell (p := ⟨gl, k, none⟩) HGL.out (.string ⟨s.toArray⟩))
            clear hrow hst
            go_wp2
            clear hcv hcu hfu hbo hcy
            go_loopw [13] (fun t wr => ∃ j : Nat, j ≤ 4 ∧ t = .int .i64 j ∧ Solo w1.heap.size (fun b => b = gl) wr g (writeD d (k : Int) s) M ∧ wr.ownsRow w1.heap.size 9 1 (.slice (some ⟨gl, 0, none⟩) 4 4) 4 (sv (R.set k s)) ∧ Below w1.heap.size w1 wr) (fun t _ => 4 - (intOf t).toNat)
            case atStart => exact ⟨0, Nat.zero_le _, rfl, HT7.out.weak (fun b hb => .inl hb), HROW7.out, HB7.out⟩
            case round =>
              obtain ⟨j, hj, rfl, ht, hrow, hb⟩ := hrel
              have HTJ := Lib.hid ht
              have HROWJ := Lib.hid hrow
              have HBJ := Lib.hid hb
              clear ht hrow hb HT7 HROW7 HB7
              rcases Nat.lt_or_ge j 4 with hlj | hge
              · have hj4 : (j : Int) < 4 := by omega
                have hj0 : (0 : Int) ≤ (j : Int) := by omega
                go_wp2_with fail
                refine (HTJ.out.read j (HST5.out.up hlj)).mono ?_
                rintro e w8 ⟨v5, rfl, ho5, hb5⟩
                rw [HST5.out.rd j hlj] at ho5
                have HCJ0 := Lib.hid (HST5.out.get hlj)
                generalize (R.set k s)[j]?.getD [] = rj at *
                obtain ⟨A5, c5, hv5⟩ := ownsRow_form ho5
                subst hv5
                have HRA := Lib.hid (Rd.of_own ho5)
                have HT8 := Lib.hid (HTJ.out.below hb5)
                have HROW8 := Lib.hid (HROWJ.out.on_below hb5)
                have HB8 := Lib.hid (bthen HBJ.out hb5)
                have HCJ := Lib.hid (show gl < w8.heap.size ∧ w8.cell? ⟨gl, j, none⟩ = some (.string ⟨rj.toArray⟩) from ⟨(HROW8.out.lt gl rfl).2, by rw [HROW8.out.cellAt j (by omega)]; exact HCJ0.out⟩)
                clear ho5 hb5 HTJ HROWJ HBJ HCJ0
                go_wp2
                refine region_any (by kernel_rfl) [98, 99, 100, 101, 102, 103, 104, 105, 106, 107, 108] rfl (by simp) (by kernel_rfl) (fun x y => Below x.heap.size x y) (Says (fun q_ => match q_ with | 98 => some (.int .i64 0) | 99 => some (.bool false) | 100 => some (.bool false) | 101 => some (.slice A5 rj.length c5) | 102 => some (.string ⟨rj.toArray⟩) | 103 => some (.slice (some ⟨gl, 0, none⟩) 4 4) | 104 => some (.int .i64 (j : Int)) | 105 => some (.pointer (some ⟨gl, j, none⟩)) | 106 => some (.string ⟨rj.toArray⟩) | 107 => some (.bool false) | 108 => some (.bool false) | _ => none) (fun q_ v w => True)) (fun x => Below.refl _ x) ?_ (fun _ _ _ h k => bthen h k) (hops_of_all rfl ?_) ?_
                · rintro q_ v w w' hR ⟨h1, h2⟩
                  skip
                  exact ⟨h1, trivial⟩
                · refine ⟨?_, ?_, ?_, ?_, ?_, ?_, ?_, ?_, ?_, ?_, ?_, trivial⟩
                  · intro a w K hR hs hK
                    have g15 : a.tmps[15]? = some (.int .i64 0) := unfed hs 15 (by kernel_rfl) (by kernel_rfl) rfl
                    exact op_value rfl (wanted_none rfl) (run_move' (v := .int .i64 0) rfl (eval_of g15) w) (hK _ w (Below.refl _ w) (says_exact 98 rfl (by simp)))
                  · intro a w K hR hs hK
                    have g98 := fedX hs 98 (.int .i64 0) (by kernel_rfl) (by kernel_rfl) rfl
                    exact op_value (v := .bool false) rfl (wanted_none rfl) (by simp [go_sem, g98]) (hK _ w (Below.refl _ w) (says_exact 99 rfl (by simp)))
                  · intro a w K hR hs hK
                    have g99 := fedX hs 99 (.bool false) (by kernel_rfl) (by kernel_rfl) rfl
                    exact op_value rfl (wanted_none rfl) (run_move' (v := .bool false) rfl (eval_of g99) w) (hK _ w (Below.refl _ w) (says_exact 100 rfl (by simp)))
                  · intro a w K hR hs hK
                    have g14 : a.tmps[14]? = some (.slice A5 rj.length c5) := unfed hs 14 (by kernel_rfl) (by kernel_rfl) rfl
                    have g100 := fedX hs 100 (.bool false) (by kernel_rfl) (by kernel_rfl) rfl
                    exact op_value rfl (wanted_yes rfl rfl g100) (run_move' (v := .slice A5 rj.length c5) rfl (eval_of g14) w) (hK _ w (Below.refl _ w) (says_exact 101 rfl (by simp)))
                  · intro a w K hR hs hK
                    have g101 := fedX hs 101 (.slice A5 rj.length c5) (by kernel_rfl) (by kernel_rfl) rfl
                    have g100 := fedX hs 100 (.bool false) (by kernel_rfl) (by kernel_rfl) rfl
                    have hcv := conv_rd (HRA.out.on ((below_of_drewN w8 1 _).trans hR))
                    exact op_value (v := .string ⟨rj.toArray⟩) rfl (wanted_yes rfl rfl g100) (by simp [go_sem, g101, hcv]) (hK _ w (Below.refl _ w) (says_exact 102 rfl (by simp)))
                  · intro a w K hR hs hK
                    have g8 : a.tmps[8]? = some (.slice (some ⟨gl, 0, none⟩) 4 4) := unfed hs 8 (by kernel_rfl) (by kernel_rfl) rfl
                    have g100 := fedX hs 100 (.bool false) (by kernel_rfl) (by kernel_rfl) rfl
                    exact op_value rfl (wanted_yes rfl rfl g100) (run_move' (v := .slice (some ⟨gl, 0, none⟩) 4 4) rfl (eval_of g8) w) (hK _ w (Below.refl _ w) (says_exact 103 rfl (by simp)))
                  · intro a w K hR hs hK
                    have g13 : a.tmps[13]? = some (.int .i64 (j : Int)) := unfed hs 13 (by kernel_rfl) (by kernel_rfl) rfl
                    have g100 := fedX hs 100 (.bool false) (by kernel_rfl) (by kernel_rfl) rfl
                    exact op_value rfl (wanted_yes rfl rfl g100) (run_move' (v := .int .i64 (j : Int)) rfl (eval_of g13) w) (hK _ w (Below.refl _ w) (says_exact 104 rfl (by simp)))
                  · intro a w K hR hs hK
                    have g103 := fedX hs 103 (.slice (some ⟨gl, 0, none⟩) 4 4) (by kernel_rfl) (by kernel_rfl) rfl
                    have g104 := fedX hs 104 (.int .i64 (j : Int)) (by kernel_rfl) (by kernel_rfl) rfl
                    have g100 := fedX hs 100 (.bool false) (by kernel_rfl) (by kernel_rfl) rfl
                    exact op_value (v := .pointer (some ⟨gl, j, none⟩)) rfl (wanted_yes rfl rfl g100) (by simp [go_sem, g103, g104, hj4, hj0]) (hK _ w (Below.refl _ w) (says_exact 105 rfl (by simp)))
                  · intro a w K hR hs hK
                    have g105 := fedX hs 105 (.pointer (some ⟨gl, j, none⟩)) (by kernel_rfl) (by kernel_rfl) rfl
                    have g100 := fedX hs 100 (.bool false) (by kernel_rfl) (by kernel_rfl) rfl
                    have hc := (((below_of_drewN w8 1 w8.heap.size).trans hR).cell (p := ⟨gl, j, none⟩) HCJ.out.1).trans HCJ.out.2
                    exact op_value (v := .string ⟨rj.toArray⟩) rfl (wanted_yes rfl rfl g100) (by simp [go_sem, g105, hc]) (hK _ w (Below.refl _ w) (says_exact 106 rfl (by simp)))
                  · intro a w K hR hs hK
                    have g102 := fedX hs 102 (.string ⟨rj.toArray⟩) (by kernel_rfl) (by kernel_rfl) rfl
                    have g106 := fedX hs 106 (.string ⟨rj.toArray⟩) (by kernel_rfl) (by kernel_rfl) rfl
                    have g100 := fedX hs 100 (.bool false) (by kernel_rfl) (by kernel_rfl) rfl
                    exact op_value (v := .bool false) rfl (wanted_yes rfl rfl g100) (by simp [go_sem, g102, g106]) (hK _ w (Below.refl _ w) (says_exact 107 rfl (by simp)))
                  · intro a w K hR hs hK
                    have g100 := fedX hs 100 (.bool false) (by kernel_rfl) (by kernel_rfl) rfl
                    have g107 := fedX hs 107 (.bool false) (by kernel_rfl) (by kernel_rfl) rfl
                    exact op_value (v := .bool false) rfl (wanted_none rfl) (by simp [go_sem, g100, g107]) (hK _ w (Below.refl _ w) (says_exact 108 rfl (by simp)))
                · intro f w hR hf
                  have f98 : f 98 = .int .i64 0 := (hf 98 (by simp)).1 _ rfl
                  have f99 : f 99 = .bool false := (hf 99 (by simp)).1 _ rfl
                  have f100 : f 100 = .bool false := (hf 100 (by simp)).1 _ rfl
                  have f101 : f 101 = .slice A5 rj.length c5 := (hf 101 (by simp)).1 _ rfl
                  have f102 : f 102 = .string ⟨rj.toArray⟩ := (hf 102 (by simp)).1 _ rfl
                  have f103 : f 103 = .slice (some ⟨gl, 0, none⟩) 4 4 := (hf 103 (by simp)).1 _ rfl
                  have f104 : f 104 = .int .i64 (j : Int) := (hf 104 (by simp)).1 _ rfl
                  have f105 : f 105 = .pointer (some ⟨gl, j, none⟩) := (hf 105 (by simp)).1 _ rfl
                  have f106 : f 106 = .string ⟨rj.toArray⟩ := (hf 106 (by simp)).1 _ rfl
                  have f107 : f 107 = .bool false := (hf 107 (by simp)).1 _ rfl
                  have f108 : f 108 = .bool false := (hf 108 (by simp)).1 _ rfl
                  simp only [putAll, List.foldl_cons, List.foldl_nil, List.setIfInBounds_toArray, List.set_cons_succ, List.set_cons_zero, f98, f99, f100, f101, f102, f103, f104, f105, f106, f107, f108]
                  clear f98 f99 f100 f101 f102 f103 f104 f105 f106 f107 f108 hf
                  have hbz := (below_of_drewN w8 1 _).trans hR
                  have HTZ := Lib.hid (HT8.out.below hbz)
                  have HROWZ := Lib.hid (HROW8.out.on_below hbz)
                  have HBZ := Lib.hid (bthen HB8.out hbz)
                  clear hbz
                  go_wp2
                  go_roundw
                  case rel => exact ⟨j + 1, by omega, by go_num, HTZ.out, HROWZ.out, HBZ.out⟩
                  case measure => simp [intOf]; omega
              · obtain rfl : j = 4 := by omega
                go_wp2
                go_roundw
                case rel =>
                  repeat apply Exists.intro
                  exact ⟨⟨i + 1, (writeD d (k : Int) s), M, R.set k s, by omega, by go_num, HST5.out, by omega, HTJ.out, HROWJ.out, HBJ.out⟩, rfl⟩
                case measure => simp [intOf]; omega
          · have hbo : (bits BinOp.and IntKind.u8 (y.toNat : Int) 1 == 1) = true := by rw [bits1, hy2]; rfl
            clear hy2
            have hw6 := HSTW.out.wl
            go_wp2_with fail
            clear hcy hbo
            refine (HT5.out.flush (by omega)).mono ?_
            rintro e wz ⟨rfl, ⟨M6, hM6, ht6⟩, hs6⟩
            rw [HSTW.out.flushE]
            have HST5 := Lib.hid HSTW.out.flush
            have HTZ := Lib.hid ht6
            have HRZ := Lib.hid (HR5.out.same hs6.2.1 (fun b hb hlt => hs6.2.2 b hlt (HV4.out b hb)))
            have HROWZ := Lib.hid (row_same HROW5.out hs6 (.inl rfl))
            have HBZ := Lib.hid (HB5.out.trans hs6.1)
            clear ht6 hs6 HT5 HROW5 HB5 HR5
            have hcv := conv_rd HRZ.out
            have hrow := HROWZ.out
            have hco : ∃ u, wz.cell? ⟨gl, k, none⟩ = some u := ⟨_, by rw [hrow.cellAt k (by omega)]; exact List.getElem?_eq_getElem (by rw [sv_len, HSTK.out.rl]; exact hkl)⟩
            obtain ⟨u, hcu⟩ := hco
            have hfu := hrow.frozenAt k
            have hst := (hrow.stored k (.string ⟨s.toArray⟩)).1
            rw [sv_set] at hst
            have HROW7 := Lib.hid hst
            have HT7 := Lib.hid (HTZ.out.setOut (g' := gl) (.inl rfl) k (.string ⟨s.toArray⟩))
            have HB7 := Lib.hid (HBZ.out.setCell (p := ⟨gl, k, none⟩) HGL.out (.string ⟨s.toArray⟩))
            clear hrow hst
            go_wp2
            clear hcv hcu hfu
            go_loopw [13] (fun t wr => ∃ j : Nat, j ≤ 4 ∧ t = .int .i64 j ∧ Solo w1.heap.size (fun b => b = gl) wr g (flushD (writeD d (k : Int) s)) M6 ∧ wr.ownsRow w1.heap.size 9 1 (.slice (some ⟨gl, 0, none⟩) 4 4) 4 (sv (R.set k s)) ∧ Below w1.heap.size w1 wr) (fun t _ => 4 - (intOf t).toNat)
            case atStart => exact ⟨0, Nat.zero_le _, rfl, HT7.out.weak (fun b hb => .inl hb), HROW7.out, HB7.out⟩
            case round =>
              obtain ⟨j, hj, rfl, ht, hrow, hb⟩ := hrel
              have HTJ := Lib.hid ht
              have HROWJ := Lib.hid hrow
              have HBJ := Lib.hid hb
              clear ht hrow hb HT7 HROW7 HB7
              rcases Nat.lt_or_ge j 4 with hlj | hge
              · have hj4 : (j : Int) < 4 := by omega
                have hj0 : (0 : Int) ≤ (j : Int) := by omega
                go_wp2_with fail
                refine (HTJ.out.read j (HST5.out.up hlj)).mono ?_
                rintro e w8 ⟨v5, rfl, ho5, hb5⟩
                rw [HST5.out.rd j hlj] at ho5
                have HCJ0 := Lib.hid (HST5.out.get hlj)
                generalize (R.set k s)[j]?.getD [] = rj at *
                obtain ⟨A5, c5, hv5⟩ := ownsRow_form ho5
                subst hv5
                have HRA := Lib.hid (Rd.of_own ho5)
                have HT8 := Lib.hid (HTJ.out.below hb5)
                have HROW8 := Lib.hid (HROWJ.out.on_below hb5)
                have HB8 := Lib.hid (bthen HBJ.out hb5)
                have HCJ := Lib.hid (show gl < w8.heap.size ∧ w8.cell? ⟨gl, j, none⟩ = some (.string ⟨rj.toArray⟩) from ⟨(HROW8.out.lt gl rfl).2, by rw [HROW8.out.cellAt j (by omega)]; exact HCJ0.out⟩)
                clear ho5 hb5 HTJ HROWJ HBJ HCJ0
                go_wp2
                refine region_any (by kernel_rfl) [98, 99, 100, 101, 102, 103, 104, 105, 106, 107, 108] rfl (by simp) (by kernel_rfl) (fun x y => Below x.heap.size x y) (Says (fun q_ => match q_ with | 98 => some (.int .i64 0) | 99 => some (.bool false) | 100 => some (.bool false) | 101 => some (.slice A5 rj.length c5) | 102 => some (.string ⟨rj.toArray⟩) | 103 => some (.slice (some ⟨gl, 0, none⟩) 4 4) | 104 => some (.int .i64 (j : Int)) | 105 => some (.pointer (some ⟨gl, j, none⟩)) | 106 => some (.string ⟨rj.toArray⟩) | 107 => some (.bool false) | 108 => some (.bool false) | _ => none) (fun q_ v w => True)) (fun x => Below.refl _ x) ?_ (fun _ _ _ h k => bthen h k) (hops_of_all rfl ?_) ?_
                · rintro q_ v w w' hR ⟨h1, h2⟩
                  skip
                  exact ⟨h1, trivial⟩
                · refine ⟨?_, ?_, ?_, ?_, ?_, ?_, ?_, ?_, ?_, ?_, ?_, trivial⟩
                  · intro a w K hR hs hK
                    have g15 : a.tmps[15]? = some (.int .i64 0) := unfed hs 15 (by kernel_rfl) (by kernel_rfl) rfl
                    exact op_value rfl (wanted_none rfl) (run_move' (v := .int .i64 0) rfl (eval_of g15) w) (hK _ w (Below.refl _ w) (says_exact 98 rfl (by simp)))
                  · intro a w K hR hs hK
                    have g98 := fedX hs 98 (.int .i64 0) (by kernel_rfl) (by kernel_rfl) rfl
                    exact op_value (v := .bool false) rfl (wanted_none rfl) (by simp [go_sem, g98]) (hK _ w (Below.refl _ w) (says_exact 99 rfl (by simp)))
                  · intro a w K hR hs hK
                    have g99 := fedX hs 99 (.bool false) (by kernel_rfl) (by kernel_rfl) rfl
                    exact op_value rfl (wanted_none rfl) (run_move' (v := .bool false) rfl (eval_of g99) w) (hK _ w (Below.refl _ w) (says_exact 100 rfl (by simp)))
                  · intro a w K hR hs hK
                    have g14 : a.tmps[14]? = some (.slice A5 rj.length c5) := unfed hs 14 (by kernel_rfl) (by kernel_rfl) rfl
                    have g100 := fedX hs 100 (.bool false) (by kernel_rfl) (by kernel_rfl) rfl
                    exact op_value rfl (wanted_yes rfl rfl g100) (run_move' (v := .slice A5 rj.length c5) rfl (eval_of g14) w) (hK _ w (Below.refl _ w) (says_exact 101 rfl (by simp)))
                  · intro a w K hR hs hK
                    have g101 := fedX hs 101 (.slice A5 rj.length c5) (by kernel_rfl) (by kernel_rfl) rfl
                    have g100 := fedX hs 100 (.bool false) (by kernel_rfl) (by kernel_rfl) rfl
                    have hcv := conv_rd (HRA.out.on ((below_of_drewN w8 1 _).trans hR))
                    exact op_value (v := .string ⟨rj.toArray⟩) rfl (wanted_yes rfl rfl g100) (by simp [go_sem, g101, hcv]) (hK _ w (Below.refl _ w) (says_exact 102 rfl (by simp)))
                  · intro a w K hR hs hK
                    have g8 : a.tmps[8]? = some (.slice (some ⟨gl, 0, none⟩) 4 4) := unfed hs 8 (by kernel_rfl) (by kernel_rfl) rfl
                    have g100 := fedX hs 100 (.bool false) (by kernel_rfl) (by kernel_rfl) rfl
                    exact op_value rfl (wanted_yes rfl rfl g100) (run_move' (v := .slice (some ⟨gl, 0, none⟩) 4 4) rfl (eval_of g8) w) (hK _ w (Below.refl _ w) (says_exact 103 rfl (by simp)))
                  · intro a w K hR hs hK
                    have g13 : a.tmps[13]? = some (.int .i64 (j : Int)) := unfed hs 13 (by kernel_rfl) (by kernel_rfl) rfl
                    have g100 := fedX hs 100 (.bool false) (by kernel_rfl) (by kernel_rfl) rfl
                    exact op_value rfl (wanted_yes rfl rfl g100) (run_move' (v := .int .i64 (j : Int)) rfl (eval_of g13) w) (hK _ w (Below.refl _ w) (says_exact 104 rfl (by simp)))
                  · intro a w K hR hs hK
                    have g103 := fedX hs 103 (.slice (some ⟨gl, 0, none⟩) 4 4) (by kernel_rfl) (by kernel_rfl) rfl
                    have g104 := fedX hs 104 (.int .i64 (j : Int)) (by kernel_rfl) (by kernel_rfl) rfl
                    have g100 := fedX hs 100 (.bool false) (by kernel_rfl) (by kernel_rfl) rfl
                    exact op_value (v := .pointer (some ⟨gl, j, none⟩)) rfl (wanted_yes rfl rfl g100) (by simp [go_sem, g103, g104, hj4, hj0]) (hK _ w (Below.refl _ w) (says_exact 105 rfl (by simp)))
                  · intro a w K hR hs hK
                    have g105 := fedX hs 105 (.pointer (some ⟨gl, j, none⟩)) (by kernel_rfl) (by kernel_rfl) rfl
                    have g100 := fedX hs 100 (.bool false) (by kernel_rfl) (by kernel_rfl) rfl
                    have hc := (((below_of_drewN w8 1 w8.heap.size).trans hR).cell (p := ⟨gl, j, none⟩) HCJ.out.1).trans HCJ.out.2
                    exact op_value (v := .string ⟨rj.toArray⟩) rfl (wanted_yes rfl rfl g100) (by simp [go_sem, g105, hc]) (hK _ w (Below.refl _ w) (says_exact 106 rfl (by simp)))
                  · intro a w K hR hs hK
                    have g102 := fedX hs 102 (.string ⟨rj.toArray⟩) (by kernel_rfl) (by kernel_rfl) rfl
                    have g106 := fedX hs 106 (.string ⟨rj.toArray⟩) (by kernel_rfl) (by kernel_rfl) rfl
                    have g100 := fedX hs 100 (.bool false) (by kernel_rfl) (by kernel_rfl) rfl
                    exact op_value (v := .bool false) rfl (wanted_yes rfl rfl g100) (by simp [go_sem, g102, g106]) (hK _ w (Below.refl _ w) (says_exact 107 rfl (by simp)))
                  · intro a w K hR hs hK
                    have g100 := fedX hs 100 (.bool false) (by kernel_rfl) (by kernel_rfl) rfl
                    have g107 := fedX hs 107 (.bool false) (by kernel_rfl) (by kernel_rfl) rfl
                    exact op_value (v := .bool false) rfl (wanted_none rfl) (by simp [go_sem, g100, g107]) (hK _ w (Below.refl _ w) (says_exact 108 rfl (by simp)))
                · intro f w hR hf
                  have f98 : f 98 = .int .i64 0 := (hf 98 (by simp)).1 _ rfl
                  have f99 : f 99 = .bool false := (hf 99 (by simp)).1 _ rfl
                  have f100 : f 100 = .bool false := (hf 100 (by simp)).1 _ rfl
                  have f101 : f 101 = .slice A5 rj.length c5 := (hf 101 (by simp)).1 _ rfl
                  have f102 : f 102 = .string ⟨rj.toArray⟩ := (hf 102 (by simp)).1 _ rfl
                  have f103 : f 103 = .slice (some ⟨gl, 0, none⟩) 4 4 := (hf 103 (by simp)).1 _ rfl
                  have f104 : f 104 = .int .i64 (j : Int) := (hf 104 (by simp)).1 _ rfl
                  have f105 : f 105 = .pointer (some ⟨gl, j, none⟩) := (hf 105 (by simp)).1 _ rfl
                  have f106 : f 106 = .string ⟨rj.toArray⟩ := (hf 106 (by simp)).1 _ rfl
                  have f107 : f 107 = .bool false := (hf 107 (by simp)).1 _ rfl
                  have f108 : f 108 = .bool false := (hf 108 (by simp)).1 _ rfl
                  simp only [putAll, List.foldl_cons, List.foldl_nil, List.setIfInBounds_toArray, List.set_cons_succ, List.set_cons_zero, f98, f99, f100, f101, f102, f103, f104, f105, f106, f107, f108]
                  clear f98 f99 f100 f101 f102 f103 f104 f105 f106 f107 f108 hf
                  have hbz := (below_of_drewN w8 1 _).trans hR
                  have HTZ := Lib.hid (HT8.out.below hbz)
                  have HROWZ := Lib.hid (HROW8.out.on_below hbz)
                  have HBZ := Lib.hid (bthen HB8.out hbz)
                  clear hbz
                  go_wp2
                  go_roundw
                  case rel => exact ⟨j + 1, by omega, by go_num, HTZ.out, HROWZ.out, HBZ.out⟩
                  case measure => simp [intOf]; omega
              · obtain rfl : j = 4 := by omega
                go_wp2
                go_roundw
                case rel =>
                  repeat apply Exists.intro
                  exact ⟨⟨i + 1, (flushD (writeD d (k : Int) s)), M6, R.set k s, by omega, by go_num, HST5.out, by omega, HTJ.out, HROWJ.out, HBJ.out⟩, rfl⟩
                case measure => simp [intOf]; omega
        · obtain rfl : i = ls.length := by omega
          go_wp2
          go_ret
          exact ⟨rfl, bthen HB1.out HBI.out⟩

theorem law_any (v1 : Value) (ls : List UInt8) (v2 : Value) (fl : List UInt8) (w : World) (h1 : Rd w w.heap.size v1 (bv ls)) (h2 : Rd w w.heap.size v2 (bv fl)) : Calls Try.prog 7 #[v1, v2] w (Yes w) := by
  rcases Nat.lt_or_ge 40 ls.length with h | h
  · exact long1 v1 v2 ls fl w h1 h2 h
  · rcases Nat.lt_or_ge fl.length ls.length with h3 | h3
    · exact long2 v1 v2 ls fl w h1 h2 h h3
    · exact short v1 v2 ls fl w h1 h2 h h3

end Go.Proofs.Ytcbdlggjpedffaa.diskReads
