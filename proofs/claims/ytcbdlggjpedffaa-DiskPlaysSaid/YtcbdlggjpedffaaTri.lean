/- Three disks that share no block, and a run of writes. No condition. -/
import Derived.Test.YtcbdlggjpedffaaReg
namespace Go.Proofs.Ytcbdlggjpedffaa
open Go.RowKit
set_option linter.unusedSimpArgs false

/-! ### a run of writes -/
def runD (L : List (List UInt8)) (t : Nat → Wt) (k : Nat) : DK := ⟨L, (List.range k).map t, -1, false⟩
theorem runD_live (L : List (List UInt8)) (t : Nat → Wt) (k : Nat) : Live (runD L t k) := ⟨rfl, rfl⟩
theorem runD_waits (L : List (List UInt8)) (t : Nat → Wt) (k : Nat) : (runD L t k).waits.length = k := by simp [runD]
theorem runD_succ {L : List (List UInt8)} {t : Nat → Wt} {k j : Nat} {s : List UInt8} (ht : t k = (j, s)) (hj : j < L.length) (hs : s.length = 128) : writeD (runD L t k) (j : Int) s = runD L t (k + 1) := by
  rw [live_writeD (runD_live L t k) (by simpa [runD] using hj) hs]
  simp [runD, List.range_succ, ht]
theorem runD_E {L : List (List UInt8)} {t : Nat → Wt} {k j : Nat} {s : List UInt8} (hj : j < L.length) (hs : s.length = 128) : writeE (runD L t k) (j : Int) s.length = 0 := live_writeE (runD_live L t k) ⟨by omega, by simp [runD]; omega⟩ hs

theorem Rd.same {w w' : World} {v : Value} {xs : List Value} (h : Rd w w.heap.size v xs) (hz : w.heap.size ≤ w'.heap.size) (hk : ∀ b, v.ownBlock = some b → b < w.heap.size → w'.heap[b]? = w.heap[b]?) : Rd w' w'.heap.size v xs := by
  obtain ⟨A, c, rfl, h1, h2, h3, h4⟩ := h
  refine ⟨A, c, rfl, h1, h2, h3, fun hne => ?_⟩
  obtain ⟨b, o, rfl, hlt, hc⟩ := h4 hne
  exact ⟨b, o, rfl, Nat.lt_of_lt_of_le hlt hz, fun j u hu => (World.cell?_of_block (hk b rfl hlt)).trans (hc j u hu)⟩
theorem Rd.own_lt {w : World} {B : Nat} {v : Value} {xs : List Value} (h : Rd w B v xs) (hne : xs ≠ []) {b : Nat} (hb : v.ownBlock = some b) : b < B := by
  obtain ⟨A, c, rfl, h1, h2, h3, h4⟩ := h
  obtain ⟨b', o, rfl, hlt, hc⟩ := h4 hne
  have hb' : some b' = some b := hb
  injection hb' with e
  omega

/-! ### three disks; blocks that P names are no disk's -/
def Tri (B : Nat) (P : Nat → Prop) (w : World) (x y z : Nat × DK × Nat) : Prop :=
  (∀ k, P k → k < w.heap.size) ∧ ∃ F G H : Nat → Prop, (∀ k, F k ∨ G k ∨ H k → B ≤ k ∧ k < w.heap.size ∧ ¬ P k) ∧ (∀ k, F k → ¬ G k) ∧ (∀ k, F k → ¬ H k) ∧ (∀ k, G k → ¬ H k) ∧
    DiskHas F w x.1 x.2.1 x.2.2 ∧ DiskHas G w y.1 y.2.1 y.2.2 ∧ DiskHas H w z.1 z.2.1 z.2.2

section
variable {B : Nat} {P Q : Nat → Prop} {w w' : World} {x y z : Nat × DK × Nat}

theorem Tri.rot (h : Tri B P w x y z) : Tri B P w y z x := by
  obtain ⟨h0, F, G, H, h1, h2, h3, h4, hx, hy, hz⟩ := h
  exact ⟨h0, G, H, F, fun k hk => h1 k (by rcases hk with h | h | h; exact .inr (.inl h); exact .inr (.inr h); exact .inl h), h4, fun k hk hf => h2 k hf hk, fun k hk hf => h3 k hf hk, hy, hz, hx⟩

theorem Tri.below (h : Tri B P w x y z) (hb : Below w.heap.size w w') : Tri B P w' x y z := by
  obtain ⟨h0, F, G, H, h1, h2, h3, h4, hx, hy, hz⟩ := h
  exact ⟨fun k hk => Nat.lt_of_lt_of_le (h0 k hk) hb.size, F, G, H, fun k hk => ⟨(h1 k hk).1, Nat.lt_of_lt_of_le (h1 k hk).2.1 hb.size, (h1 k hk).2.2⟩, h2, h3, h4, hx.below hb, hy.below hb, hz.below hb⟩

/-- blocks that came since are no disk's -/
theorem Tri.grow (h : Tri B P w x y z) (hb : Below w.heap.size w w') : Tri B (fun k => P k ∨ (w.heap.size ≤ k ∧ k < w'.heap.size)) w' x y z := by
  obtain ⟨h0, F, G, H, h1, h2, h3, h4, hx, hy, hz⟩ := h
  refine ⟨fun k hk => by rcases hk with hk | hk; exact Nat.lt_of_lt_of_le (h0 k hk) hb.size; exact hk.2, F, G, H, fun k hk => ⟨(h1 k hk).1, Nat.lt_of_lt_of_le (h1 k hk).2.1 hb.size, fun e => ?_⟩, h2, h3, h4, hx.below hb, hy.below hb, hz.below hb⟩
  have h5 := h1 k hk
  rcases e with e | e
  · exact h5.2.2 e
  · omega

theorem Tri.weak (h : Tri B P w x y z) (hQ : ∀ k, Q k → P k) : Tri B Q w x y z := by
  obtain ⟨h0, F, G, H, h1, h2, h3, h4, hx, hy, hz⟩ := h
  exact ⟨fun k hk => h0 k (hQ k hk), F, G, H, fun k hk => ⟨(h1 k hk).1, (h1 k hk).2.1, fun e => (h1 k hk).2.2 (hQ k e)⟩, h2, h3, h4, hx, hy, hz⟩

theorem Tri.has (h : Tri B P w x y z) : ∃ F, DiskHas F w x.1 x.2.1 x.2.2 := by
  obtain ⟨_, F, _, _, _, _, _, _, hx, _⟩ := h
  exact ⟨F, hx⟩

/-- what one of them does leaves the others, and what P names -/
theorem Tri.act (h : Tri B P w x y z) : ∃ F : Nat → Prop, (∀ k, F k → B ≤ k ∧ k < w.heap.size ∧ ¬ P k) ∧ DiskHas F w x.1 x.2.1 x.2.2 ∧
    ∀ w' d' M', DiskHas (More F w.heap.size) w' x.1 d' M' → Kept F w w' → Tri B P w' (x.1, d', M') y z ∧ Below B w w' ∧ w.heap.size ≤ w'.heap.size ∧ ∀ k, k < w.heap.size → P k → w'.heap[k]? = w.heap[k]? := by
  obtain ⟨h0, F, G, H, h1, h2, h3, h4, hx, hy, hz⟩ := h
  refine ⟨F, fun k hk => h1 k (.inl hk), hx, fun w' d' M' hd hk => ?_⟩
  have hBw : B ≤ w.heap.size := by
    obtain ⟨mb, sv, hx'⟩ := hx
    have e1 := (h1 _ (.inl hx'.fg)).1
    have e2 := hx'.glt
    omega
  refine ⟨⟨fun k hP => Nat.lt_of_lt_of_le (h0 k hP) hk.size, fun k => More F w.heap.size k ∧ k < w'.heap.size, G, H, fun k hF => ?_, fun k hF hG => ?_, fun k hF hG => ?_, h4, hd.mono fun k hlt hF => ⟨hF, hlt⟩, hy.on fun k hlt hG => hk.block k hlt (fun e => h2 k e hG), hz.on fun k hlt hG => hk.block k hlt (fun e => h3 k e hG)⟩, ?_, hk.size, fun k hlt hP => hk.block k hlt (fun e => (h1 k (.inl e)).2.2 hP)⟩
  · rcases hF with ⟨hF | hF, hlt⟩ | hF
    · exact ⟨(h1 k (.inl hF)).1, hlt, (h1 k (.inl hF)).2.2⟩
    · exact ⟨by omega, hlt, fun e => by have := h0 k e; omega⟩
    · exact ⟨(h1 k (.inr hF)).1, Nat.lt_of_lt_of_le (h1 k (.inr hF)).2.1 hk.size, (h1 k (.inr hF)).2.2⟩
  · rcases hF with ⟨hF | hF, hlt⟩
    · exact h2 k hF hG
    · have := (h1 k (.inr (.inl hG))).2.1; omega
  · rcases hF with ⟨hF | hF, hlt⟩
    · exact h3 k hF hG
    · have := (h1 k (.inr (.inr hG))).2.1; omega
  · exact hk.below hBw fun k hF => (h1 k (.inl hF)).1

end

/-- what a call of one disk leaves -/
def Spares (B : Nat) (P : Nat → Prop) (w w' : World) : Prop := Below B w w' ∧ w.heap.size ≤ w'.heap.size ∧ ∀ k, k < w.heap.size → P k → w'.heap[k]? = w.heap[k]?

section
variable {B : Nat} {P : Nat → Prop} {w : World} {g M : Nat} {d : DK} {y z : Nat × DK × Nat}

theorem Tri.write (h : Tri B P w (g, d, M) y z) (i : Int) (v : Value) (s : List UInt8) (hr : Rd w w.heap.size v (bv s)) (hv : ∀ b, v.ownBlock = some b → P b) (hl : d.waits.length ≤ 1048576) :
    Calls Try.prog 12 #[.pointer (some ⟨g, 0, none⟩), .int .i64 i, v] w fun e w' => e = .returned (.int .i64 (writeE d i s.length)) ∧ Tri B P w' (g, writeD d i s, M) y z ∧ Spares B P w w' := by
  obtain ⟨F, h1, hx, ha⟩ := h.act
  refine (write_any hx i v s hr hl (fun b hb e => (h1 b e).2.2 (hv b hb))).mono ?_
  rintro e w' ⟨rfl, hd, hk⟩
  exact ⟨rfl, ha _ _ _ hd hk⟩

theorem Tri.flush (h : Tri B P w (g, d, M) y z) (hM : M + d.waits.length ≤ 1099511627776) :
    Calls Try.prog 18 #[.pointer (some ⟨g, 0, none⟩)] w fun e w' => e = .returned (.int .i64 (flushE d)) ∧ (∃ M', Tri B P w' (g, flushD d, M') y z) ∧ Spares B P w w' := by
  obtain ⟨F, h1, hx, ha⟩ := h.act
  refine (flush_any hx hM).mono ?_
  rintro e w' ⟨M', hM', rfl, hd, hk⟩
  have := ha w' _ M' (hd.mono fun k _ hF => .inl hF) hk
  exact ⟨rfl, ⟨M', this.1⟩, this.2⟩

theorem Tri.crash (h : Tri B P w (g, d, M) y z) (v : Value) (l : List UInt8) (hr : Rd w w.heap.size v (bv l)) (hl8 : l.length ≤ 1099511627776) (hM : M + d.waits.length ≤ 1099511627776) :
    Calls Try.prog 14 #[.pointer (some ⟨g, 0, none⟩), v] w fun e w' => e = .returned (.int .i64 (crashN d l : Int)) ∧ (∃ M', Tri B P w' (g, crashD d l, M') y z) ∧ Spares B P w w' := by
  obtain ⟨F, h1, hx, ha⟩ := h.act
  refine (crash_any hx v l hr hl8 hM).mono ?_
  rintro e w' ⟨rfl, M', hM', hd, hk⟩
  have := ha w' _ M' (hd.mono fun k _ hF => .inl hF) hk
  exact ⟨rfl, ⟨M', this.1⟩, this.2⟩

theorem Tri.read (h : Tri B P w (g, d, M) y z) (i : Nat) (he : upE d i = 0) :
    Calls Try.prog 15 #[.pointer (some ⟨g, 0, none⟩), .int .i64 i] w (ReadPost w (readD d i)) := by
  obtain ⟨F, hx⟩ := h.has
  exact read_in hx i he

theorem Tri.three {B : Nat} {w0 wa wb wc : World} {ga gb gc gl : Nat} {da db dc : DK} (hgl : gl < w0.heap.size) (hB : B ≤ w0.heap.size) (h1 : DiskB w0.heap.size wa ga da 0) (b1 : Below w0.heap.size w0 wa) (h2 : DiskB wa.heap.size wb gb db 0) (b2 : Below wa.heap.size wa wb) (h3 : DiskB wb.heap.size wc gc dc 0) (b3 : Below wb.heap.size wb wc) :
    Tri B (fun k => k = gl) wc (ga, da, 0) (gb, db, 0) (gc, dc, 0) := by
  have e1 := b1.size
  have e2 := b2.size
  have e3 := b3.size
  refine ⟨fun k hk => by omega, fun k => w0.heap.size ≤ k ∧ k < wa.heap.size, fun k => wa.heap.size ≤ k ∧ k < wb.heap.size, fun k => wb.heap.size ≤ k ∧ k < wc.heap.size, fun k hk => by rcases hk with hk | hk | hk <;> (refine ⟨by omega, by omega, by omega⟩), fun k h h' => by omega, fun k h h' => by omega, fun k h h' => by omega, ?_, ?_, h3.mono fun k hlt hk => ⟨hk, hlt⟩⟩
  · exact ((h1.mono (F' := fun k => w0.heap.size ≤ k ∧ k < wa.heap.size) fun k hlt hk => ⟨hk, hlt⟩).below b2).below b3
  · exact (h2.mono (F' := fun k => wa.heap.size ≤ k ∧ k < wb.heap.size) fun k hlt hk => ⟨hk, hlt⟩).below b3
end

end Go.Proofs.Ytcbdlggjpedffaa
