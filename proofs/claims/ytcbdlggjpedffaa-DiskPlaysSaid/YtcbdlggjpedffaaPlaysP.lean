/- What the walk of DiskPlays uses: a script that came in reads as a list of acts; a disk beside what is of another type. No condition. -/
import Derived.Test.YtcbdlggjpedffaaRefAlike
import Derived.Test.YtcbdlggjpedffaaRefNew
import Derived.Test.YtcbdlggjpedffaaRefCrash
import Derived.Test.YtcbdlggjpedffaaTri
import Derived.Test.YtcbdlggjpedffaaFrame
import Derived.Deep.Matrix
import Derived.Lib.ConvBytes
namespace Go.Proofs.Ytcbdlggjpedffaa
open Go.ChangeShapes Go.WideShapes Go.ChangeAt Go.RowKit
set_option linter.unusedSimpArgs false

/-- an act -/
structure AC where
  kind : Int
  i : Int
  n : Int
  d : List UInt8

def ACells (w : World) (b o : Nat) (a : AC) : Prop :=
  w.cell? ⟨b, o, none⟩ = some (.int .i64 a.kind) ∧ w.cell? ⟨b, o + 1, none⟩ = some (.int .i64 a.i) ∧ w.cell? ⟨b, o + 2, none⟩ = some (.int .i64 a.n) ∧
    (∃ A c, w.cell? ⟨b, o + 3, none⟩ = some (.slice A a.d.length c) ∧ Rd w w.heap.size (.slice A a.d.length c) (bv a.d)) ∧ -9223372036854775808 ≤ a.n ∧ a.n ≤ 9223372036854775807

/-- the script -/
def RdActs (w : World) (v : Value) (L : List AC) : Prop :=
  ∃ A c, v = .slice A L.length c ∧ (L ≠ [] → ∃ b o, A = some ⟨b, o, none⟩ ∧ b < w.heap.size ∧ ∀ j a, L[j]? = some a → ACells w b (o + j * 4) a)

theorem ACells.on {w w' : World} {b o : Nat} {a : AC} (h : ACells w b o a) (hb : Below w.heap.size w w') (hlt : b < w.heap.size) : ACells w' b o a := by
  obtain ⟨h0, h1, h2, ⟨A, c, h5, h6⟩, h7⟩ := h
  have hc := fun (j : Nat) => hb.cell (p := ⟨b, j, none⟩) hlt
  exact ⟨(hc _).trans h0, (hc _).trans h1, (hc _).trans h2, ⟨A, c, (hc _).trans h5, h6.on hb⟩, h7⟩

theorem RdActs.on {w w' : World} {v : Value} {L : List AC} (h : RdActs w v L) (hb : Below w.heap.size w w') : RdActs w' v L := by
  obtain ⟨A, c, hv, h⟩ := h
  refine ⟨A, c, hv, fun hne => ?_⟩
  obtain ⟨b, o, hA, hlt, hc⟩ := h hne
  exact ⟨b, o, hA, Nat.lt_of_lt_of_le hlt hb.size, fun j a ha => (hc j a ha).on hb hlt⟩

theorem RdActs.get {w : World} {A : Option Addr} {n c : Nat} {L : List AC} (h : RdActs w (.slice A n c) L) {j : Nat} {a : AC} (ha : L[j]? = some a) : ∃ b o, A = some ⟨b, o, none⟩ ∧ b < w.heap.size ∧ ACells w b (o + j * 4) a := by
  obtain ⟨A', c', hv, h⟩ := h
  injection hv with e1 _ _
  subst e1
  obtain ⟨b, o, hA, hlt, hc⟩ := h (by intro e; rw [e] at ha; simp at ha)
  exact ⟨b, o, hA, hlt, hc j a ha⟩

theorem Try.cells50 : Try.prog.cellsOf 50 = 4 := by kernel_rfl
theorem Try.cells3 : Try.prog.cellsOf 3 = 1 := by kernel_rfl
theorem Try.cells22 : Try.prog.cellsOf 22 = 1 := by kernel_rfl

theorem choose_list {α : Type} {p : Nat → α → Prop} : ∀ (n : Nat), (∀ r, r < n → ∃ d, p r d) → ∃ ds : List α, ds.length = n ∧ ∀ (i : Nat) d, ds[i]? = some d → p i d := by
  intro n
  induction n with
  | zero => intro _; exact ⟨[], rfl, fun i d h => by simp at h⟩
  | succ n ih =>
    intro h
    obtain ⟨ds, h1, h2⟩ := ih fun r hr => h r (by omega)
    obtain ⟨d, hd⟩ := h n (by omega)
    refine ⟨ds ++ [d], by simp [h1], fun i d' hi => ?_⟩
    rcases Nat.lt_or_ge i n with hlt | hge
    · rw [List.getElem?_append_left (by omega)] at hi
      exact h2 i d' hi
    · rw [List.getElem?_append_right (by omega)] at hi
      have := (List.getElem?_eq_some_iff.1 hi).1
      simp at this
      obtain rfl : i = n := by omega
      simp [h1] at hi
      subst hi
      exact hd

theorem rd_of_cells {w : World} {A : Option Addr} {L C : Nat} {Z : List Int} (hLC : L ≤ C) (hC : C ≤ maxLen) (hZ : Z.length = C) (hw : ∀ n ∈ Z, (Lit.int .u8 n).wf = true) (h0 : A = none → C = 0)
    (hc : ∀ a', A = some a' → ∀ c, c < C → w.cell? (a'.add c) = some (.int .u8 (Z.getD c 0))) : ∃ d : List UInt8, Rd w w.heap.size (.slice A L C) (bv d) := by
  have hu : ∀ z ∈ Z, ((UInt8.ofNat z.toNat).toNat : Int) = z := by
    intro z hz
    have hw := hw z hz
    have hx : 0 ≤ z ∧ z ≤ 255 := by simpa [Lit.wf, IntKind.min, IntKind.max, IntKind.signed, IntKind.bits] using hw
    rw [UInt8.toNat_ofNat']
    omega
  have hlen : ((Z.take L).map fun z => UInt8.ofNat z.toNat).length = L := by rw [List.length_map, List.length_take]; omega
  refine ⟨(Z.take L).map fun z => UInt8.ofNat z.toNat, A, C, by rw [bv_length, hlen], by rw [bv_length, hlen]; exact hLC, hC, h0, fun hne => ?_⟩
  have hpos : 0 < L := by
    rcases Nat.eq_zero_or_pos L with h0 | h0
    · exfalso; apply hne; apply List.eq_nil_of_length_eq_zero; rw [bv_length, hlen, h0]
    · exact h0
  rcases A with _ | a
  · have := h0 rfl
    omega
  · obtain ⟨b, o, rfl⟩ := addr_cell (hc _ rfl 0 (by omega))
    have hb := block_lt_of_cell (hc _ rfl 0 (by omega))
    refine ⟨b, o, rfl, by simpa [Addr.add] using hb, fun j u hju => ?_⟩
    have hj : j < L := by have := (List.getElem?_eq_some_iff.1 hju).1; rw [bv_length, hlen] at this; exact this
    have hc := hc _ rfl j (by omega)
    rw [show (⟨b, o, none⟩ : Addr).add j = ⟨b, o + j, none⟩ from by unfold Addr.add; split <;> simp_all] at hc
    rw [hc]
    have hz' : Z[j]? = some (Z.getD j 0) := by rw [List.getD_eq_getElem?_getD, List.getElem?_eq_getElem (by omega)]; rfl
    simp only [bv, List.map_map, List.getElem?_map, List.getElem?_take, if_pos hj, hz', Option.map_some, Function.comp] at hju
    rw [← hju, hu _ (List.mem_of_getElem? hz')]

theorem addr_add (a : Addr) (h : ∃ b o, a = ⟨b, o, none⟩) (j : Nat) : a.add j = ⟨a.block, a.off + j, none⟩ := by
  obtain ⟨b, o, rfl⟩ := h
  unfold Addr.add; split <;> simp_all

/-- a []byte field, as bytes -/
theorem bytes_field {H : Type} {enc : TypeId × Value → H} {W : World} {fuel : Nat} {v : Value} {x : DataW H × List MemPlace} (h : DataW.trod enc Try.prog W 0 (fun _ => true) true fuel 22 [v] = some x) :
    ∃ (d : List UInt8) (A : Option Addr) (c : Nat), v = .slice A d.length c ∧ Rd W W.heap.size v (bv d) := by
  rcases open_ints Try.underlying22 Try.underlying5 Try.cells5 h with ⟨hcs, _⟩ | ⟨a, len', cap', zs, hcs, _, hl, hm, hz, _, hcell, hwz⟩
  · obtain rfl : v = .slice none 0 0 := by simpa using hcs
    exact ⟨[], none, 0, rfl, Rd.nil _ _⟩
  · obtain rfl : v = .slice (some a) len' cap' := by simpa using hcs
    simp only [if_true] at hz
    obtain ⟨d, hd⟩ := rd_of_cells (w := W) (A := some a) hl hm hz hwz (fun h => by cases h) (fun a' ha' c hc => by injection ha' with ha'; subst ha'; exact hcell c (by omega))
    obtain ⟨A, c, hv, _⟩ := hd.form
    rw [bv_length] at hv
    exact ⟨d, A, c, hv, hd⟩

/-- a []Act that came in -/
theorem open_acts {H : Type} {enc : TypeId × Value → H} {W : World} {base : Nat} {v : Value} {d : DataW H} {p : List MemPlace}
    (hv : Value.okWide Try.prog W .any base 43 v) (h : DataW.Trod enc Try.prog W 0 (fun _ => true) true 43 v d p) : ∃ L : List AC, RdActs W v L := by
  obtain ⟨a0, len, cap, rfl⟩ := okWide_slice Try.underlying43 hv
  obtain ⟨fuel, hf⟩ := h
  rcases Deep.open_slice Try.underlying43 hf with ⟨hcs, _⟩ | ⟨a, len', cap', m, n, D, Pl, hcs, _, hl, hm, hmm, _, hx⟩
  · have e : Value.slice a0 len cap = .slice none 0 0 := by simpa [Value.cells] using hcs
    rw [e]
    exact ⟨[], none, 0, rfl, fun h => absurd rfl h⟩
  · have e : Value.slice a0 len cap = .slice (some a) len' cap' := by simpa [Value.cells] using hcs
    rw [e]
    simp only [if_true] at hmm
    have hform : 0 < len' → ∃ b o, a = ⟨b, o, none⟩ := by
      intro h0
      obtain ⟨cs', h1, _⟩ := hx 0 (by omega)
      rw [Try.cells50] at h1
      obtain ⟨_, hlen, hcell⟩ := World.cells?_some h1
      have h0 := hcell 0 (by omega)
      rw [List.getElem?_eq_getElem (show 0 < cs'.length by omega)] at h0
      refine addr_cell (w := W) (v := cs'[0]) ?_
      simpa [Addr.add] using h0
    have each : ∀ i, i < len' → ∃ c : AC, ∃ b o, a = ⟨b, o, none⟩ ∧ b < W.heap.size ∧ ACells W b (o + i * 4) c := by
      intro i hi
      obtain ⟨cs', h1, h2⟩ := hx i (by omega)
      rw [Try.cells50] at h1
      obtain ⟨_, hlen, hcell⟩ := World.cells?_some h1
      obtain ⟨xs, k, hk, hxy, _, hxl, hff⟩ := DataW.trod_struct Try.underlying50 h2
      match cs', hlen with
      | [v0, v1, v2, v3], _ =>
        have hx0 : xs.length = 4 := hxl
        have gg := fun (i : Nat) (hi : i < 4) => (List.getElem?_eq_getElem (show i < xs.length by omega))
        have g0 : DataW.trod enc Try.prog W 0 (fun _ => true) true k 3 (([v0, v1, v2, v3].drop 0).take (Try.prog.cellsOf 3)) = xs[0]? := hff 0 _ rfl
        have g1 : DataW.trod enc Try.prog W 0 (fun _ => true) true k 3 (([v0, v1, v2, v3].drop 1).take (Try.prog.cellsOf 3)) = xs[1]? := hff 1 _ rfl
        have g2 : DataW.trod enc Try.prog W 0 (fun _ => true) true k 3 (([v0, v1, v2, v3].drop 2).take (Try.prog.cellsOf 3)) = xs[2]? := hff 2 _ rfl
        have g3 : DataW.trod enc Try.prog W 0 (fun _ => true) true k 22 (([v0, v1, v2, v3].drop 3).take (Try.prog.cellsOf 22)) = xs[3]? := hff 3 _ rfl
        rw [gg 0 (by omega)] at g0
        rw [gg 1 (by omega)] at g1
        rw [gg 2 (by omega)] at g2
        rw [gg 3 (by omega)] at g3
        simp only [Try.cells3, Try.cells22, List.drop_succ_cons, List.drop_zero, List.take_succ_cons, List.take_zero] at g0 g1 g2 g3
        obtain ⟨n0, e0, _, _⟩ := DataW.trod_int Try.underlying3 g0
        obtain ⟨n1, e1, _, _⟩ := DataW.trod_int Try.underlying3 g1
        obtain ⟨n2, e2, hx2, hw2⟩ := DataW.trod_int Try.underlying3 g2
        obtain ⟨dd, A5, c5, e5, r5⟩ := bytes_field g3
        simp only [List.cons.injEq, and_true] at e0 e1 e2
        subst e0 e1 e2 e5
        have q := fun (j : Nat) (hj : j < 4) => hcell j hj
        obtain ⟨b, o, ha⟩ := hform (by omega)
        subst ha
        have hadd : ∀ (x y : Nat), ((⟨b, o, none⟩ : Addr).add x).add y = ⟨b, o + x + y, none⟩ := fun x y => by rw [addr_add _ ⟨b, o, rfl⟩, addr_add _ ⟨_, _, rfl⟩]
        have q' := fun (j : Nat) (hj : j < 4) => by have := q j hj; rw [hadd] at this; exact this
        have hb : b < W.heap.size := by have := block_lt_of_cell (q' 0 (by omega)); simpa using this
        exact ⟨⟨n0, n1, n2, dd⟩, b, o, rfl, hb, by simpa using q' 0 (by omega), by simpa using q' 1 (by omega), by simpa using q' 2 (by omega), ⟨A5, c5, by simpa using q' 3 (by omega), r5⟩, by have hh := hw2; simpa [Lit.wf, IntKind.min, IntKind.max, IntKind.signed, IntKind.bits] using hh⟩
    obtain ⟨L, hL1, hL2⟩ := choose_list len' each
    refine ⟨L, some a, cap', by rw [hL1], fun hne => ?_⟩
    have hp : 0 < L.length := List.length_pos_iff.2 hne
    obtain ⟨b, o, ha, hb, _⟩ := hL2 0 _ (List.getElem?_eq_getElem hp)
    refine ⟨b, o, by rw [ha], hb, fun j x hj => ?_⟩
    obtain ⟨b', o', ha', _, hc⟩ := hL2 j x hj
    rw [ha] at ha'
    injection ha' with h1 h2 _
    subst h1 h2
    exact hc

/-! ### a disk beside what is of another type -/
def Oth (w : World) (k : Nat) : Prop := ∃ cs t fr, w.heap[k]? = some (.cells cs t fr) ∧ t ≠ 61 ∧ t ≠ 66
section
variable {F : Nat → Prop} {w w' : World} {g M n : Nat} {d : DK}
theorem DiskHas.apart (h : DiskHas F w g d M) : DiskHas (fun k => F k ∧ ¬ Oth w k) w g d M := by
  obtain ⟨mb, sv, h⟩ := h
  refine ⟨mb, sv, h.blk, ⟨h.fg, ?_⟩, h.mp, ⟨h.fm, ?_⟩, h.row, fun k hk => ⟨h.fr k hk, ?_⟩, h.secs, h.wts, h.big, h.lft⟩
  · rintro ⟨cs, t, fr, h1, h2, _⟩
    rw [h.blk] at h1
    simp only [Option.some.injEq, Obj.cells.injEq] at h1
    exact h2 h1.2.1.symm
  · rintro ⟨cs, t, fr, h1, _⟩
    exact h.mp.ne_cells h1 rfl
  · rintro ⟨cs, t, fr, h1, _, h3⟩
    exact own_ne_blk h.row h1 (fun e => h3 e.symm) hk rfl

theorem disk_write (h : DiskHas F w g d M) (i : Int) (v : Value) (s : List UInt8) (hr : Rd w w.heap.size v (bv s)) (hl : d.waits.length ≤ 1048576) (hv : ∀ b, v.ownBlock = some b → ¬ F b) :
    Calls Try.prog 12 #[.pointer (some ⟨g, 0, none⟩), .int .i64 i, v] w fun e w' => e = .returned (.int .i64 (writeE d i s.length)) ∧ DiskHas (More F w.heap.size) w' g (writeD d i s) M ∧ Kept F w w' ∧ ∀ k, Oth w k → w'.heap[k]? = w.heap[k]? := by
  refine (write_any h.apart i v s hr hl (fun b hb e => hv b hb e.1)).mono ?_
  rintro e w' ⟨rfl, hd, hk⟩
  exact ⟨rfl, hd.mono fun k _ hk => by rcases hk with hk | hk; exact .inl hk.1; exact .inr hk, hk.weak fun k hk => hk.1, fun k ho => by obtain ⟨cs, t, fr, h1, _⟩ := id ho; exact hk.block k (Array.getElem?_eq_some_iff.1 h1).1 fun e => e.2 ho⟩
theorem disk_flush (h : DiskHas F w g d M) (hM : M + d.waits.length ≤ 1099511627776) :
    Calls Try.prog 18 #[.pointer (some ⟨g, 0, none⟩)] w fun e w' => e = .returned (.int .i64 (flushE d)) ∧ (∃ M', M' ≤ M + d.waits.length ∧ DiskHas F w' g (flushD d) M') ∧ Kept F w w' ∧ ∀ k, Oth w k → w'.heap[k]? = w.heap[k]? := by
  refine (flush_any h.apart hM).mono ?_
  rintro e w' ⟨M', hM', rfl, hd, hk⟩
  exact ⟨rfl, ⟨M', hM', hd.mono fun k _ hk => hk.1⟩, hk.weak fun k hk => hk.1, fun k ho => by obtain ⟨cs, t, fr, h1, _⟩ := id ho; exact hk.block k (Array.getElem?_eq_some_iff.1 h1).1 fun e => e.2 ho⟩
theorem disk_stop (h : DiskHas F w g d M) (a : Int) (ha : a ≤ 9223372036854775807) :
    Calls Try.prog 19 #[.pointer (some ⟨g, 0, none⟩), .int .i64 a] w fun e w' => e = .returned (.tuple #[]) ∧ DiskHas F w' g (stopD d a) M ∧ Kept F w w' ∧ ∀ k, Oth w k → w'.heap[k]? = w.heap[k]? := by
  refine (stop_any h.apart a ha).mono ?_
  rintro e w' ⟨rfl, hd, hk⟩
  exact ⟨rfl, hd.mono fun k _ hk => hk.1, hk.weak fun k hk => hk.1, fun k ho => by obtain ⟨cs, t, fr, h1, _⟩ := id ho; exact hk.block k (Array.getElem?_eq_some_iff.1 h1).1 fun e => e.2 ho⟩
theorem disk_crash (h : DiskHas F w g d M) (v : Value) (l : List UInt8) (hr : Rd w w.heap.size v (bv l)) (hl8 : l.length ≤ 1099511627776) (hM : M + d.waits.length ≤ 1099511627776) :
    Calls Try.prog 14 #[.pointer (some ⟨g, 0, none⟩), v] w fun e w' => e = .returned (.int .i64 (crashN d l : Int)) ∧ (∃ M', M' ≤ M + d.waits.length ∧ DiskHas F w' g (crashD d l) M') ∧ Kept F w w' ∧ ∀ k, Oth w k → w'.heap[k]? = w.heap[k]? := by
  refine (crash_any h.apart v l hr hl8 hM).mono ?_
  rintro e w' ⟨rfl, M', hM', hd, hk⟩
  exact ⟨rfl, ⟨M', hM', hd.mono fun k _ hk => hk.1⟩, hk.weak fun k hk => hk.1, fun k ho => by obtain ⟨cs, t, fr, h1, _⟩ := id ho; exact hk.block k (Array.getElem?_eq_some_iff.1 h1).1 fun e => e.2 ho⟩

theorem oth_own {B e sz m : Nat} {u : Value} {xs : List Value} (h : w.ownsRow B e sz u m xs) (h1 : e ≠ 61) (h2 : e ≠ 66) (hk : ∀ k, Oth w k → w'.heap[k]? = w.heap[k]?) : w'.ownsRow B e sz u m xs :=
  ownsRow_on h fun k e1 => hk k (by
    rcases h.2 with ⟨rfl, _⟩ | ⟨g', cap, cur, rfl, _, hg, _⟩
    · cases e1
    · injection e1 with e1
      subst e1
      exact ⟨_, e, _, hg, h1, h2⟩)
theorem RefB.oth {B : Nat} {v : Value} (h : RefB B w v d) (hk : ∀ k, Oth w k → w'.heap[k]? = w.heap[k]?) : RefB B w' v d := by
  obtain ⟨Lv, Wv, rfl, h1, h2⟩ := h
  exact ⟨Lv, Wv, rfl, oth_own h1 (by decide) (by decide) hk, oth_own h2 (by decide) (by decide) hk⟩
theorem BoxD.oth {cs : Array Value} (h : BoxD w n cs) (hk : ∀ k, Oth w k → w'.heap[k]? = w.heap[k]?) : BoxD w' n cs := (hk n ⟨_, 46, _, h, by decide, by decide⟩).trans h
theorem DiskHas.facts (h : DiskHas F w g d M) : (∀ p ∈ d.waits, p.1 < d.L.length) ∧ d.L.length ≤ 65536 ∧ d.left ≤ 9223372036854775807 := by
  obtain ⟨mb, sv, h⟩ := h
  exact ⟨fun p hp => (h.wts p hp).2, h.big.2, h.lft.2⟩
theorem DiskHas.setRow {cs cs' : Array Value} (h : DiskHas F w g d M) (hb : BoxD w n cs) : DiskHas F (w.setRow n cs') g d M := by
  have h1 := h.apart
  exact (h1.on (w' := w.setRow n cs') fun k _ hk => setRow_other (fun e => hk.2 (by subst e; exact ⟨_, 46, _, hb, by decide, by decide⟩)) cs').mono fun k _ hk => hk.1
end

end Go.Proofs.Ytcbdlggjpedffaa
