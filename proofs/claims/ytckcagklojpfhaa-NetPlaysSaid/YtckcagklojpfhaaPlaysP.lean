/- What the walk of NetPlays uses: a script that came in reads as a list of acts; a net beside the row that the document's answer owns. No condition. -/
import Derived.Test.YtckcagklojpfhaaRefSwap
import Derived.Test.YtckcagklojpfhaaOrderP
namespace Go.Proofs.Ytckcagklojpfhaa
open Go.ChangeShapes Go.WideShapes Go.ChangeAt Go.RowKit
set_option linter.unusedSimpArgs false

/-- an act -/
structure AC where
  kind : Int
  i : Int
  k : Int
  f : Int
  t : Int
  d : List UInt8

def ACells (w : World) (b o : Nat) (a : AC) : Prop :=
  w.cell? ⟨b, o, none⟩ = some (.int .i64 a.kind) ∧ w.cell? ⟨b, o + 1, none⟩ = some (.int .i64 a.i) ∧ w.cell? ⟨b, o + 2, none⟩ = some (.int .i64 a.k) ∧ w.cell? ⟨b, o + 3, none⟩ = some (.int .i64 a.f) ∧ w.cell? ⟨b, o + 4, none⟩ = some (.int .i64 a.t) ∧
    ∃ A c, w.cell? ⟨b, o + 5, none⟩ = some (.slice A a.d.length c) ∧ Rd w w.heap.size (.slice A a.d.length c) (bv a.d)

/-- the script -/
def RdActs (w : World) (v : Value) (L : List AC) : Prop :=
  ∃ A c, v = .slice A L.length c ∧ (L ≠ [] → ∃ b o, A = some ⟨b, o, none⟩ ∧ b < w.heap.size ∧ ∀ j a, L[j]? = some a → ACells w b (o + j * 6) a)

theorem ACells.on {w w' : World} {b o : Nat} {a : AC} (h : ACells w b o a) (hb : Below w.heap.size w w') (hlt : b < w.heap.size) : ACells w' b o a := by
  obtain ⟨h0, h1, h2, h3, h4, A, c, h5, h6⟩ := h
  have hc := fun (j : Nat) => hb.cell (p := ⟨b, j, none⟩) hlt
  exact ⟨(hc _).trans h0, (hc _).trans h1, (hc _).trans h2, (hc _).trans h3, (hc _).trans h4, A, c, (hc _).trans h5, h6.on hb⟩

theorem acells_below {w w' : World} {b o : Nat} {a : AC} (h : ACells w b o a) (hb : Below w.heap.size w w') (hlt : b < w.heap.size) : ACells w' b o a := h.on hb hlt

theorem RdActs.on {w w' : World} {v : Value} {L : List AC} (h : RdActs w v L) (hb : Below w.heap.size w w') : RdActs w' v L := by
  obtain ⟨A, c, hv, h⟩ := h
  refine ⟨A, c, hv, fun hne => ?_⟩
  obtain ⟨b, o, hA, hlt, hc⟩ := h hne
  exact ⟨b, o, hA, Nat.lt_of_lt_of_le hlt hb.size, fun j a ha => (hc j a ha).on hb hlt⟩

theorem RdActs.get {w : World} {A : Option Addr} {n c : Nat} {L : List AC} (h : RdActs w (.slice A n c) L) {j : Nat} {a : AC} (ha : L[j]? = some a) : ∃ b o, A = some ⟨b, o, none⟩ ∧ b < w.heap.size ∧ ACells w b (o + j * 6) a := by
  obtain ⟨A', c', hv, h⟩ := h
  injection hv with e1 _ _
  subst e1
  obtain ⟨b, o, hA, hlt, hc⟩ := h (by intro e; rw [e] at ha; simp at ha)
  exact ⟨b, o, hA, hlt, hc j a ha⟩

theorem Try.cells29 : Try.prog.cellsOf 29 = 6 := by kernel_rfl
theorem Try.cells3 : Try.prog.cellsOf 3 = 1 := by kernel_rfl

theorem choose_list {α : Type} {p : Nat → α → Prop} : ∀ (n : Nat), (∀ r, r < n → ∃ d, p r d) → ∃ ds : List α, ds.length = n ∧ ∀ (i : Nat) d, ds[i]? = some d → p i d := by
  intro n
  induction n with
  | zero => intro _; exact ⟨[], rfl, fun i d h => by simp at h⟩
  | succ n ih =>
    intro h
    obtain ⟨ds, h1, h2⟩ := ih fun r hr => h r (by omega)
    obtain ⟨d, hd⟩ := h n (by omega)
    refine ⟨ds ++ [d], by simp [h1], fun i d' hi => ?_⟩
    rcases Nat.lt_or_ge i n with hlt | hge
    · rw [List.getElem?_append_left (by omega)] at hi
      exact h2 i d' hi
    · rw [List.getElem?_append_right (by omega)] at hi
      have := (List.getElem?_eq_some_iff.1 hi).1
      simp at this
      obtain rfl : i = n := by omega
      simp [h1] at hi
      subst hi
      exact hd

theorem one_of_len {l : List Value} {v : Value} {rest : List Value} {n : Nat} (h : l = v :: rest) (hn : n = 1) : l.take n = [v] := by subst h; subst hn; rfl

/-- a []byte field, as bytes -/
theorem bytes_field {H : Type} {enc : TypeId × Value → H} {W : World} {fuel : Nat} {v : Value} {x : DataW H × List MemPlace} (h : DataW.trod enc Try.prog W 0 (fun _ => true) true fuel 27 [v] = some x) :
    ∃ (d : List UInt8) (A : Option Addr) (c : Nat), v = .slice A d.length c ∧ Rd W W.heap.size v (bv d) := by
  rcases open_ints Try.underlying27 Try.underlying5 Try.cells5 h with ⟨hcs, _⟩ | ⟨a, len', cap', zs, hcs, _, hl, hm, hz, _, hcell, hwz⟩
  · obtain rfl : v = .slice none 0 0 := by simpa using hcs
    exact ⟨[], none, 0, rfl, Rd.nil _ _⟩
  · obtain rfl : v = .slice (some a) len' cap' := by simpa using hcs
    simp only [if_true] at hz
    obtain ⟨d, hd⟩ := rd_of_cells (w := W) (A := some a) hl hm hz hwz (fun h => by cases h) (fun a' ha' c hc => by injection ha' with ha'; subst ha'; exact hcell c (by omega))
    obtain ⟨A, c, hv, _⟩ := hd.form
    rw [bv_length] at hv
    exact ⟨d, A, c, hv, hd⟩

/-- a []Act that came in -/
theorem open_acts {H : Type} {enc : TypeId × Value → H} {W : World} {base : Nat} {v : Value} {d : DataW H} {p : List MemPlace}
    (hv : Value.okWide Try.prog W .any base 22 v) (h : DataW.Trod enc Try.prog W 0 (fun _ => true) true 22 v d p) : ∃ L : List AC, RdActs W v L := by
  obtain ⟨a0, len, cap, rfl⟩ := okWide_slice Try.underlying22 hv
  obtain ⟨fuel, hf⟩ := h
  rcases Deep.open_slice Try.underlying22 hf with ⟨hcs, _⟩ | ⟨a, len', cap', m, n, D, Pl, hcs, _, hl, hm, hmm, _, hx⟩
  · have e : Value.slice a0 len cap = .slice none 0 0 := by simpa [Value.cells] using hcs
    rw [e]
    exact ⟨[], none, 0, rfl, fun h => absurd rfl h⟩
  · have e : Value.slice a0 len cap = .slice (some a) len' cap' := by simpa [Value.cells] using hcs
    rw [e]
    simp only [if_true] at hmm
    have hform : 0 < len' → ∃ b o, a = ⟨b, o, none⟩ := by
      intro h0
      obtain ⟨cs', h1, _⟩ := hx 0 (by omega)
      rw [Try.cells29] at h1
      obtain ⟨_, hlen, hcell⟩ := World.cells?_some h1
      have h0 := hcell 0 (by omega)
      rw [List.getElem?_eq_getElem (show 0 < cs'.length by omega)] at h0
      refine addr_cell (w := W) (v := cs'[0]) ?_
      simpa [Addr.add] using h0
    have each : ∀ i, i < len' → ∃ c : AC, ∃ b o, a = ⟨b, o, none⟩ ∧ b < W.heap.size ∧ ACells W b (o + i * 6) c := by
      intro i hi
      obtain ⟨cs', h1, h2⟩ := hx i (by omega)
      rw [Try.cells29] at h1
      obtain ⟨_, hlen, hcell⟩ := World.cells?_some h1
      obtain ⟨xs, k, hk, hxy, _, hxl, hff⟩ := DataW.trod_struct Try.underlying29 h2
      match cs', hlen with
      | [v0, v1, v2, v3, v4, v5], _ =>
        have hx0 : xs.length = 6 := hxl
        have gg := fun (i : Nat) (hi : i < 6) => (List.getElem?_eq_getElem (show i < xs.length by omega))
        have g0 : DataW.trod enc Try.prog W 0 (fun _ => true) true k 3 (([v0, v1, v2, v3, v4, v5].drop 0).take (Try.prog.cellsOf 3)) = xs[0]? := hff 0 _ rfl
        have g1 : DataW.trod enc Try.prog W 0 (fun _ => true) true k 3 (([v0, v1, v2, v3, v4, v5].drop 1).take (Try.prog.cellsOf 3)) = xs[1]? := hff 1 _ rfl
        have g2 : DataW.trod enc Try.prog W 0 (fun _ => true) true k 3 (([v0, v1, v2, v3, v4, v5].drop 2).take (Try.prog.cellsOf 3)) = xs[2]? := hff 2 _ rfl
        have g3 : DataW.trod enc Try.prog W 0 (fun _ => true) true k 3 (([v0, v1, v2, v3, v4, v5].drop 3).take (Try.prog.cellsOf 3)) = xs[3]? := hff 3 _ rfl
        have g4 : DataW.trod enc Try.prog W 0 (fun _ => true) true k 3 (([v0, v1, v2, v3, v4, v5].drop 4).take (Try.prog.cellsOf 3)) = xs[4]? := hff 4 _ rfl
        have g5 : DataW.trod enc Try.prog W 0 (fun _ => true) true k 27 (([v0, v1, v2, v3, v4, v5].drop 5).take (Try.prog.cellsOf 27)) = xs[5]? := hff 5 _ rfl
        rw [gg 0 (by omega)] at g0
        rw [gg 1 (by omega)] at g1
        rw [gg 2 (by omega)] at g2
        rw [gg 3 (by omega)] at g3
        rw [gg 4 (by omega)] at g4
        rw [gg 5 (by omega)] at g5
        simp only [Try.cells3, Try.cells27, List.drop_succ_cons, List.drop_zero, List.take_succ_cons, List.take_zero] at g0 g1 g2 g3 g4 g5
        obtain ⟨n0, e0, _, _⟩ := DataW.trod_int Try.underlying3 g0
        obtain ⟨n1, e1, _, _⟩ := DataW.trod_int Try.underlying3 g1
        obtain ⟨n2, e2, _, _⟩ := DataW.trod_int Try.underlying3 g2
        obtain ⟨n3, e3, _, _⟩ := DataW.trod_int Try.underlying3 g3
        obtain ⟨n4, e4, _, _⟩ := DataW.trod_int Try.underlying3 g4
        obtain ⟨dd, A5, c5, e5, r5⟩ := bytes_field g5
        simp only [List.cons.injEq, and_true] at e0 e1 e2 e3 e4
        subst e0 e1 e2 e3 e4 e5
        have q := fun (j : Nat) (hj : j < 6) => hcell j hj
        obtain ⟨b, o, ha⟩ := hform (by omega)
        subst ha
        have hadd : ∀ (x y : Nat), ((⟨b, o, none⟩ : Addr).add x).add y = ⟨b, o + x + y, none⟩ := fun x y => by rw [addr_add _ ⟨b, o, rfl⟩, addr_add _ ⟨_, _, rfl⟩]
        have q' := fun (j : Nat) (hj : j < 6) => by have := q j hj; rw [hadd] at this; exact this
        have hb : b < W.heap.size := by have := block_lt_of_cell (q' 0 (by omega)); simpa using this
        exact ⟨⟨n0, n1, n2, n3, n4, dd⟩, b, o, rfl, hb, by simpa using q' 0 (by omega), by simpa using q' 1 (by omega), by simpa using q' 2 (by omega), by simpa using q' 3 (by omega), by simpa using q' 4 (by omega), A5, c5, by simpa using q' 5 (by omega), r5⟩
    obtain ⟨L, hL1, hL2⟩ := choose_list len' each
    refine ⟨L, some a, cap', by rw [hL1], fun hne => ?_⟩
    have hp : 0 < L.length := List.length_pos_iff.2 hne
    obtain ⟨b, o, ha, hb, _⟩ := hL2 0 _ (List.getElem?_eq_getElem hp)
    refine ⟨b, o, by rw [ha], hb, fun j x hj => ?_⟩
    obtain ⟨b', o', ha', _, hc⟩ := hL2 j x hj
    rw [ha] at ha'
    injection ha' with h1 h2 _
    subst h1 h2
    exact hc

/-! ### a net beside a row of packets with strings -/
section
variable {F : Nat → Prop} {B B' : Nat} {w w' : World} {g n : Nat} {sv vl : Value} {rs : List (Int × Int × Value)} {ps qs : List Pk}

theorem NetIs.apartR (h : NetIs F w g sv rs ps) (hr : RefB B' w vl qs) : NetIs (fun k => F k ∧ vl.ownBlock ≠ some k) w g sv rs ps := by
  refine ⟨h.blk, ⟨h.fg, fun e => own_ne_net hr h.blk (by decide) e rfl⟩, h.own, fun k hk => ⟨h.fs k hk, own_type_ne h.own hr (by decide) hk⟩, h.len, fun i f t v hi => ?_⟩
  obtain ⟨d, e1, e2, e3, e4⟩ := h.data i f t v hi
  exact ⟨d, e1, e2, fun k hk => ⟨e3 k hk, own_type_ne e2 hr (by decide) hk⟩, e4⟩

theorem kept_ref (hr : RefB B' w vl qs) (hK : Kept (fun k => B ≤ k ∧ vl.ownBlock ≠ some k) w w') : RefB B' w' vl qs :=
  ownsRow_on hr fun k hk => hK.block k (own_lives hr hk) fun e => e.2 hk

theorem kept_refF {F' : Nat → Prop} (hr : RefB B' w vl qs) (hK : Kept (fun k => F' k ∧ vl.ownBlock ≠ some k) w w') : RefB B' w' vl qs :=
  ownsRow_on hr fun k hk => hK.block k (own_lives hr hk) fun e => e.2 hk

theorem Kept.weak {F F' : Nat → Prop} {w w' : World} (h : Kept F w w') (hF : ∀ k, F k → F' k) : Kept F' w w' := ⟨h.os, h.tape, h.output, h.size, fun k hk hn => h.block k hk fun e => hn (hF k e)⟩

theorem put_ref (h : NetHas F w g ps) (hr : RefB B' w vl qs) (f t : Int) (dv : Value) (d : List UInt8) (hd : Rd w w.heap.size dv (bv d)) (hl : d.length ≤ 65536) :
    Calls Try.prog 10 #[.pointer (some ⟨g, 0, none⟩), .agg #[.int .i64 f, .int .i64 t, dv]] w fun e w' => e = .returned (.int .i64 (putE ps f t)) ∧ NetHas (More F w.heap.size) w' g (putL ps (f, t, d)) ∧ Kept F w w' ∧ RefB B' w' vl qs := by
  obtain ⟨sv, rs, h⟩ := h
  refine (put_any ⟨sv, rs, h.apartR hr⟩ f t dv d hd hl).mono ?_
  rintro e w' ⟨rfl, hN, hK⟩
  exact ⟨rfl, hN.mono (fun k _ hk => by rcases hk with hk | hk; exact .inl hk.1; exact .inr hk), hK.weak fun k h => h.1, kept_refF hr hK⟩

theorem drop_ref (h : NetHas F w g ps) (hr : RefB B' w vl qs) (i : Int) (hbig : ps.length ≤ 65536) :
    Calls Try.prog 12 #[.pointer (some ⟨g, 0, none⟩), .int .i64 i] w fun e w' => e = .returned (.int .i64 (thereE ps.length [i])) ∧ NetHas F w' g (dropL ps i) ∧ Kept F w w' ∧ RefB B' w' vl qs := by
  obtain ⟨sv, rs, h⟩ := h
  refine (drop_any ⟨sv, rs, h.apartR hr⟩ i hbig).mono ?_
  rintro e w' ⟨rfl, hN, hK⟩
  exact ⟨rfl, hN.mono (fun k _ hk => hk.1), hK.weak fun k h => h.1, kept_refF hr hK⟩

theorem swap_ref (h : NetHas F w g ps) (hr : RefB B' w vl qs) (i k : Int) :
    Calls Try.prog 14 #[.pointer (some ⟨g, 0, none⟩), .int .i64 i, .int .i64 k] w fun e w' => e = .returned (.int .i64 (thereE ps.length [i, k])) ∧ NetHas F w' g (swapL ps i k) ∧ Kept F w w' ∧ RefB B' w' vl qs := by
  obtain ⟨sv, rs, h⟩ := h
  refine (swap_any ⟨sv, rs, h.apartR hr⟩ i k).mono ?_
  rintro e w' ⟨rfl, hN, hK⟩
  exact ⟨rfl, hN.mono (fun k _ hk => hk.1), hK.weak fun k h => h.1, kept_refF hr hK⟩
end

theorem putL_len (ps : List Pk) (p : Pk) : (putL ps p).length ≤ ps.length + 1 := by
  unfold putL
  split <;> simp
theorem dropL_len (ps : List Pk) (i : Int) : (dropL ps i).length ≤ ps.length := by
  unfold dropL
  split
  · rw [List.length_eraseIdx]; split <;> omega
  · exact Nat.le_refl _
theorem swapL_len (ps : List Pk) (i k : Int) : (swapL ps i k).length = ps.length := by
  unfold swapL
  split
  · simp
  · rfl

end Go.Proofs.Ytckcagklojpfhaa
