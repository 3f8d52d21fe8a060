/- 'Put' of a net: a packet more at the end, in new memory; or an error and nothing turned. No condition. -/
import Derived.Test.YtckcagklojpfhaaLook
import Derived.Test.YtckcagklojpfhaaStage
namespace Go.Proofs.Ytckcagklojpfhaa
open Go.RowKit
set_option linter.unusedSimpArgs false

def putE (ps : List Pk) (f t : Int) : Int := if bothNodes f t then (if 4096 ≤ ps.length then 13 else 0) else 1
def putL (ps : List Pk) (p : Pk) : List Pk := if putE ps p.1 p.2.1 = 0 then ps ++ [p] else ps

def PutPost (F : Nat → Prop) (w : World) (g : Nat) (ps : List Pk) (p : Pk) (e : Ending) (w' : World) : Prop :=
  e = .returned (.int .i64 (putE ps p.1 p.2.1)) ∧ NetHas (More F w.heap.size) w' g (putL ps p) ∧ Kept F w w'

theorem two_cells_at (w : World) (b : Nat) (f t : Int) (hb : b = w.heap.size) : ∀ j x, [f, t][j]? = some x → (w.alloc (.cells #[.int .i64 f, .int .i64 t] 3)).cell? ⟨b, j, none⟩ = some (.int .i64 x) := by
  subst hb
  exact two_cells w f t

theorem put_nil (v : Value) (f t : Int) (w : World) : Calls Try.prog 10 #[.pointer none, .agg #[.int .i64 f, .int .i64 t, v]] w fun e w' => e = .returned (.int .i64 1) ∧ Below w.heap.size w w' := by
  have HB := Lib.hid (show Below w.heap.size w (w.alloc (.cells #[.int .i64 f, .int .i64 t, v] 33)) from (Below.refl _ _).alloc (Nat.le_refl _) _)
  go_enter Try.func10, Try.ntmps10
  go_wp2
  go_ret
  exact ⟨rfl, HB.out⟩

theorem put_no {F : Nat → Prop} {w : World} {g : Nat} {ps : List Pk} (h : NetHas F w g ps) (p : Pk) (v : Value) (hn : bothNodes p.1 p.2.1 = false) :
    Calls Try.prog 10 #[.pointer (some ⟨g, 0, none⟩), .agg #[.int .i64 p.1, .int .i64 p.2.1, v]] w (PutPost F w g ps p) := by
  obtain ⟨f, t, d⟩ := p
  change Calls Try.prog 10 #[.pointer (some ⟨g, 0, none⟩), .agg #[.int .i64 f, .int .i64 t, v]] w _
  have hE : putE ps f t = 1 := by unfold putE; rw [hn]; rfl
  have hL : putL ps (f, t, d) = ps := by unfold putL; rw [if_neg (by rw [hE]; decide)]
  have hb : Below w.heap.size w ((w.alloc (.cells #[.int .i64 f, .int .i64 t, v] 33)).alloc (.cells #[.int .i64 f, .int .i64 t] 3)) := ((Below.refl _ _).alloc (Nat.le_refl _) _).alloc (by simp) _
  have HF := Lib.hid (show PutPost F w g ps (f, t, d) (.returned (.int .i64 1)) ((w.alloc (.cells #[.int .i64 f, .int .i64 t, v] 33)).alloc (.cells #[.int .i64 f, .int .i64 t] 3)) from
    ⟨by rw [hE], by rw [hL]; exact (h.below hb).mono (fun k _ hk => .inl hk), Kept.of_below hb⟩)
  have H := nodes_any (w.heap.size + 1) 2 f t ((w.alloc (.cells #[.int .i64 f, .int .i64 t, v] 33)).alloc (.cells #[.int .i64 f, .int .i64 t] 3)) (two_cells_at _ _ f t (by simp))
  simp only at hn
  rw [hn] at H
  have H := Lib.hid H
  clear h hE hL hb hn
  go_enter Try.func10, Try.ntmps10
  go_wp2_with fail
  refine H.out.mono ?_
  rintro e w1 ⟨rfl, rfl⟩
  go_wp2
  go_ret
  exact HF.out

theorem put_big {F : Nat → Prop} {w : World} {g : Nat} {ps : List Pk} (h : NetHas F w g ps) (p : Pk) (v : Value) (hn : bothNodes p.1 p.2.1 = true) (hl : 4096 ≤ ps.length) :
    Calls Try.prog 10 #[.pointer (some ⟨g, 0, none⟩), .agg #[.int .i64 p.1, .int .i64 p.2.1, v]] w (PutPost F w g ps p) := by
  obtain ⟨f, t, d⟩ := p
  change Calls Try.prog 10 #[.pointer (some ⟨g, 0, none⟩), .agg #[.int .i64 f, .int .i64 t, v]] w _
  have hE : putE ps f t = 13 := by unfold putE; rw [hn]; simp [hl]
  have hL : putL ps (f, t, d) = ps := by unfold putL; rw [if_neg (by rw [hE]; decide)]
  have hb : Below w.heap.size w ((w.alloc (.cells #[.int .i64 f, .int .i64 t, v] 33)).alloc (.cells #[.int .i64 f, .int .i64 t] 3)) := ((Below.refl _ _).alloc (Nat.le_refl _) _).alloc (by simp) _
  have HF := Lib.hid (show PutPost F w g ps (f, t, d) (.returned (.int .i64 13)) ((w.alloc (.cells #[.int .i64 f, .int .i64 t, v] 33)).alloc (.cells #[.int .i64 f, .int .i64 t] 3)) from
    ⟨by rw [hE], by rw [hL]; exact (h.below hb).mono (fun k _ hk => .inl hk), Kept.of_below hb⟩)
  have H := nodes_any (w.heap.size + 1) 2 f t ((w.alloc (.cells #[.int .i64 f, .int .i64 t, v] 33)).alloc (.cells #[.int .i64 f, .int .i64 t] 3)) (two_cells_at _ _ f t (by simp))
  simp only at hn
  rw [hn] at H
  have H := Lib.hid H
  obtain ⟨sv, rs, h⟩ := h
  have hn := h.below hb
  obtain ⟨A, c, rfl⟩ := hn.form
  have hc := hn.cell
  have hle : (4096 : Int) ≤ (rs.length : Int) := by have := h.len; omega
  clear h hE hL hb hn hl
  go_enter Try.func10, Try.ntmps10
  go_wp2_with fail
  refine H.out.mono ?_
  rintro e w1 ⟨rfl, rfl⟩
  go_wp2
  go_ret
  exact HF.out

/-! ### the store -/
def DataAre (F : Nat → Prop) (w : World) (rs : List (Int × Int × Value)) (ps : List Pk) : Prop :=
  ∀ (i : Nat) f t v, rs[i]? = some (f, t, v) → ∃ d, ps[i]? = some (f, t, d) ∧ w.ownsRow 0 5 1 v d.length (bv d) ∧ (∀ k, v.ownBlock = some k → F k) ∧ d.length ≤ 65536

/-- behind the append, ahead of the store -/
def Added (F : Nat → Prop) (w0 : World) (g : Nat) (sv : Value) (rs : List (Int × Int × Value)) (ps : List Pk) (w : World) : Prop :=
  Kept F w0 w ∧ w.heap[g]? = some (.cells #[sv] 55 (0, 0)) ∧ DataAre F w rs ps
def NewRow (F : Nat → Prop) (n g : Nat) (rs : List (Int × Int × Value)) (f t : Int) (d : List UInt8) (v : Value) (w : World) : Prop :=
  ∃ v', w.ownsRow 0 33 3 v (rs.length + 1) (flatR (rs ++ [(f, t, v')])) ∧ w.ownsRow n 5 1 v' d.length (bv d) ∧ ∀ k, v.ownBlock = some k → More F n k ∧ k ≠ g
def OnePk (n : Nat) (f t : Int) (d : List UInt8) (v : Value) (w : World) : Prop :=
  ∃ b v', v = .slice (some ⟨b, 0, none⟩) 1 1 ∧ n ≤ b ∧ w.heap[b]? = some (.cells #[.int .i64 f, .int .i64 t, v'] 33 (0, 0)) ∧ w.ownsRow n 5 1 v' d.length (bv d)
def PkIs (n : Nat) (f t : Int) (d : List UInt8) (v : Value) (w : World) : Prop := ∃ v', v = .agg #[.int .i64 f, .int .i64 t, v'] ∧ w.ownsRow n 5 1 v' d.length (bv d)

section
variable {F : Nat → Prop} {w0 w : World} {g : Nat} {sv : Value} {rs : List (Int × Int × Value)} {ps : List Pk} {f t : Int} {d : List UInt8}

theorem own_type_ne {B B' e e' size size' n n' : Nat} {v v' : Value} {xs xs' : List Value} (h : w.ownsRow B e size v n xs) (h' : w.ownsRow B' e' size' v' n' xs') (hne : e ≠ e') {k : Nat} (hk : v.ownBlock = some k) : v'.ownBlock ≠ some k := by
  intro hk'
  rcases h.2 with ⟨rfl, _⟩ | ⟨g, cap, cur, rfl, _, hgg, _⟩
  · cases hk
  · rcases h'.2 with ⟨rfl, _⟩ | ⟨g', cap', cur', rfl, _, hgg', _⟩
    · cases hk'
    · injection hk with hk
      injection hk' with hk'
      subst hk
      subst hk'
      rw [hgg] at hgg'
      simp only [Option.some.injEq, Obj.cells.injEq] at hgg'
      exact hne hgg'.2.1

theorem own_ne_net {B e size n : Nat} {v : Value} {xs : List Value} (h : w.ownsRow B e size v n xs) (hb : w.heap[g]? = some (.cells #[sv] 55 (0, 0))) (he : e ≠ 55) {k : Nat} (hk : v.ownBlock = some k) : k ≠ g := by
  intro e1
  subst e1
  rcases h.2 with ⟨rfl, _⟩ | ⟨g', cap, cur, rfl, _, hg, _⟩
  · cases hk
  · injection hk with hk
    subst hk
    rw [hb] at hg
    simp only [Option.some.injEq, Obj.cells.injEq] at hg
    exact he hg.2.1.symm

theorem put_append (hN : NetIs F w0 g sv rs ps) (hF : ∀ k, F k → k < w0.heap.size) (hA : Below w0.heap.size w0 w) {v : Value} (hv : OnePk w0.heap.size f t d v w) (hl : ps.length < 4096) :
    ∃ v8 w8, (Builtin.append_ #[53, 53] 53 #[sv, v]).run Try.prog w = .ok v8 w8 ∧ w.heap.size ≤ w8.heap.size ∧ (∀ k, k < w.heap.size → w0.heap.size ≤ k → w8.heap[k]? = w.heap[k]?) ∧ Added F w0 g sv rs ps w8 ∧ NewRow F w0.heap.size g rs f t d v8 w8 := by
  obtain ⟨i0, hi, hz0, hz1, hz2⟩ := info_parts Try.info33
  obtain ⟨b, v', rfl, hb, hbl, ho⟩ := hv
  have hNw := hN.below hA
  have hlen := hN.len
  obtain ⟨A', c', rfl⟩ := ownsRow_form ho
  obtain ⟨v8, w8, hr, h1, h2, _, h5⟩ := run_append_own_at (P := Try.prog) w 0 53 53 33 i0 (.agg #[.int .i64 0, .int .i64 0, .slice none 0 0]) 3 40 Try.underlying53 hi hz0 hz1 hz2 rfl (by decide) sv rs.length (flatR rs) hNw.own
    ⟨b, 0, none⟩ 1 1 [.int .i64 f, .int .i64 t, .slice A' d.length c'] rfl (fun j u hu => by
      rw [show (⟨b, 0, none⟩ : Addr).add j = ⟨b, j, none⟩ from by unfold Addr.add; split <;> simp_all, cell_of_row w b j _ 33 (0, 0) hbl]
      rw [← Array.getElem?_toList]
      exact hu) (by intro u hu; simp at hu; rcases hu with rfl | rfl | rfl <;> rfl) (by unfold maxLen; omega) (by omega) (Nat.zero_le _)
  have hrow : ∀ k, sv.ownBlock = some k → k < w0.heap.size := fun k hk => hF k (hN.fs k hk)
  have hfar : ∀ k, k < w.heap.size → w0.heap.size ≤ k → w8.heap[k]? = w.heap[k]? := fun k hk hk0 => h2.block k hk (fun e => by have := hrow k e.symm; omega)
  have ho8 : w8.ownsRow w0.heap.size 5 1 (.slice A' d.length c') d.length (bv d) := ownsRow_on ho (fun k hk => hfar k (own_lives ho hk) (ho.lt k hk).1)
  refine ⟨v8, w8, hr, h2.size, hfar, ⟨⟨h2.os.trans hA.os, h2.tape.trans hA.tape, h2.output.trans hA.output, Nat.le_trans hA.size h2.size, fun k hk hnF => ?_⟩, ?_, ?_⟩, _, ?_, ho8, ?_⟩
  · rw [h2.block k (Nat.lt_of_lt_of_le hk hA.size) (fun e => hnF (hN.fs k e.symm)), hA.block k hk]
  · rw [h2.block g (Nat.lt_of_lt_of_le hN.glt hA.size) (fun e => hNw.row_ne e.symm rfl)]
    exact hNw.blk
  · intro i f t v hi
    obtain ⟨d, e1, e2, e3, e4⟩ := hNw.data i f t v hi
    exact ⟨d, e1, ownsRow_on e2 (fun k hk => h2.block k (own_lives e2 hk) (fun e => own_type_ne e2 hNw.own (by decide) hk e.symm)), e3, e4⟩
  · rw [flatR_append]
    exact h1
  · intro k hk
    refine ⟨?_, ?_⟩
    · rcases h5 with h5 | h5
      · exact .inl (hN.fs k (h5.symm.trans hk))
      · rw [h5] at hk
        injection hk with hk
        exact .inr (by have := hA.size; omega)
    · exact own_ne_net h1 (show w8.heap[g]? = some (.cells #[sv] 55 (0, 0)) by
        rw [h2.block g (Nat.lt_of_lt_of_le hN.glt hA.size) (fun e => hNw.row_ne e.symm rfl)]
        exact hNw.blk) (by decide) hk

theorem put_store (hg : F g) (hlen : rs.length = ps.length) (hd : d.length ≤ 65536) (h : Added F w0 g sv rs ps w) {v : Value} (hv : NewRow F w0.heap.size g rs f t d v w) :
    NetHas (More F w0.heap.size) (w.setCell ⟨g, 0, none⟩ v) g (ps ++ [(f, t, d)]) ∧ Kept F w0 (w.setCell ⟨g, 0, none⟩ v) := by
  obtain ⟨hK, hb, hD⟩ := h
  obtain ⟨v', h1, h2, h3⟩ := hv
  have hgl : g < w.heap.size := (Array.getElem?_eq_some_iff.1 hb).1
  have hne : v.ownBlock ≠ some g := fun e => (h3 g e).2 rfl
  have far : ∀ {B e size n : Nat} {u : Value} {xs : List Value}, w.ownsRow B e size u n xs → e ≠ 55 → (w.setCell ⟨g, 0, none⟩ v).ownsRow B e size u n xs := fun h he => ownsRow_setCell_other h (fun e1 => own_ne_net h hb he e1 rfl) v
  refine ⟨⟨v, rs ++ [(f, t, v')], ?_, .inl hg, ?_, fun k hk => (h3 k hk).1, by simp [hlen], ?_⟩, ?_⟩
  · have := heap_setCell_same w g 0 #[sv] 55 v hb
    simpa using this
  · rw [List.length_append]
    exact far h1 (by decide)
  · intro i f' t' u hi
    rcases Nat.lt_or_ge i rs.length with hlt | hge
    · rw [List.getElem?_append_left hlt] at hi
      obtain ⟨d', e1, e2, e3, e4⟩ := hD i f' t' u hi
      exact ⟨d', by rw [List.getElem?_append_left (by omega)]; exact e1, far e2 (by decide), fun k hk => .inl (e3 k hk), e4⟩
    · rw [List.getElem?_append_right hge] at hi
      have hi0 : i - rs.length = 0 := by
        have := (List.getElem?_eq_some_iff.1 hi).1
        simp at this
        omega
      rw [hi0] at hi
      simp at hi
      obtain ⟨rfl, rfl, rfl⟩ := hi
      exact ⟨d, by rw [List.getElem?_append_right (by omega), show i - ps.length = 0 by omega]; rfl, far (own_from h2 (Nat.zero_le _) |> fun h => h) (by decide), fun k hk => .inr (h2.lt k hk).1, hd⟩
  · exact ⟨hK.os, hK.tape, hK.output, by simpa [World.setCell] using hK.size, fun k hk hnF => by rw [Below.heap_setCell w ⟨g, 0, none⟩ v k (fun e => hnF (by have e : k = g := e; rw [e]; exact hg))]; exact hK.block k hk hnF⟩

theorem pk_stays {n : Nat} {w' : World} {v : Value} (h : PkIs n f t d v w) (hk : ∀ k, k < w.heap.size → n ≤ k → w'.heap[k]? = w.heap[k]?) : PkIs n f t d v w' := by
  obtain ⟨v', rfl, h⟩ := h
  exact ⟨v', rfl, ownsRow_on h fun k e => hk k (h.lt k e).2 (h.lt k e).1⟩
theorem one_stays {n : Nat} {w' : World} {v : Value} (h : OnePk n f t d v w) (hk : ∀ k, k < w.heap.size → n ≤ k → w'.heap[k]? = w.heap[k]?) : OnePk n f t d v w' := by
  obtain ⟨b, v', rfl, hb, hbl, h⟩ := h
  exact ⟨b, v', rfl, hb, by rw [hk b (Array.getElem?_eq_some_iff.1 hbl).1 hb]; exact hbl, ownsRow_on h fun k e => hk k (h.lt k e).2 (h.lt k e).1⟩
theorem new_stays {n : Nat} {w' : World} {v : Value} (h : NewRow F n g rs f t d v w) (hgn : g < n) (hk : ∀ k, k < w.heap.size → k ≠ g → w'.heap[k]? = w.heap[k]?) : NewRow F n g rs f t d v w' := by
  obtain ⟨v', h1, h2, h3⟩ := h
  exact ⟨v', ownsRow_on h1 fun k e => hk k (h1.lt k e).2 (h3 k e).2, ownsRow_on h2 fun k e => hk k (h2.lt k e).2 (by have := (h2.lt k e).1; omega), h3⟩

end

set_option maxRecDepth 100000 in
set_option maxHeartbeats 1000000 in
theorem put_in {F : Nat → Prop} {W : World} {g : Nat} {sv : Value} {rs : List (Int × Int × Value)} {ps : List Pk} (h : NetIs F W g sv rs ps) (hF : ∀ k, F k → k < W.heap.size) (f t : Int) (dv : Value) (d : List UInt8) (hr : Rd W W.heap.size dv (bv d)) (hd : d.length ≤ 65536)
    (hn : bothNodes f t = true) (hl : ps.length < 4096) :
    Calls Try.prog 10 #[.pointer (some ⟨g, 0, none⟩), .agg #[.int .i64 f, .int .i64 t, dv]] W fun e w' => e = .returned (.int .i64 0) ∧ ∃ n, W.heap.size ≤ n ∧ NetHas (More F n) w' g (ps ++ [(f, t, d)]) ∧ Kept F W w' := by
  have hb : Below W.heap.size W ((W.alloc (.cells #[.int .i64 f, .int .i64 t, dv] 33)).alloc (.cells #[.int .i64 f, .int .i64 t] 3)) := ((Below.refl _ _).alloc (Nat.le_refl _) _).alloc (by simp) _
  have hN := h.below hb
  have hRD := hr.on hb
  have H := nodes_any (W.heap.size + 1) 2 f t ((W.alloc (.cells #[.int .i64 f, .int .i64 t, dv] 33)).alloc (.cells #[.int .i64 f, .int .i64 t] 3)) (two_cells_at _ _ f t (by simp))
  rw [hn] at H
  have HQ := Lib.hid H
  have hx0 : ((W.alloc (.cells #[.int .i64 f, .int .i64 t, dv] 33)).alloc (.cells #[.int .i64 f, .int .i64 t] 3)).cell? ⟨W.heap.size, 0, none⟩ = some (.int .i64 f) := by go_simp
  have hx1 : ((W.alloc (.cells #[.int .i64 f, .int .i64 t, dv] 33)).alloc (.cells #[.int .i64 f, .int .i64 t] 3)).cell? ⟨W.heap.size, 1, none⟩ = some (.int .i64 t) := by go_simp
  have hx2 : ((W.alloc (.cells #[.int .i64 f, .int .i64 t, dv] 33)).alloc (.cells #[.int .i64 f, .int .i64 t] 3)).cell? ⟨W.heap.size, 2, none⟩ = some dv := by go_simp
  have hB3 : W.heap.size < ((W.alloc (.cells #[.int .i64 f, .int .i64 t, dv] 33)).alloc (.cells #[.int .i64 f, .int .i64 t] 3)).heap.size := by simp; omega
  have hle : ¬ (4096 : Int) ≤ (rs.length : Int) := by have := h.len; omega
  have hld : decide ((4096 : Int) ≤ (rs.length : Int)) = false := by simpa using hle
  obtain ⟨A, c, hsv⟩ := h.form
  have hcg := hN.cell
  rw [hsv] at hcg
  have HSV := Lib.hid hsv
  have HB := Lib.hid hb
  have HN := Lib.hid hN
  have HRD := Lib.hid hRD
  have HL := Lib.hid hl
  have HDL := Lib.hid hd
  have HX := Lib.hid (And.intro hx0 (And.intro hx1 hx2))
  have HB3 := Lib.hid hB3
  have HKW := Lib.hid (show Kept F W _ from Kept.of_below hb)
  have HSZ := Lib.hid hb.size
  have HF := Lib.hid (fun k hk => Nat.lt_of_lt_of_le (hF k hk) hb.size)
  clear h hF hr hN hRD H hx0 hx1 hx2 hB3 hb hsv hl hn hd
  go_enter Try.func10, Try.ntmps10
  go_wp2_with fail
  refine HQ.out.mono ?_
  rintro e w1 ⟨rfl, rfl⟩
  clear HQ
  go_wp2
  clear hcg hle hld
  rw [← HSV.out] at *
  generalize ((W.alloc (.cells #[.int .i64 f, .int .i64 t, dv] 33)).alloc (.cells #[.int .i64 f, .int .i64 t] 3)) = wq at *
  generalize hB3e : W.heap.size = B3 at *
  have HB3E := Lib.hid hB3e
  clear hB3e
  have HG := Lib.hid (HF.out g HN.out.fg)
  obtain ⟨hx0, hx1, hx2⟩ := HX.out
  have hB3 := HB3.out
  refine region_turns (by kernel_rfl) [24, 25, 26, 27, 28, 29, 30, 31, 32, 33, 34] rfl (by simp) (by kernel_rfl) (Staged 8 11 (fun w' => Below wq.heap.size wq w') (fun w' => Added F wq g sv rs ps w') (fun w' => NetHas (More F wq.heap.size) w' g (ps ++ [(f, t, d)]) ∧ Kept F wq w')) (Moved (fun i k => (i = 8 ∧ k < wq.heap.size) ∨ (i = 11 ∧ k = g))) (Says (fun q_ => match q_ with | 24 => some (.pointer (some ⟨g, 0, none⟩)) | 25 => some (.pointer (some ⟨g, 0, none⟩)) | 26 => some (.pointer (some ⟨g, 0, none⟩)) | 27 => some (.pointer (some ⟨g, 0, none⟩)) | 28 => some (sv) | 29 => some (.agg #[.int .i64 f, .int .i64 t, dv]) | 33 => some (.pointer (some ⟨g, 0, none⟩)) | 34 => some (.pointer (some ⟨g, 0, none⟩)) | _ => none) (fun q_ v w => (q_ = 30 → PkIs wq.heap.size f t d v w) ∧ (q_ = 31 → OnePk wq.heap.size f t d v w) ∧ (q_ = 32 → NewRow F wq.heap.size g rs f t d v w) ∧ True)) ?_ ?_ (turns_of_all rfl ?_) ?_
  · intro l hl
    refine Staged.start ?_ (hl _) (hl _)
    exact below_of_drewN wq 1 _
  · rintro i tt v w w' hnw hM ⟨h1, h2⟩
    obtain ⟨s30, s31, s32, _⟩ := h2
    have hlow : ∀ k, k < w.heap.size → wq.heap.size ≤ k → w'.heap[k]? = w.heap[k]? := fun k hk hk0 => hM.2 k hk (fun e => by have := HG.out; rcases e with ⟨_, e⟩ | ⟨_, e⟩ <;> omega)
    refine ⟨h1, fun e => pk_stays (s30 e) hlow, fun e => one_stays (s31 e) hlow, fun e => ?_, trivial⟩
    subst e
    have h8 := (hnw 8 _ rfl rfl).1
    exact new_stays (s32 rfl) HG.out fun k hk hne => hM.2 k hk (fun e => by rcases e with ⟨e, _⟩ | ⟨_, e⟩ <;> omega)
  · refine ⟨?_, ?_, ?_, ?_, ?_, ?_, ?_, ?_, ?_, ?_, ?_, ?_, trivial⟩
    · intro l a w K hbf haf hun hS hF hK
      have g0 : a.tmps[0]? = some (.pointer (some ⟨g, 0, none⟩)) := unfed hF 0 (by kernel_rfl) (by kernel_rfl) rfl
      exact op_value rfl (wanted_none rfl) (run_move' (v := .pointer (some ⟨g, 0, none⟩)) rfl (eval_of g0) w) (hK _ w (Moved.refl _ _ w) (hS.same (by decide) (by decide)) (says_exact 24 rfl (by simp)))
    · intro l a w K hbf haf hun hS hF hK
      have g0 : a.tmps[0]? = some (.pointer (some ⟨g, 0, none⟩)) := unfed hF 0 (by kernel_rfl) (by kernel_rfl) rfl
      exact op_value rfl (wanted_none rfl) (run_move' (v := .pointer (some ⟨g, 0, none⟩)) rfl (eval_of g0) w) (hK _ w (Moved.refl _ _ w) (hS.same (by decide) (by decide)) (says_exact 25 rfl (by simp)))
    · intro l a w K hbf haf hun hS hF hK
      have g25 := fedX hF 25 (.pointer (some ⟨g, 0, none⟩)) (by kernel_rfl) (by kernel_rfl) rfl
      exact op_value (v := .pointer (some ⟨g, 0, none⟩)) rfl (wanted_none rfl) (by simp [go_sem, g25]) (hK _ w (Moved.refl _ _ w) (hS.same (by decide) (by decide)) (says_exact 26 rfl (by simp)))
    · intro l a w K hbf haf hun hS hF hK
      have g26 := fedX hF 26 (.pointer (some ⟨g, 0, none⟩)) (by kernel_rfl) (by kernel_rfl) rfl
      exact op_value (v := .pointer (some ⟨g, 0, none⟩)) rfl (wanted_none rfl) (by simp [go_sem, g26]) (hK _ w (Moved.refl _ _ w) (hS.same (by decide) (by decide)) (says_exact 27 rfl (by simp)))
    · intro l a w K hbf haf hun hS hF hK
      have g27 := fedX hF 27 (.pointer (some ⟨g, 0, none⟩)) (by kernel_rfl) (by kernel_rfl) rfl
      have hA := hS.first (hbf 8 (by kernel_rfl)) (hbf 11 (by kernel_rfl))
      have hc := (HN.out.below hA).cell
      exact op_value (v := sv) rfl (wanted_none rfl) (by simp [go_sem, g27, hc]) (hK _ w (Moved.refl _ _ w) (hS.same (by decide) (by decide)) (says_exact 28 rfl (by simp)))
    · intro l a w K hbf haf hun hS hF hK
      have g3 : a.tmps[3]? = some (.pointer (some ⟨B3, 0, none⟩)) := unfed hF 3 (by kernel_rfl) (by kernel_rfl) rfl
      have hA := hS.first (hbf 8 (by kernel_rfl)) (hbf 11 (by kernel_rfl))
      have hc0 := (hA.cell (p := ⟨B3, 0, none⟩) hB3).trans hx0
      have hc1 := (hA.cell (p := ⟨B3, 1, none⟩) hB3).trans hx1
      have hc2 := (hA.cell (p := ⟨B3, 2, none⟩) hB3).trans hx2
      exact op_value (v := .agg #[.int .i64 f, .int .i64 t, dv]) rfl (wanted_none rfl) (by simp [go_sem, g3, hc0, hc1, hc2]) (hK _ w (Moved.refl _ _ w) (hS.same (by decide) (by decide)) (says_exact 29 rfl (by simp)))
    · intro l a w K hbf haf hun hS hF hK
      have g29 := fedX hF 29 (.agg #[.int .i64 f, .int .i64 t, dv]) (by kernel_rfl) (by kernel_rfl) rfl
      have hA := hS.first (hbf 8 (by kernel_rfl)) (hbf 11 (by kernel_rfl))
      refine op_call (g := 19) (args := #[.agg #[.int .i64 f, .int .i64 t, dv]]) rfl (wanted_none rfl) (by simp [go_sem, g29]) ?_
      refine (copied_any f t dv d w (HRD.out.on hA) (by have := HDL.out; omega)).mono ?_
      rintro e w9 ⟨v9, rfl, ho9, hb9⟩
      exact ⟨_, rfl, hK _ w9 ⟨hb9.size, fun k hk _ => hb9.block k hk⟩ (Staged.stay (bthen hA hb9) (hbf 8 (by kernel_rfl)) (hbf 11 (by kernel_rfl)) (by decide) (by decide)) (says_special 30 rfl (by simp; exact ⟨v9, rfl, own_from ho9 hA.size⟩))⟩
    · intro l a w K hbf haf hun hS hF hK
      obtain ⟨v30, g30, s300⟩ := fed hF 30 (by kernel_rfl) (by kernel_rfl)
      have s30 : PkIs wq.heap.size f t d v30 w := s300.2.1 rfl
      have hA := hS.first (hbf 8 (by kernel_rfl)) (hbf 11 (by kernel_rfl))
      obtain ⟨v', rfl, ho⟩ := s30
      exact op_value (v := .slice (some ⟨w.heap.size, 0, none⟩) 1 1) (w' := w.alloc (.cells #[.int .i64 f, .int .i64 t, v'] 33)) rfl (wanted_none rfl) (by simp [go_sem, g30]) (hK _ _ ⟨by simp, fun k hk _ => ((Below.refl _ w).alloc (Nat.le_refl _) _).block k hk⟩ (Staged.stay (hA.alloc hA.size _) (hbf 8 (by kernel_rfl)) (hbf 11 (by kernel_rfl)) (by decide) (by decide)) (says_special 31 rfl (by simp; exact ⟨w.heap.size, v', rfl, hA.size, heap_alloc_new w _, ho.alloc _⟩)))
    · intro l a w K hbf haf hun hS hF hK
      have g28 := fedX hF 28 (sv) (by kernel_rfl) (by kernel_rfl) rfl
      obtain ⟨v31, g31, s310⟩ := fed hF 31 (by kernel_rfl) (by kernel_rfl)
      have s31 : OnePk wq.heap.size f t d v31 w := s310.2.2.1 rfl
      have hA := hS.first hun (hbf 11 (by kernel_rfl))
      obtain ⟨v8, w8, hr8, hz8, hfar, hadd, hnew⟩ := put_append HN.out HF.out hA s31 HL.out
      exact op_value (v := v8) (w' := w8) rfl (wanted_none rfl) (by simp [execOp, resolve, invoke, builtin, eval_of g28, eval_of g31, hr8]) (hK _ w8 ⟨hz8, fun k hk hn => hfar k hk (by omega)⟩ (Staged.toMid hadd (hbf 11 (by kernel_rfl)) (by decide)) (says_special 32 rfl (by simp; exact hnew)))
    · intro l a w K hbf haf hun hS hF hK
      have g24 := fedX hF 24 (.pointer (some ⟨g, 0, none⟩)) (by kernel_rfl) (by kernel_rfl) rfl
      exact op_value (v := .pointer (some ⟨g, 0, none⟩)) rfl (wanted_none rfl) (by simp [go_sem, g24]) (hK _ w (Moved.refl _ _ w) (hS.same (by decide) (by decide)) (says_exact 33 rfl (by simp)))
    · intro l a w K hbf haf hun hS hF hK
      have g33 := fedX hF 33 (.pointer (some ⟨g, 0, none⟩)) (by kernel_rfl) (by kernel_rfl) rfl
      exact op_value (v := .pointer (some ⟨g, 0, none⟩)) rfl (wanted_none rfl) (by simp [go_sem, g33]) (hK _ w (Moved.refl _ _ w) (hS.same (by decide) (by decide)) (says_exact 34 rfl (by simp)))
    · intro l a w K hbf haf hun hS hF hK
      have g34 := fedX hF 34 (.pointer (some ⟨g, 0, none⟩)) (by kernel_rfl) (by kernel_rfl) rfl
      obtain ⟨v32, g32, s320⟩ := fed hF 32 (by kernel_rfl) (by kernel_rfl)
      have s32 : NewRow F wq.heap.size g rs f t d v32 w := s320.2.2.2.1 rfl
      have hB := hS.mid (haf 8 (by kernel_rfl)) hun
      obtain ⟨A8, c8, rfl⟩ := ownsRow_form s32.choose_spec.1
      have hcg : w.cell? ⟨g, 0, none⟩ = some sv := by rw [cell_of_row w g 0 #[sv] 55 (0, 0) hB.2.1]; rfl
      have hzg : w.frozen? ⟨g, 0, none⟩ = false := frozen_of_row w g 0 #[sv] 55 hB.2.1
      exact op_stored (w' := w.setCell ⟨g, 0, none⟩ (.slice A8 (rs.length + 1) c8)) rfl (wanted_none rfl) (by simp [go_sem, g34, g32, hcg, hzg]) (hK _ _ ⟨by simp [World.setCell], fun k hk hn => Below.heap_setCell _ _ _ _ (fun e => hn (.inr ⟨rfl, e⟩))⟩ (Staged.toLast (put_store HN.out.fg HN.out.len HDL.out hB s32)) (fun t ht => by cases ht))
  · intro l fv_ w hl hS hf
    have hC := hS.last (hl 11 (by simp))
    have f24 : fv_ 24 = .pointer (some ⟨g, 0, none⟩) := (hf 24 (by simp)).1 _ rfl
    have f25 : fv_ 25 = .pointer (some ⟨g, 0, none⟩) := (hf 25 (by simp)).1 _ rfl
    have f26 : fv_ 26 = .pointer (some ⟨g, 0, none⟩) := (hf 26 (by simp)).1 _ rfl
    have f27 : fv_ 27 = .pointer (some ⟨g, 0, none⟩) := (hf 27 (by simp)).1 _ rfl
    have f28 : fv_ 28 = sv := (hf 28 (by simp)).1 _ rfl
    have f29 : fv_ 29 = .agg #[.int .i64 f, .int .i64 t, dv] := (hf 29 (by simp)).1 _ rfl
    have f30 : PkIs wq.heap.size f t d (fv_ 30) w := (hf 30 (by simp)).2.1 rfl
    have f31 : OnePk wq.heap.size f t d (fv_ 31) w := (hf 31 (by simp)).2.2.1 rfl
    have f32 : NewRow F wq.heap.size g rs f t d (fv_ 32) w := (hf 32 (by simp)).2.2.2.1 rfl
    have f33 : fv_ 33 = .pointer (some ⟨g, 0, none⟩) := (hf 33 (by simp)).1 _ rfl
    have f34 : fv_ 34 = .pointer (some ⟨g, 0, none⟩) := (hf 34 (by simp)).1 _ rfl
    simp only [putAll, List.foldl_cons, List.foldl_nil, List.setIfInBounds_toArray, List.set_cons_succ, List.set_cons_zero, f24, f25, f26, f27, f28, f29, f33, f34]
    clear f24 f25 f26 f27 f28 f29 f33 f34 hf
    clear f30 f31 f32
    go_wp2
    go_ret
    exact ⟨rfl, wq.heap.size, by rw [HB3E.out]; exact HSZ.out, hC.1, HKW.out.then hC.2⟩


/-- 'Put', whatever it is given -/
theorem put_any {F : Nat → Prop} {w : World} {g : Nat} {ps : List Pk} (h : NetHas F w g ps) (f t : Int) (dv : Value) (d : List UInt8) (hr : Rd w w.heap.size dv (bv d)) (hd : d.length ≤ 65536) :
    Calls Try.prog 10 #[.pointer (some ⟨g, 0, none⟩), .agg #[.int .i64 f, .int .i64 t, dv]] w (PutPost F w g ps (f, t, d)) := by
  cases hn : bothNodes f t with
  | false => exact put_no h (f, t, d) dv hn
  | true =>
    by_cases hl : 4096 ≤ ps.length
    · exact put_big h (f, t, d) dv hn hl
    · obtain ⟨sv, rs, h⟩ := h
      have h0 : NetIs (fun k => F k ∧ k < w.heap.size) w g sv rs ps := h.mono fun k hk hF => ⟨hF, hk⟩
      have hE : putE ps f t = 0 := by unfold putE; rw [hn, if_pos rfl, if_neg hl]
      refine (put_in h0 (fun k hk => hk.2) f t dv d hr hd hn (by omega)).mono ?_
      rintro e w' ⟨rfl, n, hsz, hN, hK⟩
      refine ⟨by simp only [hE], ?_, ⟨hK.os, hK.tape, hK.output, hK.size, fun k hk hnF => hK.block k hk (fun e => hnF e.1)⟩⟩
      unfold putL
      simp only [hE, if_true]
      refine hN.mono fun k _ hk => ?_
      rcases hk with hk | hk
      · exact .inl hk.1
      · exact .inr (by omega)

end Go.Proofs.Ytckcagklojpfhaa
