/- What it is for a net to hold packets: its block, the row of packets that it owns, and each packet's bytes; 'slices.Clone' at []byte and a packet's copy. No condition. -/
import Derived.Test.YtckcagklojpfhaaThere
namespace Go.Proofs.Ytckcagklojpfhaa
open Go.RowKit

theorem Try.info5 : (Try.prog.info? 5).map (fun i => (i.zero, i.size, i.bytes)) = some (some (.int .u8 0), 1, 1) := by kernel_rfl
theorem Try.info33 : (Try.prog.info? 33).map (fun i => (i.zero, i.size, i.bytes)) = some (some (.agg #[.int .i64 0, .int .i64 0, .slice none 0 0]), 3, 40) := by kernel_rfl

/-- A slice of these bytes comes back that the call made. -/
def GivesOwn (w : World) (l : List UInt8) (e : Ending) (w' : World) : Prop :=
  ∃ v', e = .returned v' ∧ w'.ownsRow w.heap.size 5 1 v' l.length (bv l) ∧ Below w.heap.size w w'

theorem clone_any (v : Value) (l : List UInt8) (B : Nat) (w : World) (hr : Rd w B v (bv l)) (hB : B ≤ w.heap.size) (hn : l.length ≤ 1099511627776) :
    Calls Try.prog 24 #[v] w (GivesOwn w l) := by
  obtain ⟨i0, hi0, hz0, hz1, hz2⟩ := info_parts Try.info5
  obtain ⟨A, c, rfl, h1, h2, h3, h4⟩ := hr
  rw [bv_length] at *
  rcases A with _ | ad
  · have hc0 := h3 rfl
    subst hc0
    have hl : l = [] := List.eq_nil_of_length_eq_zero (by omega)
    subst hl
    have e1 := fun (wx : World) (a : Option Addr) (n c : Nat) => Lib.run_eql_slice_nil (P := Try.prog) wx 27 5 a n c 0 0 Try.underlying27
    go_enter Try.func24, Try.ntmps24
    go_wp2
    go_ret
    exact ⟨_, rfl, World.ownsRow_nil _ _ _ _, Below.refl _ _⟩
  · have e1 := fun (wx : World) (a : Option Addr) (n c : Nat) => Lib.run_eql_slice_nil (P := Try.prog) wx 27 5 a n c 0 0 Try.underlying27
    go_enter Try.func24, Try.ntmps24
    have hnw : (w.alloc (.cells #[] 5)).ownsRow w.heap.size 5 1 (.slice (some ⟨w.heap.size, 0, none⟩) 0 0) 0 [] :=
      World.ownsRow_lit w #[] 0 (Nat.le_refl _) (by unfold maxLen; omega) (by simp)
    have hcl : ∀ j u, (bv l)[j]? = some u → (w.alloc (.cells #[] 5)).cell? (ad.add j) = some u := by
      intro j u hu
      have hj := (List.getElem?_eq_some_iff.1 hu).1
      obtain ⟨b, o, e, hlt, hc⟩ := h4 (by intro e; rw [e] at hj; simp at hj)
      injection e with e
      subst e
      rw [show (⟨b, o, none⟩ : Addr).add j = ⟨b, o + j, none⟩ from by unfold Addr.add; split <;> simp_all]
      rw [World.cell?_alloc_lt w _ ⟨b, o + j, none⟩ (by show b < w.heap.size; omega)]
      exact hc j u hu
    go_wp2_with (at_builtin; refine wpList_append_own _ rfl _ _ 27 rfl w.heap.size 5 i0 (.int .u8 0) 1 1 Try.underlying27 hi0 hz0 hz1 hz2 rfl (by decide) _ _ _ rfl hnw ad l.length c (bv l) rfl (by rw [bv_length]; omega) hcl (bv_one l) (by unfold maxLen; omega) (by omega) (by simp) ?_; intro v' w1 hown' hgrow _)
    go_ret
    exact ⟨_, rfl, by simpa using hown', ((Below.refl _ _).alloc (Nat.le_refl _) _).grown hgrow (by simp) (fun k hk => by have hk' : some w.heap.size = some k := hk; injection hk' with e; omega)⟩

/-- a packet as a value -/
def pkV (f t : Int) (v : Value) : Value := .agg #[.int .i64 f, .int .i64 t, v]

def GivesPk (w : World) (f t : Int) (l : List UInt8) (e : Ending) (w' : World) : Prop :=
  ∃ v', e = .returned (.agg #[.int .i64 f, .int .i64 t, v']) ∧ w'.ownsRow w.heap.size 5 1 v' l.length (bv l) ∧ Below w.heap.size w w'

theorem own_from {w : World} {B B' e size n : Nat} {v : Value} {xs : List Value} (h : w.ownsRow B' e size v n xs) (hB : B ≤ B') : w.ownsRow B e size v n xs :=
  ⟨h.1, h.2.imp id (fun ⟨g, cap, cur, a, b, c⟩ => ⟨g, cap, cur, a, Nat.le_trans hB b, c⟩)⟩

theorem ownsRow_on {w w' : World} {B e size n : Nat} {v : Value} {xs : List Value} (h : w.ownsRow B e size v n xs) (hk : ∀ k, v.ownBlock = some k → w'.heap[k]? = w.heap[k]?) : w'.ownsRow B e size v n xs := by
  refine ⟨h.1, ?_⟩
  rcases h.2 with hn | ⟨g, cap, cur, rfl, hg, hgg, rest⟩
  · exact .inl hn
  · exact .inr ⟨g, cap, cur, rfl, hg, by rw [hk g rfl]; exact hgg, rest⟩

theorem copied_any (f t : Int) (v : Value) (l : List UInt8) (w : World) (hr : Rd w w.heap.size v (bv l)) (hn : l.length ≤ 1099511627776) :
    Calls Try.prog 19 #[.agg #[.int .i64 f, .int .i64 t, v]] w (GivesPk w f t l) := by
  have hb0 : Below w.heap.size w ((w.alloc (.cells #[.int .i64 f, .int .i64 t, v] 33)).alloc (.cells #[.int .i64 0, .int .i64 0, .slice none 0 0] 33)) := ((Below.refl _ _).alloc (Nat.le_refl _) _).alloc (by simp) _
  have HR := Lib.hid (hr.on hb0)
  obtain ⟨A, c, rfl, _⟩ := hr.form
  rw [bv_length] at *
  have HB0 := Lib.hid hb0
  clear hr hb0
  go_enter Try.func19, Try.ntmps19
  go_wp2_with fail
  refine (clone_any _ l _ _ HR.out (Nat.le_refl _) hn).mono ?_
  rintro e w1 ⟨v1, rfl, ho1, hb1⟩
  have hc0 := (hb1.cell (p := ⟨w.heap.size, 0, none⟩) (by simp; omega)).trans (show _ = some (.int .i64 f) by go_simp)
  have hc1 := (hb1.cell (p := ⟨w.heap.size, 1, none⟩) (by simp; omega)).trans (show _ = some (.int .i64 t) by go_simp)
  have hc2 := (hb1.cell (p := ⟨w.heap.size, 2, none⟩) (by simp; omega)).trans (show _ = some (.slice A l.length c) by go_simp)
  have hz2 := (hb1.frozen (p := ⟨w.heap.size, 2, none⟩) (by simp; omega)).trans (show _ = false by go_simp)
  have hd0 := (hb1.cell (p := ⟨w.heap.size + 1, 0, none⟩) (by simp)).trans (show _ = some (.int .i64 0) by go_simp)
  have hd1 := (hb1.cell (p := ⟨w.heap.size + 1, 1, none⟩) (by simp)).trans (show _ = some (.int .i64 0) by go_simp)
  have hd2 := (hb1.cell (p := ⟨w.heap.size + 1, 2, none⟩) (by simp)).trans (show _ = some (.slice none 0 0) by go_simp)
  have hy0 := (hb1.frozen (p := ⟨w.heap.size + 1, 0, none⟩) (by simp)).trans (show _ = false by go_simp)
  have hy1 := (hb1.frozen (p := ⟨w.heap.size + 1, 1, none⟩) (by simp)).trans (show _ = false by go_simp)
  have hy2 := (hb1.frozen (p := ⟨w.heap.size + 1, 2, none⟩) (by simp)).trans (show _ = false by go_simp)
  obtain ⟨A1, c1, rfl⟩ := ownsRow_form ho1
  have HO1 := Lib.hid ho1
  have HB1 := Lib.hid (bthen HB0.out hb1)
  clear ho1 hb1
  go_wp2
  have ho := HO1.out
  rw [show ((w.alloc (.cells #[.int .i64 f, .int .i64 t, .slice A l.length c] 33)).alloc (.cells #[.int .i64 0, .int .i64 0, .slice none 0 0] 33)).heap.size = w.heap.size + 2 by simp] at ho
  have HBF := Lib.hid (((((HB1.out.setCell (p := ⟨w.heap.size, 2, none⟩) (Nat.le_refl _) (.slice A1 l.length c1)).setCell (p := ⟨w.heap.size + 1, 0, none⟩) (by simp) (.int .i64 f)).setCell (p := ⟨w.heap.size + 1, 1, none⟩) (by simp) (.int .i64 t)).setCell (p := ⟨w.heap.size + 1, 2, none⟩) (by simp) (.slice A1 l.length c1)))
  refine bodyPost_ret (v := .agg #[.int .i64 f, .int .i64 t, .slice A1 l.length c1]) (by simp [results, Try.results19, go_sem, hd0, hd1, hd2]) rfl ⟨_, rfl, ?_, HBF.out⟩
  exact own_from (ownsRow_setCell_below (ownsRow_setCell_below (ownsRow_setCell_below (ownsRow_setCell_below ho (by simp) _) (by simp) _) (by simp) _) (by simp) _) (by omega)

/-! ### a net -/
abbrev Pk := Int × Int × List UInt8
def pkCells (r : Int × Int × Value) : List Value := [.int .i64 r.1, .int .i64 r.2.1, r.2.2]
def flatR (rs : List (Int × Int × Value)) : List Value := rs.flatMap pkCells

theorem flatR_length (rs : List (Int × Int × Value)) : (flatR rs).length = rs.length * 3 := by
  induction rs with
  | nil => rfl
  | cons r rs ih => unfold flatR at *; rw [List.flatMap_cons, List.length_append, ih]; simp [pkCells]; omega

theorem flatR_append (a b : List (Int × Int × Value)) : flatR (a ++ b) = flatR a ++ flatR b := by simp [flatR]

theorem flatR_get {rs : List (Int × Int × Value)} {i : Nat} {f t : Int} {v : Value} (h : rs[i]? = some (f, t, v)) :
    (flatR rs)[i * 3]? = some (.int .i64 f) ∧ (flatR rs)[i * 3 + 1]? = some (.int .i64 t) ∧ (flatR rs)[i * 3 + 2]? = some v := by
  have hlt : i < rs.length := (List.getElem?_eq_some_iff.1 h).1
  have e : rs = rs.take i ++ ((f, t, v) :: rs.drop (i + 1)) := by
    have hx : rs[i] = (f, t, v) := by
      have := List.getElem?_eq_getElem hlt
      rw [h] at this
      injection this with this
      exact this.symm
    rw [← hx, ← List.drop_eq_getElem_cons hlt, List.take_append_drop]
  have hl : (flatR (rs.take i)).length = i * 3 := by rw [flatR_length, List.length_take]; omega
  rw [e, flatR_append]
  refine ⟨?_, ?_, ?_⟩
  · rw [List.getElem?_append_right (by omega), hl, Nat.sub_self]; rfl
  · rw [List.getElem?_append_right (by omega), hl, show i * 3 + 1 - i * 3 = 1 by omega]; rfl
  · rw [List.getElem?_append_right (by omega), hl, show i * 3 + 2 - i * 3 = 2 by omega]; rfl

/-- The net at block g holds these packets, in blocks that F names. -/
structure NetIs (F : Nat → Prop) (w : World) (g : Nat) (sv : Value) (rs : List (Int × Int × Value)) (ps : List Pk) : Prop where
  blk : w.heap[g]? = some (.cells #[sv] 55 (0, 0))
  fg : F g
  own : w.ownsRow 0 33 3 sv rs.length (flatR rs)
  fs : ∀ k, sv.ownBlock = some k → F k
  len : rs.length = ps.length
  data : ∀ (i : Nat) f t v, rs[i]? = some (f, t, v) → ∃ d, ps[i]? = some (f, t, d) ∧ w.ownsRow 0 5 1 v d.length (bv d) ∧ (∀ k, v.ownBlock = some k → F k) ∧ d.length ≤ 65536

def NetHas (F : Nat → Prop) (w : World) (g : Nat) (ps : List Pk) : Prop := ∃ sv rs, NetIs F w g sv rs ps

/-- Nothing but what F names has turned. -/
structure Kept (F : Nat → Prop) (w w' : World) : Prop where
  os : w'.os = w.os
  tape : w'.tape = w.tape
  output : w'.output = w.output
  size : w.heap.size ≤ w'.heap.size
  block : ∀ k, k < w.heap.size → ¬ F k → w'.heap[k]? = w.heap[k]?

section
variable {F F' : Nat → Prop} {w w' : World} {g : Nat} {sv : Value} {rs : List (Int × Int × Value)} {ps : List Pk}

theorem own_lives {B e size n : Nat} {v : Value} {xs : List Value} (h : w.ownsRow B e size v n xs) {k : Nat} (hk : v.ownBlock = some k) : k < w.heap.size := (h.lt k hk).2

theorem NetIs.glt (h : NetIs F w g sv rs ps) : g < w.heap.size := (Array.getElem?_eq_some_iff.1 h.blk).1

theorem NetIs.on (h : NetIs F w g sv rs ps) (hk : ∀ k, k < w.heap.size → F k → w'.heap[k]? = w.heap[k]?) : NetIs F w' g sv rs ps := by
  refine ⟨by rw [hk g h.glt h.fg]; exact h.blk, h.fg, ownsRow_on h.own (fun k e => hk k (own_lives h.own e) (h.fs k e)), h.fs, h.len, fun i f t v hi => ?_⟩
  obtain ⟨d, h1, h2, h3, h4⟩ := h.data i f t v hi
  exact ⟨d, h1, ownsRow_on h2 (fun k e => hk k (own_lives h2 e) (h3 k e)), h3, h4⟩

theorem NetIs.mono (h : NetIs F w g sv rs ps) (hF : ∀ k, k < w.heap.size → F k → F' k) : NetIs F' w g sv rs ps := by
  refine ⟨h.blk, hF g h.glt h.fg, h.own, fun k e => hF k (own_lives h.own e) (h.fs k e), h.len, fun i f t v hi => ?_⟩
  obtain ⟨d, h1, h2, h3, h4⟩ := h.data i f t v hi
  exact ⟨d, h1, h2, fun k e => hF k (own_lives h2 e) (h3 k e), h4⟩

theorem NetIs.below (h : NetIs F w g sv rs ps) (hb : Below w.heap.size w w') : NetIs F w' g sv rs ps := h.on fun k hk _ => hb.block k hk

theorem NetHas.on (h : NetHas F w g ps) (hk : ∀ k, k < w.heap.size → F k → w'.heap[k]? = w.heap[k]?) : NetHas F w' g ps := by
  obtain ⟨sv, rs, h⟩ := h
  exact ⟨sv, rs, h.on hk⟩
theorem NetHas.mono (h : NetHas F w g ps) (hF : ∀ k, k < w.heap.size → F k → F' k) : NetHas F' w g ps := by
  obtain ⟨sv, rs, h⟩ := h
  exact ⟨sv, rs, h.mono hF⟩
theorem NetHas.below (h : NetHas F w g ps) (hb : Below w.heap.size w w') : NetHas F w' g ps := h.on fun k hk _ => hb.block k hk

theorem Kept.refl (F : Nat → Prop) (w : World) : Kept F w w := ⟨rfl, rfl, rfl, Nat.le_refl _, fun _ _ _ => rfl⟩
theorem Kept.of_below (h : Below w.heap.size w w') : Kept F w w' := ⟨h.os, h.tape, h.output, h.size, fun k hk _ => h.block k hk⟩
theorem Kept.then {w'' : World} (h : Kept F w w') (k : Kept F w' w'') : Kept F w w'' :=
  ⟨k.os.trans h.os, k.tape.trans h.tape, k.output.trans h.output, Nat.le_trans h.size k.size, fun j hj hF => (k.block j (Nat.lt_of_lt_of_le hj h.size) hF).trans (h.block j hj hF)⟩
theorem Kept.below {B : Nat} (h : Kept F w w') (hB : B ≤ w.heap.size) (hF : ∀ k, F k → B ≤ k) : Below B w w' :=
  ⟨h.os, h.tape, h.output, h.size, fun k hk => h.block k (Nat.lt_of_lt_of_le hk hB) (fun e => by have := hF k e; omega)⟩

/-- the new names besides the old: blocks that were not there -/
def More (F : Nat → Prop) (n : Nat) (k : Nat) : Prop := F k ∨ n ≤ k

theorem NetIs.row_ne (h : NetIs F w g sv rs ps) {k : Nat} (hk : sv.ownBlock = some k) : k ≠ g := by
  intro e
  subst e
  rcases h.own.2 with ⟨rfl, _⟩ | ⟨g', cap, cur, rfl, _, hg, _⟩
  · cases hk
  · injection hk with hk
    subst hk
    rw [h.blk] at hg
    simp at hg

/-- the row, opened: its block, and each packet's cells -/
theorem NetIs.cells (h : NetIs F w g sv rs ps) {i : Nat} {f t : Int} {v : Value} (hi : rs[i]? = some (f, t, v)) :
    ∃ k cap, sv = .slice (some ⟨k, 0, none⟩) rs.length cap ∧ rs.length ≤ cap ∧ cap ≤ maxLen ∧ w.cell? ⟨k, i * 3, none⟩ = some (.int .i64 f) ∧ w.cell? ⟨k, i * 3 + 1, none⟩ = some (.int .i64 t) ∧ w.cell? ⟨k, i * 3 + 2, none⟩ = some v := by
  have hlt : i < rs.length := (List.getElem?_eq_some_iff.1 hi).1
  obtain ⟨h1, h2, h3⟩ := flatR_get hi
  have hc := fun k (e : sv.ownBlock = some k) => h.own.cells e
  rcases h.own.2 with ⟨_, h0⟩ | ⟨k, cap, cur, rfl, _, hg, hn, hm, _⟩
  · omega
  · have hadd : ∀ j, (⟨k, 0, none⟩ : Addr).add j = ⟨k, j, none⟩ := fun j => by unfold Addr.add; split <;> simp_all
    refine ⟨k, cap, rfl, hn, hm, ?_, ?_, ?_⟩
    · rw [← hadd]; exact hc k rfl _ _ h1
    · rw [← hadd]; exact hc k rfl _ _ h2
    · rw [← hadd]; exact hc k rfl _ _ h3

theorem NetIs.cell (h : NetIs F w g sv rs ps) : w.cell? ⟨g, 0, none⟩ = some sv := by rw [cell_of_row w g 0 #[sv] 55 (0, 0) h.blk]; rfl
theorem NetIs.form (h : NetIs F w g sv rs ps) : ∃ A c, sv = .slice A rs.length c := ownsRow_form h.own

end
end Go.Proofs.Ytckcagklojpfhaa
