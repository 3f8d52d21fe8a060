/- The walks of With and of its closure, of layer 6: With comes to the plain withB; lists shorter than 2^16, places below 2^16. -/
import Derived.Test.YtfijihjbjifhdaaHas
import Derived.StillTailTactics
namespace Go.Proofs.Ytfijihjbjifhdaa
open Go.RowKit

theorem turn_or : ∀ (x : Fin 256) (r : Fin 8), bits BinOp.or IntKind.u8 (x.val : Int) ((2 ^ (7 - r.val) : Nat) : Int) = ((turnB (UInt8.ofNat x.val) r.val true).toNat : Int) := by decide +kernel
theorem turn_andNot : ∀ (x : Fin 256) (r : Fin 8), bits BinOp.andNot IntKind.u8 (x.val : Int) ((2 ^ (7 - r.val) : Nat) : Int) = ((turnB (UInt8.ofNat x.val) r.val false).toNat : Int) := by decide +kernel

theorem turnB_mod (x : UInt8) (k : Nat) (t : Bool) : turnB x k t = turnB x (k % 8) t := by
  unfold turnB bitOf
  rw [Nat.mod_mod]

theorem bits_or (x : UInt8) (i : Nat) : bits BinOp.or IntKind.u8 (x.toNat : Int) (mk (i : Int)) = ((turnB x i true).toNat : Int) := by
  rw [mk_nat, turnB_mod]
  have := turn_or ⟨x.toNat, x.toNat_lt⟩ ⟨i % 8, Nat.mod_lt _ (by omega)⟩
  simpa using this

theorem bits_andNot (x : UInt8) (i : Nat) : bits BinOp.andNot IntKind.u8 (x.toNat : Int) (mk (i : Int)) = ((turnB x i false).toNat : Int) := by
  rw [mk_nat, turnB_mod]
  have := turn_andNot ⟨x.toNat, x.toNat_lt⟩ ⟨i % 8, Nat.mod_lt _ (by omega)⟩
  simpa using this

theorem turn_any (x : UInt8) (i : Nat) (t : Bool) (bt bi : Nat) (w : World) (ht : w.cell? ⟨bt, 0, none⟩ = some (.bool t)) (hi : w.cell? ⟨bi, 0, none⟩ = some (.int .i64 i)) (hm : (i : Int) ≤ 9223372036854775807) :
    Calls Try.prog 22 #[.int .u8 x.toNat, .pointer (some ⟨bt, 0, none⟩), .pointer (some ⟨bi, 0, none⟩)] w fun e w' => e = .returned (.int .u8 (turnB x i t).toNat) ∧ w = w' := by
  cases t
  · go_enter Try.func22, Try.ntmps22
    go_wp2_with (go_at_call 19; refine (mask_any _ (by omega) (by omega) _).mono ?_; rintro e w' ⟨rfl, rfl⟩)
    go_ret
    exact ⟨by rw [← bits_andNot]; rfl, rfl⟩
  · go_enter Try.func22, Try.ntmps22
    go_wp2_with (go_at_call 19; refine (mask_any _ (by omega) (by omega) _).mono ?_; rintro e w' ⟨rfl, rfl⟩)
    go_ret
    exact ⟨by rw [← bits_or]; rfl, rfl⟩

/-- With's two boxes are laid. -/
abbrev boxed (w : World) (i : Int) (t : Bool) : World := (w.alloc (.cells #[.int .i64 i] 3)).alloc (.cells #[.bool t] 4)

theorem boxed_below (w : World) (i : Int) (t : Bool) : Below w.heap.size w (boxed w i t) := ((Below.refl _ _).alloc (Nat.le_refl _) _).alloc (by simp) _
theorem boxed_i (w : World) (i : Int) (t : Bool) : (boxed w i t).cell? ⟨w.heap.size, 0, none⟩ = some (.int .i64 i) := by go_simp
theorem boxed_t (w : World) (i : Int) (t : Bool) : (boxed w i t).cell? ⟨w.heap.size + 1, 0, none⟩ = some (.bool t) := by go_simp

theorem with_cut (v : Value) (l : List UInt8) (i : Int) (t : Bool) (w : World) (hr : Rd w w.heap.size v (bv l)) (hn : l.length ≤ 65536) (hc : i < 0 ∨ (0 ≤ i ∧ t = false ∧ l.length ≤ i.toNat / 8)) (hlo : -9223372036854775808 ≤ i) (hi : i ≤ 65536) :
    Calls Try.prog 13 #[v, .int .i64 i, .bool t] w (GivesNew w (cutL l)) := by
  have HR := Lib.hid (hr.below (boxed_below w i t))
  have HB := Lib.hid (boxed_below w i t)
  have HI := boxed_i w i t
  have HT := boxed_t w i t
  obtain ⟨A, c, rfl, h1, h2, _⟩ := hr.form
  rw [bv_length] at *
  clear hr
  rcases hc with h | ⟨h0, rfl, h⟩
  · go_enter Try.func13, Try.ntmps13
    go_wp2_with (first
      | (go_at_call 20; refine (clone_any _ l w.heap.size _ HR.out (by simp; omega) (by omega)).mono ?_; rintro e w1 ⟨v1, rfl, hown, hb⟩; have c1 := (hb.cell (p := ⟨w.heap.size, 0, none⟩) (by simp; omega)).trans HI; have c2 := (hb.cell (p := ⟨w.heap.size + 1, 0, none⟩) (by simp)).trans HT; have HO := Lib.hid (Rd.of_own hown); have HBB := Lib.hid hb; clear hb hown)
      | (go_at_call 21; refine (cut_new _ l _ HO.out (by omega)).mono ?_; rintro e w2 ⟨v2, rfl, hr2, hb2, hf2⟩))
    go_ret
    exact ⟨_, rfl, hr2, HB.out.trans ((HBB.out.mono HB.out.size).trans (hb2.mono (Nat.le_trans HB.out.size HBB.out.size))), fun g hg => Nat.le_trans (Nat.le_trans HB.out.size HBB.out.size) (hf2 g hg)⟩
  · have h8 : (l.length : Int) ≤ i / 8 := by omega
    go_enter Try.func13, Try.ntmps13
    go_wp2_with (first
      | (go_at_call 20; refine (clone_any _ l w.heap.size _ HR.out (by simp; omega) (by omega)).mono ?_; rintro e w1 ⟨v1, rfl, hown, hb⟩; have c1 := (hb.cell (p := ⟨w.heap.size, 0, none⟩) (by simp; omega)).trans HI; have c2 := (hb.cell (p := ⟨w.heap.size + 1, 0, none⟩) (by simp)).trans HT; have HO := Lib.hid (Rd.of_own hown); have HBB := Lib.hid hb; clear hb hown)
      | (go_at_call 21; refine (cut_new _ l _ HO.out (by omega)).mono ?_; rintro e w2 ⟨v2, rfl, hr2, hb2, hf2⟩))
    go_ret
    exact ⟨_, rfl, hr2, HB.out.trans ((HBB.out.mono HB.out.size).trans (hb2.mono (Nat.le_trans HB.out.size HBB.out.size))), fun g hg => Nat.le_trans (Nat.le_trans HB.out.size HBB.out.size) (hf2 g hg)⟩

theorem with_grow {w wr w2 : World} {l : List UInt8} {n i : Nat} {t : Bool} {v v' : Value} (o : Obj) (hown : wr.ownsRow (w.heap.size + 2) 5 1 v (l.length + n) (bv (l ++ List.replicate n 0))) (hb : Below w.heap.size w wr) (hsz : w.heap.size + 2 ≤ wr.heap.size)
    (c1 : wr.cell? ⟨w.heap.size, 0, none⟩ = some (.int .i64 i)) (c2 : wr.cell? ⟨w.heap.size + 1, 0, none⟩ = some (.bool t))
    (hown' : w2.ownsRow (w.heap.size + 2) 5 1 v' (l.length + n + 1) (bv (l ++ List.replicate n 0) ++ [.int .u8 0])) (hg : (wr.alloc o).grownBy w2 v.ownBlock) :
    w2.ownsRow (w.heap.size + 2) 5 1 v' (l.length + (n + 1)) (bv (l ++ List.replicate (n + 1) 0)) ∧ w2.cell? ⟨w.heap.size, 0, none⟩ = some (.int .i64 i) ∧ w2.cell? ⟨w.heap.size + 1, 0, none⟩ = some (.bool t) ∧
      Below w.heap.size w w2 ∧ w.heap.size + 2 ≤ w2.heap.size := by
  have hl := hown.lt
  have hbl : Below (w.heap.size + 2) wr w2 := ((Below.refl _ _).alloc hsz o).grown hg (by simp; omega) (fun k hk => (hl k hk).1)
  refine ⟨?_, (hbl.cell (p := ⟨w.heap.size, 0, none⟩) (by simp)).trans c1, (hbl.cell (p := ⟨w.heap.size + 1, 0, none⟩) (by simp)).trans c2, hb.trans (hbl.mono (by omega)), by have := hbl.size; omega⟩
  rw [List.replicate_succ', ← List.append_assoc, bv_append]
  exact hown'

theorem modify_of_get {α : Type} (m : List α) (k : Nat) (x : α) (f : α → α) (h : m[k]? = some x) : m.modify k f = m.set k (f x) := by
  apply List.ext_getElem?
  intro j
  rw [List.getElem?_modify, List.getElem?_set]
  by_cases hj : k = j
  · subst hj
    have hlt : k < m.length := (List.getElem?_eq_some_iff.1 h).1
    rw [h]
    simp [hlt]
  · simp [hj]

theorem bv_set (m : List UInt8) (k : Nat) (x : UInt8) : bv (m.set k x) = (bv m).set k (.int .u8 (x.toNat : Int)) := by
  simp [bv, List.map_set]

theorem with_store {w wr : World} {m : List UInt8} {g cap n k : Nat} (hown : wr.ownsRow (w.heap.size + 2) 5 1 (.slice (some ⟨g, 0, none⟩) n cap) n (bv m)) (hb : Below w.heap.size w wr) (y : UInt8) :
    Rd (wr.drew.setCell ⟨g, k, none⟩ (.int .u8 (y.toNat : Int))) (wr.drew.setCell ⟨g, k, none⟩ (.int .u8 (y.toNat : Int))).heap.size (.slice (some ⟨g, 0, none⟩) n cap) (bv (m.set k y)) ∧
      Below w.heap.size w (wr.drew.setCell ⟨g, k, none⟩ (.int .u8 (y.toNat : Int))) := by
  have hd : wr.drew.ownsRow (w.heap.size + 2) 5 1 (.slice (some ⟨g, 0, none⟩) n cap) n (bv m) := hown
  have h1 := (hd.stored k (.int .u8 (y.toNat : Int))).1
  rw [← bv_set] at h1
  have hg : w.heap.size + 2 ≤ g := (hown.lt g rfl).1
  exact ⟨Rd.of_own h1, hb.drew.setCell (p := ⟨g, k, none⟩) (by simp; omega) _⟩

set_option maxHeartbeats 1000000 in
theorem with_turn_true (v : Value) (l : List UInt8) (i : Nat) (w : World) (hr : Rd w w.heap.size v (bv l)) (hn : l.length ≤ 65536) (hi : i ≤ 65536) :
    Calls Try.prog 13 #[v, .int .i64 i, .bool true] w (GivesNew w (cutL ((padTo l (i / 8 + 1)).modify (i / 8) fun x => turnB x i true))) := by
  obtain ⟨i0, hi0, hz0, hz1, hz2⟩ := info_parts Try.info5
  have HR := Lib.hid (hr.below (boxed_below w i true))
  have HB := Lib.hid (boxed_below w i true)
  have HI := boxed_i w i true
  have HT := boxed_t w i true
  obtain ⟨A, c, rfl, h1, h2, _⟩ := hr.form
  rw [bv_length] at *
  clear hr
  have h80 : (0 : Int) ≤ (i : Int) / 8 := by omega
  go_enter Try.func13, Try.ntmps13
  go_wp2_with (go_at_call 20; refine (clone_any _ l w.heap.size _ HR.out (by simp; omega) (by omega)).mono ?_; rintro e w1 ⟨v1, rfl, hown, hb⟩; have c1 := (hb.cell (p := ⟨w.heap.size, 0, none⟩) (by simp; omega)).trans HI; have c2 := (hb.cell (p := ⟨w.heap.size + 1, 0, none⟩) (by simp)).trans HT; have HBB := Lib.hid hb; have HO := Lib.hid hown; clear hb hown)
  go_loopw [7] (fun v wr => ∃ n : Nat, wr.ownsRow (w.heap.size + 2) 5 1 v (l.length + n) (bv (l ++ List.replicate n 0)) ∧ n ≤ i / 8 + 1 - l.length ∧ wr.cell? ⟨w.heap.size, 0, none⟩ = some (.int .i64 i) ∧ wr.cell? ⟨w.heap.size + 1, 0, none⟩ = some (.bool true) ∧ Below w.heap.size w wr ∧ w.heap.size + 2 ≤ wr.heap.size) (fun v _ => i / 8 + 1 - lenOf v)
  case atStart => exact ⟨0, by simpa using HO.out, by omega, c1, c2, HB.out.trans (HBB.out.mono HB.out.size), by have := HBB.out.size; simpa using this⟩
  case round =>
    clear c1 c2 HI HT
    obtain ⟨n, hown, hnle, c1, c2, hb, hsz⟩ := hrel
    obtain ⟨A', c', rfl⟩ := ownsRow_form hown
    by_cases hlt : l.length + n ≤ i / 8
    · have hlt' : ((l.length + n : Nat) : Int) ≤ (i : Int) / 8 := by omega
      go_wp2_with (at_builtin; refine wpList_append_own _ rfl _ _ 22 rfl (w.heap.size + 2) 5 i0 (.int .u8 0) 1 1 Try.underlying22 hi0 hz0 hz1 hz2 rfl (by decide) _ _ _ rfl (hown.alloc _) ⟨wr.heap.size, 0, none⟩ 1 1 [.int .u8 0] rfl rfl (cell_one_new _ _ _) (by simp [Value.oneCell']) (by unfold maxLen; omega) (by omega) (by simp; omega) ?_; intro v2 w2 hown2 hgrow _)
      have HH := Lib.hid (with_grow _ hown hb hsz c1 c2 hown2 hgrow)
      clear hown hb hsz c1 c2 hown2 hgrow
      go_wp2
      go_roundw
      case rel => exact ⟨n + 1, HH.out.1, by omega, HH.out.2.1, HH.out.2.2.1, HH.out.2.2.2.1, HH.out.2.2.2.2⟩
      case measure => show i / 8 + 1 - lenOf v2 < i / 8 + 1 - (l.length + n); rw [ownsRow_lenOf HH.out.1]; omega
    · have hlt' : ¬ ((l.length + n : Nat) : Int) ≤ (i : Int) / 8 := by omega
      have hml : (l ++ List.replicate n (0 : UInt8)).length = l.length + n := by simp
      have hk : i / 8 < (l ++ List.replicate n (0 : UInt8)).length := by omega
      have hpad : l ++ List.replicate n 0 = padTo l (i / 8 + 1) := by
        unfold padTo; rw [show i / 8 + 1 - l.length = n from by omega]
      have hx := List.getElem?_eq_getElem hk
      obtain ⟨g, cap, hv, _, _⟩ := hown.form (by omega)
      injection hv with e1 _ e3
      subst e1
      subst e3
      have hcell := hown.cellAt (i / 8) (by omega)
      have hfr := hown.frozenAt (i / 8)
      rw [bv_get hx] at hcell
      have HP := Lib.hid hpad
      have HO := Lib.hid hown
      have HX := Lib.hid hx
      clear hpad hx hml
      generalize (l ++ List.replicate n (0 : UInt8))[i / 8] = x at *
      go_wp2
      have hw8 : IntKind.i64.wrap ((i : Int) / 8) = (i : Int) / 8 := IntWalk.i64_in _ (by omega)
      have hnat : ((i : Int) / 8).toNat = i / 8 := by omega
      go_still_tail 11, (by kernel_rfl)
      still_call ((turn_any x i true (w.heap.size + 1) w.heap.size wr.drew c2 c1 (by omega)).mono fun _ _ ⟨he, hw⟩ => ⟨he, hw.symm⟩)
      repeat still_step
      refine wpStill_nil ?_
      change wpList _ _ _ _ _ wr.drew
      have hst := with_store (k := i / 8) HO.out hb (turnB x i true)
      have HS := Lib.hid hst
      have hcd : wr.drew.cell? ⟨g, i / 8, none⟩ = some (.int .u8 x.toNat) := hcell
      have hfd : wr.drew.frozen? ⟨g, i / 8, none⟩ = false := hfr
      clear hst hown hb hsz c1 c2 hcell hfr
      generalize wr.drew = wd at *
      go_wp2_with (go_at_call 21; refine (cut_new (.slice (some ⟨g, 0, none⟩) (l.length + n) c') ((l ++ List.replicate n (0 : UInt8)).set (i / 8) (turnB x i true)) _ HS.out.1 (by simp; omega)).mono ?_; rintro e w2 ⟨v2, rfl, hr2, hb2, hf2⟩)
      go_ret
      exact ⟨v2, rfl, by rw [← HP.out, modify_of_get _ _ _ _ HX.out]; exact hr2, HS.out.2.trans (hb2.mono HS.out.2.size), fun g hg => Nat.le_trans HS.out.2.size (hf2 g hg)⟩

set_option maxHeartbeats 1000000 in
theorem with_turn_false (v : Value) (l : List UInt8) (i : Nat) (w : World) (hr : Rd w w.heap.size v (bv l)) (hn : l.length ≤ 65536) (hc : i / 8 < l.length) (hi : i ≤ 65536) :
    Calls Try.prog 13 #[v, .int .i64 i, .bool false] w (GivesNew w (cutL ((padTo l (i / 8 + 1)).modify (i / 8) fun x => turnB x i false))) := by
  obtain ⟨i0, hi0, hz0, hz1, hz2⟩ := info_parts Try.info5
  have HR := Lib.hid (hr.below (boxed_below w i false))
  have HB := Lib.hid (boxed_below w i false)
  have HI := boxed_i w i false
  have HT := boxed_t w i false
  obtain ⟨A, c, rfl, h1, h2, _⟩ := hr.form
  rw [bv_length] at *
  clear hr
  have h80 : (0 : Int) ≤ (i : Int) / 8 := by omega
  have hg3 : ¬ (l.length : Int) ≤ (i : Int) / 8 := by omega
  have hg4 : decide ((l.length : Int) ≤ (i : Int) / 8) = false := by simpa using hg3
  go_enter Try.func13, Try.ntmps13
  go_wp2_with (go_at_call 20; refine (clone_any _ l w.heap.size _ HR.out (by simp; omega) (by omega)).mono ?_; rintro e w1 ⟨v1, rfl, hown, hb⟩; have c1 := (hb.cell (p := ⟨w.heap.size, 0, none⟩) (by simp; omega)).trans HI; have c2 := (hb.cell (p := ⟨w.heap.size + 1, 0, none⟩) (by simp)).trans HT; have HBB := Lib.hid hb; have HO := Lib.hid hown; clear hb hown)
  go_loopw [7] (fun v wr => ∃ n : Nat, wr.ownsRow (w.heap.size + 2) 5 1 v (l.length + n) (bv (l ++ List.replicate n 0)) ∧ n ≤ i / 8 + 1 - l.length ∧ wr.cell? ⟨w.heap.size, 0, none⟩ = some (.int .i64 i) ∧ wr.cell? ⟨w.heap.size + 1, 0, none⟩ = some (.bool false) ∧ Below w.heap.size w wr ∧ w.heap.size + 2 ≤ wr.heap.size) (fun v _ => i / 8 + 1 - lenOf v)
  case atStart => exact ⟨0, by simpa using HO.out, by omega, c1, c2, HB.out.trans (HBB.out.mono HB.out.size), by have := HBB.out.size; simpa using this⟩
  case round =>
    clear c1 c2 HI HT
    obtain ⟨n, hown, hnle, c1, c2, hb, hsz⟩ := hrel
    obtain ⟨A', c', rfl⟩ := ownsRow_form hown
    by_cases hlt : l.length + n ≤ i / 8
    · exact absurd hlt (by omega)
    · have hlt' : ¬ ((l.length + n : Nat) : Int) ≤ (i : Int) / 8 := by omega
      have hml : (l ++ List.replicate n (0 : UInt8)).length = l.length + n := by simp
      have hk : i / 8 < (l ++ List.replicate n (0 : UInt8)).length := by omega
      have hpad : l ++ List.replicate n 0 = padTo l (i / 8 + 1) := by
        unfold padTo; rw [show i / 8 + 1 - l.length = n from by omega]
      have hx := List.getElem?_eq_getElem hk
      obtain ⟨g, cap, hv, _, _⟩ := hown.form (by omega)
      injection hv with e1 _ e3
      subst e1
      subst e3
      have hcell := hown.cellAt (i / 8) (by omega)
      have hfr := hown.frozenAt (i / 8)
      rw [bv_get hx] at hcell
      have HP := Lib.hid hpad
      have HO := Lib.hid hown
      have HX := Lib.hid hx
      clear hpad hx hml
      generalize (l ++ List.replicate n (0 : UInt8))[i / 8] = x at *
      go_wp2
      have hw8 : IntKind.i64.wrap ((i : Int) / 8) = (i : Int) / 8 := IntWalk.i64_in _ (by omega)
      have hnat : ((i : Int) / 8).toNat = i / 8 := by omega
      go_still_tail 11, (by kernel_rfl)
      still_call ((turn_any x i false (w.heap.size + 1) w.heap.size wr.drew c2 c1 (by omega)).mono fun _ _ ⟨he, hw⟩ => ⟨he, hw.symm⟩)
      repeat still_step
      refine wpStill_nil ?_
      change wpList _ _ _ _ _ wr.drew
      have hst := with_store (k := i / 8) HO.out hb (turnB x i false)
      have HS := Lib.hid hst
      have hcd : wr.drew.cell? ⟨g, i / 8, none⟩ = some (.int .u8 x.toNat) := hcell
      have hfd : wr.drew.frozen? ⟨g, i / 8, none⟩ = false := hfr
      clear hst hown hb hsz c1 c2 hcell hfr
      generalize wr.drew = wd at *
      go_wp2_with (go_at_call 21; refine (cut_new (.slice (some ⟨g, 0, none⟩) (l.length + n) c') ((l ++ List.replicate n (0 : UInt8)).set (i / 8) (turnB x i false)) _ HS.out.1 (by simp; omega)).mono ?_; rintro e w2 ⟨v2, rfl, hr2, hb2, hf2⟩)
      go_ret
      exact ⟨v2, rfl, by rw [← HP.out, modify_of_get _ _ _ _ HX.out]; exact hr2, HS.out.2.trans (hb2.mono HS.out.2.size), fun g hg => Nat.le_trans HS.out.2.size (hf2 g hg)⟩

/-- 'With', whatever it is given -/
theorem with_new (v : Value) (l : List UInt8) (i : Int) (t : Bool) (w : World) (hr : Rd w w.heap.size v (bv l)) (hn : l.length ≤ 65536) (hlo : -9223372036854775808 ≤ i) (hi : i ≤ 65536) :
    Calls Try.prog 13 #[v, .int .i64 i, .bool t] w (GivesNew w (withB l i t)) := by
  unfold withB
  by_cases h : i < 0 ∨ (t = false ∧ l.length ≤ i.toNat / 8)
  · rw [if_pos h]
    refine with_cut v l i t w hr hn ?_ hlo hi
    rcases h with h | ⟨rfl, h⟩
    · exact .inl h
    · by_cases h0 : i < 0
      · exact .inl h0
      · exact .inr ⟨by omega, rfl, h⟩
  · rw [if_neg h]
    obtain ⟨k, rfl⟩ := Int.eq_ofNat_of_zero_le (show 0 ≤ i by omega)
    simp only [Int.toNat_natCast] at *
    cases t
    · exact with_turn_false v l k w hr hn (Nat.lt_of_not_le fun hh => h (.inr ⟨rfl, hh⟩)) (by omega)
    · exact with_turn_true v l k w hr hn (by omega)

theorem with_any (v : Value) (l : List UInt8) (i : Int) (t : Bool) (w : World) (hr : Rd w w.heap.size v (bv l)) (hn : l.length ≤ 65536) (hlo : -9223372036854775808 ≤ i) (hi : i ≤ 65536) :
    Calls Try.prog 13 #[v, .int .i64 i, .bool t] w (GivesRd w (withB l i t)) :=
  (with_new v l i t w hr hn hlo hi).mono fun _ _ ⟨v', he, h1, h2, _⟩ => ⟨v', he, h1, h2⟩

end Go.Proofs.Ytfijihjbjifhdaa
