/- The document's own disk of layer 3, as a value: what it owns; 'Stop', and the two that tell a call's error. No condition. -/
import Derived.Test.YtcbdlggjpedffaaUse
import Derived.Test.YtcbdlggjpedffaaConv
import Derived.Laws.AppendOwnNone
import Derived.Handy
namespace Go.Proofs.Ytcbdlggjpedffaa
open Go.RowKit
set_option linter.unusedSimpArgs false

theorem Try.info9 : (Try.prog.info? 9).map (fun i => (i.zero, i.size, i.bytes)) = some (some (.string ⟨#[]⟩), 1, 16) := by kernel_rfl
theorem Try.info72 : (Try.prog.info? 72).map (fun i => (i.zero, i.size, i.bytes)) = some (some (.agg #[.int .i64 0, .string ⟨#[]⟩]), 2, 24) := by kernel_rfl

def svs (xs : List (List UInt8)) : List Value := xs.map fun l => .string ⟨l.toArray⟩
theorem svs_len (xs : List (List UInt8)) : (svs xs).length = xs.length := by simp [svs]
theorem svs_set (xs : List (List UInt8)) (k : Nat) (l : List UInt8) : (svs xs).set k (.string ⟨l.toArray⟩) = svs (xs.set k l) := by simp [svs, List.map_set]
theorem svs_get {xs : List (List UInt8)} {k : Nat} {l : List UInt8} (h : xs[k]? = some l) : (svs xs)[k]? = some (.string ⟨l.toArray⟩) := by simp [svs, h]
theorem svs_one (xs : List (List UInt8)) : ∀ u ∈ svs xs, u.oneCell' = true := by
  intro u hu
  obtain ⟨l, _, rfl⟩ := List.mem_map.1 hu
  rfl
def flatS (ws : List Wt) : List Value := ws.flatMap fun p => [.int .i64 (p.1 : Int), .string ⟨p.2.toArray⟩]
theorem flatS_len (ws : List Wt) : (flatS ws).length = ws.length * 2 := by
  induction ws with
  | nil => rfl
  | cons p ws ih => unfold flatS at *; rw [List.flatMap_cons, List.length_append, ih]; simp; omega
theorem flatS_append (a b : List Wt) : flatS (a ++ b) = flatS a ++ flatS b := by simp [flatS]
theorem flatS_one (ws : List Wt) : ∀ u ∈ flatS ws, u.oneCell' = true := by
  intro u hu
  obtain ⟨p, _, hu⟩ := List.mem_flatMap.1 hu
  simp at hu
  rcases hu with rfl | rfl <;> rfl
theorem flatS_get {ws : List Wt} {k : Nat} {p : Wt} (hp : ws[k]? = some p) : (flatS ws)[k * 2]? = some (.int .i64 (p.1 : Int)) ∧ (flatS ws)[k * 2 + 1]? = some (.string ⟨p.2.toArray⟩) := by
  have hk := (List.getElem?_eq_some_iff.1 hp).1
  have e : ws = ws.take k ++ (p :: ws.drop (k + 1)) := by
    have hx : ws[k] = p := by
      have := List.getElem?_eq_getElem hk
      rw [hp] at this
      injection this with this
      exact this.symm
    rw [← hx, ← List.drop_eq_getElem_cons hk, List.take_append_drop]
  have hl : (flatS (ws.take k)).length = k * 2 := by rw [flatS_len, List.length_take]; omega
  rw [e, flatS_append]
  rw [List.getElem?_append_right (by omega), List.getElem?_append_right (by omega), hl, show k * 2 - k * 2 = 0 by omega, show k * 2 + 1 - k * 2 = 1 by omega]
  unfold flatS
  rw [List.flatMap_cons]
  exact ⟨rfl, rfl⟩

/-- the document's disk: two rows of its own, and two numbers -/
def RefB (B : Nat) (w : World) (v : Value) (d : DK) : Prop := ∃ Lv Wv, v = .agg #[Lv, Wv, .int .i64 d.left, .bool d.down] ∧ w.ownsRow B 9 1 Lv d.L.length (svs d.L) ∧ w.ownsRow B 72 2 Wv d.waits.length (flatS d.waits)

section
variable {B B' : Nat} {w w' : World} {v : Value} {d : DK}
theorem own_below {e size n : Nat} {u : Value} {xs : List Value} (h : w.ownsRow B e size u n xs) (hb : Below w.heap.size w w') : w'.ownsRow B e size u n xs := ownsRow_on h fun k e => hb.block k (h.lt k e).2
theorem RefB.below (h : RefB B w v d) (hb : Below w.heap.size w w') : RefB B w' v d := by
  obtain ⟨Lv, Wv, rfl, h1, h2⟩ := h
  exact ⟨Lv, Wv, rfl, own_below h1 hb, own_below h2 hb⟩
theorem RefB.from (h : RefB B' w v d) (hB : B ≤ B') : RefB B w v d := by
  obtain ⟨Lv, Wv, rfl, h1, h2⟩ := h
  exact ⟨Lv, Wv, rfl, own_from h1 hB, own_from h2 hB⟩
end

/-- what a call of the document's answer hands back -/
def RefPost (B : Nat) (w : World) (d : DK) (e : Ending) (w' : World) : Prop := ∃ v', e = .returned v' ∧ RefB B w' v' d ∧ Below w.heap.size w w'

theorem refstop_any (B : Nat) (w : World) (v : Value) (d : DK) (a : Int) (h : RefB B w v d) (a0 : -9223372036854775808 ≤ a) (a1 : a ≤ 9223372036854775807) :
    Calls Try.prog 24 #[v, .int .i64 a] w (RefPost B w (stopD d a)) := by
  obtain ⟨Lv, Wv, rfl, h1, h2⟩ := h
  obtain ⟨A1, c1, rfl⟩ := ownsRow_form h1
  obtain ⟨A2, c2, rfl⟩ := ownsRow_form h2
  have key : ∀ x : Int, x = max a (-1) → RefPost B w (stopD d a) (.returned (.agg #[.slice A1 d.L.length c1, .slice A2 d.waits.length c2, .int .i64 x, .bool d.down])) ((w.alloc (.cells #[.slice A1 d.L.length c1, .slice A2 d.waits.length c2, .int .i64 x, .bool d.down] 46)).alloc (.cells #[.slice A1 d.L.length c1, .slice A2 d.waits.length c2, .int .i64 x, .bool d.down] 46)) := by
    rintro x rfl
    have hb : Below w.heap.size w ((w.alloc (.cells #[.slice A1 d.L.length c1, .slice A2 d.waits.length c2, .int .i64 (max a (-1)), .bool d.down] 46)).alloc (.cells #[.slice A1 d.L.length c1, .slice A2 d.waits.length c2, .int .i64 (max a (-1)), .bool d.down] 46)) := ((Below.refl _ _).alloc (Nat.le_refl _) _).alloc (by simp) _
    exact ⟨_, rfl, ⟨_, _, rfl, own_below h1 hb, own_below h2 hb⟩, hb⟩
  have KEY := Lib.hid key
  clear key h1 h2
  by_cases hn : a < 0
  · go_enter Try.func24, Try.ntmps24
    go_wp2
    go_returns
    exact KEY.out (-1) (by omega)
  · go_enter Try.func24, Try.ntmps24
    go_wp2
    go_returns
    exact KEY.out a (by omega)

theorem refup_any (B : Nat) (w : World) (v : Value) (d : DK) (i : Int) (h : RefB B w v d) :
    Calls Try.prog 30 #[v, .int .i64 i] w fun e w' => e = .returned (.int .i64 (upE d i)) ∧ Below w.heap.size w w' := by
  obtain ⟨Lv, Wv, rfl, h1, h2⟩ := h
  obtain ⟨A1, c1, rfl⟩ := ownsRow_form h1
  obtain ⟨A2, c2, rfl⟩ := ownsRow_form h2
  clear h1 h2
  have HB := Lib.hid (show Below w.heap.size w (w.alloc (.cells #[.slice A1 d.L.length c1, .slice A2 d.waits.length c2, .int .i64 d.left, .bool d.down] 46)) from (Below.refl _ _).alloc (Nat.le_refl _) _)
  unfold upE
  generalize d.down = dn at *
  cases dn with
  | true =>
    go_enter Try.func30, Try.ntmps30
    go_wp2
    go_ret
    exact ⟨rfl, HB.out⟩
  | false =>
    simp only [Bool.false_eq_true, if_false]
    by_cases h1 : i < 0
    · rw [if_pos (.inl h1)]
      go_enter Try.func30, Try.ntmps30
      go_wp2
      go_ret
      exact ⟨rfl, HB.out⟩
    · by_cases h2 : (d.L.length : Int) ≤ i
      · rw [if_pos (.inr h2)]
        go_enter Try.func30, Try.ntmps30
        go_wp2
        go_ret
        exact ⟨rfl, HB.out⟩
      · rw [if_neg (by omega)]
        have hd : decide ((d.L.length : Int) ≤ i) = false := by simpa using h2
        go_enter Try.func30, Try.ntmps30
        go_wp2
        go_ret
        exact ⟨rfl, HB.out⟩

/-- what a call of the document's answer hands back, with an error -/
def RefPostE (B : Nat) (w : World) (d : DK) (err : Int) (e : Ending) (w' : World) : Prop := ∃ v', e = .returned (.tuple #[v', .int .i64 err]) ∧ RefB B w' v' d ∧ Below w.heap.size w w'

theorem refcounts_any (B : Nat) (w : World) (v : Value) (d : DK) (h : RefB B w v d) (l1 : d.left ≤ 9223372036854775807) :
    Calls Try.prog 31 #[v] w (RefPostE B w (countD d) (countE d)) := by
  obtain ⟨Lv, Wv, rfl, h1, h2⟩ := h
  obtain ⟨A1, c1, rfl⟩ := ownsRow_form h1
  obtain ⟨A2, c2, rfl⟩ := ownsRow_form h2
  have key : ∀ (x : Int) (b : Bool) (err : Int), (countD d).left = x → (countD d).down = b → countE d = err → RefPostE B w (countD d) (countE d) (.returned (.tuple #[.agg #[.slice A1 d.L.length c1, .slice A2 d.waits.length c2, .int .i64 x, .bool b], .int .i64 err])) ((w.alloc (.cells #[.slice A1 d.L.length c1, .slice A2 d.waits.length c2, .int .i64 x, .bool b] 46)).alloc (.cells #[.slice A1 d.L.length c1, .slice A2 d.waits.length c2, .int .i64 x, .bool b] 46)) := by
    rintro x b err rfl rfl rfl
    have hb : Below w.heap.size w ((w.alloc (.cells #[.slice A1 d.L.length c1, .slice A2 d.waits.length c2, .int .i64 (countD d).left, .bool (countD d).down] 46)).alloc (.cells #[.slice A1 d.L.length c1, .slice A2 d.waits.length c2, .int .i64 (countD d).left, .bool (countD d).down] 46)) := ((Below.refl _ _).alloc (Nat.le_refl _) _).alloc (by simp) _
    refine ⟨_, rfl, ⟨_, _, rfl, ?_, ?_⟩, hb⟩
    · rw [countD_L]; exact own_below h1 hb
    · rw [countD_waits]; exact own_below h2 hb
  have KEY := Lib.hid key
  clear key h1 h2
  by_cases h0 : d.left = 0
  · have KEY2 := Lib.hid (KEY.out 0 true 20 (by unfold countD; rw [if_pos h0]; exact h0) (by unfold countD; rw [if_pos h0]) (by unfold countE; rw [if_pos h0]))
    clear KEY
    go_enter Try.func31, Try.ntmps31
    go_wp2
    go_returns
    exact KEY2.out
  · have h0b : (d.left == 0) = false := by simpa using h0
    by_cases h3 : 0 < d.left
    · have KEY2 := Lib.hid (KEY.out (d.left - 1) d.down 0 (by unfold countD; rw [if_neg h0, if_pos h3]) (by unfold countD; rw [if_neg h0, if_pos h3]) (by unfold countE; rw [if_neg h0]))
      clear KEY
      go_enter Try.func31, Try.ntmps31
      go_wp2
      go_returns
      exact KEY2.out
    · have h3b : decide (0 < d.left) = false := by simpa using h3
      have KEY2 := Lib.hid (KEY.out d.left d.down 0 (by unfold countD; rw [if_neg h0, if_neg h3]) (by unfold countD; rw [if_neg h0, if_neg h3]) (by unfold countE; rw [if_neg h0]))
      clear KEY
      go_enter Try.func31, Try.ntmps31
      go_wp2
      go_returns
      exact KEY2.out

end Go.Proofs.Ytcbdlggjpedffaa
