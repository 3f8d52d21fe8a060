/- The small functions of a disk: New, Len, Waits, Down, Stop, and the two that tell a call's error. No condition. -/
import Derived.Test.YtcbdlggjpedffaaDisk
import Derived.Carry
namespace Go.Proofs.Ytcbdlggjpedffaa
open Go.RowKit Go.Maps
set_option linter.unusedSimpArgs false

theorem len_nil (w : World) : Calls Try.prog 16 #[.pointer none] w fun e w' => e = .returned (.int .i64 0) ∧ w' = w := by
  go_enter Try.func16, Try.ntmps16
  go_wp2
  go_ret
  exact ⟨rfl, rfl⟩
theorem waits_nil (w : World) : Calls Try.prog 17 #[.pointer none] w fun e w' => e = .returned (.int .i64 0) ∧ w' = w := by
  go_enter Try.func17, Try.ntmps17
  go_wp2
  go_ret
  exact ⟨rfl, rfl⟩
theorem down_nil (w : World) : Calls Try.prog 20 #[.pointer none] w fun e w' => e = .returned (.bool false) ∧ w' = w := by
  go_enter Try.func20, Try.ntmps20
  go_wp2
  go_ret
  exact ⟨rfl, rfl⟩
theorem stop_nil (a : Int) (w : World) : Calls Try.prog 19 #[.pointer none, .int .i64 a] w fun e w' => e = .returned (.tuple #[]) ∧ w' = w := by
  go_enter Try.func19, Try.ntmps19
  go_wp2
  go_end0
  exact ⟨rfl, rfl⟩
theorem up_nil (i : Int) (w : World) : Calls Try.prog 27 #[.pointer none, .int .i64 i] w fun e w' => e = .returned (.int .i64 1) ∧ w' = w := by
  go_enter Try.func27, Try.ntmps27
  go_wp2
  go_ret
  exact ⟨rfl, rfl⟩

section
variable {F : Nat → Prop} {w : World} {g : Nat} {d : DK} {M : Nat}

theorem len_any (h : DiskHas F w g d M) : Calls Try.prog 16 #[.pointer (some ⟨g, 0, none⟩)] w fun e w' => e = .returned (.int .i64 d.L.length) ∧ w' = w := by
  obtain ⟨mb, sv, h⟩ := h
  obtain ⟨c0, _⟩ := h.cells
  clear h
  go_enter Try.func16, Try.ntmps16
  go_wp2
  go_ret
  exact ⟨rfl, rfl⟩

theorem waits_any (h : DiskHas F w g d M) : Calls Try.prog 17 #[.pointer (some ⟨g, 0, none⟩)] w fun e w' => e = .returned (.int .i64 d.waits.length) ∧ w' = w := by
  obtain ⟨mb, sv, h⟩ := h
  obtain ⟨_, _, c2, _, _⟩ := h.cells
  obtain ⟨A, c, rfl⟩ := h.form
  clear h
  go_enter Try.func17, Try.ntmps17
  go_wp2
  go_ret
  exact ⟨rfl, rfl⟩

theorem down_any (h : DiskHas F w g d M) : Calls Try.prog 20 #[.pointer (some ⟨g, 0, none⟩)] w fun e w' => e = .returned (.bool d.down) ∧ w' = w := by
  obtain ⟨mb, sv, h⟩ := h
  obtain ⟨_, _, _, _, c4⟩ := h.cells
  clear h
  go_enter Try.func20, Try.ntmps20
  go_wp2
  go_ret
  exact ⟨rfl, rfl⟩

def StopPost (F : Nat → Prop) (w : World) (g : Nat) (d : DK) (M : Nat) (e : Ending) (w' : World) : Prop := e = .returned (.tuple #[]) ∧ DiskHas F w' g d M ∧ Kept F w w'

theorem stop_any (h : DiskHas F w g d M) (a : Int) (ha : a ≤ 9223372036854775807) : Calls Try.prog 19 #[.pointer (some ⟨g, 0, none⟩), .int .i64 a] w (StopPost F w g (stopD d a) M) := by
  obtain ⟨mb, sv, h⟩ := h
  obtain ⟨_, _, _, c3, _⟩ := h.cells
  have hf := h.frozen 3
  have H := Lib.hid (show StopPost F w g (stopD d a) M (.returned (.tuple #[])) (w.setCell ⟨g, 3, none⟩ (.int .i64 (max a (-1)))) from ⟨rfl, ⟨mb, sv, h.set_left _ ⟨by omega, by omega⟩⟩, kept_set h.fg _ _⟩)
  clear h
  rcases Int.lt_or_le a (-1) with hlt | hge
  · rw [show max a (-1) = -1 by omega] at H
    go_enter Try.func19, Try.ntmps19
    go_wp2
    go_end0
    exact H.out
  · rw [show max a (-1) = a by omega] at H
    go_enter Try.func19, Try.ntmps19
    go_wp2
    go_end0
    exact H.out

theorem up_any (h : DiskHas F w g d M) (i : Int) : Calls Try.prog 27 #[.pointer (some ⟨g, 0, none⟩), .int .i64 i] w fun e w' => e = .returned (.int .i64 (upE d i)) ∧ w' = w := by
  obtain ⟨mb, sv, h⟩ := h
  obtain ⟨c0, _, _, _, c4⟩ := h.cells
  clear h
  unfold upE
  generalize d.down = dn at *
  cases dn with
  | true =>
    go_enter Try.func27, Try.ntmps27
    go_wp2
    go_ret
    exact ⟨rfl, rfl⟩
  | false =>
    simp only [Bool.false_eq_true, if_false]
    by_cases h1 : i < 0
    · rw [if_pos (.inl h1)]
      go_enter Try.func27, Try.ntmps27
      go_wp2
      go_ret
      exact ⟨rfl, rfl⟩
    · by_cases h2 : (d.L.length : Int) ≤ i
      · rw [if_pos (.inr h2)]
        go_enter Try.func27, Try.ntmps27
        go_wp2
        go_ret
        exact ⟨rfl, rfl⟩
      · rw [if_neg (by omega)]
        go_enter Try.func27, Try.ntmps27
        go_wp2
        go_ret
        exact ⟨rfl, rfl⟩

def CountPost (F : Nat → Prop) (w : World) (g : Nat) (d : DK) (M mb : Nat) (sv : Value) (err : Int) (e : Ending) (w' : World) : Prop := e = .returned (.int .i64 err) ∧ DiskIs F w' g d M mb sv ∧ Kept F w w'

theorem counts_any {mb : Nat} {sv : Value} (h : DiskIs F w g d M mb sv) : Calls Try.prog 28 #[.pointer (some ⟨g, 0, none⟩)] w (CountPost F w g (countD d) M mb sv (countE d)) := by
  obtain ⟨_, _, _, c3, c4⟩ := h.cells
  have hf3 := h.frozen 3
  have hf4 := h.frozen 4
  have hl := h.lft
  unfold countD countE
  by_cases h0 : d.left = 0
  · have H := Lib.hid (show CountPost F w g { d with down := true } M mb sv 20 (.returned (.int .i64 20)) (w.setCell ⟨g, 4, none⟩ (.bool true)) from ⟨rfl, h.set_down true, kept_set h.fg _ _⟩)
    rw [if_pos h0, if_pos h0]
    rw [h0] at c3
    clear h h0 hl
    go_enter Try.func28, Try.ntmps28
    go_wp2
    go_ret
    exact H.out
  · rw [if_neg h0, if_neg h0]
    by_cases h1 : 0 < d.left
    · have H := Lib.hid (show CountPost F w g { d with left := d.left - 1 } M mb sv 0 (.returned (.int .i64 0)) (w.setCell ⟨g, 3, none⟩ (.int .i64 (d.left - 1))) from ⟨rfl, h.set_left _ ⟨by omega, by omega⟩, kept_set h.fg _ _⟩)
      rw [if_pos h1]
      have hb : (d.left == 0) = false := by rw [beq_eq_false_iff_ne]; exact h0
      clear h h0
      go_enter Try.func28, Try.ntmps28
      go_wp2
      go_ret
      exact H.out
    · have H := Lib.hid (show CountPost F w g d M mb sv 0 (.returned (.int .i64 0)) w from ⟨rfl, h, Kept.refl _ _⟩)
      rw [if_neg h1]
      have hb : (d.left == 0) = false := by rw [beq_eq_false_iff_ne]; exact h0
      clear h h0
      go_enter Try.func28, Try.ntmps28
      go_wp2
      go_ret
      exact H.out
end

def newD (n : Nat) : DK := ⟨List.replicate n zeroS, [], -1, false⟩

theorem new_out (n : Int) (w : World) (hn : n < 1 ∨ 65536 < n) : Calls Try.prog 11 #[.int .i64 n] w fun e w' => e = .returned (.tuple #[.pointer none, .int .i64 1]) ∧ w' = w := by
  rcases hn with hn | hn
  · go_enter Try.func11, Try.ntmps11
    go_wp2
    go_ret2
    exact ⟨rfl, rfl⟩
  · have hn' : ¬ n < 1 := by omega
    go_enter Try.func11, Try.ntmps11
    go_wp2
    go_ret2
    exact ⟨rfl, rfl⟩

/-- A new disk lies in new blocks. -/
def NewPost (w : World) (n : Nat) (e : Ending) (w' : World) : Prop :=
  ∃ g, e = .returned (.tuple #[.pointer (some ⟨g, 0, none⟩), .int .i64 0]) ∧ DiskHas (fun k => w.heap.size ≤ k) w' g (newD n) 0 ∧ Below w.heap.size w w'

theorem new_in (n : Nat) (w : World) (h1 : 1 ≤ n) (h2 : n ≤ 65536) : Calls Try.prog 11 #[.int .i64 n] w (NewPost w n) := by
  have hmm := @run_makeMap Try.prog
  have n1 : ¬ (n : Int) < 1 := by omega
  have n2 : ¬ (65536 : Int) < (n : Int) := by omega
  have H := Lib.hid (show NewPost w n (.returned (.tuple #[.pointer (some ⟨w.heap.size + 1, 0, none⟩), .int .i64 0])) ((w.alloc (.map #[] 0)).alloc (.cells #[.int .i64 n, .map (some w.heap.size), .slice none 0 0, .int .i64 (-1), .bool false] 61)) from by
    refine ⟨_, rfl, ⟨w.heap.size, .slice none 0 0, ?_⟩, ((Below.refl _ _).alloc (Nat.le_refl _) _).alloc (by simp) _⟩
    refine ⟨?_, by simp, ?_, Nat.le_refl _, World.ownsRow_nil _ _ _ _, (fun k hk => by cases hk), ?_, (fun p hp => by simp [newD] at hp), by simp [newD]; omega, by simp [newD]⟩
    · have := heap_alloc_new (w.alloc (.map #[] 0)) (.cells #[.int .i64 n, .map (some w.heap.size), .slice none 0 0, .int .i64 (-1), .bool false] 61)
      simpa [newD] using this
    · exact (own_made w n).on (((Below.refl _ (w.alloc (.map #[] 0))).alloc (Nat.le_refl _) _).block _ (by simp))
    · intro s hs
      rw [(List.mem_replicate.1 hs).2]
      exact zeroS_length)
  clear h1 h2
  go_enter Try.func11, Try.ntmps11
  go_wp2
  go_ret2
  exact H.out

end Go.Proofs.Ytcbdlggjpedffaa
