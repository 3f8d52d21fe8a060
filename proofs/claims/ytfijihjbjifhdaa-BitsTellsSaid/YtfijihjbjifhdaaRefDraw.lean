/- The walks of the document's Draw and Same for layer 6: Draw comes to the same plain functions as the program's; numbers at most 65536. -/
import Derived.Test.YtfijihjbjifhdaaRef
import Derived.Test.YtfijihjbjifhdaaDraw
namespace Go.Proofs.Ytfijihjbjifhdaa
open Go.RowKit

theorem rdraw_neg (s : ByteArray) (n0 many : Int) (h : many < 0) (w : World) :
    Calls Try.prog 10 #[.string s, .int .i64 n0, .int .i64 many] w (GivesDraw w [] 1) := by
  go_enter Try.func10, Try.ntmps10
  go_wp2
  go_ret2
  exact ⟨_, rfl, Rd.nil _ _, Below.refl _ _⟩

theorem freeB_step {w wr w1 : World} {l : List UInt8} {k : Nat} {v v' : Value} {o : Obj} (hb : bitB l k = false) (hown : wr.ownsRow w.heap.size 3 1 v (freeB l k).length (iv (freeB l k))) (hbl : Below w.heap.size w wr)
    (hown' : w1.ownsRow w.heap.size 3 1 v' ((freeB l k).length + 1) (iv (freeB l k) ++ [.int .i64 k])) (hg : (wr.alloc o).grownBy w1 v.ownBlock) :
    w1.ownsRow w.heap.size 3 1 v' (freeB l (k + 1)).length (iv (freeB l (k + 1))) ∧ Below w.heap.size w w1 := by
  refine ⟨?_, (hbl.alloc hbl.size o).grown hg (by have := hbl.size; simp; omega) (fun j hj => (hown.lt j hj).1)⟩
  rw [freeB_succ_miss l k hb, List.length_append, iv_append]
  exact hown'

set_option maxHeartbeats 800000 in
theorem rdraw_pos (s : ByteArray) (n0 : Int) (many : Nat) (hN : n0 ≤ 65536) (hmany : many ≤ 65536) (w : World) :
    Calls Try.prog 10 #[.string s, .int .i64 n0, .int .i64 many] w (GivesDraw w (drawB s.data.toList n0 many) (drawE s.data.toList n0 many)) := by
  obtain ⟨i0, hi, hz0, hz1, hz2⟩ := info_parts Try.info3
  have hm0 : decide ((many : Int) < 0) = false := by simp
  obtain ⟨l, hl⟩ : ∃ l, l = s.data.toList := ⟨_, rfl⟩
  rw [← hl]
  have HH := Lib.hid (show ∀ k : Nat, hasB s.data.toList (k : Int) = bitB l k by intro k; rw [← hl]; simp [hasB])
  clear hl
  obtain ⟨N, hN'⟩ : ∃ N, N = n0.toNat := ⟨_, rfl⟩
  have HE := Lib.hid (show drawE l n0 many = if (freeB l N).length < many then 66 else 0 by
    unfold drawE; rw [if_neg (by omega), ← hN']; by_cases h : (freeB l N).length < many
    · rw [if_pos h, if_pos (by omega)]
    · rw [if_neg h, if_neg (by omega)])
  have HX := Lib.hid (show drawB l n0 many = if (freeB l N).length < many then [] else (freeB l N).take many by
    unfold drawB; rw [← hN']; by_cases h : (freeB l N).length < many
    · rw [if_pos h, if_pos (by omega)]
    · rw [if_neg h, if_neg (by omega), Int.toNat_natCast])
  have HN := Lib.hid (show ∀ k : Nat, k < N ↔ (k : Int) < n0 by omega)
  have hNs : N ≤ 65536 := by omega
  clear hN'
  go_enter Try.func10, Try.ntmps10
  go_wp2
  go_loopw [8, 9] (fun v i wr => ∃ k : Nat, k ≤ N ∧ i = .int .i64 k ∧ (freeB l k).length ≤ many ∧ wr.ownsRow w.heap.size 3 1 v (freeB l k).length (iv (freeB l k)) ∧ Below w.heap.size w wr) (fun _ i _ => N - (intOf i).toNat)
  case atStart => exact ⟨0, Nat.zero_le _, rfl, Nat.zero_le _, World.ownsRow_nil _ _ _ _, Below.refl _ _⟩
  case round =>
    obtain ⟨k, hk, rfl, hle, hown, hb⟩ := hrel
    obtain ⟨A', c', rfl⟩ := ownsRow_form hown
    have hkl := freeB_length l k
    rcases Nat.lt_or_ge k N with hlt | hge
    · have hlt' := (HN.out k).1 hlt
      by_cases hfull : (freeB l k).length < many
      · have hf' : ((freeB l k).length : Int) < (many : Int) := by omega
        cases hbit : bitB l k with
        | true =>
          have hb' := (HH.out k).trans hbit
          have HB := Lib.hid (freeB_succ_hit l k hbit)
          have HO := Lib.hid hown
          clear hbit hown
          go_wp2_with (go_at_call 12; refine (rhas_any s k (by omega) _).mono ?_; rintro e w1 ⟨rfl, rfl⟩; rw [hb'])
          go_roundw
          case rel => exact ⟨k + 1, by omega, by go_num, by rw [HB.out]; exact hle, by rw [HB.out]; exact HO.out, hb⟩
          case measure => simp [intOf]; omega
        | false =>
          have hb' := (HH.out k).trans hbit
          have HB := Lib.hid hbit
          clear hbit
          go_wp2_with (first
            | (go_at_call 12; refine (rhas_any s k (by omega) _).mono ?_; rintro e w1 ⟨rfl, rfl⟩; rw [hb'])
            | (at_builtin; refine wpList_append_own _ rfl _ _ 24 rfl w.heap.size 3 i0 (.int .i64 0) 1 8 Try.underlying24 hi hz0 hz1 hz2 rfl (by decide) _ _ _ rfl (hown.alloc _) ⟨wr.heap.size, 0, none⟩ 1 1 [.int .i64 k] rfl rfl (cell_one_new _ _ _) (by simp [Value.oneCell']) (by unfold maxLen; omega) (by omega) (by have := hb.size; simp; omega) ?_; intro v2 w2 hown2 hgrow _; have HS := Lib.hid (freeB_step HB.out hown hb hown2 hgrow); clear hown2 hgrow))
          go_roundw
          case rel => exact ⟨k + 1, by omega, by go_num, by rw [freeB_succ_miss l k HB.out, List.length_append]; simp; omega, HS.out.1, HS.out.2⟩
          case measure => simp [intOf]; omega
      · have hf' : ¬ ((freeB l k).length : Int) < (many : Int) := by omega
        have hp := freeB_le l hk
        have hpl := hp.length_le
        have hE : drawE l n0 many = 0 := by rw [HE.out, if_neg (by omega)]
        have hX : drawB l n0 many = freeB l k := by
          rw [HX.out, if_neg (by omega), (List.prefix_iff_eq_take.1 hp), show (freeB l k).length = many from by omega]
        have HE' := Lib.hid hE
        have HX' := Lib.hid hX
        have HO := Lib.hid hown
        clear hE hX hp hown
        go_wp2
        go_ret2
        exact ⟨_, by rw [HE'.out]; rfl, by rw [HX'.out]; exact Rd.of_own HO.out, hb⟩
    · obtain rfl : k = N := by omega
      have hlt' : ¬ (k : Int) < n0 := fun h => by have := (HN.out k).2 h; omega
      have hd : decide ((k : Int) < n0) = false := by simpa using hlt'
      by_cases hfull : (freeB l k).length < many
      · have hf' : ((freeB l k).length : Int) < (many : Int) := by omega
        have hE : drawE l n0 many = 66 := by rw [HE.out, if_pos hfull]
        have hX : drawB l n0 many = [] := by rw [HX.out, if_pos hfull]
        have HE' := Lib.hid hE
        have HX' := Lib.hid hX
        clear hE hX
        go_wp2
        go_ret2
        exact ⟨_, by rw [HE'.out]; rfl, by rw [HX'.out]; exact Rd.nil _ _, hb⟩
      · have hf' : ¬ ((freeB l k).length : Int) < (many : Int) := by omega
        have hE : drawE l n0 many = 0 := by rw [HE.out, if_neg hfull]
        have hX : drawB l n0 many = freeB l k := by
          rw [HX.out, if_neg hfull, List.take_of_length_le (by omega)]
        have HE' := Lib.hid hE
        have HX' := Lib.hid hX
        have HO := Lib.hid hown
        clear hE hX hown
        go_wp2
        go_ret2
        exact ⟨_, by rw [HE'.out]; rfl, by rw [HX'.out]; exact Rd.of_own HO.out, hb⟩

/-- the document's 'Draw' -/
theorem rdraw_any (s : ByteArray) (n0 many : Int) (hN : n0 ≤ 65536) (hmany : many ≤ 65536) (w : World) :
    Calls Try.prog 10 #[.string s, .int .i64 n0, .int .i64 many] w (GivesDraw w (drawB s.data.toList n0 many) (drawE s.data.toList n0 many)) := by
  rcases Int.lt_or_le many 0 with h | h
  · have hE : drawE s.data.toList n0 many = 1 := by unfold drawE; rw [if_pos h]
    have hX : drawB s.data.toList n0 many = [] := by unfold drawB; rw [if_pos (.inl h)]
    rw [hE, hX]
    exact rdraw_neg s n0 many h w
  · obtain ⟨k, rfl⟩ := Int.eq_ofNat_of_zero_le h
    exact rdraw_pos s n0 k hN (by omega) w

end Go.Proofs.Ytfijihjbjifhdaa
