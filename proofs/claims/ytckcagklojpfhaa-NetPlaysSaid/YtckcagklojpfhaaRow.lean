/- A net beside a row of ints that the call owns: neither turns the other. No condition. -/
import Derived.Test.YtckcagklojpfhaaUse
namespace Go.Proofs.Ytckcagklojpfhaa
open Go.RowKit

theorem Try.info3 : (Try.prog.info? 3).map (fun i => (i.zero, i.size, i.bytes)) = some (some (.int .i64 0), 1, 8) := by kernel_rfl

section
variable {F : Nat → Prop} {B B' : Nat} {w w' : World} {g n : Nat} {sv vl : Value} {rs : List (Int × Int × Value)} {ps : List Pk} {xs : List Value}

theorem NetIs.row (h : NetIs F w g sv rs ps) (hr : w.ownsRow B' 3 1 vl n xs) (hg : w.grownBy w' vl.ownBlock) : NetIs F w' g sv rs ps := by
  refine ⟨?_, h.fg, ownsRow_on h.own (fun k hk => hg.block k (own_lives h.own hk) (fun e => own_type_ne h.own hr (by decide) hk e.symm)), h.fs, h.len, fun i f t v hi => ?_⟩
  · rw [hg.block g h.glt (fun e => own_ne_net hr h.blk (by decide) e.symm rfl)]
    exact h.blk
  · obtain ⟨d, e1, e2, e3, e4⟩ := h.data i f t v hi
    exact ⟨d, e1, ownsRow_on e2 (fun k hk => hg.block k (own_lives e2 hk) (fun e => own_type_ne e2 hr (by decide) hk e.symm)), e3, e4⟩

theorem NetIs.apart (h : NetIs F w g sv rs ps) (hr : w.ownsRow B' 3 1 vl n xs) : NetIs (fun k => F k ∧ vl.ownBlock ≠ some k) w g sv rs ps := by
  refine ⟨h.blk, ⟨h.fg, fun e => own_ne_net hr h.blk (by decide) e rfl⟩, h.own, fun k hk => ⟨h.fs k hk, own_type_ne h.own hr (by decide) hk⟩, h.len, fun i f t v hi => ?_⟩
  obtain ⟨d, e1, e2, e3, e4⟩ := h.data i f t v hi
  exact ⟨d, e1, e2, fun k hk => ⟨e3 k hk, own_type_ne e2 hr (by decide) hk⟩, e4⟩

theorem NetB.row (h : NetB B w g ps) (hr : w.ownsRow B' 3 1 vl n xs) (hg : w.grownBy w' vl.ownBlock) : NetB B w' g ps := by
  obtain ⟨sv, rs, h⟩ := h
  exact ⟨sv, rs, h.row hr hg⟩

theorem kept_row (hr : w.ownsRow B' 3 1 vl n xs) (hK : Kept (fun k => B ≤ k ∧ vl.ownBlock ≠ some k) w w') : w'.ownsRow B' 3 1 vl n xs :=
  ownsRow_on hr fun k hk => hK.block k (own_lives hr hk) fun e => e.2 hk

theorem put_row (h : NetB B w g ps) (hr : w.ownsRow B' 3 1 vl n xs) (hB : B ≤ w.heap.size) (f t : Int) (dv : Value) (d : List UInt8) (hd : Rd w w.heap.size dv (bv d)) (hl : d.length ≤ 65536) :
    Calls Try.prog 10 #[.pointer (some ⟨g, 0, none⟩), .agg #[.int .i64 f, .int .i64 t, dv]] w fun e w' => e = .returned (.int .i64 (putE ps f t)) ∧ NetB B w' g (putL ps (f, t, d)) ∧ Below B w w' ∧ w'.ownsRow B' 3 1 vl n xs := by
  obtain ⟨sv, rs, h⟩ := h
  refine (put_any ⟨sv, rs, h.apart hr⟩ f t dv d hd hl).mono ?_
  rintro e w' ⟨rfl, hN, hK⟩
  exact ⟨rfl, hN.mono (fun k _ hk => by rcases hk with hk | hk; exact hk.1; exact Nat.le_trans hB hk), hK.below hB (fun k hk => hk.1), kept_row hr hK⟩

theorem drop_row (h : NetB B w g ps) (hr : w.ownsRow B' 3 1 vl n xs) (hB : B ≤ w.heap.size) (i : Int) (hbig : ps.length ≤ 65536) :
    Calls Try.prog 12 #[.pointer (some ⟨g, 0, none⟩), .int .i64 i] w fun e w' => e = .returned (.int .i64 (thereE ps.length [i])) ∧ NetB B w' g (dropL ps i) ∧ Below B w w' ∧ w'.ownsRow B' 3 1 vl n xs := by
  obtain ⟨sv, rs, h⟩ := h
  refine (drop_any ⟨sv, rs, h.apart hr⟩ i hbig).mono ?_
  rintro e w' ⟨rfl, hN, hK⟩
  exact ⟨rfl, hN.mono (fun k _ hk => hk.1), hK.below hB (fun k hk => hk.1), kept_row hr hK⟩
end

end Go.Proofs.Ytckcagklojpfhaa
