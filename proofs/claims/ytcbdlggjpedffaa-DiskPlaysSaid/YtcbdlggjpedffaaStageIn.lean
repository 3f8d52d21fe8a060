/- A region that draws its order and turns memory, inside a fence. No program is named here; no condition. -/
import Derived.Test.YtcbdlggjpedffaaStage
import Derived.OrdersIn
import Derived.TacticsIn
namespace Go.Proofs.Ytcbdlggjpedffaa
open Go

section
variable {F : Fence} {n : Nat} {P : Program} {ops : Array Oper} {Q : Exit → Act → World → Prop} {St : (Nat → Bool) → World → Prop} {R : Nat → World → World → Prop} {Ψ : Tmp → Value → World → Prop} {a0 : Act}

/-- what is shown of one operation -/
def TurnsIn (F : Fence) (n : Nat) (P : Program) (ops : Array Oper) (Q : Exit → Act → World → Prop) (St : (Nat → Bool) → World → Prop) (R : Nat → World → World → Prop) (Ψ : Tmp → Value → World → Prop) (a0 : Act) (i : Nat) (o : Oper) : Prop :=
  ∀ (l : Nat → Bool) (a : Act) (w : World) (K : Act → World → Prop), (∀ j, reach ops ops.size j i = true → l j = false) → (∀ j, reach ops ops.size i j = true → l j = true) → l i = false → St l w → Fed ops Ψ a0 o a w →
    (∀ v w', R i w w' → St (upd l i) w' → (∀ t, o.dst = some t → Ψ t v w') → K (a.put o.dst v) w') → wpOpIn F n P ops Q i K a w

/-- every order -/
theorem turn_runsIn (hio : inOrder ops = true)
    (hstab : ∀ i t v w w', (∀ j oj, ops[j]? = some oj → oj.dst = some t → j ≠ i ∧ reach ops ops.size j i = false) → R i w w' → Ψ t v w → Ψ t v w') (hin : ∀ (i : Nat) oi t, ops[i]? = some oi → oi.dst = some t → t < a0.tmps.size)
    (hops : ∀ i oi, ops[i]? = some oi → TurnsIn F n P ops Q St R Ψ a0 i oi) (hQ : ∀ listed a w, (∀ j oj, ops[j]? = some oj → listed.getD j false = true) → HalfS ops St Ψ a0 listed a w → Q .normal a w) :
    ∀ (m : Nat) (listed : Array Bool) (a : Act) (w : World), HalfS ops St Ψ a0 listed a w → unlisted listed = m → wpAnyIn F n P .any ops Q m listed a w := by
  intro m
  induction m with
  | zero =>
    intro listed a w H hn
    have hall : ∀ j oj, ops[j]? = some oj → listed.getD j false = true := by
      intro j oj hj
      cases hl : listed.getD j false with
      | true => rfl
      | false =>
        have hjl : j < listed.size := by rw [H.len]; exact (Array.getElem?_eq_some_iff.1 hj).1
        have := unlisted_set hjl hl
        omega
    refine ⟨?_, hQ listed a w hall H⟩
    apply List.eq_nil_iff_forall_not_mem.2
    intro j hj
    obtain ⟨h0, o, ho, _⟩ := mem_ready.1 hj
    have := hall j o ho
    rw [getD_both' h0] at this
    cases this
  | succ m ih =>
    intro listed a w H hn
    refine ⟨fun hr => hQ listed a w (fun j oj hj => H.half.some_ready hio hr (j + 1) j oj (by omega) hj) H, fun i hi => ?_⟩
    obtain ⟨h0, oi, ho, hr⟩ := mem_ready.1 hi
    have hun := getD_both' h0
    have hlt : i < listed.size := by rw [H.len]; exact (Array.getElem?_eq_some_iff.1 ho).1
    refine hops i oi ho (fun j => listed.getD j false) a w _ (fun j hre => ?_) (fun j hre => reach_ready H.closed ho hr j ops.size hre) hun H.st (H.half.fed hio ho hun hr) fun v w' hR hS hv =>
      ih _ _ _ (H.step hio hstab (fun t ht => hin i oi t ho ht) ho hun hr hR hS hv) (by have := unlisted_set hlt hun; omega)
    show listed.getD j false = false
    cases hl : listed.getD j false with
    | false => rfl
    | true =>
      have := reach_listed H.closed i ops.size j hre hl
      rw [hun] at this
      cases this

/-- **A region that draws its order and turns memory.** -/
theorem region_turnsIn {id : Nat} {w0 : World} (hm : P.follows .mixedOrders = true) (dsts : List Nat) (hd : ops.toList.filterMap (·.dst) = dsts) (hin : ∀ t ∈ dsts, t < a0.tmps.size) (hio : inOrder ops = true)
    (St : (Nat → Bool) → World → Prop) (R : Nat → World → World → Prop) (Ψ : Tmp → Value → World → Prop)
    (h0 : ∀ l : Nat → Bool, (∀ j, l j = false) → St l { w0 with drawn := w0.drawn + 1 })
    (hstab : ∀ i t v w w', (∀ j oj, ops[j]? = some oj → oj.dst = some t → j ≠ i ∧ reach ops ops.size j i = false) → R i w w' → Ψ t v w → Ψ t v w')
    (hops : ∀ i oi, ops[i]? = some oi → TurnsIn F n P ops Q St R Ψ a0 i oi)
    (hQ : ∀ (l : Nat → Bool) (f : Nat → Value) (w : World), (∀ j, j < ops.size → l j = true) → St l w → (∀ t ∈ dsts, Ψ t (f t) w) → Q .normal { tmps := putAll dsts f a0.tmps, defers := a0.defers } w) :
    (Code.region id ops true).wpIn F n P Q a0 w0 := by
  have hmem : ∀ (i : Nat) oi t, ops[i]? = some oi → oi.dst = some t → t ∈ dsts := by
    intro i oi t hi ht
    rw [← hd, List.mem_filterMap]
    exact ⟨oi, by rw [← Array.mem_def]; exact Array.mem_of_getElem? hi, ht⟩
  refine wpIn_region_any hm ?_
  refine turn_runsIn (St := St) (R := R) (Ψ := Ψ) (a0 := a0) hio hstab (fun i oi t hi ht => hin t (hmem i oi t hi ht)) hops ?_ ops.size (Array.replicate ops.size false) a0 _ ?_ (by unfold unlisted; rw [Array.toList_replicate, List.countP_replicate]; simp)
  · intro listed a w hall H
    have hΨ : ∀ t ∈ dsts, Ψ t (a.tmps.getD t undef) w := by
      intro t ht
      rw [← hd, List.mem_filterMap] at ht
      obtain ⟨oi, hoi, hdst⟩ := ht
      obtain ⟨i, hi⟩ := List.getElem?_of_mem hoi
      rw [Array.getElem?_toList] at hi
      obtain ⟨v, hv, hΨ⟩ := H.new i oi t hi hdst (hall i oi hi)
      simp only [Array.getD_eq_getD_getElem?, hv, Option.getD_some]
      exact hΨ
    have this := hQ _ (fun t => a.tmps.getD t undef) w (fun j hj => hall j ops[j] (Array.getElem?_eq_getElem hj)) H.st hΨ
    have e : a = { tmps := putAll dsts (fun t => a.tmps.getD t undef) a0.tmps, defers := a0.defers } := by
      rcases a with ⟨ts, df⟩
      have hdf : df = a0.defers := H.defers
      subst hdf
      congr 1
      apply Array.ext_getElem?
      intro t
      have hsz : ts.size = a0.tmps.size := H.size
      rcases Nat.lt_or_ge t a0.tmps.size with hlt | hge
      · rw [putAll_get _ _ _ _ hlt]
        by_cases ht : t ∈ dsts
        · rw [if_pos ht]
          simp [Array.getD, hsz, hlt]
        · rw [if_neg ht]
          exact H.old t fun j oj hj hdst => absurd (hmem j oj t hj hdst) ht
      · rw [Array.getElem?_eq_none (by rw [hsz]; exact hge), Array.getElem?_eq_none (by rw [putAll_size]; exact hge)]
    rw [e]
    exact this
  · refine ⟨by simp, rfl, rfl, h0 _ (fun j => by by_cases h : j < ops.size <;> simp [Array.getD, h]), ?_, fun _ _ => rfl, ?_⟩
    · intro j oj hj hl
      simp [Array.getD] at hl
    · intro j oj t hj _ hl
      simp [Array.getD] at hl

def AllTurnIn (F : Fence) (n : Nat) (P : Program) (ops : Array Oper) (Q : Exit → Act → World → Prop) (St : (Nat → Bool) → World → Prop) (R : Nat → World → World → Prop) (Ψ : Tmp → Value → World → Prop) (a0 : Act) : Nat → List Oper → Prop
  | _, [] => True
  | m, o :: l => TurnsIn F n P ops Q St R Ψ a0 m o ∧ AllTurnIn F n P ops Q St R Ψ a0 (m + 1) l

theorem AllTurnIn.at_ : ∀ (l : List Oper) (m : Nat), AllTurnIn F n P ops Q St R Ψ a0 m l → ∀ i o, l[i]? = some o → TurnsIn F n P ops Q St R Ψ a0 (m + i) o
  | [], _, _, _, _, h => by cases h
  | o :: l, m, h, 0, o', ho => by cases ho; exact h.1
  | o :: l, m, h, i + 1, o', ho => by
    have := AllTurnIn.at_ l (m + 1) h.2 i o' ho
    rwa [Nat.add_assoc, Nat.add_comm 1 i] at this

theorem turnsIn_of_all {l : List Oper} (hl : ops.toList = l) (h : AllTurnIn F n P ops Q St R Ψ a0 0 l) : ∀ (i : Nat) (oi : Oper), ops[i]? = some oi → TurnsIn F n P ops Q St R Ψ a0 i oi := by
  intro i oi hi
  have := AllTurnIn.at_ l 0 h i oi (by rw [← hl, Array.getElem?_toList]; exact hi)
  rwa [Nat.zero_add] at this
end

section
variable {F : Fence} {n : Nat} {P : Program} {ops : Array Oper} {Q : Exit → Act → World → Prop}
theorem opIn_value {i : Nat} {o : Oper} {a : Act} {w w' : World} {K : Act → World → Prop} {v : Value} (hi : ops[i]? = some o) (hw : Region.wanted o (yielded ops a.tmps) = true)
    (hr : (execOp a.eval o).run P w = .ok (.value v) w') (h : K (a.put o.dst v) w') (hab : ∀ w : World, o.about P w a.eval = none := by intro w; rfl) (hd : ∀ c, o.op ≠ .defer c := by intro c h; cases h) : wpOpIn F n P ops Q i K a w := by
  unfold wpOpIn
  simp only [hi, hw, if_true, Oper.wpIn, Oper.semAt_eq _ _ _ hd, hr, Oper.uponIn]
  exact ⟨fun f hf => (by rw [hab] at hf; cases hf), h⟩
theorem opIn_stored {i : Nat} {o : Oper} {a : Act} {w w' : World} {K : Act → World → Prop} (hi : ops[i]? = some o) (hw : Region.wanted o (yielded ops a.tmps) = true)
    (hr : (execOp a.eval o).run P w = .ok .skip w') (h : K (a.put o.dst undef) w') (hab : ∀ w : World, o.about P w a.eval = none := by intro w; rfl) (hd : ∀ c, o.op ≠ .defer c := by intro c h; cases h) : wpOpIn F n P ops Q i K a w := by
  unfold wpOpIn
  simp only [hi, hw, if_true, Oper.wpIn, Oper.semAt_eq _ _ _ hd, hr, Oper.uponIn]
  exact ⟨fun f hf => (by rw [hab] at hf; cases hf), h⟩
end

end Go.Proofs.Ytcbdlggjpedffaa
