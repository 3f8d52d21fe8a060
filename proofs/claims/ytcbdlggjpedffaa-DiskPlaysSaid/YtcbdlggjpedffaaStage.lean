/- A region that draws its order and whose operations turn memory, one operation at a time: besides what each leaves in its slot it is said which worlds there are while a given set of the operations has run; each operation is shown to lead from the one to the next. No program is named here; no condition. -/
import Derived.Test.YtcbdlggjpedffaaAny
namespace Go.Proofs.Ytcbdlggjpedffaa
open Go

/-- number j waits for number i, straight or through others -/
def reach (ops : Array Oper) : Nat → Nat → Nat → Bool
  | 0, _, _ => false
  | n + 1, j, i => match ops[j]? with
    | none => false
    | some oj => waitsFor oj i || (List.range ops.size).any fun k => waitsFor oj k && reach ops n k i

def upd (l : Nat → Bool) (i : Nat) : Nat → Bool := fun j => if j = i then true else l j

section
variable {P : Program} {ops : Array Oper} {Q : Exit → Act → World → Prop} {St : (Nat → Bool) → World → Prop} {R : Nat → World → World → Prop} {Ψ : Tmp → Value → World → Prop} {a0 : Act}

theorem reach_listed {listed : Array Bool} (hc : ∀ j oj, ops[j]? = some oj → listed.getD j false = true → ∀ e ∈ oj.after, Region.binds .any e = true → listed.getD e.on false = true) (i : Nat) :
    ∀ n j, reach ops n j i = true → listed.getD j false = true → listed.getD i false = true := by
  intro n
  induction n with
  | zero => intro j h; cases h
  | succ n ih =>
    intro j h hl
    unfold reach at h
    cases ho : ops[j]? with
    | none => rw [ho] at h; cases h
    | some oj =>
      rw [ho] at h
      simp only [Bool.or_eq_true] at h
      rcases h with h | h
      · exact waits_listed h (hc j oj ho hl)
      · obtain ⟨k, _, hk⟩ := List.any_eq_true.1 h
        simp only [Bool.and_eq_true] at hk
        exact ih k hk.2 (waits_listed hk.1 (hc j oj ho hl))

theorem reach_ready {listed : Array Bool} (hc : ∀ j oj, ops[j]? = some oj → listed.getD j false = true → ∀ e ∈ oj.after, Region.binds .any e = true → listed.getD e.on false = true) {i : Nat} {oi : Oper} (hi : ops[i]? = some oi)
    (hr : ∀ e ∈ oi.after, Region.binds .any e = true → listed.getD e.on false = true) (j : Nat) : ∀ n, reach ops n i j = true → listed.getD j false = true := by
  intro n h
  cases n with
  | zero => cases h
  | succ n =>
    unfold reach at h
    rw [hi] at h
    simp only [Bool.or_eq_true] at h
    rcases h with h | h
    · exact waits_listed h hr
    · obtain ⟨k, _, hk⟩ := List.any_eq_true.1 h
      simp only [Bool.and_eq_true] at hk
      exact reach_listed hc j n k hk.2 (waits_listed hk.1 hr)

/-- what is shown of one operation -/
def Turns (P : Program) (ops : Array Oper) (Q : Exit → Act → World → Prop) (St : (Nat → Bool) → World → Prop) (R : Nat → World → World → Prop) (Ψ : Tmp → Value → World → Prop) (a0 : Act) (i : Nat) (o : Oper) : Prop :=
  ∀ (l : Nat → Bool) (a : Act) (w : World) (K : Act → World → Prop), (∀ j, reach ops ops.size j i = true → l j = false) → (∀ j, reach ops ops.size i j = true → l j = true) → l i = false → St l w → Fed ops Ψ a0 o a w →
    (∀ v w', R i w w' → St (upd l i) w' → (∀ t, o.dst = some t → Ψ t v w') → K (a.put o.dst v) w') → wpOp P ops Q i K a w

structure HalfS (ops : Array Oper) (St : (Nat → Bool) → World → Prop) (Ψ : Tmp → Value → World → Prop) (a0 : Act) (listed : Array Bool) (a : Act) (w : World) : Prop where
  len : listed.size = ops.size
  size : a.tmps.size = a0.tmps.size
  defers : a.defers = a0.defers
  st : St (fun j => listed.getD j false) w
  closed : ∀ j oj, ops[j]? = some oj → listed.getD j false = true → ∀ e ∈ oj.after, Region.binds .any e = true → listed.getD e.on false = true
  old : ∀ t, (∀ j oj, ops[j]? = some oj → oj.dst = some t → listed.getD j false = false) → a.tmps[t]? = a0.tmps[t]?
  new : ∀ j oj t, ops[j]? = some oj → oj.dst = some t → listed.getD j false = true → ∃ v, a.tmps[t]? = some v ∧ Ψ t v w

theorem HalfS.half {listed : Array Bool} {a : Act} {w : World} (H : HalfS ops St Ψ a0 listed a w) : Half ops (fun _ _ => True) Ψ a0 w listed a w :=
  ⟨H.len, H.size, H.defers, trivial, H.closed, H.old, H.new⟩

theorem HalfS.step {listed : Array Bool} {a : Act} {w w' : World} {i : Nat} {oi : Oper} {v : Value} (hio : inOrder ops = true)
    (hstab : ∀ i t v w w', (∀ j oj, ops[j]? = some oj → oj.dst = some t → j ≠ i ∧ reach ops ops.size j i = false) → R i w w' → Ψ t v w → Ψ t v w')
    (hin : ∀ t, oi.dst = some t → t < a0.tmps.size) (H : HalfS ops St Ψ a0 listed a w) (hi : ops[i]? = some oi) (hun : listed.getD i false = false) (hr : ∀ e ∈ oi.after, Region.binds .any e = true → listed.getD e.on false = true)
    (hR : R i w w') (hS : St (upd (fun j => listed.getD j false) i) w') (hv : ∀ t, oi.dst = some t → Ψ t v w') : HalfS ops St Ψ a0 (listed.setIfInBounds i true) (a.put oi.dst v) w' := by
  have hlt : i < listed.size := by rw [H.len]; exact (Array.getElem?_eq_some_iff.1 hi).1
  have hset : ∀ j, (listed.setIfInBounds i true).getD j false = if j = i then true else listed.getD j false := by
    intro j
    by_cases hj : j = i
    · subst hj; simp [Array.getD, hlt]
    · rw [if_neg hj, getD_set_ne false (fun e => hj e.symm)]
  have hput : ∀ t, (a.put oi.dst v).tmps[t]? = if oi.dst = some t then some v else a.tmps[t]? := by
    intro t
    cases hd : oi.dst with
    | none => simp [Act.put]
    | some d =>
      have hdl : d < a.tmps.size := by rw [H.size]; exact hin d hd
      by_cases e : d = t
      · subst e; simp [Act.put, hdl]
      · simp [Act.put, e, Array.getElem?_setIfInBounds_ne e]
  refine ⟨by simpa using H.len, ?_, ?_, ?_, ?_, ?_, ?_⟩
  · cases hd : oi.dst with
    | none => simpa [Act.put] using H.size
    | some d => simpa [Act.put] using H.size
  · cases hd : oi.dst with
    | none => simpa [Act.put] using H.defers
    | some d => simpa [Act.put] using H.defers
  · have : (fun j => (listed.setIfInBounds i true).getD j false) = upd (fun j => listed.getD j false) i := funext hset
    rw [this]
    exact hS
  · intro j oj hj hl e he hb
    rw [hset] at hl ⊢
    by_cases hji : j = i
    · subst hji
      rw [hi] at hj
      cases hj
      have := hr e he hb
      rw [this]
      split <;> rfl
    · rw [if_neg hji] at hl
      rw [H.closed j oj hj hl e he hb]
      split <;> rfl
  · intro t ht
    rw [hput]
    have hne : oi.dst ≠ some t := by
      intro e
      have := ht i oi hi e
      rw [hset, if_pos rfl] at this
      cases this
    rw [if_neg hne]
    refine H.old t fun j oj hj hd => ?_
    have := ht j oj hj hd
    rw [hset] at this
    by_cases hji : j = i
    · rw [if_pos hji] at this; cases this
    · rwa [if_neg hji] at this
  · intro j oj t hj hd hl
    rw [hput]
    by_cases hji : j = i
    · subst hji
      rw [hi] at hj
      cases hj
      rw [if_pos hd]
      exact ⟨v, rfl, hv t hd⟩
    · rw [hset, if_neg hji] at hl
      have hne : oi.dst ≠ some t := ((inOrder_spec hio hi).2 j oj t hj hd).1.resolve_left hji
      rw [if_neg hne]
      obtain ⟨u, hu, hΨ⟩ := H.new j oj t hj hd hl
      refine ⟨u, hu, hstab i t u w w' (fun k ok hk hkd => ?_) hR hΨ⟩
      have hkj : k = j := by
        rcases ((inOrder_spec hio hj).2 k ok t hk hkd).1 with h | h
        · exact h
        · exact absurd hd h
      subst hkj
      refine ⟨hji, ?_⟩
      cases hre : reach ops ops.size k i with
      | false => rfl
      | true =>
        have := reach_listed H.closed i ops.size k hre hl
        rw [hun] at this
        cases this

/-- every order -/
theorem turn_runs (hio : inOrder ops = true)
    (hstab : ∀ i t v w w', (∀ j oj, ops[j]? = some oj → oj.dst = some t → j ≠ i ∧ reach ops ops.size j i = false) → R i w w' → Ψ t v w → Ψ t v w') (hin : ∀ (i : Nat) oi t, ops[i]? = some oi → oi.dst = some t → t < a0.tmps.size)
    (hops : ∀ i oi, ops[i]? = some oi → Turns P ops Q St R Ψ a0 i oi) (hQ : ∀ listed a w, (∀ j oj, ops[j]? = some oj → listed.getD j false = true) → HalfS ops St Ψ a0 listed a w → Q .normal a w) :
    ∀ (n : Nat) (listed : Array Bool) (a : Act) (w : World), HalfS ops St Ψ a0 listed a w → unlisted listed = n → wpAny P .any ops Q n listed a w := by
  intro n
  induction n with
  | zero =>
    intro listed a w H hn
    have hall : ∀ j oj, ops[j]? = some oj → listed.getD j false = true := by
      intro j oj hj
      cases hl : listed.getD j false with
      | true => rfl
      | false =>
        have hjl : j < listed.size := by rw [H.len]; exact (Array.getElem?_eq_some_iff.1 hj).1
        have := unlisted_set hjl hl
        omega
    refine ⟨?_, hQ listed a w hall H⟩
    apply List.eq_nil_iff_forall_not_mem.2
    intro j hj
    obtain ⟨h0, o, ho, _⟩ := mem_ready.1 hj
    have := hall j o ho
    rw [getD_both' h0] at this
    cases this
  | succ n ih =>
    intro listed a w H hn
    refine ⟨fun hr => hQ listed a w (fun j oj hj => H.half.some_ready hio hr (j + 1) j oj (by omega) hj) H, fun i hi => ?_⟩
    obtain ⟨h0, oi, ho, hr⟩ := mem_ready.1 hi
    have hun := getD_both' h0
    have hlt : i < listed.size := by rw [H.len]; exact (Array.getElem?_eq_some_iff.1 ho).1
    refine hops i oi ho (fun j => listed.getD j false) a w _ (fun j hre => ?_) (fun j hre => reach_ready H.closed ho hr j ops.size hre) hun H.st (H.half.fed hio ho hun hr) fun v w' hR hS hv =>
      ih _ _ _ (H.step hio hstab (fun t ht => hin i oi t ho ht) ho hun hr hR hS hv) (by have := unlisted_set hlt hun; omega)
    show listed.getD j false = false
    cases hl : listed.getD j false with
    | false => rfl
    | true =>
      have := reach_listed H.closed i ops.size j hre hl
      rw [hun] at this
      cases this

/-- **A region that draws its order and turns memory.** -/
theorem region_turns {id : Nat} {w0 : World} (hm : P.follows .mixedOrders = true) (dsts : List Nat) (hd : ops.toList.filterMap (·.dst) = dsts) (hin : ∀ t ∈ dsts, t < a0.tmps.size) (hio : inOrder ops = true)
    (St : (Nat → Bool) → World → Prop) (R : Nat → World → World → Prop) (Ψ : Tmp → Value → World → Prop)
    (h0 : ∀ l : Nat → Bool, (∀ j, l j = false) → St l { w0 with drawn := w0.drawn + 1 })
    (hstab : ∀ i t v w w', (∀ j oj, ops[j]? = some oj → oj.dst = some t → j ≠ i ∧ reach ops ops.size j i = false) → R i w w' → Ψ t v w → Ψ t v w')
    (hops : ∀ i oi, ops[i]? = some oi → Turns P ops Q St R Ψ a0 i oi)
    (hQ : ∀ (l : Nat → Bool) (f : Nat → Value) (w : World), (∀ j, j < ops.size → l j = true) → St l w → (∀ t ∈ dsts, Ψ t (f t) w) → Q .normal { tmps := putAll dsts f a0.tmps, defers := a0.defers } w) :
    (Code.region id ops true).wp P Q a0 w0 := by
  have hmem : ∀ (i : Nat) oi t, ops[i]? = some oi → oi.dst = some t → t ∈ dsts := by
    intro i oi t hi ht
    rw [← hd, List.mem_filterMap]
    exact ⟨oi, by rw [← Array.mem_def]; exact Array.mem_of_getElem? hi, ht⟩
  refine wp_region_any hm ?_
  refine turn_runs (St := St) (R := R) (Ψ := Ψ) (a0 := a0) hio hstab (fun i oi t hi ht => hin t (hmem i oi t hi ht)) hops ?_ ops.size (Array.replicate ops.size false) a0 _ ?_ (by unfold unlisted; rw [Array.toList_replicate, List.countP_replicate]; simp)
  · intro listed a w hall H
    have hΨ : ∀ t ∈ dsts, Ψ t (a.tmps.getD t undef) w := by
      intro t ht
      rw [← hd, List.mem_filterMap] at ht
      obtain ⟨oi, hoi, hdst⟩ := ht
      obtain ⟨i, hi⟩ := List.getElem?_of_mem hoi
      rw [Array.getElem?_toList] at hi
      obtain ⟨v, hv, hΨ⟩ := H.new i oi t hi hdst (hall i oi hi)
      simp only [Array.getD_eq_getD_getElem?, hv, Option.getD_some]
      exact hΨ
    have this := hQ _ (fun t => a.tmps.getD t undef) w (fun j hj => hall j ops[j] (Array.getElem?_eq_getElem hj)) H.st hΨ
    have e : a = { tmps := putAll dsts (fun t => a.tmps.getD t undef) a0.tmps, defers := a0.defers } := by
      rcases a with ⟨ts, df⟩
      have hdf : df = a0.defers := H.defers
      subst hdf
      congr 1
      apply Array.ext_getElem?
      intro t
      have hsz : ts.size = a0.tmps.size := H.size
      rcases Nat.lt_or_ge t a0.tmps.size with hlt | hge
      · rw [putAll_get _ _ _ _ hlt]
        by_cases ht : t ∈ dsts
        · rw [if_pos ht]
          simp [Array.getD, hsz, hlt]
        · rw [if_neg ht]
          exact H.old t fun j oj hj hdst => absurd (hmem j oj t hj hdst) ht
      · rw [Array.getElem?_eq_none (by rw [hsz]; exact hge), Array.getElem?_eq_none (by rw [putAll_size]; exact hge)]
    rw [e]
    exact this
  · refine ⟨by simp, rfl, rfl, h0 _ (fun j => by by_cases h : j < ops.size <;> simp [Array.getD, h]), ?_, fun _ _ => rfl, ?_⟩
    · intro j oj hj hl
      simp [Array.getD] at hl
    · intro j oj t hj _ hl
      simp [Array.getD] at hl

def AllTurn (P : Program) (ops : Array Oper) (Q : Exit → Act → World → Prop) (St : (Nat → Bool) → World → Prop) (R : Nat → World → World → Prop) (Ψ : Tmp → Value → World → Prop) (a0 : Act) : Nat → List Oper → Prop
  | _, [] => True
  | n, o :: l => Turns P ops Q St R Ψ a0 n o ∧ AllTurn P ops Q St R Ψ a0 (n + 1) l

theorem AllTurn.at_ : ∀ (l : List Oper) (n : Nat), AllTurn P ops Q St R Ψ a0 n l → ∀ i o, l[i]? = some o → Turns P ops Q St R Ψ a0 (n + i) o
  | [], _, _, _, _, h => by cases h
  | o :: l, n, h, 0, o', ho => by cases ho; exact h.1
  | o :: l, n, h, i + 1, o', ho => by
    have := AllTurn.at_ l (n + 1) h.2 i o' ho
    rwa [Nat.add_assoc, Nat.add_comm 1 i] at this

theorem turns_of_all {l : List Oper} (hl : ops.toList = l) (h : AllTurn P ops Q St R Ψ a0 0 l) : ∀ (i : Nat) (oi : Oper), ops[i]? = some oi → Turns P ops Q St R Ψ a0 i oi := by
  intro i oi hi
  have := AllTurn.at_ l 0 h i oi (by rw [← hl, Array.getElem?_toList]; exact hi)
  rwa [Nat.zero_add] at this
end
/-! ### two steps that turn memory -/
def Staged (k1 k2 : Nat) (A B C : World → Prop) (l : Nat → Bool) (w : World) : Prop := if l k2 = true then C w else if l k1 = true then B w else A w
section
variable {k1 k2 i : Nat} {A B C : World → Prop} {l : Nat → Bool} {w : World}
theorem Staged.same (h : Staged k1 k2 A B C l w) (h1 : k1 ≠ i) (h2 : k2 ≠ i) : Staged k1 k2 A B C (upd l i) w := by
  unfold Staged upd at *
  rw [if_neg h1, if_neg h2]
  exact h
theorem Staged.first (h : Staged k1 k2 A B C l w) (h1 : l k1 = false) (h2 : l k2 = false) : A w := by
  unfold Staged at h
  rwa [h1, h2, if_neg (by simp), if_neg (by simp)] at h
theorem Staged.mid (h : Staged k1 k2 A B C l w) (h1 : l k1 = true) (h2 : l k2 = false) : B w := by
  unfold Staged at h
  rwa [h1, h2, if_neg (by simp), if_pos rfl] at h
theorem Staged.last (h : Staged k1 k2 A B C l w) (h2 : l k2 = true) : C w := by
  unfold Staged at h
  rwa [h2, if_pos rfl] at h
theorem Staged.stay {w' : World} (h : A w') (h1 : l k1 = false) (h2 : l k2 = false) (n1 : k1 ≠ i) (n2 : k2 ≠ i) : Staged k1 k2 A B C (upd l i) w' := by
  unfold Staged upd
  rw [if_neg n1, if_neg n2, h1, h2, if_neg (by simp), if_neg (by simp)]
  exact h
theorem Staged.start (h : A w) (h1 : l k1 = false) (h2 : l k2 = false) : Staged k1 k2 A B C l w := by
  unfold Staged
  rw [h1, h2, if_neg (by simp), if_neg (by simp)]
  exact h
theorem Staged.toMid (h : B w) (h2 : l k2 = false) (hne : k2 ≠ k1) : Staged k1 k2 A B C (upd l k1) w := by
  unfold Staged upd
  rw [if_neg hne, h2, if_neg (by simp), if_pos (by simp)]
  exact h
theorem Staged.toLast (h : C w) : Staged k1 k2 A B C (upd l k2) w := by
  unfold Staged upd
  rw [if_pos (by simp)]
  exact h
end

/-- what an operation may turn: blocks that G names -/
def Moved (G : Nat → Nat → Prop) (i : Nat) (w w' : World) : Prop := w.heap.size ≤ w'.heap.size ∧ ∀ k, k < w.heap.size → ¬ G i k → w'.heap[k]? = w.heap[k]?
theorem Moved.refl (G : Nat → Nat → Prop) (i : Nat) (w : World) : Moved G i w w := ⟨Nat.le_refl _, fun _ _ _ => rfl⟩

theorem op_stored {P : Program} {ops : Array Oper} {Q : Exit → Act → World → Prop} {i : Nat} {o : Oper} {a : Act} {w w' : World} {K : Act → World → Prop} (hi : ops[i]? = some o) (hw : Region.wanted o (yielded ops a.tmps) = true)
    (hr : (execOp a.eval o).run P w = .ok .skip w') (h : K (a.put o.dst undef) w') : wpOp P ops Q i K a w := by
  unfold wpOp
  simp only [hi, hw, if_true, Oper.wp, hr, Oper.upon]
  exact .inl h

end Go.Proofs.Ytcbdlggjpedffaa
