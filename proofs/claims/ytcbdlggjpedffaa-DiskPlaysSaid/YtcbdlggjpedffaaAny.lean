/- A region that draws its order, one operation at a time: what each operation leaves in its slot is said beforehand, and each is shown to leave it wherever what it looks at has been left; then every order that the region's edges allow leaves all of it. No program is named here; no condition. -/
import Derived.Orders
import Derived.KernelRfl
import Derived.WalkKit
namespace Go.Proofs.Ytcbdlggjpedffaa
open Go

/-- this operation waits for number j -/
def waitsFor (o : Oper) (j : Nat) : Bool := o.after.any fun e => Region.binds .any e && e.on == j
/-- slot t is written by an operation that this one waits for -/
def fedBy (ops : Array Oper) (o : Oper) (t : Tmp) : Bool := (List.range ops.size).any fun j => match ops[j]? with | some oj => oj.dst == some t && waitsFor o j | none => false

/-- the edges go back; a slot is written once; a slot that an operation looks at is written by one that it waits for, or by one that waits for it -/
def inOrder (ops : Array Oper) : Bool := (List.range ops.size).all fun i => match ops[i]? with
  | none => true
  | some oi => oi.after.all (fun e => !Region.binds .any e || decide (e.on < i)) && (List.range ops.size).all fun j => match ops[j]? with
    | none => true
    | some oj => match oj.dst with
      | none => true
      | some d => (j == i || oi.dst != some d) && (!(oi.looksAt ops).contains d || waitsFor oi j || waitsFor oj i || j == i)

section
variable {P : Program} {ops : Array Oper} {Q : Exit → Act → World → Prop} {R : World → World → Prop} {Ψ : Tmp → Value → World → Prop} {a0 : Act} {w0 : World}

/-- what an operation may lean on -/
def Fed (ops : Array Oper) (Ψ : Tmp → Value → World → Prop) (a0 : Act) (o : Oper) (a : Act) (w : World) : Prop :=
  ∀ t ∈ o.looksAt ops, if fedBy ops o t = true then ∃ v, a.tmps[t]? = some v ∧ Ψ t v w else a.tmps[t]? = a0.tmps[t]?

/-- what is shown of one operation -/
def Leaves (P : Program) (ops : Array Oper) (Q : Exit → Act → World → Prop) (R : World → World → Prop) (Ψ : Tmp → Value → World → Prop) (a0 : Act) (w0 : World) (i : Nat) (o : Oper) : Prop :=
  ∀ (a : Act) (w : World) (K : Act → World → Prop), R w0 w → Fed ops Ψ a0 o a w → (∀ v w', R w w' → (∀ t, o.dst = some t → Ψ t v w') → K (a.put o.dst v) w') → wpOp P ops Q i K a w

structure Half (ops : Array Oper) (R : World → World → Prop) (Ψ : Tmp → Value → World → Prop) (a0 : Act) (w0 : World) (listed : Array Bool) (a : Act) (w : World) : Prop where
  len : listed.size = ops.size
  size : a.tmps.size = a0.tmps.size
  defers : a.defers = a0.defers
  rel : R w0 w
  closed : ∀ j oj, ops[j]? = some oj → listed.getD j false = true → ∀ e ∈ oj.after, Region.binds .any e = true → listed.getD e.on false = true
  old : ∀ t, (∀ j oj, ops[j]? = some oj → oj.dst = some t → listed.getD j false = false) → a.tmps[t]? = a0.tmps[t]?
  new : ∀ j oj t, ops[j]? = some oj → oj.dst = some t → listed.getD j false = true → ∃ v, a.tmps[t]? = some v ∧ Ψ t v w

theorem inOrder_spec (h : inOrder ops = true) {i : Nat} {oi : Oper} (hi : ops[i]? = some oi) :
    (∀ e ∈ oi.after, Region.binds .any e = true → e.on < i) ∧ ∀ j oj d, ops[j]? = some oj → oj.dst = some d → (j = i ∨ oi.dst ≠ some d) ∧ (d ∈ oi.looksAt ops → waitsFor oi j = true ∨ waitsFor oj i = true ∨ j = i) := by
  have hlt : i < ops.size := (Array.getElem?_eq_some_iff.1 hi).1
  have h1 := List.all_eq_true.1 h i (List.mem_range.2 hlt)
  rw [hi] at h1
  simp only [Bool.and_eq_true] at h1
  refine ⟨fun e he hb => by have := Array.all_eq_true_iff_forall_mem.1 h1.1 e he; simp only [hb, Bool.not_true, Bool.false_or, decide_eq_true_eq] at this; exact this, fun j oj d hj hd => ?_⟩
  have hjlt : j < ops.size := (Array.getElem?_eq_some_iff.1 hj).1
  have h2 := List.all_eq_true.1 h1.2 j (List.mem_range.2 hjlt)
  simp only [hj, hd, Bool.and_eq_true, Bool.or_eq_true, Bool.not_eq_true', beq_iff_eq, bne_iff_ne, ne_eq] at h2
  refine ⟨h2.1, fun hm => ?_⟩
  rcases h2.2 with ((h3 | h3) | h3) | h3
  · exfalso
    have : (oi.looksAt ops).contains d = true := List.contains_iff_mem.2 hm
    rw [this] at h3
    cases h3
  · exact .inl h3
  · exact .inr (.inl h3)
  · exact .inr (.inr h3)

theorem waits_listed {o : Oper} {j : Nat} {listed : Array Bool} (h : waitsFor o j = true) (hr : ∀ e ∈ o.after, Region.binds .any e = true → listed.getD e.on false = true) : listed.getD j false = true := by
  obtain ⟨e, he, hb⟩ := Array.any_eq_true'.1 h
  simp only [Bool.and_eq_true, beq_iff_eq] at hb
  have := hr e he hb.1
  rwa [hb.2] at this

theorem getD_both' {listed : Array Bool} {i : Nat} (h : listed.getD i true = false) : listed.getD i false = false := by
  rcases Nat.lt_or_ge i listed.size with hlt | hge
  · simp [Array.getD, hlt] at h ⊢; exact h
  · simp [Array.getD, Nat.not_lt.2 hge]

/-- what is ready leans on what has been left -/
theorem Half.fed {listed : Array Bool} {a : Act} {w : World} {i : Nat} {oi : Oper} (hio : inOrder ops = true) (H : Half ops R Ψ a0 w0 listed a w) (hi : ops[i]? = some oi) (hun : listed.getD i false = false)
    (hr : ∀ e ∈ oi.after, Region.binds .any e = true → listed.getD e.on false = true) : Fed ops Ψ a0 oi a w := by
  intro t ht
  by_cases hf : fedBy ops oi t = true
  · rw [if_pos hf]
    obtain ⟨j, hj, hb⟩ := List.any_eq_true.1 hf
    cases ho : ops[j]? with
    | none => rw [ho] at hb; cases hb
    | some oj =>
      rw [ho] at hb
      simp only [Bool.and_eq_true, beq_iff_eq] at hb
      exact H.new j oj t ho hb.1 (waits_listed hb.2 hr)
  · rw [if_neg hf]
    refine H.old t fun j oj hj hd => ?_
    rcases (inOrder_spec hio hi).2 j oj t hj hd |>.2 ht with h | h | h
    · exfalso
      apply hf
      refine List.any_eq_true.2 ⟨j, List.mem_range.2 (Array.getElem?_eq_some_iff.1 hj).1, ?_⟩
      rw [hj]
      simp [hd, h]
    · cases hl : listed.getD j false with
      | false => rfl
      | true =>
        have := waits_listed h (H.closed j oj hj hl)
        rw [hun] at this
        cases this
    · subst h
      exact hun

theorem Half.step {listed : Array Bool} {a : Act} {w w' : World} {i : Nat} {oi : Oper} {v : Value} (hio : inOrder ops = true) (hstab : ∀ t v w w', R w w' → Ψ t v w → Ψ t v w') (htrans : ∀ x y z, R x y → R y z → R x z)
    (hin : ∀ t, oi.dst = some t → t < a0.tmps.size) (H : Half ops R Ψ a0 w0 listed a w) (hi : ops[i]? = some oi) (hr : ∀ e ∈ oi.after, Region.binds .any e = true → listed.getD e.on false = true)
    (hR : R w w') (hv : ∀ t, oi.dst = some t → Ψ t v w') : Half ops R Ψ a0 w0 (listed.setIfInBounds i true) (a.put oi.dst v) w' := by
  have hlt : i < listed.size := by rw [H.len]; exact (Array.getElem?_eq_some_iff.1 hi).1
  have hset : ∀ j, (listed.setIfInBounds i true).getD j false = if j = i then true else listed.getD j false := by
    intro j
    by_cases hj : j = i
    · subst hj; simp [Array.getD, hlt]
    · rw [if_neg hj, getD_set_ne false (fun e => hj e.symm)]
  have hput : ∀ t, (a.put oi.dst v).tmps[t]? = if oi.dst = some t then some v else a.tmps[t]? := by
    intro t
    cases hd : oi.dst with
    | none => simp [Act.put]
    | some d =>
      have hdl : d < a.tmps.size := by rw [H.size]; exact hin d hd
      by_cases e : d = t
      · subst e; simp [Act.put, hdl]
      · simp [Act.put, e, Array.getElem?_setIfInBounds_ne e]
  refine ⟨by simpa using H.len, ?_, ?_, htrans _ _ _ H.rel hR, ?_, ?_, ?_⟩
  · cases hd : oi.dst with
    | none => simpa [Act.put] using H.size
    | some d => simpa [Act.put] using H.size
  · cases hd : oi.dst with
    | none => simpa [Act.put] using H.defers
    | some d => simpa [Act.put] using H.defers
  · intro j oj hj hl e he hb
    rw [hset] at hl ⊢
    by_cases hji : j = i
    · subst hji
      rw [hi] at hj
      cases hj
      have := hr e he hb
      rw [this]
      split <;> rfl
    · rw [if_neg hji] at hl
      rw [H.closed j oj hj hl e he hb]
      split <;> rfl
  · intro t ht
    rw [hput]
    have hne : oi.dst ≠ some t := by
      intro e
      have := ht i oi hi e
      rw [hset, if_pos rfl] at this
      cases this
    rw [if_neg hne]
    refine H.old t fun j oj hj hd => ?_
    have := ht j oj hj hd
    rw [hset] at this
    by_cases hji : j = i
    · rw [if_pos hji] at this; cases this
    · rwa [if_neg hji] at this
  · intro j oj t hj hd hl
    rw [hput]
    by_cases hji : j = i
    · subst hji
      rw [hi] at hj
      cases hj
      rw [if_pos hd]
      exact ⟨v, rfl, hv t hd⟩
    · rw [hset, if_neg hji] at hl
      have hne : oi.dst ≠ some t := ((inOrder_spec hio hi).2 j oj t hj hd).1.resolve_left hji
      rw [if_neg hne]
      obtain ⟨u, hu, hΨ⟩ := H.new j oj t hj hd hl
      exact ⟨u, hu, hstab t u w w' hR hΨ⟩

/-- if any is left, one is ready -/
theorem Half.some_ready {listed : Array Bool} {a : Act} {w : World} (hio : inOrder ops = true) (H : Half ops R Ψ a0 w0 listed a w) (hr : Region.ready .any ops listed = []) :
    ∀ n, ∀ j oj, j < n → ops[j]? = some oj → listed.getD j false = true := by
  intro n
  induction n with
  | zero => intro j oj hj; omega
  | succ n ih =>
    intro j oj hj ho
    rcases Nat.lt_or_ge j n with h | h
    · exact ih j oj h ho
    · obtain rfl : j = n := by omega
      cases hl : listed.getD j false with
      | true => rfl
      | false =>
        exfalso
        have hjl : j < listed.size := by rw [H.len]; exact (Array.getElem?_eq_some_iff.1 ho).1
        have : j ∈ Region.ready .any ops listed := by
          rw [mem_ready]
          refine ⟨by simp [Array.getD, hjl] at hl ⊢; exact hl, oj, ho, fun e he hbd => ?_⟩
          have hon := (inOrder_spec hio ho).1 e he hbd
          have hes : e.on < ops.size := by have := (Array.getElem?_eq_some_iff.1 ho).1; omega
          exact ih e.on ops[e.on] hon (Array.getElem?_eq_getElem hes)
        rw [hr] at this
        cases this

def unlisted (listed : Array Bool) : Nat := listed.toList.countP fun b => !b

theorem unlisted_set {listed : Array Bool} {i : Nat} (hlt : i < listed.size) (h : listed.getD i false = false) : unlisted (listed.setIfInBounds i true) + 1 = unlisted listed := by
  unfold unlisted
  have hx : listed.toList[i]? = some false := by
    rw [Array.getElem?_toList, Array.getElem?_eq_getElem hlt]
    simp [Array.getD, hlt] at h
    rw [h]
  rw [Array.toList_setIfInBounds]
  generalize listed.toList = l at *
  clear h hlt
  induction l generalizing i with
  | nil => simp at hx
  | cons b l ih =>
    cases i with
    | zero => simp at hx; subst hx; simp
    | succ i =>
      simp only [List.getElem?_cons_succ] at hx
      have := ih hx
      simp only [List.set_cons_succ, List.countP_cons]
      omega

/-- every order -/
theorem any_runs (hio : inOrder ops = true) (hstab : ∀ t v w w', R w w' → Ψ t v w → Ψ t v w') (htrans : ∀ x y z, R x y → R y z → R x z) (hin : ∀ (i : Nat) oi t, ops[i]? = some oi → oi.dst = some t → t < a0.tmps.size)
    (hops : ∀ i oi, ops[i]? = some oi → Leaves P ops Q R Ψ a0 w0 i oi) (hQ : ∀ listed a w, (∀ j oj, ops[j]? = some oj → listed.getD j false = true) → Half ops R Ψ a0 w0 listed a w → Q .normal a w) :
    ∀ (n : Nat) (listed : Array Bool) (a : Act) (w : World), Half ops R Ψ a0 w0 listed a w → unlisted listed = n → wpAny P .any ops Q n listed a w := by
  intro n
  induction n with
  | zero =>
    intro listed a w H hn
    have hall : ∀ j oj, ops[j]? = some oj → listed.getD j false = true := by
      intro j oj hj
      cases hl : listed.getD j false with
      | true => rfl
      | false =>
        have hjl : j < listed.size := by rw [H.len]; exact (Array.getElem?_eq_some_iff.1 hj).1
        have := unlisted_set hjl hl
        omega
    refine ⟨?_, hQ listed a w hall H⟩
    apply List.eq_nil_iff_forall_not_mem.2
    intro j hj
    obtain ⟨h0, o, ho, _⟩ := mem_ready.1 hj
    have := hall j o ho
    rw [getD_both' h0] at this
    cases this
  | succ n ih =>
    intro listed a w H hn
    refine ⟨fun hr => hQ listed a w (fun j oj hj => H.some_ready hio hr (j + 1) j oj (by omega) hj) H, fun i hi => ?_⟩
    obtain ⟨h0, oi, ho, hr⟩ := mem_ready.1 hi
    have hun := getD_both' h0
    have hlt : i < listed.size := by rw [H.len]; exact (Array.getElem?_eq_some_iff.1 ho).1
    exact hops i oi ho a w _ H.rel (H.fed hio ho hun hr) fun v w' hR hv =>
      ih _ _ _ (H.step hio hstab htrans (fun t ht => hin i oi t ho ht) ho hr hR hv) (by have := unlisted_set hlt hun; omega)

/-- the slots of the region, as f says, over a frame -/
def putAll (dsts : List Nat) (f : Nat → Value) (ts : Array Value) : Array Value := dsts.foldl (fun ts t => ts.setIfInBounds t (f t)) ts

theorem putAll_size (dsts : List Nat) (f : Nat → Value) : ∀ ts : Array Value, (putAll dsts f ts).size = ts.size := by
  induction dsts with
  | nil => intro ts; rfl
  | cons d dsts ih => intro ts; unfold putAll at *; rw [List.foldl_cons, ih]; simp

theorem putAll_get (dsts : List Nat) (f : Nat → Value) : ∀ (ts : Array Value) (t : Nat), t < ts.size → (putAll dsts f ts)[t]? = if t ∈ dsts then some (f t) else ts[t]? := by
  induction dsts with
  | nil => intro ts t _; simp [putAll]
  | cons d dsts ih =>
    intro ts t ht
    have := ih (ts.setIfInBounds d (f d)) t (by simpa using ht)
    unfold putAll at *
    rw [List.foldl_cons, this]
    by_cases h1 : t ∈ dsts
    · rw [if_pos h1, if_pos (List.mem_cons_of_mem _ h1)]
    · rw [if_neg h1]
      by_cases h2 : d = t
      · subst h2
        rw [if_pos (List.mem_cons_self)]
        simp [ht]
      · rw [if_neg (by simp [h1]; exact fun e => h2 e.symm), Array.getElem?_setIfInBounds_ne h2]

/-- **A region that draws its order.** -/
theorem region_any {id : Nat} (hm : P.follows .mixedOrders = true) (dsts : List Nat) (hd : ops.toList.filterMap (·.dst) = dsts) (hin : ∀ t ∈ dsts, t < a0.tmps.size) (hio : inOrder ops = true)
    (R : World → World → Prop) (Ψ : Tmp → Value → World → Prop) (hrefl : ∀ x, R x x) (hstab : ∀ t v w w', R w w' → Ψ t v w → Ψ t v w') (htrans : ∀ x y z, R x y → R y z → R x z)
    (hops : ∀ i oi, ops[i]? = some oi → Leaves P ops Q R Ψ a0 { w0 with drawn := w0.drawn + 1 } i oi)
    (hQ : ∀ (f : Nat → Value) (w : World), R { w0 with drawn := w0.drawn + 1 } w → (∀ t ∈ dsts, Ψ t (f t) w) → Q .normal { tmps := putAll dsts f a0.tmps, defers := a0.defers } w) :
    (Code.region id ops true).wp P Q a0 w0 := by
  have hmem : ∀ (i : Nat) oi t, ops[i]? = some oi → oi.dst = some t → t ∈ dsts := by
    intro i oi t hi ht
    rw [← hd, List.mem_filterMap]
    exact ⟨oi, by rw [← Array.mem_def]; exact Array.mem_of_getElem? hi, ht⟩
  refine wp_region_any hm ?_
  refine any_runs (R := R) (Ψ := Ψ) (a0 := a0) (w0 := { w0 with drawn := w0.drawn + 1 }) hio hstab htrans (fun i oi t hi ht => hin t (hmem i oi t hi ht)) hops ?_ ops.size (Array.replicate ops.size false) a0 _ ?_ (by unfold unlisted; rw [Array.toList_replicate, List.countP_replicate]; simp)
  · intro listed a w hall H
    have hΨ : ∀ t ∈ dsts, Ψ t (a.tmps.getD t undef) w := by
      intro t ht
      rw [← hd, List.mem_filterMap] at ht
      obtain ⟨oi, hoi, hdst⟩ := ht
      obtain ⟨i, hi⟩ := List.getElem?_of_mem hoi
      rw [Array.getElem?_toList] at hi
      obtain ⟨v, hv, hΨ⟩ := H.new i oi t hi hdst (hall i oi hi)
      simp only [Array.getD_eq_getD_getElem?, hv, Option.getD_some]
      exact hΨ
    have this := hQ (fun t => a.tmps.getD t undef) w H.rel hΨ
    have e : a = { tmps := putAll dsts (fun t => a.tmps.getD t undef) a0.tmps, defers := a0.defers } := by
      rcases a with ⟨ts, df⟩
      have hdf : df = a0.defers := H.defers
      subst hdf
      congr 1
      apply Array.ext_getElem?
      intro t
      have hsz : ts.size = a0.tmps.size := H.size
      rcases Nat.lt_or_ge t a0.tmps.size with hlt | hge
      · rw [putAll_get _ _ _ _ hlt]
        by_cases ht : t ∈ dsts
        · rw [if_pos ht]
          simp [Array.getD, hsz, hlt]
        · rw [if_neg ht]
          exact H.old t fun j oj hj hdst => absurd (hmem j oj t hj hdst) ht
      · rw [Array.getElem?_eq_none (by rw [hsz]; exact hge), Array.getElem?_eq_none (by rw [putAll_size]; exact hge)]
    rw [e]
    exact this
  · refine ⟨by simp, rfl, rfl, hrefl _, ?_, fun _ _ => rfl, ?_⟩
    · intro j oj hj hl
      simp [Array.getD] at hl
    · intro j oj t hj _ hl
      simp [Array.getD] at hl

/-! ### one operation -/
theorem op_value {i : Nat} {o : Oper} {a : Act} {w w' : World} {K : Act → World → Prop} {v : Value} (hi : ops[i]? = some o) (hw : Region.wanted o (yielded ops a.tmps) = true)
    (hr : (execOp a.eval o).run P w = .ok (.value v) w') (h : K (a.put o.dst v) w') : wpOp P ops Q i K a w := by
  unfold wpOp
  simp only [hi, hw, if_true, Oper.wp, hr, Oper.upon]
  exact .inl h

theorem op_skip {i : Nat} {o : Oper} {a : Act} {w : World} {K : Act → World → Prop} (hi : ops[i]? = some o) (hw : Region.wanted o (yielded ops a.tmps) = false) (h : K (a.put o.dst undef) w) : wpOp P ops Q i K a w := by
  unfold wpOp
  simp only [hi, hw, Bool.false_eq_true, if_false]
  exact h

theorem op_call {i : Nat} {o : Oper} {a : Act} {w : World} {K : Act → World → Prop} {g : FuncId} {args : Array Value} (hi : ops[i]? = some o) (hw : Region.wanted o (yielded ops a.tmps) = true)
    (hr : (execOp a.eval o).run P w = .ok (.enter g args) w) (h : Calls P g args w fun e w'' => ∃ v, e = .returned v ∧ K (a.put o.dst v) w'') : wpOp P ops Q i K a w := by
  unfold wpOp
  simp only [hi, hw, if_true, Oper.wp, hr, Oper.upon]
  refine .inl (h.mono ?_)
  rintro e w'' ⟨v, rfl, hk⟩
  exact hk

theorem eval_of {a : Act} {t : Tmp} {v : Value} (h : a.tmps[t]? = some v) : a.eval (.tmp t) = v := by
  simp [Act.eval, Array.getD_eq_getD_getElem?, h]

theorem wanted_none {o : Oper} {y : Nat → Option Bool} (h : o.guard = none) : Region.wanted o y = true := by simp [Region.wanted, h]
theorem wanted_some {o : Oper} {a : Act} {g : Nat} {b c : Bool} {t : Tmp} (h : o.guard = some (g, b)) (hd : (ops[g]?).bind (·.dst) = some t) (hv : a.tmps[t]? = some (.bool c)) : Region.wanted o (yielded ops a.tmps) = (c == b) := by
  simp [Region.wanted, h, yielded, hd, hv]
theorem wanted_yes {o : Oper} {a : Act} {g : Nat} {b : Bool} {t : Tmp} (h : o.guard = some (g, b)) (hd : (ops[g]?).bind (·.dst) = some t) (hv : a.tmps[t]? = some (.bool b)) : Region.wanted o (yielded ops a.tmps) = true := by
  rw [wanted_some h hd hv, beq_self_eq_true]
theorem wanted_no {o : Oper} {a : Act} {g : Nat} {b c : Bool} {t : Tmp} (hcb : (c == b) = false) (h : o.guard = some (g, b)) (hd : (ops[g]?).bind (·.dst) = some t) (hv : a.tmps[t]? = some (.bool c)) : Region.wanted o (yielded ops a.tmps) = false := by
  rw [wanted_some h hd hv, hcb]
theorem wanted_undef {o : Oper} {a : Act} {g : Nat} {b : Bool} {t : Tmp} (h : o.guard = some (g, b)) (hd : (ops[g]?).bind (·.dst) = some t) (hv : a.tmps[t]? = some undef) : Region.wanted o (yielded ops a.tmps) = false := by
  simp [Region.wanted, h, yielded, hd, hv, undef]

/-- operation by operation -/
def AllLeave (P : Program) (ops : Array Oper) (Q : Exit → Act → World → Prop) (R : World → World → Prop) (Ψ : Tmp → Value → World → Prop) (a0 : Act) (w0 : World) : Nat → List Oper → Prop
  | _, [] => True
  | i, o :: l => Leaves P ops Q R Ψ a0 w0 i o ∧ AllLeave P ops Q R Ψ a0 w0 (i + 1) l

theorem AllLeave.at_ : ∀ (l : List Oper) (n : Nat), AllLeave P ops Q R Ψ a0 w0 n l → ∀ i o, l[i]? = some o → Leaves P ops Q R Ψ a0 w0 (n + i) o
  | [], _, _, i, o, h => by simp at h
  | x :: l, n, hA, 0, o, h => by simp at h; subst h; exact hA.1
  | x :: l, n, hA, i + 1, o, h => by
    have := AllLeave.at_ l (n + 1) hA.2 i o (by simpa using h)
    rwa [show n + (i + 1) = n + 1 + i by omega]

theorem hops_of_all {l : List Oper} (hl : ops.toList = l) (h : AllLeave P ops Q R Ψ a0 w0 0 l) : ∀ (i : Nat) (oi : Oper), ops[i]? = some oi → Leaves P ops Q R Ψ a0 w0 i oi := by
  intro i oi hi
  have := AllLeave.at_ l 0 h i oi (by rw [← hl, Array.getElem?_toList]; exact hi)
  rwa [Nat.zero_add] at this

/-- what a slot holds: just this, or what Sp says -/
def Says (X : Nat → Option Value) (Sp : Nat → Value → World → Prop) (t : Tmp) (v : Value) (w : World) : Prop := (∀ c, X t = some c → v = c) ∧ Sp t v w

theorem fed {o : Oper} {a : Act} {w : World} (h : Fed ops Ψ a0 o a w) (t : Tmp) (hm : (o.looksAt ops).contains t = true) (hf : fedBy ops o t = true) : ∃ v, a.tmps[t]? = some v ∧ Ψ t v w := by
  have := h t (List.contains_iff_mem.1 hm)
  rwa [if_pos hf] at this
theorem fedX {X : Nat → Option Value} {Sp : Nat → Value → World → Prop} {o : Oper} {a : Act} {w : World} (h : Fed ops (Says X Sp) a0 o a w) (t : Tmp) (c : Value) (hm : (o.looksAt ops).contains t = true) (hf : fedBy ops o t = true) (hx : X t = some c) : a.tmps[t]? = some c := by
  obtain ⟨v, hv, hs⟩ := fed h t hm hf
  rw [hv, hs.1 c hx]
theorem unfed {o : Oper} {a : Act} {w : World} {c : Value} (h : Fed ops Ψ a0 o a w) (t : Tmp) (hm : (o.looksAt ops).contains t = true) (hf : fedBy ops o t = false) (ha : a0.tmps[t]? = some c) : a.tmps[t]? = some c := by
  have := h t (List.contains_iff_mem.1 hm)
  rw [if_neg (by rw [hf]; exact Bool.false_ne_true)] at this
  exact this.trans ha

theorem says_exact {X : Nat → Option Value} {Sp : Nat → Value → World → Prop} {v : Value} {w : World} (d : Nat) (hx : X d = some v) (hs : Sp d v w) : ∀ t, some d = some t → Says X Sp t v w := by
  intro t ht
  cases ht
  exact ⟨fun c hc => Option.some.inj (hx.symm.trans hc), hs⟩
theorem says_special {X : Nat → Option Value} {Sp : Nat → Value → World → Prop} {v : Value} {w : World} (d : Nat) (hx : X d = none) (hs : Sp d v w) : ∀ t, some d = some t → Says X Sp t v w := by
  intro t ht
  cases ht
  exact ⟨fun c hc => (by rw [hx] at hc; cases hc), hs⟩

theorem run_move' {a : Act} {o : Oper} {x : Operand} {v : Value} (h : o.op = .move x) (he : a.eval x = v) (w : World) : (execOp a.eval o).run P w = .ok (.value v) w := by
  subst he; unfold execOp; rw [h]; rfl
theorem run_assign' {a : Act} {o : Oper} {x : Operand} {v : Value} (h : o.op = .assign x) (he : a.eval x = v) (w : World) : (execOp a.eval o).run P w = .ok (.value v) w := by
  subst he; unfold execOp; rw [h]; rfl

end
end Go.Proofs.Ytcbdlggjpedffaa
