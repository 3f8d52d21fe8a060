/- Words on memory that the walks of this seat use: what it is for a slice value to read as a list of cells. No program is named here; no condition. -/
import Derived.WalkKit
import Derived.Lib.Hide
import Derived.Maps.AppendAt
import Derived.Deep.AppendLies
import Derived.ChangeSame
import Derived.Deep.QuietTactic
namespace Go.Proofs.Ytcbdlggjpedffaa
open Go.RowKit Go.WideShapes Go.ChangeShapes

/-- The slice v has just the cells xs, in a block below B. -/
def Rd (w : World) (B : Nat) (v : Value) (xs : List Value) : Prop :=
  ∃ A c, v = .slice A xs.length c ∧ xs.length ≤ c ∧ c ≤ maxLen ∧ (A = none → c = 0) ∧
    (xs ≠ [] → ∃ b o, A = some ⟨b, o, none⟩ ∧ b < B ∧ ∀ j u, xs[j]? = some u → w.cell? ⟨b, o + j, none⟩ = some u)

section
variable {w w' : World} {B B' : Nat} {v : Value} {xs : List Value}

theorem Rd.nil (w : World) (B : Nat) : Rd w B (.slice none 0 0) [] :=
  ⟨none, 0, rfl, Nat.le_refl _, Nat.zero_le _, fun _ => rfl, fun h => absurd rfl h⟩

theorem Rd.below (h : Rd w B v xs) (hb : Below B w w') : Rd w' B v xs := by
  obtain ⟨A, c, hv, h1, h2, h3, h4⟩ := h
  refine ⟨A, c, hv, h1, h2, h3, fun hne => ?_⟩
  obtain ⟨b, o, hA, hlt, hc⟩ := h4 hne
  exact ⟨b, o, hA, hlt, fun j u hu => (hb.cell (p := ⟨b, o + j, none⟩) hlt).trans (hc j u hu)⟩

theorem Rd.mono (h : Rd w B v xs) (hB : B ≤ B') : Rd w B' v xs := by
  obtain ⟨A, c, hv, h1, h2, h3, h4⟩ := h
  refine ⟨A, c, hv, h1, h2, h3, fun hne => ?_⟩
  obtain ⟨b, o, hA, hlt, hc⟩ := h4 hne
  exact ⟨b, o, hA, by omega, hc⟩

/-- over a step that leaves all below the world's end as it was -/
theorem Rd.on (h : Rd w w.heap.size v xs) (hb : Below w.heap.size w w') : Rd w' w'.heap.size v xs := (h.below hb).mono hb.size

theorem Rd.drewN (h : Rd w B v xs) (k : Nat) : Rd (w.drewN k) B v xs := h

theorem Rd.of_own {base e : Nat} {n : Nat} (h : w.ownsRow base e 1 v n xs) : Rd w w.heap.size v xs := by
  obtain ⟨hl, h⟩ := h
  rw [Nat.mul_one] at hl
  rcases h with ⟨rfl, rfl⟩ | ⟨g, cap, cur, rfl, hg, hh, h1, h2, h3, h4⟩
  · obtain rfl : xs = [] := List.eq_nil_of_length_eq_zero hl
    exact Rd.nil _ _
  · refine ⟨some ⟨g, 0, none⟩, cap, by rw [hl], by omega, h2, (fun h => by cases h), fun _ => ⟨g, 0, rfl, ?_, ?_⟩⟩
    · rcases Nat.lt_or_ge g w.heap.size with hlt | hge
      · exact hlt
      · rw [Array.getElem?_eq_none hge] at hh; cases hh
    · intro j u hu
      have hj : j < xs.length := (List.getElem?_eq_some_iff.1 hu).1
      rw [Nat.zero_add, cell_of_row w g j cur e (0, 0) hh, ← Array.getElem?_toList, ← hu, ← h4, List.getElem?_take, if_pos (by omega)]

theorem Rd.len {n c : Nat} {A : Option Addr} (h : Rd w B (.slice A n c) xs) : xs.length = n := by
  obtain ⟨A', c', hv, _⟩ := h
  injection hv with _ h2
  exact h2.symm

/-- the slice's own form at a list that has an element -/
theorem Rd.at_ (h : Rd w B v xs) {j : Nat} (hj : j < xs.length) :
    ∃ b o c, v = .slice (some ⟨b, o, none⟩) xs.length c ∧ xs.length ≤ c ∧ c ≤ maxLen ∧ b < B ∧ ∀ j u, xs[j]? = some u → w.cell? ⟨b, o + j, none⟩ = some u := by
  obtain ⟨A, c, hv, h1, h2, _, h4⟩ := h
  obtain ⟨b, o, rfl, hlt, hc⟩ := h4 (by intro e; subst e; simp at hj)
  exact ⟨b, o, c, hv, h1, h2, hlt, hc⟩

theorem Rd.form (h : Rd w B v xs) : ∃ A c, v = .slice A xs.length c ∧ xs.length ≤ c ∧ c ≤ maxLen ∧ (A = none → c = 0) := by
  obtain ⟨A, c, hv, h1, h2, h3, _⟩ := h
  exact ⟨A, c, hv, h1, h2, h3⟩

/-- the first k cells of it, with the same head -/
theorem Rd.take {A : Option Addr} {n c : Nat} (h : Rd w B (.slice A n c) xs) (k c' : Nat) (hk : k ≤ n) (hc' : k ≤ c') (hm : c' ≤ maxLen) (hA : A = none → c' = 0) : Rd w B (.slice A k c') (xs.take k) := by
  have hl := h.len
  obtain ⟨A', c0, hv, h1, h2, h3, h4⟩ := h
  injection hv with e1 e2 e3
  subst e1
  have hkl : (xs.take k).length = k := by rw [List.length_take]; omega
  refine ⟨A, c', by rw [hkl], by omega, hm, hA, fun hne => ?_⟩
  obtain ⟨b, o, rfl, hlt, hc⟩ := h4 (fun e => hne (by rw [e]; simp))
  refine ⟨b, o, rfl, hlt, fun j u hu => hc j u ?_⟩
  have hj : j < (xs.take k).length := (List.getElem?_eq_some_iff.1 hu).1
  rw [← hu, List.getElem?_take, if_pos (by omega)]
end

def lenOf : Value → Nat | .slice _ n _ => n | _ => 0

theorem ownsRow_lenOf {w : World} {base e size : Nat} {v : Value} {n : Nat} {xs : List Value} (h : w.ownsRow base e size v n xs) : lenOf v = n := by
  rcases h.2 with ⟨rfl, rfl⟩ | ⟨g, cap, cur, rfl, _⟩ <;> rfl

theorem ownsRow_form {w : World} {base e size : Nat} {v : Value} {n : Nat} {xs : List Value} (h : w.ownsRow base e size v n xs) : ∃ A c, v = .slice A n c := by
  rcases h.2 with ⟨rfl, rfl⟩ | ⟨g, cap, cur, rfl, _⟩
  · exact ⟨_, _, rfl⟩
  · exact ⟨_, _, rfl⟩

/-- the address of a slice that has an element, and its cells -/
theorem Rd.open_ {w : World} {B : Nat} {A : Option Addr} {n c : Nat} {xs : List Value} (h : Rd w B (.slice A n c) xs) (hne : xs ≠ []) :
    ∃ b o, A = some ⟨b, o, none⟩ ∧ b < B ∧ ∀ j u, xs[j]? = some u → w.cell? ⟨b, o + j, none⟩ = some u := by
  obtain ⟨A', c', hv, _, _, _, h4⟩ := h
  injection hv with e1
  subst e1
  exact h4 hne

/-- A store elsewhere leaves it. -/
theorem Rd.setFar {w : World} {B : Nat} {v : Value} {xs : List Value} (h : Rd w B v xs) {p : Addr} (hne : ∀ g, v.ownBlock = some g → g ≠ p.block) (u : Value) : Rd (w.setCell p u) B v xs := by
  obtain ⟨A, c, hv, h1, h2, h3, h4⟩ := h
  refine ⟨A, c, hv, h1, h2, h3, fun he => ?_⟩
  obtain ⟨b, o, hA, hlt, hc⟩ := h4 he
  refine ⟨b, o, hA, hlt, fun j x hx => ?_⟩
  rw [World.cell?_setCell_other w p ⟨b, o + j, none⟩ u (fun e => hne b (by rw [hv, hA]; rfl) (by first | exact congrArg Addr.block e | exact (congrArg Addr.block e).symm))]
  exact hc j x hx

theorem ownsRow_below {w w' : World} {base e size : Nat} {v : Value} {n : Nat} {xs : List Value} (h : w.ownsRow base e size v n xs) (hb : Below w.heap.size w w') : w'.ownsRow base e size v n xs := by
  obtain ⟨h1, h2⟩ := h
  refine ⟨h1, ?_⟩
  rcases h2 with h2 | ⟨g, cap, cur, hv, hg, hh, r⟩
  · exact .inl h2
  · exact .inr ⟨g, cap, cur, hv, hg, by rw [hb.block g (Array.getElem?_eq_some_iff.1 hh).1]; exact hh, r⟩

theorem bthen {w a b : World} (h : Below w.heap.size w a) (k : Below a.heap.size a b) : Below w.heap.size w b := h.trans (k.mono h.size)

/-- bytes as cells -/
def bv (l : List UInt8) : List Value := l.map fun x => Value.int .u8 (x.toNat : Int)
/-- ints as cells -/
def iv (l : List Int) : List Value := l.map fun x => Value.int .i64 x

theorem bv_length (l : List UInt8) : (bv l).length = l.length := by simp [bv]
theorem iv_length (l : List Int) : (iv l).length = l.length := by simp [iv]
theorem bv_get {l : List UInt8} {j : Nat} {x : UInt8} (h : l[j]? = some x) : (bv l)[j]? = some (.int .u8 (x.toNat : Int)) := by simp [bv, h]
theorem iv_get {l : List Int} {j : Nat} {x : Int} (h : l[j]? = some x) : (iv l)[j]? = some (.int .i64 x) := by simp [iv, h]
theorem bv_append (a b : List UInt8) : bv (a ++ b) = bv a ++ bv b := by simp [bv]
theorem iv_append (a b : List Int) : iv (a ++ b) = iv a ++ iv b := by simp [iv]
theorem bv_take (l : List UInt8) (k : Nat) : bv (l.take k) = (bv l).take k := by simp [bv, List.map_take]
theorem bv_one (l : List UInt8) : ∀ u ∈ bv l, u.oneCell' = true := by
  intro u hu
  simp only [bv, List.mem_map] at hu
  obtain ⟨x, _, rfl⟩ := hu
  rfl
theorem iv_one (l : List Int) : ∀ u ∈ iv l, u.oneCell' = true := by
  intro u hu
  simp only [iv, List.mem_map] at hu
  obtain ⟨x, _, rfl⟩ := hu
  rfl

/-- A callee that leaves the world as it was, met in a region that draws. -/
theorem quiet_same {P : Program} {f : FuncId} {args : Array Value} {w : World} {n : Nat} {v : Value}
    (h : Calls P f args (w.drewN n) fun e w' => e = .returned v ∧ w.drewN n = w') : Calls P f args (w.drewN n) fun e w'' => e = .returned v ∧ ∃ m, w'' = w.drewN m :=
  h.mono fun _ _ ⟨he, hm⟩ => ⟨he, n, hm.symm⟩

/-- A callee that only draws. -/
theorem quiet_draws {P : Program} {f : FuncId} {args : Array Value} {w : World} {n : Nat} {v : Value}
    (h : Calls P f args (w.drewN n) fun e w' => e = .returned v ∧ ∃ m, w' = (w.drewN n).drewN m) : Calls P f args (w.drewN n) fun e w'' => e = .returned v ∧ ∃ m, w'' = w.drewN m :=
  h.mono fun _ _ ⟨he, m, hm⟩ => ⟨he, n + m, by rw [hm, World.drewN_drewN]⟩

theorem below_drewN {B : Nat} {a w : World} (h : Below B a w) (k : Nat) : Below B a (w.drewN k) := ⟨h.os, h.tape, h.output, h.size, h.block⟩
theorem below_of_drewN (w : World) (k B : Nat) : Below B w (w.drewN k) := below_drewN (Below.refl B w) k

/-- the spec's own post where what was there before stands -/
theorem post_below {H : Type} {enc : TypeId × Value → H} {P : Program} {f : Func} {s : ChangeSpec} {apart fresh handsOn again : Bool} {W W' : World} {args : Array Value} {v : Value} {ds gs : List (DataW H)} {before pa pv : List MemPlace}
    (hW : DataW.Whole enc P f.params.toList s.vars apart W args.toList ds gs before)
    (hres : ∀ (b : Nat) (sp : Nat → Bool) (hd : Bool), DataW.TrodAll enc P W' b sp hd f.resultTypes.toList (v.resultList f.resultTypes.size) (s.fn H (ds ++ gs)).results [])
    (hargs : ∀ sp : Nat → Bool, (∀ p ∈ before, sp p.block = true) → DataW.TrodAll enc P W' 0 sp true f.params.toList args.toList (s.fn H (ds ++ gs)).args pa)
    (hvars : ∀ sp : Nat → Bool, (∀ p ∈ before, sp p.block = true) → DataW.TrodVars enc P W' sp s.vars (s.fn H (ds ++ gs)).vars pv)
    (hps : before = pa ++ pv) (hb : Below W.heap.size W W')
    (hok : ∀ (j : Nat) (t : TypeId) (r : Value), f.resultTypes[j]? = some t → (v.resultList f.resultTypes.size)[j]? = some r → Value.okWide P W' .any 0 t r) :
    s.post enc P f apart fresh handsOn again W args v W' := by
  have hlt : ∀ p ∈ before, p.block < W.heap.size := fun p hp => hW.lt p hp
  have hold : ∀ p ∈ before, (fun b => decide (b < W.heap.size)) p.block = true := fun p hp => by simpa using hlt p hp
  refine ⟨ds, gs, before, [], pa, pv, hW, hres _ _ _, hargs _ hold, hvars _ hold, World.keptBut_mono (fun p hp => ⟨hp, ?_⟩) (hb.frame (· ∈ before)), fun _ => ?_⟩
  · rw [hps, List.mem_append] at hp
    exact Or.inr hp
  · obtain ⟨_, _, _, _, _, hz, hn⟩ := hW
    refine ⟨hok, _, _, ([] ++ pa) ++ pv, ⟨[] ++ pa, pv, trodAll_append (hargs _ (fun _ _ => rfl)) (hres _ _ _), hvars _ (fun _ _ => rfl), rfl, ?_, ?_⟩, ?_⟩
    · intro b off hp
      have hin : MemPlace.cell b off ∈ before := by rw [hps]; simpa using hp
      rw [hb.frozen (hlt _ hin)]
      exact hz b off hin
    · intro ha
      have := hn ha
      rw [hps] at this
      simpa using this
    · intro p hp _
      rw [hps]
      simpa using hp

end Go.Proofs.Ytcbdlggjpedffaa
