/- What it is for a disk to hold sectors, and writes that wait; the plain answers. No condition. -/
import Derived.Test.YtcbdlggjpedffaaBase
namespace Go.Proofs.Ytcbdlggjpedffaa
open Go.RowKit Go.Maps
set_option linter.unusedSimpArgs false

/-! ### the map of sectors -/
def secR (v : Value) : Option (DataW (Array Value) × List MemPlace) := match v with | .agg A => some (.held A, []) | _ => none

def zeroA : Array Value := (bv zeroS).toArray

/-- block mb is a map of at most M entries that holds these sectors; those that it lacks are noughts -/
def OwnM (w : World) (mb M : Nat) (L : List (List UInt8)) : Prop :=
  ∃ D, w.ownsMap Try.prog 3 secR mb M D ∧ ∀ (i : Nat) s, L[i]? = some s → D.atKey (.int .i64 (i : Int)) (.held zeroA) = .held (bv s).toArray

theorem key_wf {i : Nat} (h : i < 65536) : (Lit.int .i64 (i : Int)).wf = true := by simp [Lit.wf, IntKind.min, IntKind.max, IntKind.signed, IntKind.bits]; omega
theorem key_of {i : Nat} (h : i < 65536) : keyOf Try.prog 3 (.int .i64 (i : Int)) = some (.int .i64 (i : Int)) := keyOf_int_mk Try.underlying3 (key_wf h)

theorem OwnM.on {w w' : World} {mb M : Nat} {L : List (List UInt8)} (h : OwnM w mb M L) (hk : w'.heap[mb]? = w.heap[mb]?) : OwnM w' mb M L := by
  obtain ⟨D, ⟨es, clock, hb, r⟩, h2⟩ := h
  exact ⟨D, ⟨es, clock, hk.trans hb, r⟩, h2⟩

theorem OwnM.lt {w : World} {mb M : Nat} {L : List (List UInt8)} (h : OwnM w mb M L) : mb < w.heap.size := by
  obtain ⟨D, h, _⟩ := h
  exact h.lt

theorem OwnM.ne_cells {w : World} {mb M k : Nat} {L : List (List UInt8)} {cs : Array Value} {t : TypeId} {fr : Nat × Nat} (h : OwnM w mb M L) (hk : w.heap[k]? = some (.cells cs t fr)) : k ≠ mb := by
  intro e
  subst e
  obtain ⟨D, ⟨es, clock, hb, _⟩, _⟩ := h
  rw [hk] at hb
  cases hb

theorem OwnM.ne_own {w : World} {mb M B e size n : Nat} {L : List (List UInt8)} {v : Value} {xs : List Value} (h : OwnM w mb M L) (ho : w.ownsRow B e size v n xs) {k : Nat} (hk : v.ownBlock = some k) : k ≠ mb := by
  rcases ho.2 with ⟨rfl, _⟩ | ⟨g, cap, cur, rfl, _, hg, _⟩
  · cases hk
  · injection hk with hk
    subst hk
    exact h.ne_cells hg

theorem own_made (w : World) (n : Nat) : OwnM (w.alloc (.map #[] 0)) w.heap.size 0 (List.replicate n zeroS) := by
  refine ⟨.map [], World.ownsMap_made w Try.prog 3 secR, fun i s hs => ?_⟩
  have := (List.mem_replicate.1 (List.mem_of_getElem? hs)).2
  subst this
  rfl

/-- 'l[i]' -/
theorem OwnM.look {w : World} {mb M : Nat} {L : List (List UInt8)} (h : OwnM w mb M L) {i : Nat} {s : List UInt8} (hs : L[i]? = some s) (hi : i < 65536) :
    (Instr.lookup 58 (.map (some mb)) (.int .i64 (i : Int)) false).run Try.prog w = .ok (.agg (bv s).toArray) w := by
  obtain ⟨D, ho, hD⟩ := h
  obtain ⟨hz, _⟩ := zero_of_info Try.zero64
  obtain ⟨v, ps, hrun, hv⟩ := ho.lookup (int_keyed Try.underlying3) Try.underlying58 (hz w) (zd := .held zeroA) (zp := []) rfl (key_of hi)
  rw [hD i s hs] at hv
  cases v <;> simp [secR] at hv
  rw [hrun, hv.1]

/-- 'l[i] = s' -/
theorem OwnM.store {w : World} {mb M : Nat} {L : List (List UInt8)} (h : OwnM w mb M L) {i : Nat} (s : List UInt8) (hi : i < 65536) (hM : M < maxLen) :
    ∃ w', (Instr.mapUpdate 58 (.map (some mb)) (.int .i64 (i : Int)) (.agg (bv s).toArray)).run Try.prog w = .ok () w' ∧ OwnM w' mb (M + 1) (L.set i s) ∧ w.grownBy w' (some mb) := by
  obtain ⟨D, ho, hD⟩ := h
  have hm : IsMap D := by
    obtain ⟨es, clock, _, _, _, rfl⟩ := ho
    exact ⟨_, rfl⟩
  obtain ⟨w', hrun, ho', hg⟩ := ho.update (int_keyed Try.underlying3) Try.underlying58 hM (key_of hi) (val := .agg (bv s).toArray) (d := .held (bv s).toArray) (ps := []) rfl
  refine ⟨w', hrun, ⟨_, ho', fun j t ht => ?_⟩, hg⟩
  rw [List.getElem?_set] at ht
  by_cases hij : i = j
  · subst hij
    rw [if_pos rfl] at ht
    split at ht
    · injection ht with ht
      subst ht
      exact atKey_put_same hm ((int_keyed Try.underlying3).key (key_of hi)) _ _
    · cases ht
  · rw [if_neg hij] at ht
    rw [atKey_put_other (by intro e; injection e with _ e; omega)]
    exact hD j t ht

/-! ### a disk -/
structure DK where
  L : List (List UInt8)
  waits : List Wt
  left : Int
  down : Bool

structure DiskIs (F : Nat → Prop) (w : World) (g : Nat) (d : DK) (M mb : Nat) (sv : Value) : Prop where
  blk : w.heap[g]? = some (.cells #[.int .i64 d.L.length, .map (some mb), sv, .int .i64 d.left, .bool d.down] 61 (0, 0))
  fg : F g
  mp : OwnM w mb M d.L
  fm : F mb
  row : w.ownsRow 0 66 129 sv d.waits.length (flatW d.waits)
  fr : ∀ k, sv.ownBlock = some k → F k
  secs : ∀ s ∈ d.L, s.length = 128
  wts : ∀ p ∈ d.waits, p.2.length = 128 ∧ p.1 < d.L.length
  big : 1 ≤ d.L.length ∧ d.L.length ≤ 65536
  lft : -1 ≤ d.left ∧ d.left ≤ 9223372036854775807

def DiskHas (F : Nat → Prop) (w : World) (g : Nat) (d : DK) (M : Nat) : Prop := ∃ mb sv, DiskIs F w g d M mb sv

/-- Nothing but what F names has turned. -/
structure Kept (F : Nat → Prop) (w w' : World) : Prop where
  os : w'.os = w.os
  tape : w'.tape = w.tape
  output : w'.output = w.output
  size : w.heap.size ≤ w'.heap.size
  block : ∀ k, k < w.heap.size → ¬ F k → w'.heap[k]? = w.heap[k]?

theorem ownsRow_on {w w' : World} {B e size n : Nat} {v : Value} {xs : List Value} (h : w.ownsRow B e size v n xs) (hk : ∀ k, v.ownBlock = some k → w'.heap[k]? = w.heap[k]?) : w'.ownsRow B e size v n xs := by
  refine ⟨h.1, ?_⟩
  rcases h.2 with hn | ⟨g, cap, cur, rfl, hg, hgg, rest⟩
  · exact .inl hn
  · exact .inr ⟨g, cap, cur, rfl, hg, by rw [hk g rfl]; exact hgg, rest⟩
theorem own_from {w : World} {B B' e size n : Nat} {v : Value} {xs : List Value} (h : w.ownsRow B' e size v n xs) (hB : B ≤ B') : w.ownsRow B e size v n xs :=
  ⟨h.1, h.2.imp id (fun ⟨g, cap, cur, a, b, c⟩ => ⟨g, cap, cur, a, Nat.le_trans hB b, c⟩)⟩
theorem own_lives {w : World} {B e size n : Nat} {v : Value} {xs : List Value} (h : w.ownsRow B e size v n xs) {k : Nat} (hk : v.ownBlock = some k) : k < w.heap.size := (h.lt k hk).2
theorem own_ne_blk {w : World} {B e size n g t : Nat} {v : Value} {xs : List Value} {cs : Array Value} {fr : Nat × Nat} (h : w.ownsRow B e size v n xs) (hb : w.heap[g]? = some (.cells cs t fr)) (he : e ≠ t) {k : Nat} (hk : v.ownBlock = some k) : k ≠ g := by
  intro e1
  subst e1
  rcases h.2 with ⟨rfl, _⟩ | ⟨g', cap, cur, rfl, _, hg, _⟩
  · cases hk
  · injection hk with hk
    subst hk
    rw [hb] at hg
    simp only [Option.some.injEq, Obj.cells.injEq] at hg
    exact he hg.2.1.symm

section
variable {F F' : Nat → Prop} {w w' : World} {g : Nat} {d : DK} {M mb : Nat} {sv : Value}

theorem DiskIs.glt (h : DiskIs F w g d M mb sv) : g < w.heap.size := (Array.getElem?_eq_some_iff.1 h.blk).1

theorem DiskIs.on (h : DiskIs F w g d M mb sv) (hk : ∀ k, k < w.heap.size → F k → w'.heap[k]? = w.heap[k]?) : DiskIs F w' g d M mb sv :=
  ⟨by rw [hk g h.glt h.fg]; exact h.blk, h.fg, h.mp.on (hk mb h.mp.lt h.fm), h.fm, ownsRow_on h.row (fun k e => hk k (own_lives h.row e) (h.fr k e)), h.fr, h.secs, h.wts, h.big, h.lft⟩
theorem DiskIs.mono (h : DiskIs F w g d M mb sv) (hF : ∀ k, k < w.heap.size → F k → F' k) : DiskIs F' w g d M mb sv :=
  ⟨h.blk, hF g h.glt h.fg, h.mp, hF mb h.mp.lt h.fm, h.row, fun k e => hF k (own_lives h.row e) (h.fr k e), h.secs, h.wts, h.big, h.lft⟩
theorem DiskIs.below (h : DiskIs F w g d M mb sv) (hb : Below w.heap.size w w') : DiskIs F w' g d M mb sv := h.on fun k hk _ => hb.block k hk

theorem DiskHas.on (h : DiskHas F w g d M) (hk : ∀ k, k < w.heap.size → F k → w'.heap[k]? = w.heap[k]?) : DiskHas F w' g d M := by
  obtain ⟨mb, sv, h⟩ := h
  exact ⟨mb, sv, h.on hk⟩
theorem DiskHas.mono (h : DiskHas F w g d M) (hF : ∀ k, k < w.heap.size → F k → F' k) : DiskHas F' w g d M := by
  obtain ⟨mb, sv, h⟩ := h
  exact ⟨mb, sv, h.mono hF⟩
theorem DiskHas.below (h : DiskHas F w g d M) (hb : Below w.heap.size w w') : DiskHas F w' g d M := h.on fun k hk _ => hb.block k hk

theorem Kept.refl (F : Nat → Prop) (w : World) : Kept F w w := ⟨rfl, rfl, rfl, Nat.le_refl _, fun _ _ _ => rfl⟩
theorem Kept.of_below (h : Below w.heap.size w w') : Kept F w w' := ⟨h.os, h.tape, h.output, h.size, fun k hk _ => h.block k hk⟩
theorem Kept.then {w'' : World} (h : Kept F w w') (k : Kept F w' w'') : Kept F w w'' :=
  ⟨k.os.trans h.os, k.tape.trans h.tape, k.output.trans h.output, Nat.le_trans h.size k.size, fun j hj hF => (k.block j (Nat.lt_of_lt_of_le hj h.size) hF).trans (h.block j hj hF)⟩
theorem Kept.below {B : Nat} (h : Kept F w w') (hB : B ≤ w.heap.size) (hF : ∀ k, F k → B ≤ k) : Below B w w' :=
  ⟨h.os, h.tape, h.output, h.size, fun k hk => h.block k (Nat.lt_of_lt_of_le hk hB) (fun e => by have := hF k e; omega)⟩
theorem Kept.weak (h : Kept F w w') (hF : ∀ k, F k → F' k) : Kept F' w w' := ⟨h.os, h.tape, h.output, h.size, fun k hk hn => h.block k hk fun e => hn (hF k e)⟩
/-- one cell of a block that F names -/
theorem kept_set (hF : F g) (j : Nat) (v : Value) : Kept F w (w.setCell ⟨g, j, none⟩ v) :=
  ⟨rfl, rfl, rfl, by simp [World.setCell], fun k _ hn => Below.heap_setCell _ _ _ _ (fun e => hn (by subst e; exact hF))⟩

/-- the new names besides the old: blocks that were not there -/
def More (F : Nat → Prop) (n : Nat) (k : Nat) : Prop := F k ∨ n ≤ k

theorem DiskIs.cells (h : DiskIs F w g d M mb sv) : w.cell? ⟨g, 0, none⟩ = some (.int .i64 d.L.length) ∧ w.cell? ⟨g, 1, none⟩ = some (.map (some mb)) ∧ w.cell? ⟨g, 2, none⟩ = some sv ∧ w.cell? ⟨g, 3, none⟩ = some (.int .i64 d.left) ∧ w.cell? ⟨g, 4, none⟩ = some (.bool d.down) := by
  refine ⟨?_, ?_, ?_, ?_, ?_⟩ <;> (rw [cell_of_row w g _ _ 61 (0, 0) h.blk]; rfl)
theorem DiskIs.frozen (h : DiskIs F w g d M mb sv) (j : Nat) : w.frozen? ⟨g, j, none⟩ = false := frozen_of_row w g j _ 61 h.blk
theorem DiskIs.form (h : DiskIs F w g d M mb sv) : ∃ A c, sv = .slice A d.waits.length c := ownsRow_form h.row

/-- a number of its own is set -/
theorem DiskIs.set_left (h : DiskIs F w g d M mb sv) (x : Int) (hx : -1 ≤ x ∧ x ≤ 9223372036854775807) : DiskIs F (w.setCell ⟨g, 3, none⟩ (.int .i64 x)) g { d with left := x } M mb sv := by
  have hb := heap_setCell_same w g 3 _ 61 (.int .i64 x) h.blk
  have ho : ∀ k, k ≠ g → (w.setCell ⟨g, 3, none⟩ (.int .i64 x)).heap[k]? = w.heap[k]? := fun k hk => heap_setCell_other w ⟨g, 3, none⟩ k _ hk
  exact ⟨by simpa using hb, h.fg, h.mp.on (ho mb (h.mp.ne_cells h.blk).symm), h.fm, ownsRow_on h.row (fun k hk => ho k (own_ne_blk h.row h.blk (by decide) hk)), h.fr, h.secs, h.wts, h.big, hx⟩
theorem DiskIs.set_down (h : DiskIs F w g d M mb sv) (x : Bool) : DiskIs F (w.setCell ⟨g, 4, none⟩ (.bool x)) g { d with down := x } M mb sv := by
  have hb := heap_setCell_same w g 4 _ 61 (.bool x) h.blk
  have ho : ∀ k, k ≠ g → (w.setCell ⟨g, 4, none⟩ (.bool x)).heap[k]? = w.heap[k]? := fun k hk => heap_setCell_other w ⟨g, 4, none⟩ k _ hk
  exact ⟨by simpa using hb, h.fg, h.mp.on (ho mb (h.mp.ne_cells h.blk).symm), h.fm, ownsRow_on h.row (fun k hk => ho k (own_ne_blk h.row h.blk (by decide) hk)), h.fr, h.secs, h.wts, h.big, h.lft⟩
/-- nothing waits any more -/
theorem DiskIs.set_none (h : DiskIs F w g d M mb sv) : DiskIs F (w.setCell ⟨g, 2, none⟩ (.slice none 0 0)) g { d with waits := [] } M mb (.slice none 0 0) := by
  have hb := heap_setCell_same w g 2 _ 61 (.slice none 0 0) h.blk
  have ho : ∀ k, k ≠ g → (w.setCell ⟨g, 2, none⟩ (.slice none 0 0)).heap[k]? = w.heap[k]? := fun k hk => heap_setCell_other w ⟨g, 2, none⟩ k _ hk
  exact ⟨by simpa using hb, h.fg, h.mp.on (ho mb (h.mp.ne_cells h.blk).symm), h.fm, World.ownsRow_nil _ _ _ _, (fun k hk => by cases hk), h.secs, (fun p hp => by simp at hp), h.big, h.lft⟩
end

/-! ### the plain answers -/
def upE (d : DK) (i : Int) : Int := if d.down = true then 20 else if i < 0 ∨ (d.L.length : Int) ≤ i then 15 else 0
def countD (d : DK) : DK := if d.left = 0 then { d with down := true } else if 0 < d.left then { d with left := d.left - 1 } else d
def countE (d : DK) : Int := if d.left = 0 then 20 else 0
def stopD (d : DK) (a : Int) : DK := { d with left := max a (-1) }
/-- the sector i behind these writes -/
def laidS : List Wt → Nat → List UInt8 → List UInt8
  | [], _, s => s
  | p :: ws, i, s => laidS ws i (if p.1 = i then p.2 else s)
def laidL (ws : List Wt) (L : List (List UInt8)) : List (List UInt8) := ws.foldl (fun L p => L.set p.1 p.2) L
def readD (d : DK) (i : Nat) : List UInt8 := laidS d.waits i (d.L[i]?.getD [])
def writeE (d : DK) (i : Int) (n : Nat) : Int := if upE d i ≠ 0 then upE d i else if n ≠ 128 then 1 else countE d
def writeD (d : DK) (i : Int) (b : List UInt8) : DK :=
  if upE d i ≠ 0 ∨ b.length ≠ 128 then d else if countE d ≠ 0 then countD d else { countD d with waits := d.waits ++ [(i.toNat, b)] }
def flushE (d : DK) : Int := if upE d 0 ≠ 0 then upE d 0 else countE d
def flushD (d : DK) : DK := if upE d 0 ≠ 0 then d else if countE d ≠ 0 then countD d else { countD d with L := laidL d.waits d.L, waits := [] }
/-- is write k picked? -/
def pickB (pick : List UInt8) (k : Nat) : Bool := match pick[k / 8]? with | some x => x.toNat / 2 ^ (k % 8) % 2 == 1 | none => false
def picks (pick : List UInt8) (n : Nat) : List Nat := (List.range n).filter (pickB pick)
def crashD (d : DK) (pick : List UInt8) : DK := ⟨laidL ((picks pick d.waits.length).filterMap (fun k => d.waits[k]?)) d.L, [], -1, false⟩

theorem countD_waits (d : DK) : (countD d).waits = d.waits := by unfold countD; split; rfl; split <;> rfl
theorem countD_L (d : DK) : (countD d).L = d.L := by unfold countD; split; rfl; split <;> rfl

end Go.Proofs.Ytcbdlggjpedffaa
