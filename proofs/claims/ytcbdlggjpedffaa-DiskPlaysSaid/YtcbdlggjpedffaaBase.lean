/- What the walks of layer 3 use: sectors and writes as cells, many at once; a map of sectors; what it is for a disk to hold them. No condition. -/
import Derived.Test.YtcbdlggjpedffaaProg
import Derived.Test.YtcbdlggjpedffaaStage
import Derived.Test.YtcbdlggjpedffaaWords
import Derived.Deep.MidRow
import Derived.Deep.WholeRow
import Derived.Great.BuildSlice
import Derived.Great.FillDense
import Derived.Maps.Own
import Derived.Maps.OwnOps
import Derived.Maps.Views
import Derived.StillTailTactics
namespace Go.Proofs.Ytcbdlggjpedffaa
open Go.RowKit Go.Maps
set_option linter.unusedSimpArgs false

/-! ### sizes, as closed facts -/
def zeroS : List UInt8 := List.replicate 128 0
theorem Try.size64 : (Try.prog.info? 64).map (·.size) = some 128 := by kernel_rfl
theorem Try.size66 : (Try.prog.info? 66).map (·.size) = some 129 := by kernel_rfl
theorem Try.zero64 : (Try.prog.info? 64).map (fun i => (i.zero, i.size)) = some (some (.agg (bv zeroS).toArray), 128) := by kernel_rfl
theorem Try.zero66 : (Try.prog.info? 66).map (fun i => (i.zero, i.size)) = some (some (.agg (Value.int .i64 0 :: bv zeroS).toArray), 129) := by kernel_rfl
theorem Try.info66 : (Try.prog.info? 66).map (fun i => (i.zero, i.size, i.bytes)) = some (some (.agg (Value.int .i64 0 :: bv zeroS).toArray), 129, 136) := by kernel_rfl
theorem Try.info5 : (Try.prog.info? 5).map (fun i => (i.zero, i.size, i.bytes)) = some (some (.int .u8 0), 1, 1) := by kernel_rfl
theorem zeroS_length : zeroS.length = 128 := by simp [zeroS]

/-- a write that waits, as cells -/
def wcells (i : Int) (s : List UInt8) : List Value := Value.int .i64 i :: bv s
theorem wcells_length (i : Int) (s : List UInt8) : (wcells i s).length = s.length + 1 := by simp [wcells, bv_length]
theorem wcells_one (i : Int) (s : List UInt8) : ∀ u ∈ wcells i s, u.oneCell' = true := by
  intro u hu
  simp only [wcells, List.mem_cons] at hu
  rcases hu with rfl | hu
  · rfl
  · exact bv_one s u hu

abbrev Wt := Nat × List UInt8
def flatW (ws : List Wt) : List Value := ws.flatMap fun p => wcells (p.1 : Int) p.2

theorem flatW_append (a b : List Wt) : flatW (a ++ b) = flatW a ++ flatW b := by simp [flatW]
theorem flatW_length (ws : List Wt) (h : ∀ p ∈ ws, p.2.length = 128) : (flatW ws).length = ws.length * 129 := by
  induction ws with
  | nil => rfl
  | cons p ws ih =>
    unfold flatW at *
    rw [List.flatMap_cons, List.length_append, ih (fun q hq => h q (List.mem_cons_of_mem _ hq)), wcells_length, h p (List.mem_cons_self)]
    simp
    omega
theorem flatW_one (ws : List Wt) : ∀ u ∈ flatW ws, u.oneCell' = true := by
  intro u hu
  unfold flatW at hu
  obtain ⟨p, _, hu⟩ := List.mem_flatMap.1 hu
  exact wcells_one _ _ u hu
theorem flatW_get {ws : List Wt} (h : ∀ p ∈ ws, p.2.length = 128) {k : Nat} {p : Wt} (hp : ws[k]? = some p) {j : Nat} {u : Value} (hu : (wcells (p.1 : Int) p.2)[j]? = some u) : (flatW ws)[k * 129 + j]? = some u := by
  have hk := (List.getElem?_eq_some_iff.1 hp).1
  have hj := (List.getElem?_eq_some_iff.1 hu).1
  have e : ws = ws.take k ++ (p :: ws.drop (k + 1)) := by
    have hx : ws[k] = p := by
      have := List.getElem?_eq_getElem hk
      rw [hp] at this
      injection this with this
      exact this.symm
    rw [← hx, ← List.drop_eq_getElem_cons hk, List.take_append_drop]
  have hl : (flatW (ws.take k)).length = k * 129 := by rw [flatW_length _ (fun q hq => h q (List.mem_of_mem_take hq)), List.length_take]; congr 1; omega
  rw [e, flatW_append, List.getElem?_append_right (by omega), hl, show k * 129 + j - k * 129 = j by omega]
  unfold flatW
  rw [List.flatMap_cons, List.getElem?_append_left hj]
  exact hu

/-! ### operations on many cells at once -/
section
variable {P : Program} {ops : Array Oper} {w : World}

theorem still_value {Q : Act → Prop} {o : Oper} {rest : List Oper} {a : Act} (v : Value) (hg : o.guard = none) (hr : (execOp a.eval o).run P w = .ok (.value v) w) (h : wpStill P ops w Q rest (a.put o.dst v)) : wpStill P ops w Q (o :: rest) a := by
  show if Region.wanted o (yielded ops a.tmps) then o.still P a w (wpStill P ops w Q rest) else wpStill P ops w Q rest (a.put o.dst undef)
  rw [if_pos (wanted_none hg)]
  simp only [Oper.still, hr, Oper.stillUpon]
  exact ⟨trivial, h⟩

theorem exec_load {o : Oper} {a : Act} {x : Operand} {ty : TypeId} {b off : Nat} (cs : List Value) (d : TypeDesc) (ho : o.op = .load ty x) (hx : a.eval x = .pointer (some ⟨b, off, none⟩)) (hc : w.rangeAt b off cs)
    (hu : P.underlying ty = some d) (hd : d.isRow = true) (hi : (P.info? ty).map (·.size) = some cs.length) : (execOp a.eval o).run P w = .ok (.value (.agg cs.toArray)) w := by
  unfold execOp
  simp only [ho, hx, Sem.run_bind, run_loadAt_mid w b off ty cs d hc hu hd hi, Result.andThen_ok, Sem.run_pure]

/-- a new variable, and what is laid into it -/
theorem wpList_alloc_store {o1 o2 : Oper} {rest : List Oper} {a : Act} {Q : Exit → Act → World → Prop} (hg1 : o1.guard = none) (hg2 : o2.guard = none) (T : TypeId) (d : Tmp) (x : Operand) (ho1 : o1.op = .alloc T) (hd1 : o1.dst = some d)
    (ho2 : o2.op = .store T (.tmp d) x) (hd2 : o2.dst = none) (cells : Array Value) (z : Array Value) (hin : d < a.tmps.size) (hx : (a.put (some d) (.pointer (some ⟨w.heap.size, 0, none⟩))).eval x = .agg cells)
    (hz : (P.info? T).map (fun i => (i.zero, i.size)) = some (some (.agg z), cells.size)) (hzs : z.size = cells.size) (h1 : cells.all (·.oneCell') = true)
    (h : wpList P ops Q rest (a.put (some d) (.pointer (some ⟨w.heap.size, 0, none⟩))) (w.alloc (.cells cells T))) : wpList P ops Q (o1 :: o2 :: rest) a w := by
  obtain ⟨hz1, hz2⟩ := zero_of_info hz
  refine wpList_plain hg1 fun K hK => ?_
  have hr1 : (execOp a.eval o1).run P w = .ok (.value (.pointer (some ⟨w.heap.size, 0, none⟩))) (w.alloc (.cells z T)) := by
    unfold execOp
    simp [ho1, Instr.alloc, hz1 w, newVar, newRow, Value.cells, Result.andThen]
  unfold Oper.wp
  rw [hr1]
  simp only [Oper.upon]
  refine hK _ _ ?_
  rw [hd1]
  refine wpList_store_row hg2 T (.tmp d) x ho2 w.heap.size cells ?_ hx T z (heap_alloc_last w _) hz2 hzs h1 ?_
  · simp [Act.eval, Act.put, Array.getD, hin]
  · rw [World.setRow_alloc_new, hd2]
    exact h
end

theorem rangeAt_of_own {w : World} {B g n c : Nat} {ws : List Wt} (h : w.ownsRow B 66 129 (.slice (some ⟨g, 0, none⟩) n c) n (flatW ws)) (hl : ∀ p ∈ ws, p.2.length = 128) {k : Nat} {p : Wt} (hp : ws[k]? = some p) : w.rangeAt g (k * 129) (wcells (p.1 : Int) p.2) := by
  intro j u hu
  have := h.cells (g := g) rfl (k * 129 + j) u (flatW_get hl hp hu)
  rwa [Addr.add_mid, Nat.zero_add] at this

theorem rangeAt_of_rd {w : World} {B b o n c : Nat} {s : List UInt8} (h : Rd w B (.slice (some ⟨b, o, none⟩) n c) (bv s)) : w.rangeAt b o (bv s) := by
  intro j u hu
  obtain ⟨b', o', e, _, hc⟩ := h.open_ (by intro e; rw [e] at hu; simp at hu)
  injection e with e
  injection e with e1 e2 _
  subst e1
  subst e2
  exact hc j u hu

theorem all_one {cs : List Value} (h : ∀ v ∈ cs, v.oneCell' = true) : cs.toArray.all (fun v => v.oneCell') = true := all_oneCell_toArray h

theorem fill_step (place : Nat → Option (Nat × Nat)) (cells : Array Value) (i off size : Nat) (v : Value) (rest : List (Nat × Value)) (hp : place i = some (off, size)) (hv : v.cells.size = size) (hle : off + v.cells.size ≤ cells.size) :
    Instr.fill place cells ((i, v) :: rest) = Instr.fill place (v.cells.zipIdx.foldl (fun cs (x : Value × Nat) => cs.setIfInBounds (off + x.2) x.1) cells) rest := by
  rw [Instr.fill]
  simp only [hp]
  rw [if_neg (by simp [hv]; omega)]

theorem fill_two (z : Array Value) (hz : z.size = 129) (i : Int) (s : List UInt8) (hs : s.length = 128) (place : Nat → Option (Nat × Nat)) (h0 : place 0 = some (0, 1)) (h1 : place 1 = some (1, 128)) :
    Instr.fill place z [(0, .int .i64 i), (1, .agg (bv s).toArray)] = some (wcells i s).toArray := by
  obtain ⟨g1, g2⟩ := Great.foldl_set 1 (bv s) 0 (z.setIfInBounds 0 (.int .i64 i))
  have hl := bv_length s
  have hb : (Value.agg (bv s).toArray).cells.size = 128 := by simp [Value.cells, hl, hs]
  rw [fill_step place z 0 0 1 (.int .i64 i) _ h0 rfl (by simp [Value.cells, hz])]
  have e1 : ((Value.int .i64 i).cells.zipIdx).foldl (fun cs (x : Value × Nat) => cs.setIfInBounds (0 + x.2) x.1) z = z.setIfInBounds 0 (.int .i64 i) := by simp [Value.cells]
  rw [e1, fill_step place _ 1 1 128 (.agg (bv s).toArray) _ h1 hb (by rw [hb]; simp [hz])]
  have e2 : ((Value.agg (bv s).toArray).cells.zipIdx).foldl (fun cs (x : Value × Nat) => cs.setIfInBounds (1 + x.2) x.1) (z.setIfInBounds 0 (.int .i64 i)) = ((bv s).zipIdx 0).foldl (fun cs (x : Value × Nat) => cs.setIfInBounds (1 + x.2) x.1) (z.setIfInBounds 0 (.int .i64 i)) := by
    rw [← Array.foldl_toList, Array.toList_zipIdx]
    rfl
  rw [e2]
  unfold Instr.fill
  congr 1
  apply Array.ext_getElem?
  intro k
  rw [g2 k]
  simp only [Array.size_setIfInBounds, hz, hl, hs, List.getElem?_toArray]
  by_cases hk : 1 ≤ k ∧ k < 129
  · rw [if_pos (by omega)]
    obtain ⟨k, rfl⟩ : ∃ k', k = k' + 1 := ⟨k - 1, by omega⟩
    simp [wcells]
  · rw [if_neg (by omega)]
    by_cases h0 : k = 0
    · subst h0
      simp [wcells, hz]
    · rw [Array.getElem?_eq_none (by simp [hz]; omega), List.getElem?_eq_none (by rw [wcells_length]; omega)]

theorem Try.places66 : (match Try.prog.underlying 66 with | some (.struct fields) => fields.toList.mapM (fun f => (Try.prog.info? f.type).map fun i => (f.offset, i.size)) | _ => none) = some [(0, 1), (1, 128)] := by kernel_rfl

/-- 'write{i, s}' -/
theorem run_build66 (w : World) (i : Int) (s : List UInt8) (hs : s.length = 128) : (Instr.build 66 #[(0, .int .i64 i), (1, .agg (bv s).toArray)]).run Try.prog w = .ok (.agg (wcells i s).toArray) w := by
  have h66 := Try.info66
  refine run_build w 66 _ _ ?_
  cases hi : Try.prog.info? 66 with
  | none => rw [hi] at h66; simp at h66
  | some it =>
    rw [hi] at h66
    simp only [Option.map_some, Option.some.injEq, Prod.mk.injEq] at h66
    unfold Program.built
    have hp := Try.places66
    rw [Try.underlying66] at hp
    simp only [hi, Try.underlying66, h66.1]
    simp only at hp
    rw [hp]
    refine fill_two _ ?_ i s hs _ rfl rfl
    simp [Value.cells, bv_length, zeroS_length]

/-- '[]write{x}' -/
theorem run_slice66 (w : World) (i : Int) (s : List UInt8) (hs : s.length = 128) : (Instr.buildSlice 59 1 #[(0, .agg (wcells i s).toArray)]).run Try.prog w = .ok (.slice (some ⟨w.heap.size, 0, none⟩) 1 1) (w.alloc (.cells (wcells i s).toArray 66)) := by
  obtain ⟨it, hit, hz, hsz, _⟩ := info_parts Try.info66
  refine run_buildSlice w 59 66 1 _ _ it _ Try.underlying59 hit hz (by rw [hsz]; decide) (by rw [hsz]; decide) ?_
  rw [hsz]
  have hc : (Value.agg (wcells i s).toArray).cells.size = 129 := by simp [Value.cells, wcells_length, hs]
  have := Great.fill_whole (s := 129) (by omega) [.agg (wcells i s).toArray] ((Array.range (1 * 129)).map (((Value.agg (Value.int .i64 0 :: bv zeroS).toArray).cells)[· % ((Value.agg (Value.int .i64 0 :: bv zeroS).toArray).cells).size]!)) (fun v hv => by simp at hv; subst hv; exact hc) (by simp)
  simpa [Value.cells] using this

end Go.Proofs.Ytcbdlggjpedffaa
