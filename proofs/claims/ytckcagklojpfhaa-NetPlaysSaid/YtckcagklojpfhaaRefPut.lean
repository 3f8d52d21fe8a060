/- The document's own 'Put', 'Drop' and 'Swap' of layer 20: they come to the plain lists that the program's come to; a row of packets with strings is what they own. No condition. -/
import Derived.Test.YtckcagklojpfhaaUse
import Derived.Laws.AppendOwnNone
namespace Go.Proofs.Ytckcagklojpfhaa
open Go.RowKit
set_option linter.unusedSimpArgs false

theorem Try.info37 : (Try.prog.info? 37).map (fun i => (i.zero, i.size, i.bytes)) = some (some (.agg #[.int .i64 0, .int .i64 0, .string ⟨#[]⟩]), 3, 32) := by kernel_rfl

def stR (p : Pk) : Int × Int × Value := (p.1, p.2.1, .string ⟨p.2.2.toArray⟩)
def srs (ps : List Pk) : List (Int × Int × Value) := ps.map stR
theorem srs_length (ps : List Pk) : (srs ps).length = ps.length := by simp [srs]
theorem srs_get {ps : List Pk} {i : Nat} {p : Pk} (h : ps[i]? = some p) : (srs ps)[i]? = some (p.1, p.2.1, .string ⟨p.2.2.toArray⟩) := by simp [srs, h, stR]

/-- the row that the document's answer owns -/
def RefB (B : Nat) (w : World) (v : Value) (ps : List Pk) : Prop := w.ownsRow B 37 3 v ps.length (flatR (srs ps))

theorem ref_one (ps : List Pk) : ∀ u ∈ flatR (srs ps), u.oneCell' = true := by
  intro u hu
  unfold flatR at hu
  obtain ⟨r, hr, hu⟩ := List.mem_flatMap.1 hu
  obtain ⟨p, _, rfl⟩ := List.mem_map.1 hr
  simp [pkCells, stR] at hu
  rcases hu with rfl | rfl | rfl <;> rfl

theorem RefB.below {B : Nat} {w w' : World} {v : Value} {ps : List Pk} (h : RefB B w v ps) (hb : Below w.heap.size w w') : RefB B w' v ps := ownsRow_below h hb
theorem RefB.from {B B' : Nat} {w : World} {v : Value} {ps : List Pk} (h : RefB B' w v ps) (hB : B ≤ B') : RefB B w v ps := own_from h hB
theorem RefB.nil (B : Nat) (w : World) : RefB B w (.slice none 0 0) [] := World.ownsRow_nil _ _ _ _
theorem RefB.form {B : Nat} {w : World} {v : Value} {ps : List Pk} (h : RefB B w v ps) : ∃ A c, v = .slice A ps.length c := ownsRow_form h

/-- nil, or a row with a head -/
theorem RefB.part {B : Nat} {w : World} {v : Value} {ps : List Pk} (h : RefB B w v ps) : (v = .slice none 0 0 ∧ ps = []) ∨ ∃ g c, v = .slice (some ⟨g, 0, none⟩) ps.length c ∧ B ≤ g ∧ g < w.heap.size ∧ ps.length ≤ c ∧ c ≤ maxLen := by
  rcases h.2 with ⟨rfl, h0⟩ | ⟨g, cap, cur, rfl, hg, hh, h1, h2, _⟩
  · exact .inl ⟨rfl, List.eq_nil_of_length_eq_zero h0⟩
  · exact .inr ⟨g, cap, rfl, hg, (Array.getElem?_eq_some_iff.1 hh).1, h1, h2⟩

theorem RefB.cell {B : Nat} {w : World} {g n c : Nat} {ps : List Pk} (h : RefB B w (.slice (some ⟨g, 0, none⟩) n c) ps) {i : Nat} {p : Pk} (hp : ps[i]? = some p) :
    w.cell? ⟨g, i * 3, none⟩ = some (.int .i64 p.1) ∧ w.cell? ⟨g, i * 3 + 1, none⟩ = some (.int .i64 p.2.1) ∧ w.cell? ⟨g, i * 3 + 2, none⟩ = some (.string ⟨p.2.2.toArray⟩) := by
  obtain ⟨h1, h2, h3⟩ := flatR_get (srs_get hp)
  have hc := h.cells (g := g) rfl
  have hadd : ∀ j, (⟨g, 0, none⟩ : Addr).add j = ⟨g, j, none⟩ := fun j => by unfold Addr.add; split <;> simp_all
  exact ⟨by rw [← hadd]; exact hc _ _ h1, by rw [← hadd]; exact hc _ _ h2, by rw [← hadd]; exact hc _ _ h3⟩

/-- what a call of the document's answer hands back -/
def RefPost (B : Nat) (w : World) (ps : List Pk) (err : Int) (e : Ending) (w' : World) : Prop :=
  ∃ v', e = .returned (.tuple #[v', .int .i64 err]) ∧ RefB B w' v' ps ∧ Below w.heap.size w w'

theorem refput_no (B : Nat) (w : World) (v : Value) (ps : List Pk) (f t : Int) (s : ByteArray) (h : RefB B w v ps) (hn : ¬ (0 ≤ f ∧ f ≤ 15 ∧ 0 ≤ t ∧ t ≤ 15)) :
    Calls Try.prog 11 #[v, .agg #[.int .i64 f, .int .i64 t, .string s]] w (RefPost B w ps 1) := by
  obtain ⟨A, c, rfl⟩ := h.form
  have hb : Below w.heap.size w (w.alloc (.cells #[.int .i64 f, .int .i64 t, .string s] 37)) := (Below.refl _ _).alloc (Nat.le_refl _) _
  have HF := Lib.hid (show RefPost B w ps 1 (.returned (.tuple #[.slice A ps.length c, .int .i64 1])) (w.alloc (.cells #[.int .i64 f, .int .i64 t, .string s] 37)) from ⟨_, rfl, h.below hb, hb⟩)
  clear h hb
  have hn' : f < 0 ∨ 15 < f ∨ t < 0 ∨ 15 < t := by omega
  clear hn
  by_cases h1 : f < 0
  · clear hn'
    go_enter Try.func11, Try.ntmps11
    go_wp2
    go_ret2
    exact HF.out
  · by_cases h2 : 15 < f
    · clear hn'
      go_enter Try.func11, Try.ntmps11
      go_wp2
      go_ret2
      exact HF.out
    · by_cases h3 : t < 0
      · clear hn'
        go_enter Try.func11, Try.ntmps11
        go_wp2
        go_ret2
        exact HF.out
      · have h4 : 15 < t := by omega
        clear hn'
        go_enter Try.func11, Try.ntmps11
        go_wp2
        go_ret2
        exact HF.out

theorem refput_big (B : Nat) (w : World) (v : Value) (ps : List Pk) (f t : Int) (s : ByteArray) (h : RefB B w v ps) (hn : 0 ≤ f ∧ f ≤ 15 ∧ 0 ≤ t ∧ t ≤ 15) (hl : 4096 ≤ ps.length) :
    Calls Try.prog 11 #[v, .agg #[.int .i64 f, .int .i64 t, .string s]] w (RefPost B w ps 13) := by
  obtain ⟨A, c, rfl⟩ := h.form
  have hb : Below w.heap.size w (w.alloc (.cells #[.int .i64 f, .int .i64 t, .string s] 37)) := (Below.refl _ _).alloc (Nat.le_refl _) _
  have HF := Lib.hid (show RefPost B w ps 13 (.returned (.tuple #[.slice A ps.length c, .int .i64 13])) (w.alloc (.cells #[.int .i64 f, .int .i64 t, .string s] 37)) from ⟨_, rfl, h.below hb, hb⟩)
  clear h hb
  obtain ⟨h1, h2, h3, h4⟩ := hn
  have hl' : (4095 : Int) < (ps.length : Int) := by omega
  go_enter Try.func11, Try.ntmps11
  go_wp2
  go_ret2
  exact HF.out

theorem cells_new3 (w : World) (x y z : Value) (t : TypeId) : ∀ j u, [x, y, z][j]? = some u → (w.alloc (.cells #[x, y, z] t)).cell? ((⟨w.heap.size, 0, none⟩ : Addr).add j) = some u := by
  intro j u hu
  rw [show (⟨w.heap.size, 0, none⟩ : Addr).add j = ⟨w.heap.size, j, none⟩ from by unfold Addr.add; split <;> simp_all, cell_of_row _ _ _ _ _ _ (heap_alloc_new w _), ← Array.getElem?_toList]
  exact hu

set_option maxHeartbeats 1000000 in
theorem refput_in (B : Nat) (w : World) (v : Value) (ps : List Pk) (f t : Int) (d : List UInt8) (h : RefB B w v ps) (hB : B ≤ w.heap.size) (hn : 0 ≤ f ∧ f ≤ 15 ∧ 0 ≤ t ∧ t ≤ 15) (hl : ps.length < 4096) :
    Calls Try.prog 11 #[v, .agg #[.int .i64 f, .int .i64 t, .string ⟨d.toArray⟩]] w (RefPost B w (ps ++ [(f, t, d)]) 0) := by
  obtain ⟨i0, hi0, hz0, hz1, hz2⟩ := info_parts Try.info37
  have hb : Below w.heap.size w (w.alloc (.cells #[.int .i64 f, .int .i64 t, .string ⟨d.toArray⟩] 37)) := (Below.refl _ _).alloc (Nat.le_refl _) _
  have hz : w.heap.size ≤ (w.alloc (.cells #[.int .i64 f, .int .i64 t, .string ⟨d.toArray⟩] 37)).heap.size := by simp
  have HH := Lib.hid (h.below hb)
  have HB := Lib.hid hb
  have HBW := Lib.hid hB
  obtain ⟨h1, h2, h3, h4⟩ := hn
  have hl' : ¬ (4095 : Int) < (ps.length : Int) := by omega
  have hc0 : (w.alloc (.cells #[.int .i64 f, .int .i64 t, .string ⟨d.toArray⟩] 37)).cell? ⟨w.heap.size, 0, none⟩ = some (.int .i64 f) := by go_simp
  have hc1 : (w.alloc (.cells #[.int .i64 f, .int .i64 t, .string ⟨d.toArray⟩] 37)).cell? ⟨w.heap.size, 1, none⟩ = some (.int .i64 t) := by go_simp
  have hc2 : (w.alloc (.cells #[.int .i64 f, .int .i64 t, .string ⟨d.toArray⟩] 37)).cell? ⟨w.heap.size, 2, none⟩ = some (.string ⟨d.toArray⟩) := by go_simp
  have HC := Lib.hid (And.intro hc0 (And.intro hc1 hc2))
  have HLT := Lib.hid (show w.heap.size < (w.alloc (.cells #[.int .i64 f, .int .i64 t, .string ⟨d.toArray⟩] 37)).heap.size by simp)
  have hp := h.part
  clear hb hz hB hc0 hc1 hc2 h
  have key : ∀ (v1 : Value) (w1 : World), w1.ownsRow w.heap.size 37 3 v1 ps.length (flatR (srs ps)) → Below w.heap.size w w1 → ∀ (v2 : Value) (w2 : World), w2.ownsRow w.heap.size 37 3 v2 (ps.length + 1) (flatR (srs ps) ++ [.int .i64 f, .int .i64 t, .string ⟨d.toArray⟩]) → (w1.alloc (.cells #[.int .i64 f, .int .i64 t, .string ⟨d.toArray⟩] 37)).grownBy w2 v1.ownBlock → RefPost B w (ps ++ [(f, t, d)]) 0 (.returned (.tuple #[v2, .int .i64 0])) w2 := by
    intro v1 w1 ho1 hb1 v2 w2 ho2 hg2
    refine ⟨v2, rfl, ?_, (hb1.alloc hb1.size _).grown hg2 (by simpa using Nat.le_trans hb1.size (Nat.le_succ _)) (fun k hk => (ho1.lt k hk).1)⟩
    unfold RefB
    rw [List.length_append, show flatR (srs (ps ++ [(f, t, d)])) = flatR (srs ps) ++ [.int .i64 f, .int .i64 t, .string ⟨d.toArray⟩] by simp [srs, flatR, pkCells, stR]]
    exact own_from ho2 HBW.out
  have HKEY := Lib.hid key
  clear key
  rcases hp with ⟨rfl, rfl⟩ | ⟨g, c, rfl, _, _, hgc, hcm⟩
  · simp only [List.length_nil] at *
    go_enter Try.func11, Try.ntmps11
    obtain ⟨hc0, hc1, hc2⟩ := HC.out
    go_wp2_with (first
      | (at_builtin; refine wpList_append_own_none rfl _ _ 26 rfl w.heap.size 37 i0 3 Try.underlying26 hi0 (.slice none 0 0) 0 [] rfl (World.ownsRow_nil _ _ _ _) rfl ?_; have _t1 := trivial)
      | (at_builtin; refine wpList_append_own _ rfl _ _ 26 rfl w.heap.size 37 i0 _ 3 32 Try.underlying26 hi0 hz0 hz1 hz2 rfl (by decide) (.slice none 0 0) 0 [] rfl (World.ownsRow_nil _ _ _ _) ⟨w.heap.size + 1, 0, none⟩ 1 1 [.int .i64 f, .int .i64 t, .string ⟨d.toArray⟩] rfl rfl (by have := cells_new3 (w.alloc (.cells #[.int .i64 f, .int .i64 t, .string ⟨d.toArray⟩] 37)) (.int .i64 f) (.int .i64 t) (.string ⟨d.toArray⟩) 37; simpa using this) (by simp [Value.oneCell']) (by unfold maxLen; omega) (by omega) (by simp; omega) ?_; intro v2 w2 hown2 hgrow2 _; have HO2 := Lib.hid hown2; have HG2 := Lib.hid hgrow2; clear hown2 hgrow2))
    go_ret2
    exact HKEY.out (.slice none 0 0) _ (World.ownsRow_nil _ _ _ _) HB.out _ _ HO2.out HG2.out
  · have hcells := fun (x : World) (hx : RefB B x (.slice (some ⟨g, 0, none⟩) ps.length c) ps) => hx.cells (g := g) rfl
    have HCL := Lib.hid (hcells _ HH.out)
    clear hcells
    go_enter Try.func11, Try.ntmps11
    obtain ⟨hc0, hc1, hc2⟩ := HC.out
    go_wp2_with (first
      | (at_builtin; refine wpList_append_own _ rfl _ _ 26 rfl w.heap.size 37 i0 _ 3 32 Try.underlying26 hi0 hz0 hz1 hz2 rfl (by decide) (.slice none 0 0) 0 [] rfl (World.ownsRow_nil _ _ _ _) ⟨g, 0, none⟩ ps.length c (flatR (srs ps)) rfl (by rw [flatR_length, srs_length]) HCL.out (ref_one ps) (by unfold maxLen; omega) (by omega) HB.out.size ?_; intro v1 w1 hown1 hgrow1 _; have HO1 := Lib.hid (show w1.ownsRow w.heap.size 37 3 v1 ps.length (flatR (srs ps)) by simpa using hown1); have HB1 := Lib.hid (HB.out.grown hgrow1 HB.out.size (fun k hk => by cases hk)); have hc0 := (hgrow1.cell HC.out.1 (by simp [Value.ownBlock])); have hc1 := (hgrow1.cell HC.out.2.1 (by simp [Value.ownBlock])); have hc2 := (hgrow1.cell HC.out.2.2 (by simp [Value.ownBlock])); clear hown1 hgrow1)
      | (at_builtin; refine wpList_append_own _ rfl _ _ 26 rfl w.heap.size 37 i0 _ 3 32 Try.underlying26 hi0 hz0 hz1 hz2 rfl (by decide) v1 ps.length _ rfl (HO1.out.alloc _) ⟨w1.heap.size, 0, none⟩ 1 1 [.int .i64 f, .int .i64 t, .string ⟨d.toArray⟩] rfl rfl (cells_new3 w1 _ _ _ 37) (by simp [Value.oneCell']) (by unfold maxLen; omega) (by omega) (by have := HB1.out.size; simp; omega) ?_; intro v2 w2 hown2 hgrow2 _; have HO2 := Lib.hid hown2; have HG2 := Lib.hid hgrow2; clear hown2 hgrow2))
    go_ret2
    exact HKEY.out v1 w1 HO1.out HB1.out _ _ HO2.out HG2.out

/-- the document's 'Put' -/
theorem refput_any (B : Nat) (w : World) (v : Value) (ps : List Pk) (f t : Int) (d : List UInt8) (h : RefB B w v ps) (hB : B ≤ w.heap.size) :
    Calls Try.prog 11 #[v, .agg #[.int .i64 f, .int .i64 t, .string ⟨d.toArray⟩]] w (RefPost B w (putL ps (f, t, d)) (putE ps f t)) := by
  by_cases hn : 0 ≤ f ∧ f ≤ 15 ∧ 0 ≤ t ∧ t ≤ 15
  · have hb : bothNodes f t = true := by unfold bothNodes; simp; omega
    rcases Nat.lt_or_ge ps.length 4096 with hl | hl
    · have hE : putE ps f t = 0 := by unfold putE; rw [hb, if_pos rfl, if_neg (by omega)]
      have hL : putL ps (f, t, d) = ps ++ [(f, t, d)] := by unfold putL; rw [if_pos hE]
      rw [hE, hL]
      exact refput_in B w v ps f t d h hB hn hl
    · have hE : putE ps f t = 13 := by unfold putE; rw [hb, if_pos rfl, if_pos (by omega)]
      have hL : putL ps (f, t, d) = ps := by unfold putL; rw [if_neg (by simp only [hE]; decide)]
      rw [hE, hL]
      exact refput_big B w v ps f t _ h hn hl
  · have hb : bothNodes f t = false := by unfold bothNodes; simp; omega
    have hE : putE ps f t = 1 := by unfold putE; rw [hb]; simp
    have hL : putL ps (f, t, d) = ps := by unfold putL; rw [if_neg (by simp only [hE]; decide)]
    rw [hE, hL]
    exact refput_no B w v ps f t _ h hn

end Go.Proofs.Ytckcagklojpfhaa
