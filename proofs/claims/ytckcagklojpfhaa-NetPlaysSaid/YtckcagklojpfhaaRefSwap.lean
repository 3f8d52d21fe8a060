/- The document's own 'Drop' and 'Swap' of layer 20. Condition: at most 65536 packets. -/
import Derived.Test.YtckcagklojpfhaaRefPut
import Derived.Deep.MidRow
import Derived.Test.YtckcagklojpfhaaSwap
namespace Go.Proofs.Ytckcagklojpfhaa
open Go.RowKit
set_option linter.unusedSimpArgs false

theorem refdrop_out (B : Nat) (w : World) (v : Value) (ps : List Pk) (i : Int) (h : RefB B w v ps) (hi : ¬ (0 ≤ i ∧ i < ps.length)) :
    Calls Try.prog 13 #[v, .int .i64 i] w (RefPost B w ps 15) := by
  obtain ⟨A, c, rfl⟩ := h.form
  have HF := Lib.hid (show RefPost B w ps 15 (.returned (.tuple #[.slice A ps.length c, .int .i64 15])) w from ⟨_, rfl, h, Below.refl _ _⟩)
  clear h
  by_cases h1 : i < 0
  · clear hi
    go_enter Try.func13, Try.ntmps13
    go_wp2
    go_ret2
    exact HF.out
  · have h2 : (ps.length : Int) ≤ i := by omega
    clear hi
    go_enter Try.func13, Try.ntmps13
    go_wp2
    go_ret2
    exact HF.out

theorem srs_take (ps : List Pk) (i : Nat) : srs (ps.take i) = (srs ps).take i := by simp [srs, List.map_take]
theorem srs_drop (ps : List Pk) (i : Nat) : srs (ps.drop i) = (srs ps).drop i := by simp [srs, List.map_drop]

theorem flatR_split (rs : List (Int × Int × Value)) (i : Nat) : flatR rs = flatR (rs.take i) ++ flatR (rs.drop i) := by rw [← flatR_append, List.take_append_drop]

theorem flat_take_get {ps : List Pk} {i j : Nat} {u : Value} (h : (flatR (srs (ps.take i)))[j]? = some u) : (flatR (srs ps))[j]? = some u := by
  have hj := (List.getElem?_eq_some_iff.1 h).1
  rw [flatR_split (srs ps) i, ← srs_take, List.getElem?_append_left hj]
  exact h
theorem flat_drop_get {ps : List Pk} {i j : Nat} {u : Value} (hi : i ≤ ps.length) (h : (flatR (srs (ps.drop i)))[j]? = some u) : (flatR (srs ps))[i * 3 + j]? = some u := by
  have hl : (flatR (srs (ps.take i))).length = i * 3 := by rw [flatR_length, srs_length, List.length_take]; omega
  rw [flatR_split (srs ps) i, ← srs_take, ← srs_drop, List.getElem?_append_right (by omega), hl, show i * 3 + j - i * 3 = j by omega]
  exact h

set_option maxHeartbeats 1000000 in
theorem refdrop_in (B : Nat) (w : World) (v : Value) (ps : List Pk) (i : Nat) (h : RefB B w v ps) (hB : B ≤ w.heap.size) (hi : i < ps.length) (hbig : ps.length ≤ 65536) :
    Calls Try.prog 13 #[v, .int .i64 i] w (RefPost B w (ps.eraseIdx i) 0) := by
  obtain ⟨i0, hi0, hz0, hz1, hz2⟩ := info_parts Try.info37
  rcases h.part with ⟨_, rfl⟩ | ⟨g, c, rfl, hBg, hgw, hgc, hcm⟩
  · simp at hi
  have HH := Lib.hid h
  have HBW := Lib.hid hB
  have hir : (i : Int) < (ps.length : Int) := by omega
  have hic : (i : Int) ≤ (c : Int) := by omega
  have hj0 : (0 : Int) ≤ (i : Int) + 1 := by omega
  have hj1 : (i : Int) + 1 ≤ (ps.length : Int) := by omega
  have hadd : ∀ t, (⟨g, 0, none⟩ : Addr).add t = ⟨g, t, none⟩ := fun t => by unfold Addr.add; split <;> simp_all
  have HN1 := Lib.hid (show ∀ (x : World), RefB B x (.slice (some ⟨g, 0, none⟩) ps.length c) ps → ∀ t u, (flatR (srs (ps.take i)))[t]? = some u → x.cell? ((⟨g, 0, none⟩ : Addr).add t) = some u from fun x hx t u hu => hx.cells (g := g) rfl t u (flat_take_get hu))
  obtain ⟨AD, hAD, hn2⟩ : ∃ AD : Addr, (if c = i + 1 then some (⟨g, 0, none⟩ : Addr) else some ⟨g, (i + 1) * 3, none⟩) = some AD ∧ ∀ (x : World), RefB B x (.slice (some ⟨g, 0, none⟩) ps.length c) ps → ∀ t u, (flatR (srs (ps.drop (i + 1))))[t]? = some u → x.cell? (AD.add t) = some u := by
    by_cases hc : c = i + 1
    · refine ⟨⟨g, 0, none⟩, by rw [if_pos hc], fun x _ t u hu => ?_⟩
      have ht := (List.getElem?_eq_some_iff.1 hu).1
      rw [flatR_length, srs_length, List.length_drop] at ht
      omega
    · refine ⟨⟨g, (i + 1) * 3, none⟩, by rw [if_neg hc], fun x hx t u hu => ?_⟩
      have h1 : (⟨g, (i + 1) * 3, none⟩ : Addr).add t = (⟨g, 0, none⟩ : Addr).add ((i + 1) * 3 + t) := by rw [hadd]; unfold Addr.add; split <;> simp_all
      rw [h1]
      exact hx.cells (g := g) rfl _ u (flat_drop_get hi hu)
  have HN2 := Lib.hid hn2
  have HERA := Lib.hid (show flatR (srs (ps.take i)) ++ flatR (srs (ps.drop (i + 1))) = flatR (srs (ps.eraseIdx i)) by rw [← flatR_append, List.eraseIdx_eq_take_drop_succ]; simp [srs])
  have HEL := Lib.hid (show 0 + i + (ps.length - (i + 1)) = (ps.eraseIdx i).length by rw [List.length_eraseIdx, if_pos hi]; omega)
  have HI := Lib.hid hi
  clear h hB hn2 hadd
  go_enter Try.func13, Try.ntmps13
  go_wp2_with (first
    | (at_builtin; refine wpList_append_own _ rfl _ _ 26 rfl w.heap.size 37 i0 _ 3 32 Try.underlying26 hi0 hz0 hz1 hz2 rfl (by decide) (.slice none 0 0) 0 [] rfl (World.ownsRow_nil _ _ _ _) ⟨g, 0, none⟩ i c (flatR (srs (ps.take i))) rfl (by rw [flatR_length, srs_length, List.length_take, Nat.min_eq_left (Nat.le_of_lt HI.out)]) (HN1.out _ HH.out) (ref_one _) (by unfold maxLen; omega) (by omega) (Nat.le_refl _) ?_; intro v1 w1 hown1 hgrow1 _; have HO1 := Lib.hid hown1; have HB1 := Lib.hid (show Below w.heap.size w w1 from (Below.refl _ _).grown hgrow1 (Nat.le_refl _) (fun k hk => by cases hk)); have HH1 := Lib.hid (HH.out.below HB1.out); clear hown1 hgrow1)
    | (at_builtin; refine wpList_append_own _ rfl _ _ 26 rfl w.heap.size 37 i0 _ 3 32 Try.underlying26 hi0 hz0 hz1 hz2 rfl (by decide) v1 (0 + i) _ rfl HO1.out AD (ps.length - (i + 1)) (c - (i + 1)) (flatR (srs (ps.drop (i + 1)))) rfl (by rw [flatR_length, srs_length, List.length_drop]) (HN2.out w1 HH1.out) (ref_one _) (by unfold maxLen; omega) (by omega) HB1.out.size ?_; intro v2 w2 hown2 hgrow2 _; have HO2 := Lib.hid hown2; have HG2 := Lib.hid hgrow2; clear hown2 hgrow2))
  go_ret2
  refine ⟨v2, rfl, ?_, HB1.out.grown HG2.out HB1.out.size (fun k hk => (HO1.out.lt k hk).1)⟩
  have := HO2.out
  rw [List.nil_append, HERA.out, HEL.out] at this
  exact own_from this HBW.out

/-- the document's 'Drop' -/
theorem refdrop_any (B : Nat) (w : World) (v : Value) (ps : List Pk) (i : Int) (h : RefB B w v ps) (hB : B ≤ w.heap.size) (hbig : ps.length ≤ 65536) :
    Calls Try.prog 13 #[v, .int .i64 i] w (RefPost B w (dropL ps i) (thereE ps.length [i])) := by
  by_cases hi : 0 ≤ i ∧ i < ps.length
  · obtain ⟨I, rfl⟩ := Int.eq_ofNat_of_zero_le hi.1
    rw [thereE_one, if_pos hi]
    unfold dropL
    rw [if_pos hi]
    exact refdrop_in B w v ps I h hB (by omega) hbig
  · rw [thereE_one, if_neg hi]
    unfold dropL
    rw [if_neg hi]
    exact refdrop_out B w v ps i h hi

/-! ### Swap -/
theorem refswap_out (B : Nat) (w : World) (v : Value) (ps : List Pk) (i k : Int) (h : RefB B w v ps) (hi : ¬ (0 ≤ i ∧ i < ps.length ∧ 0 ≤ k ∧ k < ps.length)) :
    Calls Try.prog 15 #[v, .int .i64 i, .int .i64 k] w (RefPost B w ps 15) := by
  obtain ⟨A, c, rfl⟩ := h.form
  have HF := Lib.hid (show RefPost B w ps 15 (.returned (.tuple #[.slice A ps.length c, .int .i64 15])) w from ⟨_, rfl, h, Below.refl _ _⟩)
  clear h
  by_cases h1 : i < 0
  · clear hi
    go_enter Try.func15, Try.ntmps15
    go_wp2
    go_ret2
    exact HF.out
  · by_cases h2 : (ps.length : Int) ≤ i
    · clear hi
      go_enter Try.func15, Try.ntmps15
      go_wp2
      go_ret2
      exact HF.out
    · by_cases h3 : k < 0
      · clear hi
        go_enter Try.func15, Try.ntmps15
        go_wp2
        go_ret2
        exact HF.out
      · have h4 : (ps.length : Int) ≤ k := by omega
        clear hi
        go_enter Try.func15, Try.ntmps15
        go_wp2
        go_ret2
        exact HF.out

theorem refrow_set {B : Nat} {w : World} {g c : Nat} {n : Nat} {ps : List Pk} (h : w.ownsRow B 37 3 (.slice (some ⟨g, 0, none⟩) n c) n (flatR (srs ps))) (i : Nat) (p : Pk) (hi : i < ps.length) :
    (putPk w g i p.1 p.2.1 (.string ⟨p.2.2.toArray⟩)).ownsRow B 37 3 (.slice (some ⟨g, 0, none⟩) n c) n (flatR (srs (ps.set i p))) ∧ w.grownBy (putPk w g i p.1 p.2.1 (.string ⟨p.2.2.toArray⟩)) (some g) := by
  have h1 := h.stored (i * 3) (.int .i64 p.1)
  have h2 := h1.1.stored (i * 3 + 1) (.int .i64 p.2.1)
  have h3 := h2.1.stored (i * 3 + 2) (.string ⟨p.2.2.toArray⟩)
  refine ⟨?_, ?_⟩
  · have e : srs (ps.set i p) = (srs ps).set i (p.1, p.2.1, .string ⟨p.2.2.toArray⟩) := by simp [srs, List.map_set, stR]
    rw [e, flatR_set (srs ps) i _ _ _ (by rw [srs_length]; exact hi)]
    exact h3.1
  · exact ⟨rfl, rfl, rfl, by simp [putPk, World.setCell], fun k hk hne => by
      rw [← h1.2.block k hk hne, ← h2.2.block k (by simpa [World.setCell] using hk) hne, ← h3.2.block k (by simpa [World.setCell] using hk) hne]
      rfl⟩

theorem pk_one (f t : Int) (x : ByteArray) : (#[Value.int .i64 f, .int .i64 t, .string x] : Array Value).all (fun v => v.oneCell') = true := by simp [Value.oneCell']

theorem row_there {B : Nat} {w : World} {g c n i : Nat} {ps : List Pk} (h : w.ownsRow B 37 3 (.slice (some ⟨g, 0, none⟩) n c) n (flatR (srs ps))) (hi : i < ps.length) : w.there g (i * 3) 3 := by
  intro j hj
  have hl := h.1
  rw [flatR_length, srs_length] at hl
  refine ⟨?_, h.frozenAt _⟩
  rw [h.cellAt (i * 3 + j) (by omega), List.getElem?_eq_getElem (by rw [flatR_length, srs_length]; omega)]
  rfl

set_option maxHeartbeats 1000000 in
theorem refswap_in (B : Nat) (w : World) (v : Value) (ps : List Pk) (i k : Nat) (h : RefB B w v ps) (hB : B ≤ w.heap.size) (hi : i < ps.length) (hk : k < ps.length) (hbig : ps.length ≤ 65536) :
    Calls Try.prog 15 #[v, .int .i64 i, .int .i64 k] w (RefPost B w (swapL ps i k) 0) := by
  obtain ⟨i0, hi0, hz0, hz1, hz2⟩ := info_parts Try.info37
  rcases h.part with ⟨_, rfl⟩ | ⟨g, c, rfl, hBg, hgw, hgc, hcm⟩
  · simp at hi
  obtain ⟨⟨fi, ti, di⟩, hpi⟩ : ∃ p, ps[i]? = some p := ⟨_, List.getElem?_eq_getElem hi⟩
  obtain ⟨⟨fk, tk, dk⟩, hpk⟩ : ∃ p, ps[k]? = some p := ⟨_, List.getElem?_eq_getElem hk⟩
  have HH := Lib.hid h
  have HBW := Lib.hid hB
  have hir : (i : Int) < (ps.length : Int) := by omega
  have hkr : (k : Int) < (ps.length : Int) := by omega
  have HCL := Lib.hid (show ∀ t u, (flatR (srs ps))[t]? = some u → w.cell? ((⟨g, 0, none⟩ : Addr).add t) = some u from h.cells (g := g) rfl)
  have HPI := Lib.hid hpi
  have HPK := Lib.hid hpk
  have HL := Lib.hid (show swapL ps i k = (ps.set i (fk, tk, dk)).set k (fi, ti, di) by
    unfold swapL
    rw [if_pos (by omega)]
    simp only [Int.toNat_natCast, hpi, hpk, Option.getD_some])
  have HI := Lib.hid hi
  have HK := Lib.hid hk
  clear h hB hpi hpk hi hk
  go_enter Try.func15, Try.ntmps15
  go_wp2_with (first
    | (at_builtin; refine wpList_append_own _ rfl _ _ 26 rfl w.heap.size 37 i0 _ 3 32 Try.underlying26 hi0 hz0 hz1 hz2 rfl (by decide) (.slice none 0 0) 0 [] rfl (World.ownsRow_nil _ _ _ _) ⟨g, 0, none⟩ ps.length c (flatR (srs ps)) rfl (by rw [flatR_length, srs_length]) HCL.out (ref_one _) (by unfold maxLen; omega) (by omega) (Nat.le_refl _) ?_; intro v1 w1 hown1 hgrow1 _; have hb1 : Below w.heap.size w w1 := (Below.refl _ _).grown hgrow1 (Nat.le_refl _) (fun k hk => by cases hk); have hown : w1.ownsRow w.heap.size 37 3 v1 ps.length (flatR (srs ps)) := (by simpa using hown1); obtain ⟨g1, c1, hv1, hg1, hg1l⟩ := hown.form (by have := HI.out; omega); subst hv1; obtain ⟨y0, y1, y2⟩ := RefB.cell (HH.out.below hb1) HPK.out; have hne : g ≠ g1 := (by have : w.heap.size ≤ g1 := (by assumption); omega); have HNE := Lib.hid hne; have HO1 := Lib.hid hown; have HB1 := Lib.hid hb1; have HG1 := Lib.hid hg1; clear hown1 hgrow1 hb1 hown)
    | (refine wpList_store_mid rfl 37 (.tmp 37) (.tmp 36) rfl g1 (i * 3) #[.int .i64 fk, .int .i64 tk, .string ⟨dk.toArray⟩] rfl rfl (row_there HO1.out HI.out) (by kernel_rfl) (pk_one _ _ _) ?_; change wpList _ _ _ _ _ (putPk w1 g1 i fk tk (.string ⟨dk.toArray⟩)); have o2 := refrow_set HO1.out i (fk, tk, dk) HI.out; obtain ⟨w2, hw2⟩ : ∃ w2, w2 = putPk w1 g1 i fk tk (.string ⟨dk.toArray⟩) := ⟨_, rfl⟩; rw [← hw2] at o2 ⊢; have hb2 : Below w.heap.size w w2 := HB1.out.grown o2.2 HB1.out.size (fun k hk => (by cases hk; exact HG1.out)); obtain ⟨x0, x1, x2⟩ := RefB.cell (HH.out.below hb2) HPI.out; have HO2 := Lib.hid o2.1; have HB2 := Lib.hid hb2; clear hw2 o2 hb2 y0 y1 y2)
    | (refine wpList_store_mid rfl 37 (.tmp 44) (.tmp 43) rfl g1 (k * 3) #[.int .i64 fi, .int .i64 ti, .string ⟨di.toArray⟩] rfl rfl (row_there HO2.out (by rw [List.length_set]; exact HK.out)) (by kernel_rfl) (pk_one _ _ _) ?_; change wpList _ _ _ _ _ (putPk w2 g1 k fi ti (.string ⟨di.toArray⟩)); have o3 := refrow_set HO2.out k (fi, ti, di) (by rw [List.length_set]; exact HK.out); obtain ⟨w3, hw3⟩ : ∃ w3, w3 = putPk w2 g1 k fi ti (.string ⟨di.toArray⟩) := ⟨_, rfl⟩; rw [← hw3] at o3 ⊢; have hb3 : Below w.heap.size w w3 := HB2.out.grown o3.2 HB2.out.size (fun k hk => (by cases hk; exact HG1.out)); have HO3 := Lib.hid o3.1; have HB3 := Lib.hid hb3; clear hw3 o3 hb3 x0 x1 x2))
  go_ret2
  refine ⟨_, rfl, ?_, HB3.out⟩
  have := HO3.out
  rw [← HL.out] at this
  have e : (swapL ps i k).length = ps.length := by rw [HL.out]; simp
  unfold RefB
  rw [e]
  exact own_from this HBW.out

/-- the document's 'Swap' -/
theorem refswap_any (B : Nat) (w : World) (v : Value) (ps : List Pk) (i k : Int) (h : RefB B w v ps) (hB : B ≤ w.heap.size) (hbig : ps.length ≤ 65536) :
    Calls Try.prog 15 #[v, .int .i64 i, .int .i64 k] w (RefPost B w (swapL ps i k) (thereE ps.length [i, k])) := by
  by_cases hi : 0 ≤ i ∧ i < ps.length ∧ 0 ≤ k ∧ k < ps.length
  · obtain ⟨I, rfl⟩ := Int.eq_ofNat_of_zero_le hi.1
    obtain ⟨K, rfl⟩ := Int.eq_ofNat_of_zero_le hi.2.2.1
    rw [thereE_two, if_pos hi]
    exact refswap_in B w v ps I K h hB (by omega) (by omega) hbig
  · rw [thereE_two, if_neg hi]
    rw [show swapL ps i k = ps from if_neg hi]
    exact refswap_out B w v ps i k h hi

end Go.Proofs.Ytckcagklojpfhaa
