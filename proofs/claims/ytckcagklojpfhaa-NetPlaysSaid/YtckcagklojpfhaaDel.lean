/- 'slices.Delete' of one packet: in place, the last place zeroed. No condition. -/
import Derived.Test.YtckcagklojpfhaaSwap
namespace Go.Proofs.Ytckcagklojpfhaa
open Go.RowKit
set_option linter.unusedSimpArgs false

theorem zero33 (w : World) : (zeroValue 33).run Try.prog w = .ok (.agg #[.int .i64 0, .int .i64 0, .slice none 0 0]) w := by
  obtain ⟨i0, hi, hz0, hz1, hz2⟩ := info_parts Try.info33
  simp [zeroValue, typeInfo, hi, hz0]

theorem clear_one (w : World) (ty b o c : Nat) (cur : Array Value) (hg : w.heap[b]? = some (.cells cur 33 (0, 0))) (hfit : o + 3 ≤ cur.size) :
    (Builtin.clear_ #[53] ty #[.slice (some ⟨b, o, none⟩) 1 c]).run Try.prog w = .ok (.tuple #[]) (w.setRow b (cur.toList.take o ++ [Value.int .i64 0, Value.int .i64 0, Value.slice none 0 0] ++ cur.toList.drop (o + 3)).toArray) := by
  have hst := run_storeCells_at Try.prog b o 33 [Value.int .i64 0, Value.int .i64 0, Value.slice none 0 0] 0 cur w hg (by simpa using hfit) (by intro u hu; simp at hu; rcases hu with rfl | rfl | rfl <;> rfl)
  simp only [Nat.add_zero, List.length_cons, List.length_nil, Nat.zero_add, Nat.reduceAdd] at hst
  have hzc : (Builtin.zeroCells #[Value.int .i64 0, Value.int .i64 0, Value.slice none 0 0] 1).toList = [Value.int .i64 0, Value.int .i64 0, Value.slice none 0 0] := by simp [Builtin.zeroCells, List.ofFn]; rfl
  simp [Builtin.clear_, run_underlying Try.underlying53, zero33, Value.cells, hzc, hst]

set_option maxRecDepth 100000 in
set_option maxHeartbeats 2000000 in
theorem del_walk (b m cap i : Nat) (w wd W1 W2 : World) (hi : i ≤ m) (hn : m ≤ 65536) (hnc : m + 1 ≤ cap) (AD : Addr) (hAD : (if cap = i + 1 then some (⟨b, 0, none⟩ : Addr) else some ⟨b, (i + 1) * 3, none⟩) = some AD)
    (HWD : Hid (wd = { w with drawn := w.drawn + 1 })) (HZ1 : Hid (wd.heap.size ≤ W1.heap.size)) (HAP : Hid ((Builtin.append_ #[53, 53] 53 #[.slice (some ⟨b, 0, none⟩) i cap, .slice (some AD) (m - i) (cap - (i + 1))]).run Try.prog wd = .ok (.slice (some ⟨b, 0, none⟩) m cap) W1))
    (hcl : ∀ c, (Builtin.clear_ #[53] 0 #[.slice (some ⟨b, m * 3, none⟩) 1 c]).run Try.prog W1 = .ok (.tuple #[]) W2) :
    Calls Try.prog 21 #[.slice (some ⟨b, 0, none⟩) (m + 1) cap, .int .i64 i, .int .i64 ((i : Int) + 1)] w fun e w' => e = .returned (.slice (some ⟨b, 0, none⟩) m cap) ∧ w' = W2 := by
  have e1 : (i : Int) + 1 ≤ ((m : Int) + 1) := by omega
  have e1' : (i : Int) ≤ (m : Int) := by omega
  have e2 : (m : Int) + 1 ≤ (cap : Int) := by omega
  have e3 : ((i : Int) == (i : Int) + 1) = false := by simp; omega
  have e4 : (i : Int) ≤ (i : Int) + 1 := by omega
  have e0 : (0 : Int) ≤ (i : Int) + 1 := by omega
  have e5 : i ≤ cap := by omega
  have e6 : i + 1 ≤ cap := by omega
  have e8 : m ≤ cap := by omega
  have HCL := Lib.hid hcl
  clear hcl
  go_enter Try.func21, Try.ntmps21
  go_wp2
  refine region_turns (by kernel_rfl) [20, 21, 22, 23, 24, 25, 26, 0] rfl (by simp) (by kernel_rfl) (Staged 6 7 (fun w' => w' = wd) (fun w' => w' = W1) (fun w' => w' = W1)) (Moved (fun _ _ => True)) (Says (fun q_ => match q_ with | 20 => some (.slice (some ⟨b, 0, none⟩) (m + 1) cap) | 21 => some (.int .i64 i) | 22 => some (.slice (some ⟨b, 0, none⟩) i cap) | 23 => some (.slice (some ⟨b, 0, none⟩) (m + 1) cap) | 24 => some (.int .i64 ((i : Int) + 1)) | 25 => some (.slice (some AD) (m - i) (cap - (i + 1))) | 26 => some (.slice (some ⟨b, 0, none⟩) m cap) | 0 => some (.slice (some ⟨b, 0, none⟩) m cap) | _ => none) (fun q_ v w => True)) ?_ ?_ (turns_of_all rfl ?_) ?_
  · intro l hl
    refine Staged.start ?_ (hl _) (hl _)
    exact HWD.out.symm
  · rintro i tt v w w' hnw hM ⟨h1, h2⟩
    exact ⟨h1, h2⟩
  · refine ⟨?_, ?_, ?_, ?_, ?_, ?_, ?_, ?_, trivial⟩
    · intro l a w K hbf haf hun hS hF hK
      have g0 : a.tmps[0]? = some (.slice (some ⟨b, 0, none⟩) (m + 1) cap) := unfed hF 0 (by kernel_rfl) (by kernel_rfl) rfl
      exact op_value rfl (wanted_none rfl) (run_move' (v := .slice (some ⟨b, 0, none⟩) (m + 1) cap) rfl (eval_of g0) w) (hK _ w (Moved.refl _ _ w) (hS.same (by decide) (by decide)) (says_exact 20 rfl (by simp)))
    · intro l a w K hbf haf hun hS hF hK
      have g1 : a.tmps[1]? = some (.int .i64 i) := unfed hF 1 (by kernel_rfl) (by kernel_rfl) rfl
      exact op_value rfl (wanted_none rfl) (run_move' (v := .int .i64 i) rfl (eval_of g1) w) (hK _ w (Moved.refl _ _ w) (hS.same (by decide) (by decide)) (says_exact 21 rfl (by simp)))
    · intro l a w K hbf haf hun hS hF hK
      have g20 := fedX hF 20 (.slice (some ⟨b, 0, none⟩) (m + 1) cap) (by kernel_rfl) (by kernel_rfl) rfl
      have g21 := fedX hF 21 (.int .i64 i) (by kernel_rfl) (by kernel_rfl) rfl
      exact op_value (v := .slice (some ⟨b, 0, none⟩) i cap) rfl (wanted_none rfl) (by simp [go_sem, g20, g21, e0, e1, e1', e2, e4, e5, e6, hnc, hAD]) (hK _ w (Moved.refl _ _ w) (hS.same (by decide) (by decide)) (says_exact 22 rfl (by simp)))
    · intro l a w K hbf haf hun hS hF hK
      have g0 : a.tmps[0]? = some (.slice (some ⟨b, 0, none⟩) (m + 1) cap) := unfed hF 0 (by kernel_rfl) (by kernel_rfl) rfl
      exact op_value rfl (wanted_none rfl) (run_move' (v := .slice (some ⟨b, 0, none⟩) (m + 1) cap) rfl (eval_of g0) w) (hK _ w (Moved.refl _ _ w) (hS.same (by decide) (by decide)) (says_exact 23 rfl (by simp)))
    · intro l a w K hbf haf hun hS hF hK
      have g2 : a.tmps[2]? = some (.int .i64 ((i : Int) + 1)) := unfed hF 2 (by kernel_rfl) (by kernel_rfl) rfl
      exact op_value rfl (wanted_none rfl) (run_move' (v := .int .i64 ((i : Int) + 1)) rfl (eval_of g2) w) (hK _ w (Moved.refl _ _ w) (hS.same (by decide) (by decide)) (says_exact 24 rfl (by simp)))
    · intro l a w K hbf haf hun hS hF hK
      have g23 := fedX hF 23 (.slice (some ⟨b, 0, none⟩) (m + 1) cap) (by kernel_rfl) (by kernel_rfl) rfl
      have g24 := fedX hF 24 (.int .i64 ((i : Int) + 1)) (by kernel_rfl) (by kernel_rfl) rfl
      exact op_value (v := .slice (some AD) (m - i) (cap - (i + 1))) rfl (wanted_none rfl) (by simp [go_sem, g23, g24, e0, e1, e1', e2, e4, e5, e6, hnc, hAD]) (hK _ w (Moved.refl _ _ w) (hS.same (by decide) (by decide)) (says_exact 25 rfl (by simp)))
    · intro l a w K hbf haf hun hS hF hK
      have g22 := fedX hF 22 (.slice (some ⟨b, 0, none⟩) i cap) (by kernel_rfl) (by kernel_rfl) rfl
      have g25 := fedX hF 25 (.slice (some AD) (m - i) (cap - (i + 1))) (by kernel_rfl) (by kernel_rfl) rfl
      obtain rfl := hS.first hun (hbf 7 (by kernel_rfl))
      exact op_value (v := .slice (some ⟨b, 0, none⟩) m cap) (w' := W1) rfl (wanted_none rfl) (by simp [execOp, resolve, invoke, builtin, eval_of g22, eval_of g25, HAP.out]) (hK _ _ ⟨HZ1.out, fun _ _ hn => absurd trivial hn⟩ (Staged.toMid rfl (hbf 7 (by kernel_rfl)) (by decide)) (says_exact 26 rfl (by simp)))
    · intro l a w K hbf haf hun hS hF hK
      have g26 := fedX hF 26 (.slice (some ⟨b, 0, none⟩) m cap) (by kernel_rfl) (by kernel_rfl) rfl
      obtain rfl := hS.mid (haf 6 (by kernel_rfl)) hun
      exact op_value rfl (wanted_none rfl) (run_assign' (v := .slice (some ⟨b, 0, none⟩) m cap) rfl (eval_of g26) _) (hK _ _ (Moved.refl _ _ _) (Staged.toLast rfl) (says_exact 0 rfl (by simp)))
  · intro l fv_ w hl hS hf
    have hC := hS.last (hl 7 (by simp))
    have f20 : fv_ 20 = .slice (some ⟨b, 0, none⟩) (m + 1) cap := (hf 20 (by simp)).1 _ rfl
    have f21 : fv_ 21 = .int .i64 i := (hf 21 (by simp)).1 _ rfl
    have f22 : fv_ 22 = .slice (some ⟨b, 0, none⟩) i cap := (hf 22 (by simp)).1 _ rfl
    have f23 : fv_ 23 = .slice (some ⟨b, 0, none⟩) (m + 1) cap := (hf 23 (by simp)).1 _ rfl
    have f24 : fv_ 24 = .int .i64 ((i : Int) + 1) := (hf 24 (by simp)).1 _ rfl
    have f25 : fv_ 25 = .slice (some AD) (m - i) (cap - (i + 1)) := (hf 25 (by simp)).1 _ rfl
    have f26 : fv_ 26 = .slice (some ⟨b, 0, none⟩) m cap := (hf 26 (by simp)).1 _ rfl
    have f0 : fv_ 0 = .slice (some ⟨b, 0, none⟩) m cap := (hf 0 (by simp)).1 _ rfl
    simp only [putAll, List.foldl_cons, List.foldl_nil, List.setIfInBounds_toArray, List.set_cons_succ, List.set_cons_zero, f20, f21, f22, f23, f24, f25, f26, f0]
    clear f20 f21 f22 f23 f24 f25 f26 f0 hf
    subst hC
    have hcl := HCL.out
    go_wp2
    go_ret
    exact ⟨rfl, rfl⟩

theorem flatR_take (rs : List (Int × Int × Value)) (i : Nat) : (flatR rs).take (i * 3) = flatR (rs.take i) := by
  induction rs generalizing i with
  | nil => simp [flatR]
  | cons r rs ih =>
    cases i with
    | zero => simp [flatR]
    | succ i =>
      have := ih i
      unfold flatR at *
      rw [List.take_succ_cons, List.flatMap_cons, List.flatMap_cons, ← this, show (i + 1) * 3 = i * 3 + 3 by omega]
      simp [pkCells]

theorem flatR_drop (rs : List (Int × Int × Value)) (i : Nat) : (flatR rs).drop (i * 3) = flatR (rs.drop i) := by
  induction rs generalizing i with
  | nil => simp [flatR]
  | cons r rs ih =>
    cases i with
    | zero => simp [flatR]
    | succ i =>
      have := ih i
      unfold flatR at *
      rw [List.drop_succ_cons, List.flatMap_cons, ← this, show (i + 1) * 3 = i * 3 + 3 by omega]
      simp [pkCells]

/-- 'slices.Delete' of the packet at place i -/
theorem del_any (b m cap i : Nat) (rs : List (Int × Int × Value)) (w : World) (h : w.ownsRow 0 33 3 (.slice (some ⟨b, 0, none⟩) (m + 1) cap) (m + 1) (flatR rs)) (hone : ∀ u ∈ flatR rs, u.oneCell' = true) (hi : i ≤ m) (hn : m ≤ 65536) :
    Calls Try.prog 21 #[.slice (some ⟨b, 0, none⟩) (m + 1) cap, .int .i64 i, .int .i64 ((i : Int) + 1)] w fun e w' => e = .returned (.slice (some ⟨b, 0, none⟩) m cap) ∧
      w'.ownsRow 0 33 3 (.slice (some ⟨b, 0, none⟩) m cap) m (flatR (rs.eraseIdx i)) ∧ w.grownBy w' (some b) := by
  obtain ⟨i0, hinf, hz0, hz1, hz2⟩ := info_parts Try.info33
  obtain ⟨hlen, h2⟩ := h
  rw [flatR_length] at hlen
  rcases h2 with ⟨hx, _⟩ | ⟨b', cap', cur, hx, _, hg, hnc, hcm, hcs, htake⟩
  · cases hx
  injection hx with hx _ hx2
  injection hx with hx
  injection hx with hx _ _
  subst hx
  subst hx2
  have hrl : rs.length = m + 1 := by omega
  obtain ⟨wd, hwd⟩ : ∃ wd, wd = { w with drawn := w.drawn + 1 } := ⟨_, rfl⟩
  have hgd : wd.heap[b]? = some (.cells cur 33 (0, 0)) := by rw [hwd]; exact hg
  obtain ⟨news, hnews⟩ : ∃ news, news = flatR (rs.drop (i + 1)) := ⟨_, rfl⟩
  have hnl : news.length = (m - i) * 3 := by rw [hnews, flatR_length, List.length_drop, hrl]; congr 1; omega
  obtain ⟨AD, hAD, hcells⟩ : ∃ AD : Addr, (if cap = i + 1 then some (⟨b, 0, none⟩ : Addr) else some ⟨b, (i + 1) * 3, none⟩) = some AD ∧ ∀ j u, news[j]? = some u → wd.cell? (AD.add j) = some u := by
    by_cases hc : cap = i + 1
    · refine ⟨⟨b, 0, none⟩, by rw [if_pos hc], fun j u hu => ?_⟩
      have : news = [] := List.eq_nil_of_length_eq_zero (by rw [hnl]; omega)
      rw [this] at hu
      simp at hu
    · refine ⟨⟨b, (i + 1) * 3, none⟩, by rw [if_neg hc], fun j u hu => ?_⟩
      have hadd : (⟨b, (i + 1) * 3, none⟩ : Addr).add j = ⟨b, (i + 1) * 3 + j, none⟩ := by unfold Addr.add; split <;> simp_all
      rw [hadd, cell_of_row wd b _ cur 33 (0, 0) hgd, ← Array.getElem?_toList]
      rw [hnews, ← flatR_drop, List.getElem?_drop, ← htake, List.getElem?_take] at hu
      split at hu
      · exact hu
      · cases hu
  have hr := run_append_room (P := Try.prog) wd 53 53 33 i0 Try.underlying53 hinf b i cap cur hgd AD (m - i) (cap - (i + 1)) news (by rw [hz1]; exact hnl) hcells (fun u hu => hone u (by
    rw [hnews, ← flatR_drop] at hu
    exact List.mem_of_mem_drop hu)) (by omega) (by rw [hz1, hnl, hcs]; omega)
  rw [hz1, show i + (m - i) = m by omega] at hr
  obtain ⟨C1, hC1⟩ : ∃ C1, C1 = cur.toList.take (i * 3) ++ news ++ cur.toList.drop (i * 3 + news.length) := ⟨_, rfl⟩
  rw [← hC1] at hr
  have hcl : cur.toList.length = cap * 3 := by rw [Array.length_toList, hcs]
  have hC1l : C1.length = cap * 3 := by rw [hC1, List.length_append, List.length_append, List.length_take, List.length_drop, hnl, hcl]; omega
  obtain ⟨W1, hW1⟩ : ∃ W1, W1 = wd.setRow b C1.toArray := ⟨_, rfl⟩
  rw [← hW1] at hr
  have hg1 : W1.heap[b]? = some (.cells C1.toArray 33 (0, 0)) := by rw [hW1]; exact setRow_heap wd b cur _ 33 _ hgd
  have hclr := fun c => clear_one W1 0 b (m * 3) c C1.toArray hg1 (by simp only [List.size_toArray, hC1l]; omega)
  obtain ⟨C2, hC2⟩ : ∃ C2, C2 = C1.toArray.toList.take (m * 3) ++ [Value.int .i64 0, Value.int .i64 0, Value.slice none 0 0] ++ C1.toArray.toList.drop (m * 3 + 3) := ⟨_, rfl⟩
  rw [← hC2] at hclr
  refine (del_walk b m cap i w wd W1 _ hi hn hnc AD hAD (Lib.hid hwd) (Lib.hid (by rw [hW1]; simp)) (Lib.hid hr) hclr).mono ?_
  rintro e w' ⟨rfl, rfl⟩
  refine ⟨rfl, ⟨?_, .inr ⟨b, cap, C2.toArray, rfl, Nat.zero_le _, setRow_heap W1 b C1.toArray _ 33 _ hg1, by omega, hcm, ?_, ?_⟩⟩, ?_⟩
  · rw [flatR_length, List.length_eraseIdx, if_pos (by omega), hrl]
    rfl
  · simp only [List.size_toArray, hC2, List.length_append, List.length_take, List.length_drop, hC1l, List.length_cons, List.length_nil]
    omega
  · simp only [hC2]
    rw [List.append_assoc, List.take_append_of_le_length (by rw [List.length_take, hC1l]; omega), List.take_of_length_le (by rw [List.length_take]; omega)]
    rw [hC1, List.take_append_of_le_length (by rw [List.length_append, List.length_take, hnl, hcl]; omega), List.take_of_length_le (by rw [List.length_append, List.length_take, hnl, hcl]; omega)]
    rw [List.eraseIdx_eq_take_drop_succ, flatR_append, hnews, ← flatR_take, ← htake, List.take_take]
    congr 2
    omega
  · refine ⟨by rw [hW1, hwd]; rfl, by rw [hW1, hwd]; rfl, by rw [hW1, hwd]; rfl, by rw [hW1, hwd]; simp, fun k hk hne => ?_⟩
    have hkb : k ≠ b := by intro e; exact hne (by rw [e])
    rw [setRow_other _ _ _ _ hkb, hW1, setRow_other _ _ _ _ hkb, hwd]

end Go.Proofs.Ytckcagklojpfhaa
