/- The walk of the statement NetDrops: for every byte and every list of bytes it is true, and what was there before stands. -/
import Derived.Test.YtckcagklojpfhaaRow
import Derived.Test.YtckcagklojpfhaaSwapsW
import Derived.BigQuiet
namespace Go.Proofs.Ytckcagklojpfhaa.netDrops
open Go.RowKit netFull netSwaps
set_option linter.unusedSimpArgs false

def P (xs : List Nat) : List Pk := xs.map fun a : Nat => ((0 : Int), (0 : Int), [UInt8.ofNat a])
def nv (xs : List Nat) : List Value := xs.map fun a : Nat => Value.int .i64 (a : Int)
theorem P_length (xs : List Nat) : (P xs).length = xs.length := by simp [P]
theorem nv_length (xs : List Nat) : (nv xs).length = xs.length := by simp [nv]
theorem P_snoc (xs : List Nat) (a : Nat) : P (xs ++ [a]) = P xs ++ [((0 : Int), (0 : Int), [UInt8.ofNat a])] := by simp [P]
theorem nv_snoc (xs : List Nat) (a : Nat) : nv (xs ++ [a]) = nv xs ++ [Value.int .i64 (a : Int)] := by simp [nv]
theorem P_get {xs : List Nat} {j a : Nat} (h : xs[j]? = some a) : (P xs)[j]? = some ((0 : Int), (0 : Int), [UInt8.ofNat a]) := by simp [P, h]
theorem nv_get {xs : List Nat} {j a : Nat} (h : xs[j]? = some a) : (nv xs)[j]? = some (.int .i64 (a : Int)) := by simp [nv, h]
theorem nv_one (xs : List Nat) : ∀ u ∈ nv xs, u.oneCell' = true := by
  intro u hu
  obtain ⟨a, _, rfl⟩ := List.mem_map.1 hu
  rfl
theorem P_drop (xs : List Nat) (k : Nat) (h : k < xs.length) : dropL (P xs) (k : Int) = P (xs.eraseIdx k) := by
  unfold dropL
  rw [if_pos (by rw [P_length]; omega), Int.toNat_natCast, List.eraseIdx_eq_take_drop_succ, List.eraseIdx_eq_take_drop_succ]
  simp [P, List.map_take, List.map_drop]

theorem long (v : Value) (l : List UInt8) (n : Nat) (w : World) (hr : Rd w w.heap.size v (bv l)) (hl : 40 < l.length) : Calls Try.prog 7 #[.int .u8 n, v] w (Yes w) := by
  obtain ⟨A, c, rfl, _⟩ := hr.form
  rw [bv_length] at *
  clear hr
  have h1 : (40 : Int) < (l.length : Int) := by omega
  go_enter Try.func7, Try.ntmps7
  go_wp2_with fail
  refine (awake_any w).mono ?_
  rintro e w1 ⟨rfl, hb1⟩
  have HB1 := Lib.hid hb1
  clear hb1
  go_wp2
  go_ret
  exact ⟨rfl, HB1.out⟩

set_option maxRecDepth 100000 in
set_option maxHeartbeats 4000000 in
theorem short (v : Value) (l : List UInt8) (n : Nat) (w : World) (hr : Rd w w.heap.size v (bv l)) (hl : l.length ≤ 40) (hn : n < 256) : Calls Try.prog 7 #[.int .u8 n, v] w (Yes w) := by
  obtain ⟨i0, hi0, hz0, hz1, hz2⟩ := info_parts Try.info3
  have HR := Lib.hid hr
  obtain ⟨A, c, rfl, _, _, _⟩ := hr.form
  rw [bv_length] at *
  clear hr
  have h1 : ¬ (40 : Int) < (l.length : Int) := by omega
  have hd1 : decide ((40 : Int) < (l.length : Int)) = false := by simpa using h1
  obtain ⟨m, hm⟩ : ∃ m : Nat, m = n % 30 := ⟨_, rfl⟩
  have hm1 : ((n : Int) % 30) = (m : Int) := by omega
  have hm2 : m < 30 := by omega
  have HM1 := Lib.hid hm1
  clear hm hm1
  go_enter Try.func7, Try.ntmps7
  go_wp2_with fail
  refine (awake_any w).mono ?_
  rintro e w1 ⟨rfl, hb1⟩
  have HB1 := Lib.hid hb1
  have HR1 := Lib.hid (HR.out.on hb1)
  clear hb1
  have hm1 := HM1.out
  go_wp2_with fail
  clear hm1
  refine (new_at w1).mono ?_
  rintro e w2 ⟨g, rfl, hn2, hb2⟩
  have HN2 := Lib.hid hn2
  have HB2 := Lib.hid hb2
  clear hn2 hb2
  go_wp2
  go_loopw [8, 9] (fun lv i wr => ∃ xs : List Nat, xs.length ≤ m ∧ i = .int .i64 xs.length ∧ NetB w1.heap.size wr g (P xs) ∧ wr.ownsRow w1.heap.size 3 1 lv xs.length (nv xs) ∧ Hid (∀ a ∈ xs, a < 30) ∧ Below w1.heap.size w1 wr) (fun _ i _ => m - (intOf i).toNat)
  case atStart => exact ⟨[], Nat.zero_le _, rfl, HN2.out, World.ownsRow_nil _ _ _ _, (fun a ha => by simp at ha), HB2.out⟩
  case round =>
    obtain ⟨xs, hxs, rfl, hnk, hrow, HS, hbk⟩ := hrel
    rcases Nat.lt_or_ge xs.length m with hlt | hge
    · have hlt' : (xs.length : Int) < (m : Int) := by omega
      have hE := Lib.hid (putE_in (P xs) 0 0 (by rw [P_length]; omega) (by omega) (by omega))
      have hb3 : Below wr.heap.size wr (wr.alloc (.cells #[.int .u8 xs.length] 5)) := (Below.refl _ _).alloc (Nat.le_refl _) _
      have HNK := Lib.hid (hnk.below hb3)
      have HBK := Lib.hid (hbk.trans (hb3.mono hbk.size))
      have HROW := Lib.hid (hrow.alloc (.cells #[.int .u8 xs.length] 5))
      have HRD := Lib.hid (rd_small (w := wr.alloc (.cells #[.int .u8 xs.length] 5)) (b := wr.heap.size) (n := xs.length) (by omega) (heap_alloc_new wr (.cells #[.int .u8 xs.length] 5)))
      clear hnk hbk hb3 hrow
      go_wp2_with fail
      refine (put_row HNK.out HROW.out HBK.out.size 0 0 _ _ HRD.out (by simp)).mono ?_
      rintro e w3 ⟨rfl, hn3, hb3, hr3⟩
      rw [putL_in (P xs) _ _ _ hE.out, ← P_snoc] at hn3
      rw [hE.out]
      have hb4 : Below w3.heap.size w3 (w3.alloc (.cells #[.int .i64 xs.length] 3)) := (Below.refl _ _).alloc (Nat.le_refl _) _
      have HN3 := Lib.hid (hn3.below hb4)
      have HB3 := Lib.hid ((HBK.out.trans hb3).trans (hb4.mono (HBK.out.trans hb3).size))
      have HR3 := Lib.hid (hr3.alloc (.cells #[.int .i64 xs.length] 3))
      clear hn3 hb3 hr3 hb4
      go_wp2_with (at_builtin; refine wpList_append_own _ rfl _ _ 51 rfl w1.heap.size 3 i0 (.int .i64 0) 1 8 Try.underlying51 hi0 hz0 hz1 hz2 rfl (by decide) _ _ _ rfl HR3.out ⟨w3.heap.size, 0, none⟩ 1 1 [.int .i64 xs.length] rfl rfl (cell_one_new _ _ _) (by simp [Value.oneCell']) (by unfold maxLen; omega) (by omega) HB3.out.size ?_; intro v4 w4 hown4 hgrow4 _; have HO4 := Lib.hid hown4; have HG4 := Lib.hid hgrow4; clear hown4 hgrow4)
      have HN4 := Lib.hid (HN3.out.row HR3.out HG4.out)
      have HB4 := Lib.hid (HB3.out.grown HG4.out HB3.out.size (fun k hk => (HR3.out.lt k hk).1))
      go_roundw
      case rel => exact ⟨xs ++ [xs.length], by simp; omega, by simp, HN4.out, by rw [nv_snoc]; simpa using HO4.out, (fun a ha => by rcases List.mem_append.1 ha with h | h; exact HS.out a h; simp at h; omega), HB4.out⟩
      case measure => simp [intOf]; omega
    · have HNK := Lib.hid hnk
      have HBK := Lib.hid hbk
      have HROW := Lib.hid hrow
      have hrel9 := Lib.hid (show xs.length ≤ 29 by omega)
      have hltn : ¬ (xs.length : Int) < (m : Int) := by omega
      clear hnk hbk hrow hge hxs
      go_wp2
      have hxs30 : xs.length ≤ 30 := by have := hrel9.out; omega
      go_loopw [8, 10] (fun lv i wr => ∃ (k : Nat) (xs : List Nat), k ≤ l.length ∧ xs.length ≤ 30 ∧ i = .int .i64 k ∧ NetB w1.heap.size wr g (P xs) ∧ wr.ownsRow w1.heap.size 3 1 lv xs.length (nv xs) ∧ Hid (∀ a ∈ xs, a < 30) ∧ Below w1.heap.size w1 wr) (fun _ i _ => l.length - (intOf i).toNat)
      case atStart => exact ⟨0, xs, Nat.zero_le _, hxs30, rfl, HNK.out, HROW.out, HS, HBK.out⟩
      case round =>
        clear hxs30 HNK HBK HROW HS hltn
        obtain ⟨k, xs, hk, hx30, rfl, hnk, hrow, HS, hbk⟩ := hrel
        have HNK := Lib.hid hnk
        have HBK := Lib.hid hbk
        have HROW := Lib.hid hrow
        obtain ⟨AL, cL, rfl⟩ := ownsRow_form hrow
        clear hnk hbk hrow
        rcases Nat.lt_or_ge k l.length with hlt | hge
        · have hlt' : (k : Int) < (l.length : Int) := by omega
          rcases Nat.eq_zero_or_pos xs.length with hz | hpos
          · have hnp : decide ((0 : Int) < (xs.length : Int)) = false := by rw [hz]; rfl
            have hnp' : ¬ (0 : Int) < (xs.length : Int) := by omega
            clear hz
            go_wp2_with fail
            refine (len_any HNK.out).mono ?_
            rintro e w8 ⟨rfl, rfl⟩
            rw [P_length]
            go_wp2_with fail
            refine (drop_row HNK.out HROW.out HBK.out.size (xs.length : Int) (by rw [P_length]; omega)).mono ?_
            rintro e w9 ⟨rfl, hn9, hb9, hr9⟩
            rw [show thereE (P xs).length [(xs.length : Int)] = 15 by rw [thereE_one, P_length, if_neg (by omega)]]
            have HB9 := Lib.hid (HBK.out.trans hb9)
            clear hn9 hb9 hr9
            go_wp2
            go_ret
            exact ⟨rfl, bthen HB1.out HB9.out⟩
          · have hpp : (0 : Int) < (xs.length : Int) := by omega
            have hne : bv l ≠ [] := by intro e; have := bv_length l; rw [e] at this; simp at this; omega
            obtain ⟨gb, o, rfl, hgb, hc⟩ := HR1.out.open_ hne
            have hx : l[k]? = some l[k] := List.getElem?_eq_getElem hlt
            have hc1 := (HBK.out.cell (p := ⟨gb, o + k, none⟩) hgb).trans (hc k _ (bv_get hx))
            obtain ⟨gl, cl, hvv, _, hgl⟩ := HROW.out.form hpos
            injection hvv with hv1 _ hv3
            subst hv1
            subst hv3
            obtain ⟨j, hj⟩ : ∃ j : Nat, j = l[k].toNat % xs.length := ⟨_, rfl⟩
            have hjl : j < xs.length := by rw [hj]; exact Nat.mod_lt _ hpos
            have hjt : ((l[k].toNat : Nat) : Int).tmod (xs.length : Int) = (j : Int) := by rw [hj]; rfl
            have HJT := Lib.hid hjt
            clear hc hx hne hj hjt
            have hyl : l[k].toNat < 256 := l[k].toNat_lt
            generalize l[k].toNat = y at *
            have hjt := HJT.out
            go_wp2_with fail
            clear hjt hyl
            refine (drop_row HNK.out HROW.out HBK.out.size (j : Int) (by rw [P_length]; omega)).mono ?_
            rintro e w3 ⟨rfl, hn3, hb3, hr3⟩
            rw [P_drop xs j hjl] at hn3
            rw [show thereE (P xs).length [(j : Int)] = 0 by rw [thereE_one, P_length, if_pos (by omega)]]
            have hlc : xs.length ≤ cL ∧ cL ≤ maxLen := by
              rcases hr3.2 with ⟨hx, _⟩ | ⟨g9, cap9, cur9, hx, _, _, h8, h9, _⟩
              · cases hx
              · injection hx with _ _ hx; subst hx; exact ⟨h8, h9⟩
            have hjc : (j : Int) ≤ (cL : Int) := by omega
            have hjc2 : j ≤ cL := by omega
            have hj0 : (0 : Int) ≤ (j : Int) + 1 := by omega
            have hj1 : (j : Int) + 1 ≤ (xs.length : Int) := by omega
            have hadd : ∀ t, (⟨gl, 0, none⟩ : Addr).add t = ⟨gl, t, none⟩ := fun t => by unfold Addr.add; split <;> simp_all
            have hnews1 : ∀ t u, (nv (xs.take j))[t]? = some u → w3.cell? ((⟨gl, 0, none⟩ : Addr).add t) = some u := fun t u hu => hr3.cells rfl t u (by
              rw [← hu]
              have ht := (List.getElem?_eq_some_iff.1 hu).1
              rw [nv_length, List.length_take] at ht
              simp only [nv, List.map_take, List.getElem?_take, if_pos (show t < j by omega)])
            obtain ⟨AD, hAD, hnews2⟩ : ∃ AD : Addr, (if cL = j + 1 then some (⟨gl, 0, none⟩ : Addr) else some ⟨gl, j + 1, none⟩) = some AD ∧ ∀ (x : World), x.ownsRow w1.heap.size 3 1 (.slice (some ⟨gl, 0, none⟩) xs.length cL) xs.length (nv xs) → ∀ t u, (nv (xs.drop (j + 1)))[t]? = some u → x.cell? (AD.add t) = some u := by
              by_cases hc : cL = j + 1
              · refine ⟨⟨gl, 0, none⟩, by rw [if_pos hc], fun x _ t u hu => ?_⟩
                have ht := (List.getElem?_eq_some_iff.1 hu).1
                rw [nv_length, List.length_drop] at ht
                omega
              · refine ⟨⟨gl, j + 1, none⟩, by rw [if_neg hc], fun x hx t u hu => ?_⟩
                have h1 : (⟨gl, j + 1, none⟩ : Addr).add t = (⟨gl, 0, none⟩ : Addr).add (j + 1 + t) := by rw [hadd]; unfold Addr.add; split <;> simp_all
                rw [h1]
                refine hx.cells rfl _ u ?_
                rw [← hu]
                simp only [nv, List.map_drop, List.getElem?_drop]
            have HN3 := Lib.hid hn3
            have HB3 := Lib.hid (HBK.out.trans hb3)
            have HR3 := Lib.hid hr3
            have HNEWS1 := Lib.hid hnews1
            have HNEWS2 := Lib.hid hnews2
            have HERA := Lib.hid (show nv (xs.take j) ++ nv (xs.drop (j + 1)) = nv (xs.eraseIdx j) by rw [List.eraseIdx_eq_take_drop_succ]; simp [nv])
            have HEL := Lib.hid (show 0 + j + (xs.length - (j + 1)) = (xs.eraseIdx j).length by rw [List.length_eraseIdx, if_pos hjl]; omega)
            have HES := Lib.hid (show ∀ a ∈ xs.eraseIdx j, a < 30 from fun a ha => HS.out a (List.mem_of_mem_eraseIdx ha))
            have HE30 := Lib.hid (show (xs.eraseIdx j).length ≤ 30 by rw [List.length_eraseIdx, if_pos hjl]; omega)
            clear hn3 hb3 hr3 hnews1 hnews2 hc1 hadd
            go_wp2_with (first
              | (at_builtin; refine wpList_append_own _ rfl _ _ 51 rfl w1.heap.size 3 i0 (.int .i64 0) 1 8 Try.underlying51 hi0 hz0 hz1 hz2 rfl (by decide) (.slice none 0 0) 0 [] rfl (World.ownsRow_nil _ _ _ _) ⟨gl, 0, none⟩ j cL (nv (xs.take j)) rfl (by rw [nv_length, List.length_take]; omega) HNEWS1.out (nv_one _) (by unfold maxLen; omega) (by omega) HB3.out.size ?_; intro v4 w4 hown4 hgrow4 _; have HO4 := Lib.hid hown4; have HG4 := Lib.hid hgrow4; clear hown4 hgrow4; have HR4 := Lib.hid (HR3.out.kept HG4.out (.inr (by simp [Value.ownBlock]))); have HN4 := Lib.hid (HN3.out.row (World.ownsRow_nil w3 0 3 1) HG4.out); have HB4 := Lib.hid (HB3.out.grown HG4.out HB3.out.size (fun k hk => by cases hk)))
              | (at_builtin; refine wpList_append_own _ rfl _ _ 51 rfl w1.heap.size 3 i0 (.int .i64 0) 1 8 Try.underlying51 hi0 hz0 hz1 hz2 rfl (by decide) v4 (0 + j) _ rfl HO4.out AD (xs.length - (j + 1)) (cL - (j + 1)) (nv (xs.drop (j + 1))) rfl (by rw [nv_length, List.length_drop]; omega) (HNEWS2.out w4 HR4.out) (nv_one _) (by unfold maxLen; omega) (by omega) HB4.out.size ?_; intro v5 w5 hown5 hgrow5 _; have HO5 := Lib.hid hown5; have HG5 := Lib.hid hgrow5; clear hown5 hgrow5; have HN5 := Lib.hid (HN4.out.row HO4.out HG5.out); have HB5 := Lib.hid (HB4.out.grown HG5.out HB4.out.size (fun k hk => (HO4.out.lt k hk).1))))
            have HO := Lib.hid (show w5.ownsRow w1.heap.size 3 1 v5 (xs.eraseIdx j).length (nv (xs.eraseIdx j)) by have := HO5.out; rwa [List.nil_append, HERA.out, HEL.out] at this)
            clear HERA HEL HO5 HG5 HN4 HG4 HO4 HR4 HN3 HR3 HNEWS1 HNEWS2 hAD HROW HNK hlc hjc hjc2 hj0 hj1
            generalize xs.eraseIdx j = ys at *
            obtain ⟨A5, c5, rfl⟩ := ownsRow_form HO.out
            go_loopw [13] (fun i wr => ∃ a : Nat, a ≤ ys.length ∧ i = .int .i64 a ∧ NetB w1.heap.size wr g (P ys) ∧ wr.ownsRow w1.heap.size 3 1 (.slice A5 ys.length c5) ys.length (nv ys) ∧ Below w1.heap.size w1 wr) (fun i _ => ys.length - (intOf i).toNat)
            case atStart => exact ⟨0, Nat.zero_le _, rfl, HN5.out, HO.out, HB5.out⟩
            case round =>
              obtain ⟨a, ha, rfl, hnk, hrow, hbk⟩ := hrel
              have HNK := Lib.hid hnk
              have HBK := Lib.hid hbk
              have HROW := Lib.hid hrow
              clear hnk hbk
              rcases Nat.lt_or_ge a ys.length with hlta | hgea
              · have hlta' : (a : Int) < (ys.length : Int) := by omega
                have hya : ys[a]? = some ys[a] := List.getElem?_eq_getElem hlta
                have hy30 : ys[a] < 30 := HES.out _ (List.getElem_mem hlta)
                have HGET := Lib.hid (P_get hya)
                have HNGET := Lib.hid (nv_get hya)
                clear hya
                generalize ys[a] = y at *
                obtain ⟨g7, c7, hv7, _, hg7⟩ := hrow.form (by omega)
                injection hv7 with hv7 _ hv8
                subst hv7
                subst hv8
                have hys := HE30.out
                have hci := hrow.cells rfl a _ HNGET.out
                rw [show (⟨g7, 0, none⟩ : Addr).add a = ⟨g7, a, none⟩ from by unfold Addr.add; split <;> simp_all] at hci
                have HCI := Lib.hid hci
                clear hci hrow
                go_wp2_with fail
                refine (look_at HNK.out a _ HGET.out).mono ?_
                rintro e w6 ⟨v6, rfl, ho6, hn6, hb6⟩
                obtain ⟨b6, c6, hv6, _, hb6l⟩ := ho6.form (Nat.zero_lt_one)
                change v6 = .slice (some ⟨b6, 0, none⟩) 1 c6 at hv6
                subst hv6
                have hb7 : Below w6.heap.size w6 (w6.alloc (.cells #[.int .i64 0, .int .i64 0, .slice (some ⟨b6, 0, none⟩) 1 c6] 33)) := (Below.refl _ _).alloc (Nat.le_refl _) _
                have hcb := (hb7.cell (p := ⟨b6, 0, none⟩) hb6l).trans (one_byte ho6)
                rw [toNat_small y (by omega)] at hcb
                have hci := (hb7.cell (p := ⟨g7, a, none⟩) (Nat.lt_of_lt_of_le hg7 hb6.size)).trans ((hb6.cell (p := ⟨g7, a, none⟩) hg7).trans HCI.out)
                have HN6 := Lib.hid (hn6.below hb7)
                have HB6 := Lib.hid (HBK.out.trans ((bthen hb6 hb7).mono HBK.out.size))
                have HR6 := Lib.hid (ownsRow_below (ownsRow_below HROW.out hb6) hb7)
                clear hn6 hb6 ho6 hb7
                go_wp2_with fail
                go_quiet (fail)
                go_wp2
                go_roundw
                case rel => exact ⟨a + 1, by omega, by go_num, HN6.out.below (below_of_drewN _ _ _), HR6.out, below_drewN HB6.out _⟩
                case measure => simp [intOf]; omega
              · obtain rfl : ys.length = a := by omega
                clear ha hgea hrow
                go_wp2
                go_roundw
                case rel => exact ⟨k + 1, ys, by omega, HE30.out, by go_num, HNK.out, HROW.out, HES, HBK.out⟩
                case measure => simp [intOf]; omega
        · have hlt' : ¬ (k : Int) < (l.length : Int) := by omega
          have hltd : decide ((k : Int) < (l.length : Int)) = false := by simpa using hlt'
          go_wp2_with fail
          refine (len_any HNK.out).mono ?_
          rintro e w8 ⟨rfl, rfl⟩
          rw [P_length]
          go_wp2_with fail
          refine (drop_row HNK.out HROW.out HBK.out.size (xs.length : Int) (by rw [P_length]; omega)).mono ?_
          rintro e w9 ⟨rfl, hn9, hb9, hr9⟩
          rw [show thereE (P xs).length [(xs.length : Int)] = 15 by rw [thereE_one, P_length, if_neg (by omega)]]
          have HB9 := Lib.hid (HBK.out.trans hb9)
          clear hn9 hb9 hr9
          go_wp2
          go_ret
          exact ⟨rfl, bthen HB1.out HB9.out⟩

theorem law_any (n : Int) (v : Value) (l : List UInt8) (w : World) (n0 : 0 ≤ n) (n1 : n ≤ 255) (hr : Rd w w.heap.size v (bv l)) : Calls Try.prog 7 #[.int .u8 n, v] w (Yes w) := by
  obtain ⟨N, rfl⟩ := Int.eq_ofNat_of_zero_le n0
  rcases Nat.lt_or_ge 40 l.length with h | h
  · exact long v l N w hr h
  · exact short v l N w hr h (by omega)

end Go.Proofs.Ytckcagklojpfhaa.netDrops
