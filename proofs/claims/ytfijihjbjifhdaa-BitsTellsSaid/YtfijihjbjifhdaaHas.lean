/- The walks of mask, Has, Clone and cut of layer 6: each comes to what the plain functions say; where a byte is read it must be there, and lengths stay below 2^40. -/
import Derived.Test.YtfijihjbjifhdaaProg
import Derived.Test.YtfijihjbjifhdaaWords
import Derived.Test.YtfijihjbjifhdaaPlain
import Derived.WalkSpells
import Derived.WalkLawsBesides
import Derived.BigQuiet
namespace Go.Proofs.Ytfijihjbjifhdaa
open Go.RowKit

/-- the mask of a place -/
def mk (i : Int) : Int := 128 / 2 ^ (i % 8).toNat

theorem mk_small : ∀ r : Fin 8, (128 : Int) / 2 ^ r.val = ((2 ^ (7 - r.val) : Nat) : Int) := by decide

theorem mk_nat (i : Nat) : mk (i : Int) = ((2 ^ (7 - i % 8) : Nat) : Int) := by
  unfold mk
  have h : ((i : Int) % 8).toNat = i % 8 := by omega
  rw [h]
  exact mk_small ⟨i % 8, Nat.mod_lt _ (by omega)⟩

theorem mask_any (i : Int) (h0 : 0 ≤ i) (hm : i ≤ 9223372036854775807) (w : World) :
    Calls Try.prog 19 #[.int .i64 i] w fun e w' => e = .returned (.int .u8 (mk i)) ∧ w = w' := by
  go_enter Try.func19, Try.ntmps19
  go_wp2
  go_ret
  exact ⟨rfl, rfl⟩

theorem bits_and : ∀ (x : Fin 256) (r : Fin 8), (bits BinOp.and IntKind.u8 (x.val : Int) ((2 ^ (7 - r.val) : Nat) : Int) != 0) = (x.val / 2 ^ (7 - r.val) % 2 == 1) := by decide +kernel

theorem bits_has (x : UInt8) (i : Nat) : (bits BinOp.and IntKind.u8 (x.toNat : Int) (mk (i : Int)) != 0) = bitOf x i := by
  rw [mk_nat]
  exact bits_and ⟨x.toNat, x.toNat_lt⟩ ⟨i % 8, Nat.mod_lt _ (by omega)⟩

def HasPost (b : Bool) (w : World) (e : Ending) (w' : World) : Prop := e = .returned (.bool b) ∧ ∃ k, w' = w.drewN k

theorem has_neg (A : Option Addr) (n c : Nat) (i : Int) (h0 : i < 0) (w : World) :
    Calls Try.prog 11 #[.slice A n c, .int .i64 i] w (HasPost false w) := by
  have hd : decide ((0 : Int) ≤ i) = false := by simpa using h0
  go_enter Try.func11, Try.ntmps11
  go_wp2
  go_quiet (fail)
  go_wp2
  go_ret
  exact ⟨rfl, _, rfl⟩

theorem has_out (A : Option Addr) (n c : Nat) (i : Nat) (hi : n ≤ i / 8) (hmi : (i : Int) ≤ 9223372036854775807) (w : World) :
    Calls Try.prog 11 #[.slice A n c, .int .i64 i] w (HasPost false w) := by
  have hw8 : IntKind.i64.wrap ((i : Int) / 8) = (i : Int) / 8 := IntWalk.i64_in _ (by omega)
  have h80 : (0 : Int) ≤ (i : Int) / 8 := by omega
  have h8n : ¬ (i : Int) / 8 < (n : Int) := by omega
  have hd : decide ((i : Int) / 8 < (n : Int)) = false := by simpa using h8n
  go_enter Try.func11, Try.ntmps11
  go_wp2
  go_quiet (fail)
  go_wp2
  go_ret
  exact ⟨rfl, _, rfl⟩

theorem has_in (b o n c : Nat) (x : UInt8) (i : Nat) (hi : i / 8 < n) (hmi : (i : Int) ≤ 9223372036854775807) (w : World)
   (hc : w.cell? ⟨b, o + i / 8, none⟩ = some (.int .u8 x.toNat)) :
    Calls Try.prog 11 #[.slice (some ⟨b, o, none⟩) n c, .int .i64 i] w (HasPost (bitOf x i) w) := by
  have hw8 : IntKind.i64.wrap ((i : Int) / 8) = (i : Int) / 8 := IntWalk.i64_in _ (by omega)
  have h80 : (0 : Int) ≤ (i : Int) / 8 := by omega
  have h8n : (i : Int) / 8 < (n : Int) := by omega
  have hnat : ((i : Int) / 8).toNat = i / 8 := by omega
  go_enter Try.func11, Try.ntmps11
  go_wp2
  go_quiet ((go_at_call 19; exact quiet_same (mask_any _ (by omega) (by omega) _)))
  go_wp2
  go_ret
  exact ⟨by rw [← bits_has]; rfl, _, rfl⟩

/-- 'Has', whatever it is given -/
theorem has_any (v : Value) (l : List UInt8) (i : Int) (B : Nat) (w : World) (hr : Rd w B v (bv l)) (hi : i ≤ 9223372036854775807) :
    Calls Try.prog 11 #[v, .int .i64 i] w (HasPost (hasB l i) w) := by
  rcases Int.lt_or_le i 0 with h0 | h0
  · obtain ⟨A, c, rfl, _⟩ := hr.form
    have : hasB l i = false := by simp [hasB]; omega
    rw [this]
    exact has_neg _ _ _ _ h0 _
  · obtain ⟨k, rfl⟩ := Int.eq_ofNat_of_zero_le h0
    have hh : hasB l (k : Int) = bitB l k := by simp [hasB]
    rw [hh]
    by_cases hk : k / 8 < l.length
    · obtain ⟨b, o, c, rfl, _, _, _, hc⟩ := hr.at_ (j := k / 8) (by rw [bv_length]; exact hk)
      have hx : l[k / 8]? = some l[k / 8] := List.getElem?_eq_getElem hk
      have hb : bitB l k = bitOf l[k / 8] k := by simp [bitB, hx]
      rw [hb]
      exact has_in _ _ _ _ _ _ (by rw [bv_length]; exact hk) (by omega) _ (hc _ _ (bv_get hx))
    · obtain ⟨A, c, rfl, _⟩ := hr.form
      have hb : bitB l k = false := by simp [bitB, List.getElem?_eq_none (Nat.le_of_not_lt hk)]
      rw [hb]
      exact has_out _ _ _ _ (by rw [bv_length]; omega) (by omega) _

theorem Try.info5 : (Try.prog.info? 5).map (fun i => (i.zero, i.size, i.bytes)) = some (some (.int .u8 0), 1, 1) := by kernel_rfl

/-- A new slice that owns these bytes comes back; what was there before stands. -/
def GivesOwn (w : World) (l : List UInt8) (e : Ending) (w' : World) : Prop :=
  ∃ v', e = .returned v' ∧ w'.ownsRow w.heap.size 5 1 v' l.length (bv l) ∧ Below w.heap.size w w'

theorem clone_any (v : Value) (l : List UInt8) (B : Nat) (w : World) (hr : Rd w B v (bv l)) (hB : B ≤ w.heap.size) (hn : l.length ≤ 1099511627776) :
    Calls Try.prog 20 #[v] w (GivesOwn w l) := by
  obtain ⟨i0, hi0, hz0, hz1, hz2⟩ := info_parts Try.info5
  obtain ⟨A, c, rfl, h1, h2, h3, h4⟩ := hr
  rw [bv_length] at *
  rcases A with _ | ad
  · have hc0 := h3 rfl
    subst hc0
    have hl : l = [] := List.eq_nil_of_length_eq_zero (by omega)
    subst hl
    have e1 := fun (wx : World) (a : Option Addr) (n c : Nat) => Lib.run_eql_slice_nil (P := Try.prog) wx 22 5 a n c 0 0 Try.underlying22
    go_enter Try.func20, Try.ntmps20
    go_wp2
    go_ret
    exact ⟨_, rfl, World.ownsRow_nil _ _ _ _, Below.refl _ _⟩
  · have e1 := fun (wx : World) (a : Option Addr) (n c : Nat) => Lib.run_eql_slice_nil (P := Try.prog) wx 22 5 a n c 0 0 Try.underlying22
    go_enter Try.func20, Try.ntmps20
    have hnw : (w.alloc (.cells #[] 5)).ownsRow w.heap.size 5 1 (.slice (some ⟨w.heap.size, 0, none⟩) 0 0) 0 [] :=
      World.ownsRow_lit w #[] 0 (Nat.le_refl _) (by unfold maxLen; omega) (by simp)
    have hcl : ∀ j u, (bv l)[j]? = some u → (w.alloc (.cells #[] 5)).cell? (ad.add j) = some u := by
      intro j u hu
      have hj := (List.getElem?_eq_some_iff.1 hu).1
      obtain ⟨b, o, e, hlt, hc⟩ := h4 (by intro e; rw [e] at hj; simp at hj)
      injection e with e
      subst e
      rw [show (⟨b, o, none⟩ : Addr).add j = ⟨b, o + j, none⟩ from by unfold Addr.add; split <;> simp_all]
      rw [World.cell?_alloc_lt w _ ⟨b, o + j, none⟩ (by show b < w.heap.size; omega)]
      exact hc j u hu
    go_wp2_with (at_builtin; refine wpList_append_own _ rfl _ _ 22 rfl w.heap.size 5 i0 (.int .u8 0) 1 1 Try.underlying22 hi0 hz0 hz1 hz2 rfl (by decide) _ _ _ rfl hnw ad l.length c (bv l) rfl (by rw [bv_length]; omega) hcl (bv_one l) (by unfold maxLen; omega) (by omega) (by simp) ?_; intro v' w1 hown' hgrow _)
    go_ret
    exact ⟨_, rfl, by simpa using hown', ((Below.refl _ _).alloc (Nat.le_refl _) _).grown hgrow (by simp) (fun k hk => by have hk' : some w.heap.size = some k := hk; injection hk' with e; omega)⟩


/-- Some slice of these bytes comes back, in memory that is there; what was there before stands. -/
def GivesRd (w : World) (l : List UInt8) (e : Ending) (w' : World) : Prop :=
  ∃ v', e = .returned v' ∧ Rd w' w'.heap.size v' (bv l) ∧ Below w.heap.size w w'

/-- .. in a block that was not there before -/
def GivesNew (w : World) (l : List UInt8) (e : Ending) (w' : World) : Prop :=
  ∃ v', e = .returned v' ∧ Rd w' w'.heap.size v' (bv l) ∧ Below w.heap.size w w' ∧ ∀ g, v'.ownBlock = some g → w.heap.size ≤ g

theorem cut_new (v : Value) (l : List UInt8) (w : World) (hr : Rd w w.heap.size v (bv l)) (hn : l.length ≤ 1099511627776) :
    Calls Try.prog 21 #[v] w (GivesNew w (cutL l)) := by
  have hr0 := hr
  obtain ⟨A, c, rfl, h1, h2, h3, h4⟩ := hr
  rw [bv_length] at *
  have hR : ∀ k, k ≤ l.length → Rd w w.heap.size (.slice A k k) (bv (l.take k)) := fun k hk => by
    rw [bv_take]; exact hr0.take k k hk (Nat.le_refl _) (by omega) (fun h => by have := h3 h; omega)
  have HR : Hid (∀ k, k ≤ l.length → Rd w w.heap.size (.slice A k k) (bv (l.take k))) := Lib.hid hR
  clear hR hr0
  have hfin : ∀ k v' w', cutL (l.take k) = cutL l → cutL (l.take k) = l.take k → w'.ownsRow w.heap.size 5 1 v' (l.take k).length (bv (l.take k)) → Below w.heap.size w w' → GivesNew w (cutL l) (.returned v') w' := by
    intro k v' w' e1 e2 ho hb
    rw [← e1, e2]
    exact ⟨v', rfl, Rd.of_own ho, hb, fun g hg => (ho.lt g hg).1⟩
  have HF := Lib.hid hfin
  clear hfin
  unfold maxLen at h2
  go_enter Try.func21, Try.ntmps21
  go_wp2
  go_loop [3] (fun t => ∃ k : Nat, k ≤ l.length ∧ t = .int .i64 k ∧ cutL (l.take k) = cutL l) (fun t => (intOf t).toNat)
  case atStart => exact ⟨l.length, Nat.le_refl _, rfl, by rw [List.take_length]⟩
  case round =>
    obtain ⟨k, hk, rfl, hcut⟩ := hrel
    have HC := Lib.hid hcut
    clear hcut
    rcases Nat.eq_zero_or_pos k with hk0 | hk0
    · subst hk0
      go_wp2_with (go_at_call 20; refine (clone_any (.slice A 0 0) (l.take 0) w.heap.size _ (HR.out 0 hk) (Nat.le_refl _) (by simp)).mono ?_; rintro e w' ⟨v', rfl, hown, hb⟩)
      go_ret
      exact HF.out 0 _ _ HC.out rfl hown hb
    · obtain ⟨b, o, rfl, hlt, hc⟩ := h4 (by intro e; have := bv_length l; rw [e] at this; simp at this; omega)
      have hkl : k - 1 < l.length := by omega
      have hx : l[k - 1]? = some l[k - 1] := List.getElem?_eq_getElem hkl
      have hcell := hc _ _ (bv_get hx)
      have ht : l.take k = l.take (k - 1) ++ [l[k - 1]] := by
        have := take_succ_get l (k - 1) l[k - 1] hx
        rwa [show k - 1 + 1 = k from by omega] at this
      have HT := Lib.hid ht
      clear ht hx hc h4
      generalize l[k - 1] = x at *
      by_cases hz : x = 0
      · subst hz
        go_wp2
        go_round
        case rel => exact ⟨k - 1, by omega, by go_num, by rw [← HC.out, HT.out, cutL_snoc_zero]⟩
        case measure => simp [intOf]; omega
      · have hxz : (x.toNat : Int) ≠ 0 := by
          intro e; apply hz; apply UInt8.toNat.inj; simpa using e
        have hxb : ((x.toNat : Int) == 0) = false := by simpa using hxz
        go_wp2_with (go_at_call 20; refine (clone_any (.slice (some ⟨b, o, none⟩) k k) (l.take k) w.heap.size _ (HR.out k hk) (Nat.le_refl _) (by rw [List.length_take]; omega)).mono ?_; rintro e w' ⟨v', rfl, hown, hb⟩)
        go_ret
        exact HF.out k _ _ HC.out (by rw [HT.out, cutL_snoc _ _ hz]) hown hb

theorem cut_any (v : Value) (l : List UInt8) (w : World) (hr : Rd w w.heap.size v (bv l)) (hn : l.length ≤ 1099511627776) :
    Calls Try.prog 21 #[v] w (GivesRd w (cutL l)) :=
  (cut_new v l w hr hn).mono fun _ _ ⟨v', he, h1, h2, _⟩ => ⟨v', he, h1, h2⟩

end Go.Proofs.Ytfijihjbjifhdaa
