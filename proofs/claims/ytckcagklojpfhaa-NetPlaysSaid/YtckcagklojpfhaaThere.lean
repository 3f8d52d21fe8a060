/- Whether numbers are nodes and places are there: 'slices.IndexFunc' and 'slices.ContainsFunc' at []int, the two function values that they are given, 'nodes', 'there'. No condition. -/
import Derived.Test.YtckcagklojpfhaaRows
import Derived.Test.YtckcagklojpfhaaWords
import Derived.WalkSpells
import Derived.WalkLawsBesides
import Derived.Lib.Walk
import Derived.Lib.Hide
import Derived.Shelf.Abstract
import Derived.Deep.LoopGhost
import Derived.Deep.Draws
namespace Go.Proofs.Ytckcagklojpfhaa
open Go.RowKit

theorem node_any (k : Int) (w : World) : Calls Try.prog 23 #[.int .i64 k] w fun e w' => e = .returned (.bool (decide (k < 0 ∨ 16 ≤ k))) ∧ w' = w := by
  by_cases h0 : k < 0
  · have e : decide (k < 0 ∨ 16 ≤ k) = true := by simp [h0]
    rw [e]
    go_enter Try.func23, Try.ntmps23
    go_wp2
    go_ret
    exact ⟨rfl, rfl⟩
  · by_cases h1 : 16 ≤ k
    · have e : decide (k < 0 ∨ 16 ≤ k) = true := by simp [h1]
      have d0 : decide (k < 0) = false := by simpa using h0
      rw [e]
      go_enter Try.func23, Try.ntmps23
      go_wp2
      go_ret
      exact ⟨rfl, rfl⟩
    · have e : decide (k < 0 ∨ 16 ≤ k) = false := by simp [h0, h1]
      have d0 : decide (k < 0) = false := by simpa using h0
      have d1 : decide (16 ≤ k) = false := by simpa using h1
      rw [e]
      go_enter Try.func23, Try.ntmps23
      go_wp2
      go_ret
      exact ⟨rfl, rfl⟩

theorem place_any (k : Int) (n c b g : Nat) (A : Option Addr) (w : World) (hb : w.cell? ⟨b, 0, none⟩ = some (.pointer (some ⟨g, 0, none⟩))) (hg : w.cell? ⟨g, 0, none⟩ = some (.slice A n c)) :
    Calls Try.prog 25 #[.int .i64 k, .pointer (some ⟨b, 0, none⟩)] w fun e w' => e = .returned (.bool (decide (k < 0 ∨ (n : Int) ≤ k))) ∧ w' = w := by
  by_cases h0 : k < 0
  · have e : decide (k < 0 ∨ (n : Int) ≤ k) = true := by simp [h0]
    rw [e]
    go_enter Try.func25, Try.ntmps25
    go_wp2
    go_ret
    exact ⟨rfl, rfl⟩
  · by_cases h1 : (n : Int) ≤ k
    · have e : decide (k < 0 ∨ (n : Int) ≤ k) = true := by simp [h1]
      have d0 : decide (k < 0) = false := by simpa using h0
      rw [e]
      go_enter Try.func25, Try.ntmps25
      go_wp2
      go_ret
      exact ⟨rfl, rfl⟩
    · have e : decide (k < 0 ∨ (n : Int) ≤ k) = false := by simp [h0, h1]
      have d0 : decide (k < 0) = false := by simpa using h0
      have d1 : decide ((n : Int) ≤ k) = false := by simpa using h1
      rw [e]
      go_enter Try.func25, Try.ntmps25
      go_wp2
      go_ret
      exact ⟨rfl, rfl⟩

/-- the place of the first one, or -1 -/
def firstAt (p : Int → Bool) : List Int → Nat → Int
  | [], _ => -1
  | x :: xs, k => if p x then (k : Int) else firstAt p xs (k + 1)

theorem firstAt_hit (p : Int → Bool) : ∀ (xs : List Int) (k j : Nat) (x : Int), xs[j]? = some x → p x = true → (∀ i y, i < j → xs[i]? = some y → p y = false) → firstAt p xs k = ((k + j : Nat) : Int)
  | [], k, j, x, h, _, _ => by simp at h
  | y :: xs, k, 0, x, h, hp, _ => by
    simp at h; subst h
    simp [firstAt, hp]
  | y :: xs, k, j + 1, x, h, hp, hno => by
    have h0 := hno 0 y (by omega) (by simp)
    unfold firstAt
    rw [h0, if_neg (by simp), firstAt_hit p xs (k + 1) j x (by simpa using h) hp (fun i z hi hz => hno (i + 1) z (by omega) (by simpa using hz))]
    congr 1
    omega

theorem firstAt_miss (p : Int → Bool) : ∀ (xs : List Int) (k : Nat), (∀ y ∈ xs, p y = false) → firstAt p xs k = -1
  | [], _, _ => rfl
  | y :: xs, k, h => by
    unfold firstAt
    rw [h y (by simp), if_neg (by simp)]
    exact firstAt_miss p xs (k + 1) fun z hz => h z (by simp [hz])

theorem firstAt_any (p : Int → Bool) : ∀ (xs : List Int) (k : Nat), decide (0 ≤ firstAt p xs k) = xs.any p
  | [], _ => by simp [firstAt]
  | y :: xs, k => by
    unfold firstAt
    cases h : p y with
    | true => simp [h]
    | false => simp only [Bool.false_eq_true, if_false, List.any_cons, h, Bool.false_or]; exact firstAt_any p xs (k + 1)

set_option maxHeartbeats 1000000 in
/-- 'slices.IndexFunc' at []int -/
theorem index_any (g : Nat) (lb : Array Value) (eg : ∀ args w, (callFunc g args).run Try.prog w = .ok (.enter g args) w) (p : Int → Bool) (b c : Nat) (xs : List Int) (w : World)
    (hbig : xs.length ≤ 1099511627776) (hc : ∀ j x, xs[j]? = some x → w.cell? ⟨b, j, none⟩ = some (.int .i64 x)) (hp : ∀ x, Calls Try.prog g (#[.int .i64 x] ++ lb) w fun e w' => e = .returned (.bool (p x)) ∧ w' = w) :
    Calls Try.prog 26 #[.slice (some ⟨b, 0, none⟩) xs.length c, .func (.func g) #[] lb] w fun e w' => e = .returned (.int .i64 (firstAt p xs 0)) ∧ w' = w := by
  have HC := Lib.hid hc
  have HP := Lib.hid hp
  clear hc hp
  go_enter Try.func26, Try.ntmps26
  go_wp2
  go_loopw [5, 8] (fun _ s8 wr => ∃ kk : Nat, kk ≤ xs.length ∧ s8 = .int .i64 kk ∧ wr = w ∧ Hid (∀ i y, i < kk → xs[i]? = some y → p y = false)) (fun _ s8 _ => xs.length - (intOf s8).toNat)
  case atStart => exact ⟨0, Nat.zero_le _, rfl, rfl, fun j y hj => absurd hj (Nat.not_lt_zero _)⟩
  case round =>
    obtain ⟨kk, hkk, rfl, rfl, A⟩ := hrel
    by_cases hlt : kk < xs.length
    · have hltz : (kk : Int) < (xs.length : Int) := by omega
      have hx : xs[kk]? = some xs[kk] := List.getElem?_eq_getElem hlt
      have hcell := HC.out kk _ hx
      have HX := Lib.hid hx
      clear hx
      generalize xs[kk] = y at *
      have hcall := HP.out y
      cases hq : p y with
      | true =>
        rw [hq] at hcall
        have HCA := Lib.hid hcall
        clear hcall
        go_wp2_with fail
        refine HCA.out.mono ?_
        rintro e w' ⟨rfl, rfl⟩
        go_wp2
        go_ret
        refine ⟨?_, rfl⟩
        rw [firstAt_hit p xs 0 kk y HX.out hq A.out, Nat.zero_add]
        rfl
      | false =>
        rw [hq] at hcall
        have HCA := Lib.hid hcall
        clear hcall
        go_wp2_with fail
        refine HCA.out.mono ?_
        rintro e w' ⟨rfl, rfl⟩
        go_wp2
        go_roundw
        case measure => simp [intOf]; omega
        case rel =>
          refine ⟨kk + 1, by omega, by go_num, by trivial, (show Hid _ from fun j z hj hz => ?_)⟩
          by_cases e : j = kk
          · subst e
            rw [HX.out] at hz
            cases hz
            exact hq
          · exact A.out j z (by omega) hz
    · have hltz : ¬ (kk : Int) < (xs.length : Int) := by omega
      have : kk = xs.length := by omega
      subst this
      go_wp2
      go_ret
      refine ⟨?_, rfl⟩
      rw [firstAt_miss p xs 0 (fun y hy => by
        obtain ⟨i, hi, he⟩ := List.getElem_of_mem hy
        exact A.out i y hi (by rw [List.getElem?_eq_getElem hi, he]))]
      rfl

/-- 'slices.ContainsFunc' at []int -/
theorem contains_any (g : Nat) (lb : Array Value) (eg : ∀ args w, (callFunc g args).run Try.prog w = .ok (.enter g args) w) (p : Int → Bool) (b c : Nat) (xs : List Int) (w : World)
    (hbig : xs.length ≤ 1099511627776) (hc : ∀ j x, xs[j]? = some x → w.cell? ⟨b, j, none⟩ = some (.int .i64 x)) (hp : ∀ x, Calls Try.prog g (#[.int .i64 x] ++ lb) w fun e w' => e = .returned (.bool (p x)) ∧ w' = w) :
    Calls Try.prog 22 #[.slice (some ⟨b, 0, none⟩) xs.length c, .func (.func g) #[] lb] w fun e w' => e = .returned (.bool (xs.any p)) ∧ w' = w := by
  have H := Lib.hid (index_any g lb eg p b c xs w hbig hc hp)
  clear hc hp
  go_enter Try.func22, Try.ntmps22
  go_wp2_with fail
  refine H.out.mono ?_
  rintro e w1 ⟨rfl, rfl⟩
  have hd := firstAt_any p xs 0
  go_wp2
  go_ret
  exact ⟨by rw [← hd]; rfl, rfl⟩

theorem two_cells (w : World) (f t : Int) : ∀ j x, [f, t][j]? = some x → (w.alloc (.cells #[.int .i64 f, .int .i64 t] 3)).cell? ⟨w.heap.size, j, none⟩ = some (.int .i64 x) := by
  intro j x h
  match j, h with
  | 0, h => simp at h; subst h; go_simp
  | 1, h => simp at h; subst h; go_simp
  | j + 2, h => simp at h

theorem one_cell (w : World) (f : Int) : ∀ j x, [f][j]? = some x → (w.alloc (.cells #[.int .i64 f] 3)).cell? ⟨w.heap.size, j, none⟩ = some (.int .i64 x) := by
  intro j x h
  match j, h with
  | 0, h => simp at h; subst h; go_simp
  | j + 1, h => simp at h

theorem eg23 : ∀ args w, (callFunc 23 args).run Try.prog w = .ok (.enter 23 args) w := enters_of Try.func23 (by kernel_rfl) rfl
theorem eg25 : ∀ args w, (callFunc 25 args).run Try.prog w = .ok (.enter 25 args) w := enters_of Try.func25 (by kernel_rfl) rfl

/-- are both nodes? -/
def bothNodes (f t : Int) : Bool := decide (0 ≤ f ∧ f ≤ 15 ∧ 0 ≤ t ∧ t ≤ 15)
theorem bothNodes_eq (f t : Int) : (!([f, t].any fun k => decide (k < 0 ∨ 16 ≤ k))) = bothNodes f t := by
  unfold bothNodes
  rw [Bool.eq_iff_iff]
  simp
  omega

theorem nodes_any (g c : Nat) (f t : Int) (w : World) (hc : ∀ j x, [f, t][j]? = some x → w.cell? ⟨g, j, none⟩ = some (.int .i64 x)) :
    Calls Try.prog 18 #[.slice (some ⟨g, 0, none⟩) 2 c] w fun e w' => e = .returned (.bool (bothNodes f t)) ∧ w' = w := by
  have h := contains_any 23 #[] eg23 (fun k => decide (k < 0 ∨ 16 ≤ k)) g c [f, t] w (by simp) hc (fun x => node_any x w)
  have hb := bothNodes_eq f t
  generalize [f, t].any (fun k => decide (k < 0 ∨ 16 ≤ k)) = q at h hb
  have H := Lib.hid h
  have hb := Lib.hid hb
  clear hc h
  go_enter Try.func18, Try.ntmps18
  go_wp2_with fail
  refine H.out.mono ?_
  rintro e w1 ⟨rfl, rfl⟩
  go_wp2
  go_ret
  exact ⟨by rw [← hb.out]; rfl, rfl⟩

/-- the error of places: none when all are there -/
def thereE (n : Nat) (l : List Int) : Int := if l.any (fun k => decide (k < 0 ∨ (n : Int) ≤ k)) then 15 else 0

theorem there_nil (l : Value) (w : World) : Calls Try.prog 20 #[.pointer none, l] w fun e w' => e = .returned (.int .i64 1) ∧ Below w.heap.size w w' := by
  go_enter Try.func20, Try.ntmps20
  go_wp2
  go_ret
  exact ⟨rfl, (Below.refl _ _).alloc (Nat.le_refl _) _⟩

theorem there_any (b c g n cap : Nat) (A : Option Addr) (xs : List Int) (w : World) (hbig : xs.length ≤ 1099511627776) (hc : ∀ j x, xs[j]? = some x → w.cell? ⟨b, j, none⟩ = some (.int .i64 x)) (hg : w.cell? ⟨g, 0, none⟩ = some (.slice A n cap)) :
    Calls Try.prog 20 #[.pointer (some ⟨g, 0, none⟩), .slice (some ⟨b, 0, none⟩) xs.length c] w fun e w' => e = .returned (.int .i64 (thereE n xs)) ∧ Below w.heap.size w w' := by
  have hb2 : Below w.heap.size w (w.alloc (.cells #[.pointer (some ⟨g, 0, none⟩)] 24)) := (Below.refl _ _).alloc (Nat.le_refl _) _
  have hcp : (w.alloc (.cells #[.pointer (some ⟨g, 0, none⟩)] 24)).cell? ⟨w.heap.size, 0, none⟩ = some (.pointer (some ⟨g, 0, none⟩)) := by go_simp
  have hgl := World.block_lt_of_cell? w _ hg
  have hg2 := (hb2.cell (p := ⟨g, 0, none⟩) hgl).trans hg
  have h := contains_any 25 #[.pointer (some ⟨w.heap.size, 0, none⟩)] eg25 (fun k => decide (k < 0 ∨ (n : Int) ≤ k)) b c xs (w.alloc (.cells #[.pointer (some ⟨g, 0, none⟩)] 24)) hbig
    (fun j x h => (hb2.cell (p := ⟨b, j, none⟩) (World.block_lt_of_cell? w _ (hc j x h))).trans (hc j x h)) (fun x => place_any x n cap w.heap.size g A _ hcp hg2)
  have hE : thereE n xs = if xs.any (fun k => decide (k < 0 ∨ (n : Int) ≤ k)) then 15 else 0 := rfl
  rw [hE]
  generalize xs.any (fun k => decide (k < 0 ∨ (n : Int) ≤ k)) = q at h
  have H := Lib.hid h
  have HB := Lib.hid hb2
  clear hc hb2 hg2 hcp hgl h hE
  cases q with
  | true =>
    go_enter Try.func20, Try.ntmps20
    go_wp2_with fail
    refine H.out.mono ?_
    rintro e w1 ⟨rfl, rfl⟩
    go_wp2
    go_ret
    exact ⟨rfl, HB.out⟩
  | false =>
    go_enter Try.func20, Try.ntmps20
    go_wp2_with fail
    refine H.out.mono ?_
    rintro e w1 ⟨rfl, rfl⟩
    go_wp2
    go_ret
    exact ⟨rfl, HB.out⟩

end Go.Proofs.Ytckcagklojpfhaa
