/- What the walk of NetOrder uses: a slice of slices of bytes that came in reads as a list of lists; '[]byte(s)' lays new memory; the packets of a list of lists. No condition. -/
import Derived.Test.YtckcagklojpfhaaRow
import Derived.Test.YtckcagklojpfhaaFrame
import Derived.Test.YtckcagklojpfhaaFullW
import Derived.Deep.Matrix
import Derived.Lib.ConvBytes
namespace Go.Proofs.Ytckcagklojpfhaa
open Go.ChangeShapes Go.WideShapes Go.ChangeAt Go.RowKit
set_option linter.unusedSimpArgs false

/-- The slice v holds slices that read as these lists of bytes. -/
def Rd2 (w : World) (v : Value) (L : List (List UInt8)) : Prop :=
  ∃ vs : List Value, Rd w w.heap.size v vs ∧ vs.length = L.length ∧ ∀ (i : Nat) (u : Value), vs[i]? = some u → ∃ d, L[i]? = some d ∧ Rd w w.heap.size u (bv d)

theorem Rd2.on {w w' : World} {v : Value} {L : List (List UInt8)} (h : Rd2 w v L) (hb : Below w.heap.size w w') : Rd2 w' v L := by
  obtain ⟨vs, h1, h2, h3⟩ := h
  refine ⟨vs, h1.on hb, h2, fun i u hu => ?_⟩
  obtain ⟨d, e1, e2⟩ := h3 i u hu
  exact ⟨d, e1, e2.on hb⟩

theorem Rd2.form {w : World} {v : Value} {L : List (List UInt8)} (h : Rd2 w v L) : ∃ A c, v = .slice A L.length c := by
  obtain ⟨vs, h1, h2, _⟩ := h
  obtain ⟨A, c, hv, _⟩ := h1.form
  exact ⟨A, c, by rw [hv, h2]⟩

/-- one of them -/
theorem Rd2.get {w : World} {A : Option Addr} {n c : Nat} {L : List (List UInt8)} (h : Rd2 w (.slice A n c) L) {i : Nat} {d : List UInt8} (hd : L[i]? = some d) :
    ∃ b o A' c', A = some ⟨b, o, none⟩ ∧ b < w.heap.size ∧ w.cell? ⟨b, o + i, none⟩ = some (.slice A' d.length c') ∧ Rd w w.heap.size (.slice A' d.length c') (bv d) := by
  obtain ⟨vs, h1, h2, h3⟩ := h
  have hi : i < vs.length := by rw [h2]; exact (List.getElem?_eq_some_iff.1 hd).1
  obtain ⟨d', e1, e2⟩ := h3 i _ (List.getElem?_eq_getElem hi)
  rw [hd] at e1
  injection e1 with e1
  subst e1
  obtain ⟨b, o, rfl, hb, hc⟩ := h1.open_ (by intro e; rw [e] at hi; simp at hi)
  obtain ⟨A', c', hv, _⟩ := e2.form
  rw [bv_length] at hv
  exact ⟨b, o, A', c', rfl, hb, by rw [hc i _ (List.getElem?_eq_getElem hi), hv], by rw [← hv]; exact e2⟩

theorem Try.cells27 : Try.prog.cellsOf 27 = 1 := by kernel_rfl

theorem addr_add (a : Addr) (h : ∃ b o, a = ⟨b, o, none⟩) (j : Nat) : a.add j = ⟨a.block, a.off + j, none⟩ := by
  obtain ⟨b, o, rfl⟩ := h
  unfold Addr.add; split <;> simp_all

/-- a []byte, opened, reads as a list of bytes -/
theorem rd_of_cells {w : World} {A : Option Addr} {L C : Nat} {Z : List Int} (hLC : L ≤ C) (hC : C ≤ maxLen) (hZ : Z.length = C) (hw : ∀ n ∈ Z, (Lit.int .u8 n).wf = true) (h0 : A = none → C = 0)
    (hc : ∀ a', A = some a' → ∀ c, c < C → w.cell? (a'.add c) = some (.int .u8 (Z.getD c 0))) : ∃ d : List UInt8, Rd w w.heap.size (.slice A L C) (bv d) := by
  have hu : ∀ z ∈ Z, ((UInt8.ofNat z.toNat).toNat : Int) = z := by
    intro z hz
    have hw := hw z hz
    have hx : 0 ≤ z ∧ z ≤ 255 := by simpa [Lit.wf, IntKind.min, IntKind.max, IntKind.signed, IntKind.bits] using hw
    rw [UInt8.toNat_ofNat']
    omega
  have hlen : ((Z.take L).map fun z => UInt8.ofNat z.toNat).length = L := by rw [List.length_map, List.length_take]; omega
  refine ⟨(Z.take L).map fun z => UInt8.ofNat z.toNat, A, C, by rw [bv_length, hlen], by rw [bv_length, hlen]; exact hLC, hC, h0, fun hne => ?_⟩
  have hpos : 0 < L := by
    rcases Nat.eq_zero_or_pos L with h0 | h0
    · exfalso; apply hne; apply List.eq_nil_of_length_eq_zero; rw [bv_length, hlen, h0]
    · exact h0
  rcases A with _ | a
  · have := h0 rfl
    omega
  · obtain ⟨b, o, rfl⟩ := addr_cell (hc _ rfl 0 (by omega))
    have hb := block_lt_of_cell (hc _ rfl 0 (by omega))
    refine ⟨b, o, rfl, by simpa [Addr.add] using hb, fun j u hju => ?_⟩
    have hj : j < L := by have := (List.getElem?_eq_some_iff.1 hju).1; rw [bv_length, hlen] at this; exact this
    have hc := hc _ rfl j (by omega)
    rw [show (⟨b, o, none⟩ : Addr).add j = ⟨b, o + j, none⟩ from by unfold Addr.add; split <;> simp_all] at hc
    rw [hc]
    have hz' : Z[j]? = some (Z.getD j 0) := by rw [List.getD_eq_getElem?_getD, List.getElem?_eq_getElem (by omega)]; rfl
    simp only [bv, List.map_map, List.getElem?_map, List.getElem?_take, if_pos hj, hz', Option.map_some, Function.comp] at hju
    rw [← hju, hu _ (List.mem_of_getElem? hz')]

theorem choose_rd {w : World} (A : Nat → Option Addr) (L C : Nat → Nat) : ∀ (len : Nat), (∀ r, r < len → ∃ d : List UInt8, Rd w w.heap.size (.slice (A r) (L r) (C r)) (bv d)) →
    ∃ ds : List (List UInt8), ds.length = len ∧ ∀ i d, ds[i]? = some d → Rd w w.heap.size (.slice (A i) (L i) (C i)) (bv d) := by
  intro len
  induction len with
  | zero => intro _; exact ⟨[], rfl, fun i d h => by simp at h⟩
  | succ n ih =>
    intro h
    obtain ⟨ds, h1, h2⟩ := ih fun r hr => h r (by omega)
    obtain ⟨d, hd⟩ := h n (by omega)
    refine ⟨ds ++ [d], by simp [h1], fun i d' hi => ?_⟩
    rcases Nat.lt_or_ge i n with hlt | hge
    · rw [List.getElem?_append_left (by omega)] at hi
      exact h2 i d' hi
    · rw [List.getElem?_append_right (by omega)] at hi
      have := (List.getElem?_eq_some_iff.1 hi).1
      simp at this
      obtain rfl : i = n := by omega
      simp [h1] at hi
      subst hi
      exact hd

/-- a [][]byte that came in -/
theorem open_rows {H : Type} {enc : TypeId × Value → H} {W : World} {base : Nat} {v : Value} {d : DataW H} {p : List MemPlace}
    (hv : Value.okWide Try.prog W .any base 46 v) (h : DataW.Trod enc Try.prog W 0 (fun _ => true) true 46 v d p) : ∃ L : List (List UInt8), Rd2 W v L := by
  obtain ⟨a0, len, cap, rfl⟩ := okWide_slice Try.underlying46 hv
  obtain ⟨fuel, hf⟩ := h
  rcases Deep.open_int_rows Try.underlying46 Try.underlying27 Try.underlying5 Try.cells27 Try.cells5 hf with ⟨hcs, _⟩ | ⟨a, len', cap', A, L, C, Z, hcs, _, hl, hm, _, hr⟩
  · have e : Value.slice a0 len cap = .slice none 0 0 := by simpa [Value.cells] using hcs
    rw [e]
    exact ⟨[], [], Rd.nil _ _, rfl, fun i u h => by simp at h⟩
  · have e : Value.slice a0 len cap = .slice (some a) len' cap' := by simpa [Value.cells] using hcs
    rw [e]
    obtain ⟨ds, hd1, hd2⟩ := choose_rd (w := W) A L C len' (fun r hrl => by
      obtain ⟨_, q1, q2, q3, q4, q5, q6⟩ := hr r (by omega)
      exact rd_of_cells q1 q2 q3 q4 q5 (fun a' ha' => (q6 a' ha').2))
    have hvl : ((List.range len').map fun r => Value.slice (A r) (L r) (C r)).length = len' := by simp
    refine ⟨ds, (List.range len').map fun r => Value.slice (A r) (L r) (C r), ⟨some a, cap', by rw [hvl], by rw [hvl]; exact hl, hm, (fun h => by cases h), fun hne => ?_⟩, by rw [hvl, hd1], fun i u hu => ?_⟩
    · have hpos : 0 < len' := by
        rcases Nat.eq_zero_or_pos len' with h0 | h0
        · exfalso; apply hne; apply List.eq_nil_of_length_eq_zero; rw [hvl, h0]
        · exact h0
      obtain ⟨b, o, rfl⟩ := addr_cell (hr 0 (by omega)).1
      have hb := block_lt_of_cell (hr 0 (by omega)).1
      refine ⟨b, o, rfl, by simpa [Addr.add] using hb, fun j u hju => ?_⟩
      have hj : j < len' := by have := (List.getElem?_eq_some_iff.1 hju).1; rw [hvl] at this; exact this
      have hc := (hr j (by omega)).1
      rw [show (⟨b, o, none⟩ : Addr).add j = ⟨b, o + j, none⟩ from by unfold Addr.add; split <;> simp_all] at hc
      rw [hc]
      rw [List.getElem?_map, List.getElem?_range hj] at hju
      simpa using hju
    · have hj : i < len' := by have := (List.getElem?_eq_some_iff.1 hu).1; rw [hvl] at this; exact this
      rw [List.getElem?_map, List.getElem?_range hj] at hu
      simp at hu
      subst hu
      have hi : i < ds.length := by omega
      exact ⟨ds[i], List.getElem?_eq_getElem hi, hd2 i _ (List.getElem?_eq_getElem hi)⟩

/-- '[]byte(s)' -/
theorem to_bytes (w : World) (l : List UInt8) (hl : l.length ≤ 1099511627776) : ∃ cap w', (convert 9 27 (.string ⟨l.toArray⟩)).run Try.prog w = .ok (.slice (some ⟨w.heap.size, 0, none⟩) l.length cap) w' ∧ Below w.heap.size w w' ∧ w.heap.size < w'.heap.size ∧
    Rd w' w'.heap.size (.slice (some ⟨w.heap.size, 0, none⟩) l.length cap) (bv l) ∧ (0 < l.length → w'.frozen? ⟨w.heap.size, 0, none⟩ = false) := by
  have hs : (⟨l.toArray⟩ : ByteArray).size = l.length := by simp [ByteArray.size]
  have hr := Lib.run_convert_string_bytes (P := Try.prog) w 9 27 5 ⟨l.toArray⟩ Try.underlying9 Try.underlying27 Try.underlying5
  rw [hs] at hr
  have hge := grownCap_ge w l.length 0 5
  have hz := Lib.bytesWorld_size w 5 ⟨l.toArray⟩
  refine ⟨_, _, hr, ⟨rfl, rfl, rfl, by omega, fun k hk => Lib.bytesWorld_at_old w 5 _ k hk⟩, by omega, ⟨_, _, by rw [bv_length], by rw [bv_length]; exact hge, grownCap_le_maxLen w l.length 0 5 (by unfold maxLen; omega), (fun h => by cases h), fun _ => ⟨_, _, rfl, by omega, fun j u hu => ?_⟩⟩, fun hpos => ?_⟩
  · have hj : j < l.length := by have := (List.getElem?_eq_some_iff.1 hu).1; rwa [bv_length] at this
    rw [Nat.zero_add, Lib.bytesWorld_cell w 5 ⟨l.toArray⟩ j (by rw [hs]; exact hj), ← hu, bv_get (List.getElem?_eq_getElem hj)]
    simp [List.getD, List.getElem?_eq_getElem hj]
  · simp only [World.frozen?, Lib.bytesWorld_at_new]
    have : 0 < (Lib.bytesCells w 5 ⟨l.toArray⟩).size := by unfold Lib.bytesCells; simp only [Array.size_append, Array.size_map, Array.size_replicate]; rw [List.size_toArray]; omega
    generalize (Lib.bytesCells w 5 ⟨l.toArray⟩).size = z at *
    simp
    omega

/-! ### the packets -/
def pkO (i : Nat) (d : List UInt8) : Pk := (((i % 16 : Nat) : Int), 15 - ((i % 16 : Nat) : Int), d)
def PT (L : List (List UInt8)) (k : Nat) : List Pk := (L.mapIdx pkO).take k
def PD (L : List (List UInt8)) (k : Nat) : List Pk := (L.mapIdx pkO).drop k

theorem PT_length (L : List (List UInt8)) (k : Nat) (h : k ≤ L.length) : (PT L k).length = k := by unfold PT; rw [List.length_take, List.length_mapIdx]; omega
theorem PD_length (L : List (List UInt8)) (k : Nat) : (PD L k).length = L.length - k := by unfold PD; rw [List.length_drop, List.length_mapIdx]
theorem pk_at {L : List (List UInt8)} {k : Nat} {d : List UInt8} (h : L[k]? = some d) : (L.mapIdx pkO)[k]? = some (pkO k d) := by rw [List.getElem?_mapIdx, h]; rfl
theorem PT_succ {L : List (List UInt8)} {k : Nat} {d : List UInt8} (h : L[k]? = some d) : PT L (k + 1) = PT L k ++ [pkO k d] := by
  unfold PT
  have hk := (List.getElem?_eq_some_iff.1 (pk_at h)).1
  rw [List.take_succ_eq_append_getElem hk]
  have := pk_at h
  rw [List.getElem?_eq_getElem hk] at this
  injection this with this
  rw [this]
theorem PT_all (L : List (List UInt8)) : PT L L.length = PD L 0 := by
  unfold PT PD
  rw [List.drop_zero, List.take_of_length_le (by rw [List.length_mapIdx]; exact Nat.le_refl _)]
theorem PD_head {L : List (List UInt8)} {k : Nat} {d : List UInt8} (h : L[k]? = some d) : (PD L k)[0]? = some (pkO k d) := by
  unfold PD
  rw [List.getElem?_drop, Nat.add_zero, pk_at h]
theorem PD_succ {L : List (List UInt8)} {k : Nat} (h : k < L.length) : dropL (PD L k) 0 = PD L (k + 1) := by
  unfold dropL
  rw [if_pos (by rw [PD_length]; omega)]
  unfold PD
  show ((L.mapIdx pkO).drop k).eraseIdx 0 = _
  rw [List.eraseIdx_zero, List.tail_drop]

end Go.Proofs.Ytckcagklojpfhaa
