/- The frame of the cards of this seat: arguments that are slices are read, and read again behind the call. -/
import Derived.Test.YtdcbejccplonjaaDoorF0
import Derived.Test.YtdcbejccplonjaaDoorB22
import Derived.ChangeStays
import Derived.ChangeSlices
import Derived.Deep.Slices
namespace Go.Proofs.YtdcbejccplonjaaDoor
open Go.RowKit Go.WideShapes Go.ChangeShapes Go.Deep
theorem Tryd.und23 : Tryd.prog.underlying 23 = some (.slice 5) := Tryd.underlying23
theorem Tryd.und24 : Tryd.prog.underlying 24 = some (.slice 35) := Tryd.underlying24
theorem Tryd.und35 : Tryd.prog.underlying 35 = some (.slice 3) := Tryd.underlying35
theorem Tryd.cells35 : Tryd.prog.cellsOf 35 = 1 := by kernel_rfl
theorem Tryd.cells5 : Tryd.prog.cellsOf 5 = 1 := by kernel_rfl
theorem Tryd.cells3 : Tryd.prog.cellsOf 3 = 1 := by kernel_rfl
/-- The types of the arguments of this seat's laws, and of their parts. -/
def ArgT (t : TypeId) : Prop := t = 23 ∨ t = 24 ∨ t = 35 ∨ t = 3 ∨ t = 5
theorem argKids : Go.Kids Tryd.prog ArgT := by
  have h3 := Tryd.underlying3
  have h5 := Tryd.underlying5
  have h23 := Tryd.und23
  have h24 := Tryd.und24
  have h35 := Tryd.und35
  refine ⟨?_, ?_, ?_, ?_, ?_⟩
  · rintro t e (rfl | rfl | rfl | rfl | rfl) h
    · rw [h23] at h; cases h
    · rw [h24] at h; cases h
    · rw [h35] at h; cases h
    · rw [h3] at h; cases h
    · rw [h5] at h; cases h
  · rintro t e (rfl | rfl | rfl | rfl | rfl) h
    · rw [h23] at h; cases h; exact .inr (.inr (.inr (.inr rfl)))
    · rw [h24] at h; cases h; exact .inr (.inr (.inl rfl))
    · rw [h35] at h; cases h; exact .inr (.inr (.inr (.inl rfl)))
    · rw [h3] at h; cases h
    · rw [h5] at h; cases h
  · rintro t e n (rfl | rfl | rfl | rfl | rfl) h
    · rw [h23] at h; cases h
    · rw [h24] at h; cases h
    · rw [h35] at h; cases h
    · rw [h3] at h; cases h
    · rw [h5] at h; cases h
  · rintro t fs (rfl | rfl | rfl | rfl | rfl) h
    · rw [h23] at h; cases h
    · rw [h24] at h; cases h
    · rw [h35] at h; cases h
    · rw [h3] at h; cases h
    · rw [h5] at h; cases h
  · rintro t k e (rfl | rfl | rfl | rfl | rfl) h
    · rw [h23] at h; cases h
    · rw [h24] at h; cases h
    · rw [h35] at h; cases h
    · rw [h3] at h; cases h
    · rw [h5] at h; cases h
theorem argSize : ∀ {t e : TypeId}, ArgT t → Tryd.prog.underlying t = some (.slice e) → 0 < Tryd.prog.cellsOf e := by
  rintro t e (rfl | rfl | rfl | rfl | rfl) h
  · rw [Tryd.und23] at h; cases h; rw [Tryd.cells5]; decide
  · rw [Tryd.und24] at h; cases h; rw [Tryd.cells35]; decide
  · rw [Tryd.und35] at h; cases h; rw [Tryd.cells3]; decide
  · rw [Tryd.underlying3] at h; cases h
  · rw [Tryd.underlying5] at h; cases h
section
variable {H : Type} {enc : TypeId × Value → H} {W W' : World}
/-- An argument reads behind the call as it read before it. -/
theorem trod_keep {t : TypeId} {v : Value} {d : DataW H} {p : List MemPlace} (ht : ArgT t) (h : DataW.Trod enc Tryd.prog W 0 (fun _ => true) true t v d p) (hb : Below W.heap.size W W') (hlt : ∀ x ∈ p, x.block < W.heap.size)
    {sp : Nat → Bool} (hs : ∀ x ∈ p, sp x.block = true) : DataW.Trod enc Tryd.prog W' 0 sp true t v d p := by
  obtain ⟨fuel, hf⟩ := h
  exact ⟨fuel, DataW.trod_stays argKids argSize (fun h => by cases h) ht hf (fun x hx => hb.same (hlt x hx)) hs⟩
theorem lt_of_add {w : World} {a : Addr} {i : Nat} {v : Value} (h : w.cell? (a.add i) = some v) : a.block < w.heap.size := by
  have := World.block_lt_of_cell? w _ h
  unfold Addr.add at this
  split at this <;> exact this
/-- A slice of numbers of the kind k, read. -/
theorem ints_of_trod {base : Nat} {sp : Nat → Bool} {held : Bool} {t e : TypeId} {k : IntKind} {fuel : Nat} {v : Value} {x : DataW H × List MemPlace} (ht : Tryd.prog.underlying t = some (.slice e)) (he : Tryd.prog.underlying e = some (.int k)) (hc : Tryd.prog.cellsOf e = 1)
    (h : DataW.trod enc Tryd.prog W base sp held fuel t [v] = some x) : ∃ zs : List Int, SlAt W v (zs.map (Value.int k)) ∧ ∀ z ∈ zs, (Lit.int k z).wf = true := by
  rcases open_ints ht he hc h with ⟨e1, _⟩ | ⟨a, len, cap, zs, e1, _, hl, hm, hz, _, hx, hw⟩
  · obtain rfl : v = .slice none 0 0 := by simpa using e1
    exact ⟨[], SlAt.nil _, by simp⟩
  · obtain rfl : v = .slice (some a) len cap := by simpa using e1
    have hlz : len ≤ zs.length := by rw [hz]; split <;> omega
    have htl : (zs.take len).length = len := by rw [List.length_take]; omega
    refine ⟨zs.take len, ⟨some a, cap, by rw [List.length_map, htl], by rw [List.length_map, htl]; exact hl, hm, fun h0 => ⟨a, rfl, ?_, fun j u hj => ?_⟩⟩, fun z hz' => hw z (List.mem_of_mem_take hz')⟩
    · rw [List.length_map, htl] at h0
      exact lt_of_add (hx 0 (by omega))
    · rw [List.getElem?_map, List.getElem?_take] at hj
      split at hj
      · rename_i hjn
        have hjz : j < zs.length := by omega
        rw [List.getElem?_eq_getElem hjz] at hj
        rw [hx j hjz, List.getD_eq_getElem?_getD, List.getElem?_eq_getElem hjz]
        exact hj
      · cases hj
theorem u8_wf {z : Int} (h : (Lit.int .u8 z).wf = true) : 0 ≤ z ∧ z < 256 := by
  have m0 : IntKind.u8.min = 0 := rfl
  have m1 : IntKind.u8.max = 255 := rfl
  simp [Lit.wf] at h
  omega
set_option maxRecDepth 100000 in
/-- A family of bit sets. -/
theorem fam_of_trod {base : Nat} {sp : Nat → Bool} {held : Bool} {r : Reach} {b0 : Nat} {v : Value} {d : DataW H} {p : List MemPlace} (hv : Value.okWide Tryd.prog W r b0 23 v) (h : DataW.Trod enc Tryd.prog W base sp held 23 v d p) :
    ∃ xs, Bs W v xs ∧ U8 xs := by
  obtain ⟨A, n, c, rfl⟩ := okWide_slice Tryd.und23 hv
  obtain ⟨fuel, hf⟩ := h
  obtain ⟨zs, h1, h2⟩ := ints_of_trod (v := .slice A n c) Tryd.und23 Tryd.underlying5 Tryd.cells5 hf
  refine ⟨zs.map Int.toNat, ?_, fun x hx => ?_⟩
  · unfold Bs
    rw [List.map_map]
    have : zs.map (bV ∘ Int.toNat) = zs.map (Value.int .u8) := List.map_congr_left fun z hz => by
      have := u8_wf (h2 z hz)
      show Value.int .u8 ((z.toNat : Nat) : Int) = Value.int .u8 z
      rw [Int.toNat_of_nonneg this.1]
    rw [this]
    exact h1
  · obtain ⟨z, hz, rfl⟩ := List.mem_map.1 hx
    have := u8_wf (h2 z hz)
    omega
set_option maxRecDepth 100000 in
/-- A list of numbers. -/
theorem is_of_trod {base : Nat} {sp : Nat → Bool} {held : Bool} {r : Reach} {b0 : Nat} {v : Value} {d : DataW H} {p : List MemPlace} (hv : Value.okWide Tryd.prog W r b0 35 v) (h : DataW.Trod enc Tryd.prog W base sp held 35 v d p) : ∃ zs, Is W v zs := by
  obtain ⟨A, n, c, rfl⟩ := okWide_slice Tryd.und35 hv
  obtain ⟨fuel, hf⟩ := h
  obtain ⟨zs, h1, _⟩ := ints_of_trod (v := .slice A n c) Tryd.und35 Tryd.underlying3 Tryd.cells3 hf
  exact ⟨zs, h1⟩
theorem choose_list {α : Type} {Q : Nat → α → Prop} : ∀ n, (∀ i, i < n → ∃ a, Q i a) → ∃ l : List α, l.length = n ∧ ∀ i (h : i < l.length), Q i l[i]
  | 0, _ => ⟨[], rfl, fun i h => by simp at h⟩
  | n + 1, h => by
    obtain ⟨l, hl, hq⟩ := choose_list n fun i hi => h i (by omega)
    obtain ⟨a, ha⟩ := h n (by omega)
    refine ⟨l ++ [a], by simp [hl], fun i hi => ?_⟩
    rw [List.getElem_append]
    split
    · exact hq i _
    · have : i = n := by simp at hi; omega
      subst this
      simpa using ha
set_option maxRecDepth 100000 in
/-- A family of lists of numbers. -/
theorem rs_of_trod {base : Nat} {sp : Nat → Bool} {held : Bool} {r : Reach} {b0 : Nat} {v : Value} {d : DataW H} {p : List MemPlace} (hv : Value.okWide Tryd.prog W r b0 24 v) (h : DataW.Trod enc Tryd.prog W base sp held 24 v d p) : ∃ ls, Rs W v ls := by
  obtain ⟨A, n, c, rfl⟩ := okWide_slice Tryd.und24 hv
  obtain ⟨fuel, hf⟩ := h
  have hcs : (Value.slice A n c).cells.toList = [.slice A n c] := rfl
  rw [hcs] at hf
  rcases open_slice1 Tryd.und24 Tryd.cells35 hf with ⟨e1, _⟩ | ⟨a, len, cap, m, k, V, D, Pl, e1, _, hl, hm, hmm, _, hx⟩
  · obtain ⟨rfl, rfl, rfl⟩ : A = none ∧ n = 0 ∧ c = 0 := by simpa using e1
    exact ⟨[], Rs.nil _⟩
  · obtain ⟨rfl, rfl, rfl⟩ : A = some a ∧ n = len ∧ c = cap := by simpa using e1
    have hlm : n ≤ m := by rw [hmm]; split <;> omega
    obtain ⟨ls, hll, hq⟩ := choose_list (Q := fun i l => Is W (V i) l) n fun i hi => by
      obtain ⟨zs, h1, _⟩ := ints_of_trod (v := V i) Tryd.und35 Tryd.underlying3 Tryd.cells3 (hx i (by omega)).2
      exact ⟨zs, h1⟩
    refine ⟨ls, (List.range n).map V, ⟨some a, c, by simp, by simpa using hl, hm, fun h0 => ⟨a, rfl, ?_, fun j u hj => ?_⟩⟩, by simp [hll], fun j hj => ?_⟩
    · have : 0 < n := by simpa using h0
      exact lt_of_add (hx 0 (by omega)).1
    · rw [List.getElem?_map] at hj
      have hjn : j < n := by
        refine Classical.byContradiction fun hn => ?_
        rw [List.getElem?_eq_none (by simpa using Nat.le_of_not_lt hn)] at hj
        cases hj
      rw [List.getElem?_range hjn] at hj
      rw [(hx j (by omega)).1]
      exact hj
    · have hjn : j < n := by omega
      rw [List.getD_eq_getElem?_getD, List.getElem?_map, List.getElem?_range hjn, List.getD_eq_getElem?_getD, List.getElem?_eq_getElem hj]
      exact hq j hj
/-- A byte. -/
theorem byte_of_trod {base : Nat} {sp : Nat → Bool} {held : Bool} {v : Value} {d : DataW H} {p : List MemPlace} (hv : ∃ n, v = .int .u8 n) (h : DataW.Trod enc Tryd.prog W base sp held 5 v d p) : ∃ n : Nat, n < 256 ∧ v = bV n := by
  obtain ⟨n, rfl⟩ := hv
  obtain ⟨fuel, hf⟩ := h
  obtain ⟨n', e, -, hw⟩ := DataW.trod_int Tryd.underlying5 hf
  have e1 : [Value.int .u8 n] = [Value.int .u8 n'] := e
  obtain rfl : n = n' := by simpa using e1
  have := u8_wf hw
  exact ⟨n.toNat, by omega, by show Value.int .u8 n = Value.int .u8 ((n.toNat : Nat) : Int); rw [Int.toNat_of_nonneg this.1]⟩
set_option maxRecDepth 100000 in
theorem okWide_u8 {r : Reach} {b0 : Nat} {v : Value} (h : Value.okWide Tryd.prog W r b0 5 v) : ∃ n, v = .int .u8 n := okWide_int Tryd.underlying5 h
set_option maxRecDepth 100000 in
theorem okWide_i64 {r : Reach} {b0 : Nat} {v : Value} (h : Value.okWide Tryd.prog W r b0 3 v) : ∃ n, v = .int .i64 n := okWide_int Tryd.underlying3 h
/-- A number. -/
theorem int_of_trod {base : Nat} {sp : Nat → Bool} {held : Bool} {v : Value} {d : DataW H} {p : List MemPlace} (hv : ∃ n, v = .int .i64 n) (h : DataW.Trod enc Tryd.prog W base sp held 3 v d p) : ∃ n : Int, -9223372036854775808 ≤ n ∧ n ≤ 9223372036854775807 ∧ v = .int .i64 n := by
  obtain ⟨n, rfl⟩ := hv
  obtain ⟨fuel, hf⟩ := h
  obtain ⟨n', e, -, hw⟩ := DataW.trod_int Tryd.underlying3 hf
  have e1 : [Value.int .i64 n] = [Value.int .i64 n'] := e
  obtain rfl : n = n' := by simpa using e1
  have m0 : IntKind.i64.min = -9223372036854775808 := rfl
  have m1 : IntKind.i64.max = 9223372036854775807 := rfl
  simp [Lit.wf] at hw
  exact ⟨n, by omega, by omega, rfl⟩
end
theorem tab_of {W : World} (h : Lib.TabIs Tryd.prog W "math/bits.deBruijn64tab" .u8 (Lib.deBruijn64tab.map fun (x : Nat) => (x : Int))) : Tab W := by
  unfold Lib.TabIs at h
  intro j hj
  have hg : Tryd.prog.globalNamed "math/bits.deBruijn64tab" = some 0 := by kernel_rfl
  rw [World.var?_cell hg h j, List.getElem?_toArray, List.getElem?_map, List.getElem?_map, List.getElem?_eq_getElem hj, List.getD_eq_getElem?_getD, List.getElem?_eq_getElem hj]
  rfl
theorem tab_laid {W : World} (h : laidMet Tryd.prog [("math/bits.deBruijn64tab", Rows.laid_math_bits_deBruijn64tab)] W) : Tab W := by
  obtain ⟨ps, ⟨g', t', cs, fuel, p, q, hg', ht', hvar, hd, _, _⟩, _⟩ := h
  obtain rfl := Option.some.inj ((show Tryd.prog.globalNamed "math/bits.deBruijn64tab" = some 0 by kernel_rfl).symm.trans hg')
  obtain rfl := Option.some.inj ((show (Tryd.prog.globals[0]?).map (·.type) = some 88 by kernel_rfl).symm.trans ht')
  refine tab_of ?_
  unfold Lib.TabIs
  rw [hvar, ← Lib.cells_of_tab (zs := Lib.deBruijn64tab.map fun (x : Nat) => (x : Int)) (k := .u8) (n := 64) (e := 5) Tryd.underlying88 Tryd.underlying5 (by kernel_rfl) (by kernel_rfl) hd]
end Go.Proofs.YtdcbejccplonjaaDoor
