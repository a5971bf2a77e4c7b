/- The frame of the cards of this seat: arguments that are slices are read, and read again behind the call. -/
import Derived.Test.YthnmhdabdiennaaDoorF0
import Derived.Test.YthnmhdabdiennaaDoorK17
import Derived.ChangeStays
import Derived.Deep.Slices
namespace Go.Proofs.YthnmhdabdiennaaDoor
open Go.RowKit Go.WideShapes Go.ChangeShapes Go.Deep
theorem Tryd.und22 : Tryd.prog.underlying 22 = some (.slice 49) := Tryd.underlying22
theorem Tryd.und56 : Tryd.prog.underlying 56 = some (.slice 5) := Tryd.underlying56
theorem Tryd.und49 : ∃ f0 f1 f2 f3 : Field, Tryd.prog.underlying 49 = some (.struct #[f0, f1, f2, f3]) ∧ f0.type = 5 ∧ f1.type = 5 ∧ f2.type = 5 ∧ f3.type = 5 ∧ f0.offset = 0 ∧ f1.offset = 1 ∧ f2.offset = 2 ∧ f3.offset = 3 := ⟨_, _, _, _, Tryd.underlying49, rfl, rfl, rfl, rfl, rfl, rfl, rfl, rfl⟩
theorem Tryd.cells49 : Tryd.prog.cellsOf 49 = 4 := by kernel_rfl
theorem Tryd.cells5 : Tryd.prog.cellsOf 5 = 1 := by kernel_rfl
/-- The types of the arguments of this seat's laws, and of their parts. -/
def ArgT (t : TypeId) : Prop := t = 22 ∨ t = 56 ∨ t = 49 ∨ t = 5
theorem argKids : Go.Kids Tryd.prog ArgT := by
  obtain ⟨f0, f1, f2, f3, h49, a0, a1, a2, a3, o0, o1, o2, o3⟩ := Tryd.und49
  have h5 := Tryd.underlying5
  have h22 := Tryd.und22
  have h56 := Tryd.und56
  refine ⟨?_, ?_, ?_, ?_, ?_⟩
  · rintro t e (rfl | rfl | rfl | rfl) h
    · rw [h22] at h; cases h
    · rw [h56] at h; cases h
    · rw [h49] at h; cases h
    · rw [h5] at h; cases h
  · rintro t e (rfl | rfl | rfl | rfl) h
    · rw [h22] at h; cases h; exact .inr (.inr (.inl rfl))
    · rw [h56] at h; cases h; exact .inr (.inr (.inr rfl))
    · rw [h49] at h; cases h
    · rw [h5] at h; cases h
  · rintro t e n (rfl | rfl | rfl | rfl) h
    · rw [h22] at h; cases h
    · rw [h56] at h; cases h
    · rw [h49] at h; cases h
    · rw [h5] at h; cases h
  · rintro t fs (rfl | rfl | rfl | rfl) h
    · rw [h22] at h; cases h
    · rw [h56] at h; cases h
    · rw [h49] at h
      cases h
      refine ⟨?_, by rw [Tryd.cells49]; simp [a0, a1, a2, a3, Tryd.cells5], ?_⟩
      · intro f hf
        simp only [List.mem_cons, List.not_mem_nil, or_false] at hf
        rcases hf with rfl | rfl | rfl | rfl
        · exact .inr (.inr (.inr a0))
        · exact .inr (.inr (.inr a1))
        · exact .inr (.inr (.inr a2))
        · exact .inr (.inr (.inr a3))
      · intro j f hj
        match j with
        | 0 => simp at hj; subst hj; simpa using o0
        | 1 => simp at hj; subst hj; simp [o1, a0, Tryd.cells5]
        | 2 => simp at hj; subst hj; simp [o2, a0, a1, Tryd.cells5]
        | 3 => simp at hj; subst hj; simp [o3, a0, a1, a2, Tryd.cells5]
        | j + 4 => simp at hj
    · rw [h5] at h; cases h
  · rintro t k e (rfl | rfl | rfl | rfl) h
    · rw [h22] at h; cases h
    · rw [h56] at h; cases h
    · rw [h49] at h; cases h
    · rw [h5] at h; cases h
theorem argSize : ∀ {t e : TypeId}, ArgT t → Tryd.prog.underlying t = some (.slice e) → 0 < Tryd.prog.cellsOf e := by
  rintro t e (rfl | rfl | rfl | rfl) h
  · rw [Tryd.und22] at h; cases h; rw [Tryd.cells49]; decide
  · rw [Tryd.und56] at h; cases h; rw [Tryd.cells5]; decide
  · obtain ⟨f0, f1, f2, f3, h49, _⟩ := Tryd.und49; rw [h49] at h; cases h
  · rw [Tryd.underlying5] at h; cases h
section
variable {H : Type} {enc : TypeId × Value → H} {W W' : World}
/-- An argument reads behind the call as it read before it. -/
theorem trod_keep {t : TypeId} {v : Value} {d : DataW H} {p : List MemPlace} (ht : ArgT t) (h : DataW.Trod enc Tryd.prog W 0 (fun _ => true) true t v d p) (hb : Below W.heap.size W W') (hlt : ∀ x ∈ p, x.block < W.heap.size)
    {sp : Nat → Bool} (hs : ∀ x ∈ p, sp x.block = true) : DataW.Trod enc Tryd.prog W' 0 sp true t v d p := by
  obtain ⟨fuel, hf⟩ := h
  exact ⟨fuel, DataW.trod_stays argKids argSize (fun h => by cases h) ht hf (fun x hx => hb.same (hlt x hx)) hs⟩
/-- A byte, read. -/
theorem byte_of_trod {fuel : Nat} {cs : List Value} {x : DataW H × List MemPlace} {base : Nat} {spare : Nat → Bool} {held : Bool} (h : DataW.trod enc Tryd.prog W base spare held fuel 5 cs = some x) : ∃ n : Nat, n < 256 ∧ cs = [.int .u8 n] := by
  obtain ⟨n, rfl, -, hw⟩ := DataW.trod_int Tryd.underlying5 h
  have m0 : IntKind.u8.min = 0 := rfl
  have m1 : IntKind.u8.max = 255 := rfl
  have h0 : 0 ≤ n ∧ n < 256 := by simp [Lit.wf] at hw; omega
  obtain ⟨k, rfl⟩ := Int.eq_ofNat_of_zero_le h0.1
  exact ⟨k, by omega, rfl⟩
set_option maxRecDepth 100000 in
theorem acts_of_trod {base : Nat} {spare : Nat → Bool} {held : Bool} {r : Reach} {b0 : Nat} {v : Value} {d : DataW H} {p : List MemPlace} (hv : Value.okWide Tryd.prog W r b0 22 v) (h : DataW.Trod enc Tryd.prog W base spare held 22 v d p) :
    ∃ A n c, v = .slice A n c ∧ n ≤ 9223372036854775807 ∧ ActsAt W A n := by
  obtain ⟨A, n, c, rfl⟩ := okWide_slice Tryd.und22 hv
  obtain ⟨fuel, hf⟩ := h
  have hcs : (Value.slice A n c).cells.toList = [.slice A n c] := rfl
  rw [hcs] at hf
  refine ⟨A, n, c, rfl, ?_⟩
  rcases open_slice Tryd.und22 hf with ⟨e, _⟩ | ⟨a, len, cap, m, k, D, Pl, e, _, hl, hm, hmm, _, hx⟩
  · simp only [List.cons.injEq, Value.slice.injEq, and_true] at e
    obtain ⟨rfl, rfl, rfl⟩ := e
    exact ⟨by omega, fun j hj => absurd hj (by omega)⟩
  · simp only [List.cons.injEq, Value.slice.injEq, and_true] at e
    obtain ⟨rfl, rfl, rfl⟩ := e
    refine ⟨by unfold maxLen at hm; omega, fun j hj => ?_⟩
    have hjm : j < m := by rw [hmm]; split <;> omega
    obtain ⟨cs', hc, ht⟩ := hx j hjm
    rw [Tryd.cells49] at hc
    obtain ⟨f0, f1, f2, f3, h49, a0, a1, a2, a3, o0, o1, o2, o3⟩ := Tryd.und49
    obtain ⟨ys, k', _, _, hlen, hyl, hf⟩ := DataW.trod_struct h49 ht
    rw [Tryd.cells49] at hlen
    obtain ⟨_, _, hat⟩ := World.cells?_some hc
    match cs', hlen with
    | [c0, c1, c2, c3], _ =>
      match ys, hyl with
      | [y0, y1, y2, y3], _ =>
        have g0 := hf 0 f0 rfl
        have g1 := hf 1 f1 rfl
        have g2 := hf 2 f2 rfl
        have g3 := hf 3 f3 rfl
        rw [a0, o0, Tryd.cells5] at g0
        rw [a1, o1, Tryd.cells5] at g1
        rw [a2, o2, Tryd.cells5] at g2
        rw [a3, o3, Tryd.cells5] at g3
        obtain ⟨n0, b0, e0⟩ := byte_of_trod g0
        obtain ⟨n1, b1, e1⟩ := byte_of_trod g1
        obtain ⟨n2, b2, e2⟩ := byte_of_trod g2
        obtain ⟨n3, b3, e3⟩ := byte_of_trod g3
        simp at e0 e1 e2 e3
        subst e0 e1 e2 e3
        have q0 := hat 0 (by decide)
        have q1 := hat 1 (by decide)
        have q2 := hat 2 (by decide)
        have q3 := hat 3 (by decide)
        rw [Go.Deep.add_add] at q0 q1 q2 q3
        refine ⟨a, fun f => [n0, n1, n2, n3].getD f 0, rfl, ?_, fun f hf => ?_⟩
        · have := World.block_lt_of_cell? W _ q0
          unfold Addr.add at this
          split at this <;> exact this
        · match f, hf with
          | 0, _ => exact ⟨b0, q0⟩
          | 1, _ => exact ⟨b1, q1⟩
          | 2, _ => exact ⟨b2, q2⟩
          | 3, _ => exact ⟨b3, q3⟩
end
end Go.Proofs.YthnmhdabdiennaaDoor
