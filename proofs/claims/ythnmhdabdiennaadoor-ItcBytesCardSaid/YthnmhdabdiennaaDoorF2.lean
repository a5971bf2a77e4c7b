/- The frame of the cards of this seat: an argument that is a slice of bytes. -/
import Derived.Test.YthnmhdabdiennaaDoorF1
import Derived.Test.YthnmhdabdiennaaDoorK19
import Derived.ChangeSlices
namespace Go.Proofs.YthnmhdabdiennaaDoor
open Go.RowKit Go.WideShapes Go.ChangeShapes Go.Deep
section
variable {H : Type} {enc : TypeId × Value → H} {W : World}
set_option maxRecDepth 100000 in
theorem bytes_of_trod {base : Nat} {spare : Nat → Bool} {held : Bool} {r : Reach} {b0 : Nat} {v : Value} {d : DataW H} {p : List MemPlace} (hv : Value.okWide Tryd.prog W r b0 56 v) (h : DataW.Trod enc Tryd.prog W base spare held 56 v d p) :
    ∃ A n c xs, v = .slice A n c ∧ n = xs.length ∧ n ≤ c ∧ c ≤ 9223372036854775807 ∧ BytesAt W A xs := by
  obtain ⟨A, n, c, rfl⟩ := okWide_slice Tryd.und56 hv
  obtain ⟨fuel, hf⟩ := h
  have hcs : (Value.slice A n c).cells.toList = [.slice A n c] := rfl
  rw [hcs] at hf
  rcases open_ints Tryd.und56 Tryd.underlying5 Tryd.cells5 hf with ⟨e, _⟩ | ⟨a, len, cap, zs, e, _, hl, hm, hz, _, hx, hw⟩
  · simp only [List.cons.injEq, Value.slice.injEq, and_true] at e
    obtain ⟨rfl, rfl, rfl⟩ := e
    exact ⟨none, 0, 0, [], rfl, rfl, Nat.le_refl _, by omega, fun h => absurd h (by simp)⟩
  · simp only [List.cons.injEq, Value.slice.injEq, and_true] at e
    obtain ⟨rfl, rfl, rfl⟩ := e
    have hlz : n ≤ zs.length := by rw [hz]; split <;> omega
    refine ⟨some a, n, c, (zs.take n).map fun z => UInt8.ofNat z.toNat, rfl, by simp; omega, hl, by unfold maxLen at hm; omega, fun h0 => ⟨a, rfl, ?_, fun j b hj => ?_⟩⟩
    · have h0' : 0 < zs.length := by simp at h0; omega
      have := World.block_lt_of_cell? W _ (hx 0 h0')
      exact this
    · rw [List.getElem?_map, List.getElem?_take] at hj
      split at hj
      · rename_i hjn
        have hjz : j < zs.length := by omega
        rw [List.getElem?_eq_getElem hjz] at hj
        have hb := Option.some.inj hj
        have hwf := hw zs[j] (List.getElem_mem hjz)
        have m0 : IntKind.u8.min = 0 := rfl
        have m1 : IntKind.u8.max = 255 := rfl
        have h2 : 0 ≤ zs[j] ∧ zs[j] < 256 := by simp [Lit.wf] at hwf; omega
        rw [hx j hjz, ← hb]
        have : ((UInt8.ofNat zs[j].toNat).toNat : Int) = zs[j] := by
          have : (UInt8.ofNat zs[j].toNat).toNat = zs[j].toNat := by simp; omega
          rw [this]; omega
        rw [this, List.getD_eq_getElem?_getD, List.getElem?_eq_getElem hjz]; rfl
      · cases hj
end
end Go.Proofs.YthnmhdabdiennaaDoor
