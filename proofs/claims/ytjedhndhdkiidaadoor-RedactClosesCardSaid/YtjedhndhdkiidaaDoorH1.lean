/- Names and bits: plain. -/
import Derived.Test.YtjedhndhdkiidaaDoorV26
namespace Go.Proofs.YtjedhndhdkiidaaDoor
open Go.RowKit
theorem bitF_test (b i : Nat) : bitF b i = b.testBit (i % 16) := by unfold bitF; rw [Nat.testBit_eq_decide_div_mod_eq]
/-- The bits of a that b lacks. -/
def andn (a b : Nat) : Nat := (BitVec.ofNat 16 a &&& ~~~ BitVec.ofNat 16 b).toNat
theorem andn_lt (a b : Nat) : andn a b < 65536 := (BitVec.ofNat 16 a &&& ~~~ BitVec.ofNat 16 b).isLt
theorem andn_eq (a b : Nat) : bits .andNot .u16 (a : Int) (b : Int) = ((andn a b : Nat) : Int) := by
  have h := andn_lt a b
  have e : bits .andNot .u16 (a : Int) (b : Int) = IntKind.u16.wrap ((andn a b : Nat) : Int) := by
    simp only [bits, BitVec.ofInt_natCast]
    rfl
  rw [e]
  simp [IntKind.wrap, IntKind.bits, IntKind.signed]
  omega
theorem bitF_andn (a b i : Nat) : bitF (andn a b) i = (bitF a i && !bitF b i) := by
  have hi : i % 16 < 16 := Nat.mod_lt _ (by decide)
  rw [bitF_test, bitF_test, bitF_test]
  unfold andn
  rw [BitVec.testBit_toNat, BitVec.getLsbD_and, BitVec.getLsbD_not, BitVec.getLsbD_ofNat, BitVec.getLsbD_ofNat]
  simp [hi]
theorem nm_inj {fs : List Fd} (hn : (fs.map (·.nm)).Nodup) {i j : Nat} (hi : i < fs.length) (hj : j < fs.length) (e : (fs.getD i Fd0).nm = (fs.getD j Fd0).nm) : i = j := by
  have hp := List.pairwise_iff_getElem.1 (List.nodup_iff_pairwise_ne.1 hn)
  rw [List.getD_eq_getElem?_getD, List.getElem?_eq_getElem hi, List.getD_eq_getElem?_getD, List.getElem?_eq_getElem hj] at e
  have e' : fs[i].nm = fs[j].nm := e
  rcases Nat.lt_trichotomy i j with h | h | h
  · exact absurd (by rw [List.getElem_map, List.getElem_map]; exact e') (hp i j (by simpa using hi) (by simpa using hj) h)
  · exact h
  · exact absurd (by rw [List.getElem_map, List.getElem_map]; exact e'.symm) (hp j i (by simpa using hj) (by simpa using hi) h)
theorem nm_mem {fs : List Fd} (hn : (fs.map (·.nm)).Nodup) {b j : Nat} (hj : j < fs.length) : (fs.getD j Fd0).nm ∈ nmK fs b fs.length ↔ bitF b j = true := by
  unfold nmK
  rw [List.mem_map]
  constructor
  · rintro ⟨i, hi, e⟩
    rw [List.mem_filter, List.mem_range] at hi
    rw [← nm_inj hn hi.1 hj e]
    exact hi.2
  · exact fun h => ⟨j, List.mem_filter.2 ⟨List.mem_range.2 hj, h⟩, rfl⟩
theorem doc_at {fs : List Fd} {x : It} (hx : x ∈ docF fs) : ∃ j, j < fs.length ∧ x.nm = (fs.getD j Fd0).nm := by
  obtain ⟨f, hf, rfl⟩ := List.mem_map.1 ((docF_perm fs).mem_iff.1 hx)
  obtain ⟨j, hj, rfl⟩ := List.getElem_of_mem hf
  exact ⟨j, hj, by rw [List.getD_eq_getElem?_getD, List.getElem?_eq_getElem hj]; rfl⟩
theorem doc_names (fs : List Fd) (ss : List (List UInt8)) : (((docF fs).map (keepF ss)).map (·.nm)).Perm (fs.map (·.nm)) := by
  have e : ((docF fs).map (keepF ss)).map (·.nm) = (docF fs).map (·.nm) := by
    rw [List.map_map]
    exact List.map_congr_left fun x _ => keepF_nm ss x
  rw [e]
  have := (docF_perm fs).map (·.nm)
  rw [List.map_map] at this
  exact this
theorem closeF_bits {fs : List Fd} (hd : DocOk fs) (b s : Nat) : closeF ((docF fs).map (keepF (nmK fs b fs.length))) (nmK fs s fs.length) = ((docF fs).map (keepF (nmK fs (andn b s) fs.length)), 0) := by
  unfold closeF
  rw [if_pos]
  · rw [List.map_map]
    refine congrArg (·, (0 : Int)) (List.map_congr_left fun x hx => ?_)
    show shutF _ (keepF _ x) = keepF _ x
    obtain ⟨j, hj, e⟩ := doc_at hx
    have h1 := nm_mem hd.names (b := b) hj
    have h2 := nm_mem hd.names (b := s) hj
    have h3 := nm_mem hd.names (b := andn b s) hj
    rw [bitF_andn] at h3
    rw [← e] at h1 h2 h3
    unfold shutF
    rw [keepF_nm]
    unfold keepF
    by_cases hb : bitF b j = true <;> by_cases hs : bitF s j = true <;> simp only [h1, h2, h3, hb, hs] <;> simp [cloF_clo]
  · rw [List.all_eq_true]
    intro t ht
    exact decide_eq_true ((doc_names fs _).mem_iff.2 (nmK_sub (Nat.le_refl _) t ht))
theorem closeF_none {fs : List Fd} (hd : DocOk fs) (ss : List (List UInt8)) : closeF ((docF fs).map (keepF ss)) [noName] = ([], 4) := by
  unfold closeF
  rw [if_neg]
  intro h
  rw [List.all_eq_true] at h
  have := of_decide_eq_true (h noName (by simp))
  exact noName_not hd ((doc_names fs ss).mem_iff.1 this)
end Go.Proofs.YtjedhndhdkiidaaDoor
