/- The law's valid fields are a document. -/
import Derived.Test.YtjedhndhdkiidaaDoorV24
namespace Go.Proofs.YtjedhndhdkiidaaDoor
open Go.RowKit
theorem chkG_ok {fs : List Fd} : ∀ n k, (∀ j, k ≤ j → j < k + n → chkOne (fs.take j) (fs.getD j Fd0) = 0) → chkG fs k n = 0
  | 0, _, _ => rfl
  | n + 1, k, h => by
    rw [chkG, if_pos (h k (by omega) (by omega))]
    exact chkG_ok n (k + 1) fun j h1 h2 => h j (by omega) (by omega)
/-- A document passes the check. -/
theorem chk_of_ok {fs : List Fd} (h : DocOk fs) : chkF fs = 0 := by
  have h0 := h.pos
  have h1 := h.le
  unfold chkF
  rw [if_neg (by omega), if_neg (by omega)]
  refine chkG_ok _ _ fun j _ hj => ?_
  have hj' : j < fs.length := by omega
  have e : fs.getD j Fd0 = fs[j] := by rw [List.getD_eq_getElem?_getD, List.getElem?_eq_getElem hj']; rfl
  have hf := h.each fs[j] (List.getElem_mem hj')
  unfold chkOne
  rw [e, if_neg (by rw [hf.1]; decide), if_neg (by omega), if_neg (by rw [hf.2.2]; decide), if_neg]
  intro ha
  obtain ⟨o, ho, hoe⟩ := List.any_eq_true.1 ha
  obtain ⟨i, hi, hie⟩ := List.mem_take_iff_getElem.1 ho
  have hnd := h.names
  rw [List.nodup_iff_pairwise_ne, List.pairwise_map, List.pairwise_iff_getElem] at hnd
  exact hnd i j (by omega) hj' (by omega) (by rw [hie]; simpa using hoe)
theorem noName_not {fs : List Fd} (h : DocOk fs) : noName ∉ fs.map (·.nm) := fun hm => by
  obtain ⟨f, hf, e⟩ := List.mem_map.1 hm
  have := (h.each f hf).1
  rw [e] at this
  revert this
  decide
theorem okN_name : ∀ i, i < 12 → okN (nameF i) = true := by decide
theorem name_inj : ∀ i, i < 12 → ∀ j, j < 12 → nameF i = nameF j → i = j := by decide
theorem fsF_len (rs : List Rw) (k : Nat) : (fsF rs k).length = k := by unfold fsF; simp
theorem vf_ok (rs : List Rw) : DocOk (vfF rs) := by
  have hl := vrF_len rs
  have hp := vrF_pl rs
  unfold vfF
  refine ⟨by rw [fsF_len]; omega, by rw [fsF_len]; omega, fun f hf => ?_, ?_⟩
  · unfold fsF at hf
    obtain ⟨i, hi, rfl⟩ := List.mem_map.1 hf
    have hi' := List.mem_range.1 hi
    unfold fdOf
    rw [if_pos (hp i hi')]
    exact ⟨okN_name i (by omega), by show (((vrF rs).getD i Rw0).vl.take 100).length ≤ 4000; rw [List.length_take]; omega, saltF_len _ _⟩
  · unfold fsF
    rw [List.map_map, List.nodup_iff_pairwise_ne, List.pairwise_map, List.pairwise_iff_getElem]
    intro i j hi hj hij he
    rw [List.length_range] at hi hj
    rw [List.getElem_range, List.getElem_range] at he
    have hn : ∀ i, i < (vrF rs).length → (((·.nm) : Fd → List UInt8) ∘ fun i => fdOf i ((vrF rs).getD i Rw0)) i = nameF i := fun i hi => by
      show (fdOf i ((vrF rs).getD i Rw0)).nm = nameF i
      unfold fdOf
      rw [if_pos (hp i hi)]
    rw [hn i hi, hn j hj] at he
    have := name_inj i (by omega) j (by omega) he
    omega
theorem vf_chk (rs : List Rw) : chkF (vfF rs) = 0 := chk_of_ok (vf_ok rs)
theorem nmK_sub {fs : List Fd} {b k : Nat} (hk : k ≤ fs.length) : ∀ s ∈ nmK fs b k, s ∈ fs.map (·.nm) := fun s hs => by
  unfold nmK at hs
  obtain ⟨i, hi, rfl⟩ := List.mem_map.1 hs
  have h1 := List.mem_range.1 (List.mem_filter.1 hi).1
  exact List.mem_map.2 ⟨fs.getD i Fd0, mem_getD (by omega), rfl⟩
/-- What Disclose gives of a document at names of it. -/
theorem discF_ok {fs : List Fd} (h : DocOk fs) {ss : List (List UInt8)} (hs : ∀ s ∈ ss, s ∈ fs.map (·.nm)) : discF fs ss = ((docF fs).map (keepF ss), 0) := by
  unfold discF
  rw [if_neg (by rw [chk_of_ok h]; decide), if_pos]
  rw [List.all_eq_true]
  intro s hm
  have h1 : ((docF fs).map (·.nm)).Perm (fs.map (·.nm)) := by
    have := (docF_perm fs).map (·.nm)
    rw [List.map_map] at this
    exact this
  exact decide_eq_true (h1.mem_iff.2 (hs s hm))
end Go.Proofs.YtjedhndhdkiidaaDoor
