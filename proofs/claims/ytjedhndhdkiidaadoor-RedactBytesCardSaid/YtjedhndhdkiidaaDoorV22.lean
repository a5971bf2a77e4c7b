/- The reference's sorting is the document's; what shows compares. -/
import Derived.Test.YtjedhndhdkiidaaDoorV21
namespace Go.Proofs.YtjedhndhdkiidaaDoor
open Go.RowKit
/-- Fields, not descending. -/
def Sd (l : List Fd) : Prop := l.Pairwise fun a b => ¬ b.nm < a.nm
theorem posF_above (f : Fd) (l : List Fd) : ∀ i j, posF f l i ≤ j → j < i → f.nm < (l.getD j Fd0).nm
  | 0, j, _, h => by omega
  | i + 1, j, h1, h2 => by
    unfold posF at h1
    split at h1
    · rename_i h3
      by_cases h4 : j = i
      · subst h4; exact h3
      · exact posF_above f l i j h1 (by omega)
    · omega
theorem posF_at (f : Fd) (l : List Fd) : ∀ i, 0 < posF f l i → ¬ f.nm < (l.getD (posF f l i - 1) Fd0).nm
  | 0, h => by unfold posF at h; omega
  | i + 1, h => by
    unfold posF at h ⊢
    split
    · rename_i h3
      rw [if_pos h3] at h
      exact posF_at f l i h
    · rename_i h3
      exact h3
theorem stepS_sd {l : List Fd} (h : Sd l) (f : Fd) : Sd (stepS l f) := by
  obtain ⟨p, hp⟩ : ∃ p, posF f l l.length = p := ⟨_, rfl⟩
  have hpl : p ≤ l.length := by rw [← hp]; exact posF_le f l l.length
  have habove := posF_above f l l.length
  have hat := posF_at f l l.length
  unfold stepS
  rw [hp] at habove hat ⊢
  have hl : Sd (l.take p ++ l.drop p) := by rw [List.take_append_drop]; exact h
  have hl2 := List.pairwise_append.1 hl
  refine List.pairwise_append.2 ⟨hl2.1, List.pairwise_cons.2 ⟨fun y hy => ?_, hl2.2.1⟩, fun a ha b hb => ?_⟩
  · obtain ⟨j, hj, e⟩ := List.getElem_of_mem hy
    rw [List.length_drop] at hj
    have h1 := habove (p + j) (by omega) (by omega)
    rw [List.getElem_drop] at e
    rw [List.getD_eq_getElem?_getD, List.getElem?_eq_getElem (by omega)] at h1
    have h2 : f.nm < y.nm := by rw [← e]; exact h1
    exact slt_asymm h2
  · rcases List.mem_cons.1 hb with rfl | hb
    · intro hlt
      obtain ⟨j, hj, e⟩ := List.getElem_of_mem ha
      rw [List.length_take] at hj
      have h1 := hat (by omega)
      rw [List.getD_eq_getElem?_getD, List.getElem?_eq_getElem (by omega)] at h1
      have h1' : ¬ b.nm < (l[p - 1]'(by omega)).nm := h1
      rw [List.getElem_take] at e
      by_cases hjp : j = p - 1
      · subst hjp
        rw [e] at h1'
        exact h1' hlt
      · have h3 : ¬ (l[p - 1]'(by omega)).nm < (l[j]'(by omega)).nm := (List.pairwise_iff_getElem.1 h) j (p - 1) (by omega) (by omega) (by omega)
        rw [e] at h3
        rcases slt_tri a.nm (l[p - 1]'(by omega)).nm with h4 | h4 | h4
        · exact h1' (slt_trans hlt h4)
        · rw [← h4] at h1'; exact h1' hlt
        · exact h3 h4
    · exact hl2.2.2 a ha b hb
theorem srtF_sd (fs : List Fd) : Sd (srtF fs) := by
  unfold srtF
  have h : ∀ (l acc : List Fd), Sd acc → Sd (l.foldl stepS acc) := by
    intro l
    induction l with
    | nil => intro acc h; exact h
    | cons f l ih => intro acc h; exact ih _ (stepS_sd h f)
  exact h fs [] List.Pairwise.nil
/-- The reference's sorted fields are the document's items. -/
theorem srtF_doc {fs : List Fd} (hn : (fs.map (·.nm)).Nodup) : (srtF fs).map itOf = docF fs := by
  refine doc_unique hn ((srtF_perm fs).map itOf) ?_
  unfold Nd
  rw [List.pairwise_map]
  exact srtF_sd fs
theorem comF_clo (x : It) : comF (cloF x) = comF x := by
  show (if (cloF x).op = true then _ else (cloF x).cm) = comF x
  rw [if_neg (fun h => by cases h)]
  unfold cloF
  with_reducible rfl
theorem nodF_clo (x : It) : nodF (cloF x) = nodF x := by
  unfold nodF
  rw [comF_clo, show (cloF x).nm = x.nm by unfold cloF; with_reducible rfl]
theorem nodF_keep (ss : List (List UInt8)) (x : It) : nodF (keepF ss x) = nodF x := by
  unfold keepF
  by_cases h : x.nm ∈ ss
  · rw [if_pos h]
  · rw [if_neg h, nodF_clo]
theorem rootF_keep (ss : List (List UInt8)) (xs : List It) : rootF (xs.map (keepF ss)) = rootF xs := by
  unfold rootF
  rw [List.map_map, show List.map (nodF ∘ keepF ss) xs = List.map nodF xs from List.map_congr_left fun x _ => nodF_keep ss x]
theorem keepF_nm (ss : List (List UInt8)) (x : It) : (keepF ss x).nm = x.nm := by unfold keepF; split <;> rfl
theorem keepF_ok {ss : List (List UInt8)} {x : It} (h : ItOk x) : ItOk (keepF ss x) := by unfold keepF; split; exact h; exact cloF_ok h
theorem keep_asc {xs : List It} (h : Asc xs) (ss : List (List UInt8)) : Asc (xs.map (keepF ss)) := by
  unfold Asc at h ⊢
  rw [List.pairwise_map]
  exact h.imp fun {a b} hab => by rw [keepF_nm, keepF_nm]; exact hab
/-- What a document's disclosure opens. -/
theorem open_keep {fs : List Fd} (hd : DocOk fs) (ss : List (List UInt8)) {f : Fd} (hf : f ∈ fs) : openF ((docF fs).map (keepF ss)) f.nm = if f.nm ∈ ss then (f, 0) else (Fd0, 15) := by
  have hm : itOf f ∈ docF fs := (docF_perm fs).mem_iff.2 (List.mem_map.2 ⟨f, hf, rfl⟩)
  obtain ⟨i, hi, e⟩ := List.getElem_of_mem (List.mem_map.2 ⟨itOf f, hm, rfl⟩ : keepF ss (itOf f) ∈ (docF fs).map (keepF ss))
  have hg : ((docF fs).map (keepF ss)).getD i It0 = keepF ss (itOf f) := by rw [List.getD_eq_getElem?_getD, List.getElem?_eq_getElem hi, e]; rfl
  have hfind := find_at (keep_asc (docF_asc hd.names) ss) hi (s := f.nm) (by rw [hg, keepF_nm]; rfl)
  rw [hg] at hfind
  unfold openF
  rw [hfind]
  unfold keepF
  by_cases h : f.nm ∈ ss
  · rw [if_pos (show (itOf f).nm ∈ ss from h), if_pos h]
    rfl
  · rw [if_neg (show ¬ (itOf f).nm ∈ ss from h), if_neg h]
    rfl
theorem open_none {xs : List It} {s : List UInt8} (h : s ∉ xs.map (·.nm)) : openF xs s = (Fd0, 4) := by
  unfold openF
  rw [find_none_of h]
end Go.Proofs.YtjedhndhdkiidaaDoor
