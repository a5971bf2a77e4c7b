/- The walk over Minimal: its parts. -/
import Derived.Test.YtdcbejccplonjaaDoorB14
namespace Go.Proofs.YtdcbejccplonjaaDoor
open Go.RowKit
attribute [local go_sem ↓] Go.wp_at_zero Go.wp_at_succ
theorem hit_all {p : List Nat} (h0 : 0 ∉ p) : Hit (orAll p) p := fun s hs => by
  obtain ⟨x, hx⟩ := ne_zero_bit.1 (fun e => h0 (e ▸ hs) : s ≠ 0)
  exact ⟨x, (orAll_bit _ _).2 ⟨s, hs, hx⟩, hx⟩
theorem small64 {p : List Nat} {most : Nat} (hp : PartOk p) (h0 : 0 ∉ p) : smallF p most ≤ 64 := by
  obtain ⟨G, _, hG⟩ := min_below _ _ (orAll_lt hp.u64) rfl (hit_all h0)
  have h1 := small_le (most := most) hp.len hp.u64 hp.ne hG
  have h2 := hG.card_le_sets
  have h3 := hp.len
  omega
/-- What goes with one found set. -/
def innF (most rest a : Nat) (sf : List Nat) : List Nat := (sf.filter fun b => decide (card (a ||| b) + rest ≤ most)).map fun b => a ||| b
theorem cross_flat (most rest : Nat) (fd sf : List Nat) : crossF most rest fd sf = fd.flatMap fun a => innF most rest a sf := rfl
def crossTo (most rest : Nat) (fd sf : List Nat) (j k : Nat) : List Nat := crossF most rest (fd.take j) sf ++ innF most rest (fd.getD j 0) (sf.take k)
theorem crossTo_zero (most rest : Nat) (fd sf : List Nat) (j : Nat) : crossTo most rest fd sf j 0 = crossF most rest (fd.take j) sf := by simp [crossTo, innF]
theorem crossTo_succ (most rest : Nat) (fd sf : List Nat) (j : Nat) {k : Nat} (hk : k < sf.length) : crossTo most rest fd sf j (k + 1) = crossTo most rest fd sf j k ++ (if card (fd.getD j 0 ||| sf.getD k 0) + rest ≤ most then [fd.getD j 0 ||| sf.getD k 0] else []) := by
  unfold crossTo innF
  rw [filter_snoc _ hk, List.map_append, List.append_assoc, List.getD_eq_getElem?_getD (l := sf), List.getElem?_eq_getElem hk]
  congr 2
  simp only [Option.getD_some, decide_eq_true_eq]
  split <;> rfl
theorem crossTo_end (most rest : Nat) (fd sf : List Nat) {j : Nat} (hj : j < fd.length) : crossTo most rest fd sf j sf.length = crossF most rest (fd.take (j + 1)) sf := by
  unfold crossTo
  rw [List.take_length, cross_flat, cross_flat, take_snoc hj, List.flatMap_append, List.getD_eq_getElem?_getD, List.getElem?_eq_getElem hj]
  simp
theorem innF_len (most rest a : Nat) (sf : List Nat) (k : Nat) : (innF most rest a (sf.take k)).length ≤ (innF most rest a sf).length := by
  unfold innF
  rw [List.length_map, List.length_map]
  exact ((List.take_sublist k sf).filter _).length_le
theorem crossTo_len (most rest : Nat) (fd sf : List Nat) {j : Nat} (hj : j < fd.length) (k : Nat) : (crossTo most rest fd sf j k).length ≤ (crossF most rest fd sf).length := by
  have h1 : crossF most rest fd sf = crossF most rest (fd.take (j + 1)) sf ++ crossF most rest (fd.drop (j + 1)) sf := by
    rw [cross_flat, cross_flat, cross_flat, ← List.flatMap_append, List.take_append_drop]
  rw [h1, ← crossTo_end most rest fd sf hj, List.length_append]
  unfold crossTo
  rw [List.length_append, List.length_append, List.take_length]
  have := innF_len most rest (fd.getD j 0) sf k
  omega
theorem cross_u64 {most rest : Nat} {fd sf : List Nat} (h1 : U64 fd) (h2 : U64 sf) : U64 (crossF most rest fd sf) := fun s hs => by
  obtain ⟨a, ha, b, hb, _, rfl⟩ := mem_cross.1 hs
  exact orL (h1 a ha) (h2 b hb)
theorem search_u64 {p : List Nat} {most limit : Nat} (hp : PartOk p) : U64 (searchF p most limit) := fun s hs => by
  obtain ⟨l, e, _, h, _⟩ := (search_adds most limit hp.len hp.u64).new
  rw [List.nil_append] at e
  exact (h s (e ▸ hs)).1.lt hp.u64
/-- The numbers and the answers of Minimal. -/
def minRes (ls : List (List Int)) (most : Int) : List (List Int) × Int := match readF ls with
  | none => ([], 1)
  | some ms => if most < 0 then ([], 1) else match minF ms most.toNat with
    | none => ([], 3)
    | some r => (lsF r, 0)
theorem minRes_none {ls : List (List Int)} {most : Int} (h : readF ls = none) : minRes ls most = ([], 1) := by unfold minRes; rw [h]
theorem minRes_neg {ls : List (List Int)} {ms : List Nat} {most : Int} (h : readF ls = some ms) (hm : most < 0) : minRes ls most = ([], 1) := by
  unfold minRes
  rw [h]
  exact if_pos hm
def minP (o : Option (List Nat)) : List (List Int) × Int := match o with
  | none => ([], 3)
  | some r => (lsF r, 0)
theorem minRes_pos {ls : List (List Int)} {ms : List Nat} (m : Nat) (h : readF ls = some ms) : minRes ls (m : Int) = minP (minF ms m) := by
  unfold minRes
  rw [h]
  exact if_neg (by omega)
def RetL (r : List (List Int) × Int) (w : World) (e : Ending) (w' : World) : Prop := ∃ v, e = .returned (.tuple #[v, .int .i64 r.2]) ∧ Rs w' v r.1 ∧ Ext w w'
theorem Rs.nil (w : World) : Rs w (.slice none 0 0) [] := ⟨[], SlAt.nil w, rfl, fun j hj => by simp at hj⟩
theorem readF_facts {ls : List (List Int)} {ms : List Nat} (h : readF ls = some ms) : ms = ls.map maskI ∧ Fam ls ∧ ms.length ≤ 64 ∧ U64 ms := by
  unfold readF at h
  split at h
  · cases h
  · split at h
    · rename_i h1 h2
      cases h
      have hf : Fam ls := List.all_eq_true.1 h2
      exact ⟨rfl, hf, by rw [List.length_map]; omega, fam_u64 hf⟩
    · cases h
theorem need_snoc (most : Nat) (ps : List (List Nat)) {k : Nat} (h : k < ps.length) : needF most (ps.take (k + 1)) = needF most (ps.take k) + smallF (ps.getD k []) most := by
  unfold needF
  rw [take_snoc h, List.map_append, List.sum_append, List.getD_eq_getElem?_getD, List.getElem?_eq_getElem h]
  simp
theorem need_drop (most : Nat) (ps : List (List Nat)) {k : Nat} (h : k < ps.length) : needF most (ps.drop k) = smallF (ps.getD k []) most + needF most (ps.drop (k + 1)) := by
  rw [List.drop_eq_getElem_cons h, need_cons, List.getD_eq_getElem?_getD, List.getElem?_eq_getElem h]
  rfl
theorem need_split (most : Nat) (ps : List (List Nat)) (k : Nat) : needF most ps = needF most (ps.take k) + needF most (ps.drop k) := by
  unfold needF
  rw [← List.sum_append, ← List.map_append, List.take_append_drop]
/-- The numbers of the parts are small. -/
theorem need_le64 {most : Nat} : ∀ {ps : List (List Nat)}, (∀ p ∈ ps, smallF p most ≤ 64) → needF most ps ≤ 64 * ps.length
  | [], _ => by simp [needF]
  | p :: ps, h => by
    have h1 := need_le64 (most := most) (ps := ps) fun q hq => h q (by simp [hq])
    have h2 := h p (by simp)
    rw [need_cons, List.length_cons]
    omega
theorem comb_step (most need : Nat) (ps : List (List Nat)) {k : Nat} (h : k < ps.length) (rest : Nat) (fd : List Nat) : combF most need (ps.drop k) rest fd =
    if 4096 < (crossF most (rest - smallF (ps.getD k []) most) fd (searchF (ps.getD k []) (most - need + smallF (ps.getD k []) most) 4096)).length then none
    else combF most need (ps.drop (k + 1)) (rest - smallF (ps.getD k []) most) (crossF most (rest - smallF (ps.getD k []) most) fd (searchF (ps.getD k []) (most - need + smallF (ps.getD k []) most) 4096)) := by
  rw [List.drop_eq_getElem_cons h, combF, List.getD_eq_getElem?_getD, List.getElem?_eq_getElem h]
  rfl
/-- The second half of Minimal's contract: the parts as they lie, and the loops. -/
structure PsAt (w w' : World) (v : Value) (ps : List PT) : Prop where
  row : Row w' w.heap.size 48 v (ps.map (·.1))
  is : ∀ p ∈ ps, Us w' p.1 p.2.1
theorem PsAt.read {w w' : World} {v : Value} {ps : List PT} (h : PsAt w w' v ps) : ∃ A c, v = .slice A ps.length c ∧ ps.length ≤ c ∧ ∀ W, Ext w' W → ∀ j (hj : j < ps.length), ∃ ad : Addr, A = some ad ∧ W.cell? (ad.add j) = some ps[j].1 ∧ Us W ps[j].1 ps[j].2.1 := by
  obtain ⟨A, c, rfl, h2, _, h4⟩ := h.row.sl.at_
  rw [List.length_map] at h2
  refine ⟨A, c, by rw [List.length_map], h2, fun W hW j hj => ?_⟩
  obtain ⟨ad, e, _, hc⟩ := h4 (by rw [List.length_map]; omega)
  exact ⟨ad, e, hW.cell (hc j _ (by rw [List.getElem?_map, List.getElem?_eq_getElem hj]; rfl)), (h.is _ (List.getElem_mem hj)).ext hW⟩
end Go.Proofs.YtdcbejccplonjaaDoor
