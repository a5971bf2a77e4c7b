/- Documents, plainly; a row's element that is put. -/
import Derived.Test.YtjedhndhdkiidaaDoorV11
namespace Go.Proofs.YtjedhndhdkiidaaDoor
open Go.RowKit
theorem chkG_zero {fs : List Fd} : ∀ (n k : Nat), chkG fs k n = 0 → ∀ j, k ≤ j → j < k + n → chkOne (fs.take j) (fs.getD j Fd0) = 0
  | 0, k, _, j, h1, h2 => by omega
  | n + 1, k, h, j, h1, h2 => by
    rw [chkG] at h
    split at h
    · rename_i h0
      rcases Nat.eq_or_lt_of_le h1 with e | h3
      · rw [← e]; exact h0
      · exact chkG_zero n (k + 1) h j h3 (by omega)
    · rename_i h0
      exact absurd h h0
theorem chkOne_zero {pre : List Fd} {f : Fd} (h : chkOne pre f = 0) : okN f.nm = true ∧ f.vl.length ≤ 4000 ∧ f.sl.length = 16 ∧ ∀ o ∈ pre, o.nm ≠ f.nm := by
  unfold chkOne at h
  split at h
  · cases h
  · rename_i h1
    split at h
    · cases h
    · rename_i h2
      split at h
      · cases h
      · rename_i h3
        split at h
        · cases h
        · rename_i h4
          refine ⟨by simpa using h1, by omega, by simpa using h3, fun o ho e => h4 (List.any_eq_true.2 ⟨o, ho, by simp [e]⟩)⟩
/-- A document that can be committed to. -/
structure DocOk (fs : List Fd) : Prop where
  pos : 0 < fs.length
  le : fs.length ≤ 64
  each : ∀ f ∈ fs, okN f.nm = true ∧ f.vl.length ≤ 4000 ∧ f.sl.length = 16
  names : (fs.map (·.nm)).Nodup
theorem docOk_of {fs : List Fd} (h : chkF fs = 0) : DocOk fs := by
  unfold chkF at h
  split at h
  · cases h
  · rename_i h0
    split at h
    · cases h
    · rename_i h1
      have hz := chkG_zero _ _ h
      refine ⟨by omega, by omega, fun f hf => ?_, ?_⟩
      · obtain ⟨j, hj, he⟩ := List.getElem_of_mem hf
        have := chkOne_zero (hz j (by omega) (by omega))
        rw [List.getD_eq_getElem?_getD, List.getElem?_eq_getElem hj] at this
        simp only [Option.getD_some, he] at this
        exact ⟨this.1, this.2.1, this.2.2.1⟩
      · rw [List.nodup_iff_pairwise_ne, List.pairwise_map, List.pairwise_iff_getElem]
        intro i j hi hj hij
        have := (chkOne_zero (hz j (by omega) (by omega))).2.2.2
        rw [List.getD_eq_getElem?_getD, List.getElem?_eq_getElem hj] at this
        exact this fs[i] (List.mem_take_iff_getElem.2 ⟨i, by omega, rfl⟩)
theorem okN_len {s : List UInt8} (h : okN s = true) : 1 ≤ s.length ∧ s.length ≤ 32 := by
  unfold okN at h
  simp at h
  omega
/-! ### A document's items, in the order of their names -/
def insI (x : It) : List It → List It
  | [] => [x]
  | y :: l => if y.nm < x.nm then y :: insI x l else x :: y :: l
/-- A document's items, in the order of their names. -/
def docF (fs : List Fd) : List It := (fs.map itOf).foldr insI []
theorem insI_perm (x : It) : ∀ l, (insI x l).Perm (x :: l)
  | [] => List.Perm.refl _
  | y :: l => by
    unfold insI
    split
    · exact ((insI_perm x l).cons y).trans (List.Perm.swap x y l)
    · exact List.Perm.refl _
theorem foldr_perm : ∀ l : List It, (l.foldr insI []).Perm l
  | [] => List.Perm.refl _
  | x :: l => (insI_perm x _).trans ((foldr_perm l).cons x)
theorem docF_perm (fs : List Fd) : (docF fs).Perm (fs.map itOf) := foldr_perm _
/-- Not descending. -/
def Nd (l : List It) : Prop := l.Pairwise fun a b => ¬ b.nm < a.nm
theorem insI_nd (x : It) : ∀ {l : List It}, Nd l → Nd (insI x l)
  | [], _ => List.pairwise_singleton _ _
  | y :: l, h => by
    obtain ⟨h1, h2⟩ := List.pairwise_cons.1 h
    unfold insI
    split
    · rename_i hyx
      refine List.pairwise_cons.2 ⟨fun z hz => ?_, insI_nd x h2⟩
      rcases List.mem_cons.1 ((insI_perm x l).mem_iff.1 hz) with rfl | h3
      · exact slt_asymm hyx
      · exact h1 z h3
    · rename_i hyx
      refine List.pairwise_cons.2 ⟨fun z hz => ?_, h⟩
      rcases List.mem_cons.1 hz with rfl | h3
      · exact hyx
      · intro hzx
        rcases slt_tri x.nm y.nm with h4 | h4 | h4
        · exact h1 z h3 (slt_trans hzx h4)
        · exact h1 z h3 (h4 ▸ hzx)
        · exact hyx h4
theorem docF_nd (fs : List Fd) : Nd (docF fs) := by
  unfold docF
  induction fs.map itOf with
  | nil => exact List.Pairwise.nil
  | cons x l ih => exact insI_nd x ih
theorem asc_of_nd {l : List It} (h : Nd l) (hn : (l.map (·.nm)).Nodup) : Asc l := by
  rw [List.nodup_iff_pairwise_ne, List.pairwise_map] at hn
  exact (h.and hn).imp fun {a b} hab => by
    rcases slt_tri a.nm b.nm with h1 | h1 | h1
    · exact h1
    · exact absurd h1 hab.2
    · exact absurd h1 hab.1
theorem asc_unique : ∀ {l m : List It}, Asc l → Asc m → l.Perm m → l = m
  | [], m, _, _, h => (List.nil_perm.1 h).symm
  | x :: l, [], _, _, h => (List.perm_nil.1 h)
  | x :: l, y :: m, h1, h2, h => by
    obtain ⟨a1, a2⟩ := List.pairwise_cons.1 h1
    obtain ⟨b1, b2⟩ := List.pairwise_cons.1 h2
    have hx : x ∈ y :: m := h.mem_iff.1 (List.mem_cons_self)
    have hy : y ∈ x :: l := h.mem_iff.2 (List.mem_cons_self)
    have e : x = y := by
      rcases List.mem_cons.1 hx with e | h3
      · exact e
      · rcases List.mem_cons.1 hy with e | h4
        · exact e.symm
        · exact absurd (slt_trans (a1 y h4) (b1 x h3)) (slt_irrefl _)
    subst e
    rw [asc_unique a2 b2 (List.perm_cons _ |>.1 h)]
theorem nodup_of_perm {l : List It} {fs : List Fd} (h : l.Perm (fs.map itOf)) (hn : (fs.map (·.nm)).Nodup) : (l.map (·.nm)).Nodup := by
  have h1 := h.map (·.nm)
  rw [List.map_map] at h1
  exact h1.nodup_iff.2 hn
theorem docF_asc {fs : List Fd} (hn : (fs.map (·.nm)).Nodup) : Asc (docF fs) := asc_of_nd (docF_nd fs) (nodup_of_perm (docF_perm fs) hn)
theorem doc_unique {fs : List Fd} {l : List It} (hn : (fs.map (·.nm)).Nodup) (h1 : l.Perm (fs.map itOf)) (h2 : Nd l) : l = docF fs :=
  asc_unique (asc_of_nd h2 (nodup_of_perm h1 hn)) (docF_asc hn) (h1.trans (docF_perm fs).symm)
theorem docF_ok {fs : List Fd} (h : DocOk fs) : ∀ x ∈ docF fs, ItOk x := fun x hx => by
  obtain ⟨f, hf, rfl⟩ := List.mem_map.1 ((docF_perm fs).mem_iff.1 hx)
  have := h.each f hf
  exact ⟨fun _ => ⟨this.2.2, by show f.vl.length ≤ 100000; omega⟩, fun e => by cases e⟩
theorem docF_nm {fs : List Fd} (h : DocOk fs) : ∀ x ∈ docF fs, x.nm.length ≤ 1000 := fun x hx => by
  obtain ⟨f, hf, rfl⟩ := List.mem_map.1 ((docF_perm fs).mem_iff.1 hx)
  have := okN_len (h.each f hf).1
  show f.nm.length ≤ 1000
  omega
theorem docF_len (fs : List Fd) : (docF fs).length = fs.length := by rw [(docF_perm fs).length_eq, List.length_map]
/-! ### Items in a row -/
theorem DsAt.of_row {w : World} {B : Nat} {v : Value} {ps : List PI} (h : Row 51 w B 75 v (ps.map encI)) (hp : PsAt w B ps) : DsAt w v (ps.map (·.1)) := by
  refine ⟨ps.map encI, h.sl, by simp, fun j hj => ?_⟩
  rw [List.length_map] at hj
  have e1 : (ps.map encI).getD j [] = encI ps[j] := by rw [List.getD_eq_getElem?_getD, List.getElem?_map, List.getElem?_eq_getElem hj]; rfl
  have e2 : (ps.map (·.1)).getD j It0 = ps[j].1 := by rw [List.getD_eq_getElem?_getD, List.getElem?_map, List.getElem?_eq_getElem hj]; rfl
  rw [e1, e2]
  exact ⟨_, rfl, (hp _ (List.getElem_mem hj)).sl⟩
end Go.Proofs.YtjedhndhdkiidaaDoor
