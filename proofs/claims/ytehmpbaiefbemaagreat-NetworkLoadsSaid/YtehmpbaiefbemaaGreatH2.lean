/- The choices that the laws make out of any numbers, plainly. -/
import Derived.Test.YtehmpbaiefbemaaGreatN2
namespace Go.Proofs.YtehmpbaiefbemaaGreat
/-- A choice as it comes in. -/
structure Raw where
  kd : Nat
  a : Int
  b : Int
  n : Int
  tick : Int
  d : Int
  args : Value
def encR (r : Raw) : List Value := [kV r.kd, iV r.a, iV r.b, iV r.n, iV r.tick, iV r.d, r.args]
def kindF (r : Raw) : Nat := (1 + modF (r.kd : Int) 9).toNat
def pairK (k : Nat) : Bool := k == 1 || k == 5 || (k == 6 || k == 7)
def keyF (r : Raw) : Ky := (kindF r, modF r.a 3, if pairK (kindF r) then modF r.b 3 else 0, modF r.n 4)
def dF (r : Raw) : Int := if kindF r = 6 ∨ kindF r = 7 then 1 + modF r.d 5 else if kindF r = 9 ∨ kindF r = 3 then 1 + modF r.d 3 else 0
def chF (r : Raw) : Ch := (keyF r, dF r)
theorem kindF_int (r : Raw) : ((kindF r : Nat) : Int) = 1 + modF (r.kd : Int) 9 := by
  have := modF_range (a := (r.kd : Int)) (n := 9) (by omega)
  unfold kindF
  omega
theorem kindF_range (r : Raw) : 1 ≤ kindF r ∧ kindF r ≤ 9 := by
  have h1 := modF_range (a := (r.kd : Int)) (n := 9) (by omega)
  have := kindF_int r
  omega
theorem chF_ok (r : Raw) : OkC (chF r) := by
  have h1 := kindF_range r
  have h2 := modF_range (a := r.a) (n := 3) (by omega)
  have h3 := modF_range (a := r.b) (n := 3) (by omega)
  have h4 := modF_range (a := r.n) (n := 4) (by omega)
  have h5 := modF_range (a := r.d) (n := 5) (by omega)
  have h6 := modF_range (a := r.d) (n := 3) (by omega)
  refine ⟨⟨h1, ⟨h2.1, by show modF r.a 3 ≤ 2; omega⟩, ?_, ?_, ⟨h4.1, by show modF r.n 4 ≤ 65535; omega⟩⟩, ?_, ?_, ?_⟩
  · show 0 ≤ (if pairK (kindF r) then modF r.b 3 else 0) ∧ (if pairK (kindF r) then modF r.b 3 else 0) ≤ 2
    split <;> omega
  · intro e1 e2 e3 e4
    show (if pairK (kindF r) then modF r.b 3 else 0) = 0
    rw [if_neg]
    change kindF r ≠ 1 at e1
    change kindF r ≠ 5 at e2
    change kindF r ≠ 6 at e3
    change kindF r ≠ 7 at e4
    simp [pairK, e1, e2, e3, e4]
  · intro h
    change kindF r = 6 ∨ kindF r = 7 at h
    show 1 ≤ dF r ∧ dF r ≤ 5
    unfold dF
    rw [if_pos h]
    omega
  · intro h
    change kindF r = 9 ∨ kindF r = 3 at h
    show 1 ≤ dF r ∧ dF r ≤ 3
    unfold dF
    rw [if_neg (by omega), if_pos h]
    omega
  · intro e1 e2 e3 e4
    change kindF r ≠ 6 at e1
    change kindF r ≠ 7 at e2
    change kindF r ≠ 9 at e3
    change kindF r ≠ 3 at e4
    show dF r = 0
    unfold dF
    rw [if_neg (by omega), if_neg (by omega)]
abbrev Ch0 : Ch := ((0, 0, 0, 0), 0)
/-- Where a key stands in a list. -/
def posC (k : Ky) (l : List Ch) : Nat → Nat
  | 0 => 0
  | i + 1 => if klt k (l.getD i Ch0).1 then posC k l i else i + 1
def insC (l : List Ch) (c : Ch) : List Ch := if 0 < posC c.1 l l.length ∧ (l.getD (posC c.1 l l.length - 1) Ch0).1 = c.1 then l else l.take (posC c.1 l l.length) ++ ([c] ++ l.drop (posC c.1 l l.length))
def chsF (rs : List Raw) : List Ch := (rs.take 12).foldl (fun l r => insC l (chF r)) []
theorem posC_le (k : Ky) (l : List Ch) (i : Nat) : posC k l i ≤ i := by
  induction i with
  | zero => exact Nat.le_refl _
  | succ i ih =>
    rw [posC]
    split
    · omega
    · exact Nat.le_refl _
theorem posC_after {k : Ky} {l : List Ch} : ∀ {i j : Nat}, posC k l i ≤ j → j < i → klt k (l.getD j Ch0).1
  | 0, _, _, h => by omega
  | i + 1, j, h, hj => by
    rw [posC] at h
    split at h
    · rename_i hk
      rcases Nat.lt_or_ge j i with h1 | h1
      · exact posC_after h h1
      · have : j = i := by omega
        rw [this]; exact hk
    · omega
theorem posC_at {k : Ky} {l : List Ch} {i : Nat} (h : 0 < posC k l i) : ¬ klt k (l.getD (posC k l i - 1) Ch0).1 := by
  induction i with
  | zero => simp [posC] at h
  | succ i ih =>
    rw [posC] at h ⊢
    split at h
    · rename_i hk; rw [if_pos hk]; exact ih h
    · rename_i hk; rw [if_neg hk, Nat.add_sub_cancel]; exact hk
def AscC (l : List Ch) : Prop := Asc (l.map (·.1))
theorem ascC_get {l : List Ch} (h : AscC l) {i j : Nat} (hij : i < j) (hj : j < l.length) : klt (l.getD i Ch0).1 (l.getD j Ch0).1 := by
  have := List.pairwise_iff_getElem.1 h i j (by rw [List.length_map]; omega) (by rw [List.length_map]; exact hj) hij
  rw [List.getElem_map, List.getElem_map] at this
  rw [List.getD_eq_getElem?_getD, List.getElem?_eq_getElem (by omega), List.getD_eq_getElem?_getD, List.getElem?_eq_getElem hj]
  exact this
theorem mem_takeC {l : List Ch} {i : Nat} {x : Ch} (h : x ∈ l.take i) : ∃ j, j < i ∧ j < l.length ∧ l.getD j Ch0 = x := by
  obtain ⟨j, hj, e⟩ := List.mem_iff_getElem.1 h
  rw [List.length_take] at hj
  rw [List.getElem_take] at e
  exact ⟨j, by omega, by omega, by rw [List.getD_eq_getElem?_getD, List.getElem?_eq_getElem (by omega)]; exact e⟩
theorem mem_dropC {l : List Ch} {i : Nat} {x : Ch} (h : x ∈ l.drop i) : ∃ j, i ≤ j ∧ j < l.length ∧ l.getD j Ch0 = x := by
  obtain ⟨j, hj, e⟩ := List.mem_iff_getElem.1 h
  rw [List.length_drop] at hj
  rw [List.getElem_drop] at e
  exact ⟨i + j, by omega, by omega, by rw [List.getD_eq_getElem?_getD, List.getElem?_eq_getElem (by omega)]; exact e⟩
theorem insC_asc {l : List Ch} (h : AscC l) (c : Ch) : AscC (insC l c) := by
  unfold insC
  generalize hp : posC c.1 l l.length = p
  have hple : p ≤ l.length := by rw [← hp]; exact posC_le _ _ _
  split
  · exact h
  · rename_i hn
    unfold AscC Asc at *
    rw [List.pairwise_map] at h ⊢
    have lo : ∀ x ∈ l.take p, klt x.1 c.1 := fun x hx => by
      obtain ⟨j, h1, h2, rfl⟩ := mem_takeC hx
      have hat := posC_at (k := c.1) (l := l) (i := l.length) (by rw [hp]; omega)
      rw [hp] at hat
      have hne : (l.getD (p - 1) Ch0).1 ≠ c.1 := fun e => hn ⟨by omega, e⟩
      have last : klt (l.getD (p - 1) Ch0).1 c.1 := by
        rcases klt_total (l.getD (p - 1) Ch0).1 c.1 with h3 | h3 | h3
        · exact h3
        · exact absurd h3 hne
        · exact absurd h3 hat
      rcases Nat.lt_or_ge j (p - 1) with h3 | h3
      · have hh : AscC l := by unfold AscC Asc; rw [List.pairwise_map]; exact h
        exact klt_trans (ascC_get hh h3 (by omega)) last
      · have : j = p - 1 := by omega
        rw [this]; exact last
    have hi : ∀ x ∈ l.drop p, klt c.1 x.1 := fun x hx => by
      obtain ⟨j, h1, h2, rfl⟩ := mem_dropC hx
      exact posC_after (by rw [hp]; exact h1) h2
    rw [List.pairwise_append, List.singleton_append, List.pairwise_cons]
    refine ⟨h.sublist (List.take_sublist _ _), ⟨hi, h.sublist (List.drop_sublist _ _)⟩, fun x hx y hy => ?_⟩
    rcases List.mem_cons.1 hy with rfl | hy
    · exact lo x hx
    · exact klt_trans (lo x hx) (hi y hy)
theorem mem_insC {l : List Ch} {c x : Ch} (h : x ∈ insC l c) : x = c ∨ x ∈ l := by
  unfold insC at h
  split at h
  · exact .inr h
  · rcases List.mem_append.1 h with h | h
    · exact .inr (List.mem_of_mem_take h)
    · rcases List.mem_append.1 h with h | h
      · exact .inl (List.mem_singleton.1 h)
      · exact .inr (List.mem_of_mem_drop h)
theorem insC_len (l : List Ch) (c : Ch) : (insC l c).length ≤ l.length + 1 := by
  unfold insC
  split
  · omega
  · rw [List.length_append, List.length_append, List.length_take, List.length_drop, List.length_singleton]
    have := posC_le c.1 l l.length
    omega
/-- What is known of the choices that a law has made. -/
structure OkL (l : List Ch) : Prop where
  ok : ∀ c ∈ l, OkC c
  asc : AscC l
theorem OkL.nil : OkL [] := ⟨fun c hc => absurd hc (by simp), by simp [AscC, Asc]⟩
theorem OkL.ins {l : List Ch} (h : OkL l) {c : Ch} (hc : OkC c) : OkL (insC l c) := ⟨fun x hx => by
  rcases mem_insC hx with rfl | hx
  · exact hc
  · exact h.ok x hx, insC_asc h.asc c⟩
def chsTo (rs : List Raw) (i : Nat) : List Ch := (rs.take i).foldl (fun l r => insC l (chF r)) []
theorem chsTo_succ (rs : List Raw) {i : Nat} (h : i < rs.length) : chsTo rs (i + 1) = insC (chsTo rs i) (chF rs[i]) := by
  unfold chsTo
  rw [List.take_succ_eq_append_getElem h, List.foldl_append]
  rfl
theorem chsTo_ok (rs : List Raw) (i : Nat) : OkL (chsTo rs i) ∧ (chsTo rs i).length ≤ i := by
  induction i with
  | zero => exact ⟨OkL.nil, by simp [chsTo]⟩
  | succ i ih =>
    rcases Nat.lt_or_ge i rs.length with h | h
    · rw [chsTo_succ rs h]
      exact ⟨ih.1.ins (chF_ok _), Nat.le_trans (insC_len _ _) (by omega)⟩
    · have e : chsTo rs (i + 1) = chsTo rs i := by unfold chsTo; rw [List.take_of_length_le (by omega), List.take_of_length_le h]
      rw [e]
      exact ⟨ih.1, by omega⟩
theorem chsTo_end (rs : List Raw) : chsTo rs 12 = chsF rs := rfl
end Go.Proofs.YtehmpbaiefbemaaGreat
