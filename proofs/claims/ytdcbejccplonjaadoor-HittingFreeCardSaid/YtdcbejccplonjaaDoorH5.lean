/- The order of sets, and sorted lists of sets. -/
import Derived.Test.YtdcbejccplonjaaDoorB2
namespace Go.Proofs.YtdcbejccplonjaaDoor
theorem ci_neg {x y : Int} : Lib.compareInt x y < 0 ↔ x < y := by
  unfold Lib.compareInt
  split
  · simp_all
  · split <;> simp_all <;> omega
theorem ci_zero {x y : Int} : Lib.compareInt x y = 0 ↔ x = y := by
  unfold Lib.compareInt
  split
  · simp; omega
  · split <;> simp_all <;> omega
theorem lexC_neg : ∀ a b : List Int, lexC a b < 0 ↔ a < b
  | [], [] => by simp [lexC]
  | [], _ :: _ => by simp [lexC]
  | _ :: _, [] => by simp [lexC]
  | a :: l, b :: m => by
    rw [lexC, List.cons_lt_cons_iff]
    by_cases h : Lib.compareInt a b = 0
    · rw [if_neg (by simpa using h)]
      have e := ci_zero.1 h
      rw [lexC_neg l m]
      constructor
      · exact fun k => .inr ⟨e, k⟩
      · rintro (k | k)
        · omega
        · exact k.2
    · rw [if_pos h, ci_neg]
      have e : a ≠ b := fun e => h (ci_zero.2 e)
      constructor
      · exact fun k => .inl k
      · rintro (k | k)
        · exact k
        · exact absurd k.1 e
/-- A set precedes another one. -/
def Lt (a b : List Int) : Prop := a.length < b.length ∨ a.length = b.length ∧ a < b
theorem cmp_neg {a b : List Int} : cmpF a b < 0 ↔ Lt a b := by
  unfold cmpF Lt
  by_cases h : Lib.compareInt (a.length : Int) (b.length : Int) = 0
  · rw [if_neg (by simpa using h), lexC_neg]
    have e := ci_zero.1 h
    constructor
    · exact fun k => .inr ⟨by omega, k⟩
    · rintro (k | k)
      · omega
      · exact k.2
  · rw [if_pos h, ci_neg]
    have e : (a.length : Int) ≠ b.length := fun e => h (ci_zero.2 e)
    constructor
    · exact fun k => .inl (by omega)
    · rintro (k | k)
      · omega
      · exact absurd k.1 (by omega)
instance (a b : List Int) : Decidable (Lt a b) := decidable_of_iff _ cmp_neg
theorem Lt.irrefl (a : List Int) : ¬ Lt a a := by
  rintro (h | h)
  · omega
  · exact List.lt_irrefl a h.2
theorem Lt.trans {a b c : List Int} (h : Lt a b) (k : Lt b c) : Lt a c := by
  rcases h with h | h <;> rcases k with k | k
  · exact .inl (by omega)
  · exact .inl (by omega)
  · exact .inl (by omega)
  · exact .inr ⟨by omega, List.lt_trans h.2 k.2⟩
theorem Lt.total (a b : List Int) : Lt a b ∨ a = b ∨ Lt b a := by
  rcases Nat.lt_trichotomy a.length b.length with h | h | h
  · exact .inl (.inl h)
  · by_cases h1 : a < b
    · exact .inl (.inr ⟨h, h1⟩)
    · by_cases h2 : b < a
      · exact .inr (.inr (.inr ⟨h.symm, h2⟩))
      · exact .inr (.inl (List.le_antisymm (List.not_lt.1 h2) (List.not_lt.1 h1)))
  · exact .inr (.inr (.inl h))
/-- Sorted lists of sets with the same sets are the same. -/
theorem sorted_ext : ∀ {l m : List (List Int)}, l.Pairwise Lt → m.Pairwise Lt → (∀ s, s ∈ l ↔ s ∈ m) → l = m
  | [], [], _, _, _ => rfl
  | [], b :: m, _, _, h => by have := (h b).2 (by simp); cases this
  | a :: l, [], _, _, h => by have := (h a).1 (by simp); cases this
  | a :: l, b :: m, hl, hm, h => by
    rw [List.pairwise_cons] at hl hm
    have e : a = b := by
      rcases Lt.total a b with h1 | h1 | h1
      · rcases List.mem_cons.1 ((h a).1 (by simp)) with h2 | h2
        · exact h2
        · exact absurd (h1.trans (hm.1 a h2)) (Lt.irrefl _)
      · exact h1
      · rcases List.mem_cons.1 ((h b).2 (by simp)) with h2 | h2
        · exact h2.symm
        · exact absurd (h1.trans (hl.1 b h2)) (Lt.irrefl _)
    subst e
    refine congrArg _ (sorted_ext hl.2 hm.2 fun s => ?_)
    have := h s
    constructor
    · intro hs
      rcases List.mem_cons.1 (this.1 (List.mem_cons_of_mem _ hs)) with h2 | h2
      · subst h2; exact absurd (hl.1 s hs) (Lt.irrefl _)
      · exact h2
    · intro hs
      rcases List.mem_cons.1 (this.2 (List.mem_cons_of_mem _ hs)) with h2 | h2
      · subst h2; exact absurd (hm.1 s hs) (Lt.irrefl _)
      · exact h2
/-- A set is put into its place, unless it is there already. -/
def insF (s : List Int) : List (List Int) → List (List Int)
  | [] => [s]
  | t :: r => if Lt s t then s :: t :: r else if Lt t s then t :: insF s r else t :: r
theorem mem_ins {s x : List Int} : ∀ {l : List (List Int)}, x ∈ insF s l ↔ x = s ∨ x ∈ l
  | [] => by simp [insF]
  | t :: r => by
    rw [insF]
    split
    · simp
    · rename_i h1
      split
      · rw [List.mem_cons, mem_ins (l := r), List.mem_cons]
        constructor
        · rintro (h | h | h)
          · exact .inr (.inl h)
          · exact .inl h
          · exact .inr (.inr h)
        · rintro (h | h | h)
          · exact .inr (.inl h)
          · exact .inl h
          · exact .inr (.inr h)
      · rename_i h2
        have : s = t := by
          rcases Lt.total s t with h | h | h
          · exact absurd h h1
          · exact h
          · exact absurd h h2
        subst this
        simp
theorem ins_sorted {s : List Int} : ∀ {l : List (List Int)}, l.Pairwise Lt → (insF s l).Pairwise Lt
  | [], _ => by simp [insF]
  | t :: r, h => by
    rw [List.pairwise_cons] at h
    rw [insF]
    split
    · rename_i h1
      rw [List.pairwise_cons, List.pairwise_cons]
      refine ⟨fun x hx => ?_, h⟩
      rcases List.mem_cons.1 hx with e | e
      · rw [e]; exact h1
      · exact h1.trans (h.1 x e)
    · split
      · rename_i h2
        rw [List.pairwise_cons]
        refine ⟨fun x hx => ?_, ins_sorted h.2⟩
        rcases mem_ins.1 hx with e | e
        · rw [e]; exact h2
        · exact h.1 x e
      · rw [List.pairwise_cons]; exact h
/-- A fold that inserts some sets. -/
def insAll (ss : List (List Int)) : List (List Int) := ss.foldl (fun l s => insF s l) []
theorem insAll_snoc (ss : List (List Int)) (s : List Int) : insAll (ss ++ [s]) = insF s (insAll ss) := by simp [insAll]
theorem insAll_facts (ss : List (List Int)) : (insAll ss).Pairwise Lt ∧ ∀ x, x ∈ insAll ss ↔ x ∈ ss := by
  induction ss using snoc_ind with
  | h0 => exact ⟨List.Pairwise.nil, fun x => by simp [insAll]⟩
  | h1 l x ih =>
    rw [insAll_snoc]
    exact ⟨ins_sorted ih.1, fun y => by rw [mem_ins, ih.2, List.mem_append, List.mem_singleton]; exact Or.comm⟩
/-- The sets as sorted lists. -/
def lsF (ms : List Nat) : List (List Int) := insAll (ms.map fun m => nI (elems m))
theorem lsF_sorted (ms : List Nat) : (lsF ms).Pairwise Lt := (insAll_facts _).1
theorem mem_lsF {ms : List Nat} {x : List Int} : x ∈ lsF ms ↔ ∃ m ∈ ms, nI (elems m) = x := by
  unfold lsF
  rw [(insAll_facts _).2, List.mem_map]
end Go.Proofs.YtdcbejccplonjaaDoor
