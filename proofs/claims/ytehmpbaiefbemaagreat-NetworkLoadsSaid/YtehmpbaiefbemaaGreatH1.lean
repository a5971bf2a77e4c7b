/- Keys and their order, plainly. -/
import Derived.Lib.Small
namespace Go.Proofs.YtehmpbaiefbemaaGreat
theorem ci_neg {x y : Int} : Lib.compareInt x y < 0 ↔ x < y := by
  unfold Lib.compareInt
  split
  · simp_all
  · split <;> simp_all <;> omega
theorem ci_zero {x y : Int} : Lib.compareInt x y = 0 ↔ x = y := by
  unfold Lib.compareInt
  split
  · simp; omega
  · split <;> simp_all <;> omega
/-- The first of these numbers that is not 0. -/
def orF : List Int → Int
  | [] => 0
  | x :: l => if x ≠ 0 then x else orF l
theorem orF_neg (x : Int) (l : List Int) : orF (x :: l) < 0 ↔ x < 0 ∨ x = 0 ∧ orF l < 0 := by
  rw [orF]
  split <;> omega
theorem orF_zero (x : Int) (l : List Int) : orF (x :: l) = 0 ↔ x = 0 ∧ orF l = 0 := by
  rw [orF]
  split <;> omega
/-- A key: its kind and its numbers. -/
abbrev Ky := Nat × Int × Int × Int
def klt (x y : Ky) : Prop := x.1 < y.1 ∨ x.1 = y.1 ∧ (x.2.1 < y.2.1 ∨ x.2.1 = y.2.1 ∧ (x.2.2.1 < y.2.2.1 ∨ x.2.2.1 = y.2.2.1 ∧ x.2.2.2 < y.2.2.2))
instance (x y : Ky) : Decidable (klt x y) := by unfold klt; exact inferInstance
def cmpK (x y : Ky) : Int := orF [Lib.compareInt (x.1 : Int) (y.1 : Int), Lib.compareInt x.2.1 y.2.1, Lib.compareInt x.2.2.1 y.2.2.1, Lib.compareInt x.2.2.2 y.2.2.2]
theorem cmpK_neg {x y : Ky} : cmpK x y < 0 ↔ klt x y := by
  unfold cmpK klt
  have e : orF [] = 0 := rfl
  simp only [orF_neg, ci_neg, ci_zero, e]
  omega
theorem cmpK_zero {x y : Ky} : cmpK x y = 0 ↔ x = y := by
  unfold cmpK
  have e : orF [] = 0 := rfl
  simp only [orF_zero, ci_zero, e]
  obtain ⟨a, b, c, d⟩ := x
  obtain ⟨a', b', c', d'⟩ := y
  simp only [Prod.mk.injEq]
  constructor
  · rintro ⟨h1, h2, h3, h4, _⟩
    exact ⟨Int.ofNat.inj h1, h2, h3, h4⟩
  · rintro ⟨h1, h2, h3, h4⟩
    exact ⟨congrArg Int.ofNat h1, h2, h3, h4, trivial⟩
theorem klt_irrefl (x : Ky) : ¬ klt x x := by unfold klt; omega
theorem klt_trans {x y z : Ky} (h : klt x y) (k : klt y z) : klt x z := by unfold klt at *; omega
theorem klt_total (x y : Ky) : klt x y ∨ x = y ∨ klt y x := by
  obtain ⟨a, b, c, d⟩ := x
  obtain ⟨a', b', c', d'⟩ := y
  unfold klt
  simp only [Prod.mk.injEq]
  omega
theorem klt_asymm {x y : Ky} (h : klt x y) : ¬ klt y x := fun k => klt_irrefl x (klt_trans h k)
theorem klt_ne {x y : Ky} (h : klt x y) : x ≠ y := fun e => klt_irrefl y (e ▸ h)
/-- Strictly ascending lists with the same members are the same. -/
theorem strict_ext {α : Type} {R : α → α → Prop} (ir : ∀ a, ¬ R a a) (tr : ∀ a b c, R a b → R b c → R a c) : ∀ {l m : List α}, l.Pairwise R → m.Pairwise R → (∀ s, s ∈ l ↔ s ∈ m) → l = m
  | [], [], _, _, _ => rfl
  | [], b :: m, _, _, h => by have := (h b).2 (by simp); cases this
  | a :: l, [], _, _, h => by have := (h a).1 (by simp); cases this
  | a :: l, b :: m, hl, hm, h => by
    rw [List.pairwise_cons] at hl hm
    have e : a = b := by
      rcases List.mem_cons.1 ((h a).1 (by simp)) with h2 | h2
      · exact h2
      · rcases List.mem_cons.1 ((h b).2 (by simp)) with h3 | h3
        · exact h3.symm
        · exact absurd (tr _ _ _ (hl.1 b h3) (hm.1 a h2)) (ir _)
    subst e
    refine congrArg _ (strict_ext ir tr hl.2 hm.2 fun s => ?_)
    have := h s
    constructor
    · intro hs
      rcases List.mem_cons.1 (this.1 (List.mem_cons_of_mem _ hs)) with h2 | h2
      · subst h2; exact absurd (hl.1 s hs) (ir _)
      · exact h2
    · intro hs
      rcases List.mem_cons.1 (this.2 (List.mem_cons_of_mem _ hs)) with h2 | h2
      · subst h2; exact absurd (hm.1 s hs) (ir _)
      · exact h2
def Asc (l : List Ky) : Prop := l.Pairwise klt
theorem asc_ext {l m : List Ky} (h : Asc l) (k : Asc m) (e : ∀ s, s ∈ l ↔ s ∈ m) : l = m := strict_ext klt_irrefl (fun _ _ _ h k => klt_trans h k) h k e
theorem Asc.nodup {l : List Ky} (h : Asc l) : l.Nodup := h.imp fun h => klt_ne h
/-- A key is put into its place, unless it is there. -/
def insK (k : Ky) : List Ky → List Ky
  | [] => [k]
  | x :: l => if k = x then x :: l else if klt k x then k :: x :: l else x :: insK k l
theorem mem_insK {k x : Ky} : ∀ {l : List Ky}, x ∈ insK k l ↔ x = k ∨ x ∈ l
  | [] => by simp [insK]
  | y :: l => by
    rw [insK]
    split
    · rename_i h; subst h; simp
    · split
      · simp
      · rw [List.mem_cons, mem_insK, List.mem_cons]
        constructor
        · rintro (h | h | h) <;> simp [h]
        · rintro (h | h | h) <;> simp [h]
theorem insK_asc {k : Ky} : ∀ {l : List Ky}, Asc l → Asc (insK k l)
  | [], _ => by simp [insK, Asc]
  | y :: l, h => by
    have h' := List.pairwise_cons.1 h
    rw [insK]
    split
    · exact h
    · split
      · rename_i h2
        exact List.pairwise_cons.2 ⟨fun z hz => by
          rcases List.mem_cons.1 hz with rfl | hz
          · exact h2
          · exact klt_trans h2 (h'.1 z hz), h⟩
      · rename_i h1 h2
        refine List.pairwise_cons.2 ⟨fun z hz => ?_, insK_asc h'.2⟩
        rcases mem_insK.1 hz with rfl | hz
        · rcases klt_total z y with h3 | h3 | h3
          · exact absurd h3 h2
          · exact absurd h3 h1
          · exact h3
        · exact h'.1 z hz
theorem insK_same {k : Ky} {l : List Ky} (h : Asc l) (hk : k ∈ l) : insK k l = l := asc_ext (insK_asc h) h fun s => by
  rw [mem_insK]
  exact ⟨fun h => h.elim (fun e => e ▸ hk) id, .inr⟩
theorem insK_len {k : Ky} {l : List Ky} : (insK k l).length ≤ l.length + 1 := by
  induction l with
  | nil => simp [insK]
  | cons y l ih =>
    rw [insK]
    split
    · simp
    · split
      · simp
      · simpa using ih
end Go.Proofs.YtehmpbaiefbemaaGreat
