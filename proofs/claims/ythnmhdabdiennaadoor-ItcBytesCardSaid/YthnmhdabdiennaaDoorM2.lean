/- What an event does to a stamp, in plain terms; identities of one path. No program in sight. -/
import Derived.Test.YthnmhdabdiennaaDoorM1
import Derived.Test.YthnmhdabdiennaaDoorK13
namespace Go.Proofs.YthnmhdabdiennaaDoor
theorem event_facts (i : IdT) (t : EvT) (hz : i.isZero = false) (ht : nf t) : nf (eventT i t) ∧ (∀ p, val t p ≤ val (eventT i t) p ∧ (own i p = false → val (eventT i t) p = val t p)) ∧ ∃ p, own i p = true ∧ val t p < val (eventT i t) p := by
  obtain ⟨f1, f2⟩ := fill_facts i t ht
  unfold eventT
  cases hs : (fillF i t).same t with
  | true => rw [if_pos rfl]; exact grow_facts i hz t ht ((same_iff _ _).1 hs)
  | false =>
    rw [if_neg (by decide)]
    refine ⟨f1, f2, ?_⟩
    have hne : fillF i t ≠ t := fun h => by rw [(same_iff _ _).2 h] at hs; cases hs
    rcases Classical.em (∃ p, val t p < val (fillF i t) p) with ⟨p, hp⟩ | hno
    · refine ⟨p, ?_, hp⟩
      cases ho : own i p with
      | true => rfl
      | false => have := (f2 p).2 ho; omega
    · exact absurd (nf_ext _ _ f1 ht fun p => by
        have h1 := (f2 p).1
        have h2 : ¬ val t p < val (fillF i t) p := fun h => hno ⟨p, h⟩
        omega) hne
theorem event_more (i : IdT) (t : EvT) (hz : i.isZero = false) (ht : nf t) : leqF (eventT i t) t 0 0 = false := by
  obtain ⟨_, _, p, _, hp⟩ := event_facts i t hz ht
  cases h : leqF (eventT i t) t 0 0 with
  | false => rfl
  | true => have := (leqF_iff _ _ 0 0 ht).1 h p; omega
theorem fits_of_top : ∀ t : EvT, t.top ≤ 4611686018427387904 → t.fits = true
  | .leaf n, h => by simpa [EvT.fits, EvT.top] using h
  | .node n l r, h => by
    simp only [EvT.top] at h
    have h1 := fits_of_top l (by omega)
    have h2 := fits_of_top r (by omega)
    simp only [EvT.fits, h1, h2, Bool.and_self, Bool.and_true, decide_eq_true_eq]
    omega
/-- An identity that owns one interval of a depth. -/
def Path : Nat → IdT → Prop
  | 0, i => i = .one
  | k + 1, i => ∃ j, Path k j ∧ (i = .node j .zero ∨ i = .node .zero j)
theorem Path.nonzero : ∀ {k : Nat} {i : IdT}, Path k i → i.isZero = false
  | 0, _, h => by rw [h]; rfl
  | _ + 1, _, ⟨_, _, h⟩ => by rcases h with rfl | rfl <;> rfl
theorem Path.depth : ∀ {k : Nat} {i : IdT}, Path k i → i.depth = k
  | 0, _, h => by rw [h]; rfl
  | k + 1, i, ⟨j, hj, h⟩ => by
    have hz := hj.nonzero
    have hd := hj.depth
    cases j with
    | zero => simp [IdT.isZero] at hz
    | node a b =>
      rcases h with rfl | rfl
      · rw [IdT.depth, IdT.isOne_node_left]; simp [hd]; simp [IdT.depth]; omega
      · rw [IdT.depth, IdT.isOne_node_right]; simp [hd]; simp [IdT.depth]; omega
theorem Path.split : ∀ {k : Nat} {i : IdT}, Path k i → Path (k + 1) i.split.1 ∧ Path (k + 1) i.split.2
  | 0, _, h => by rw [h]; exact ⟨⟨.one, rfl, .inl rfl⟩, ⟨.one, rfl, .inr rfl⟩⟩
  | k + 1, i, ⟨j, hj, h⟩ => by
    have hz := hj.nonzero
    obtain ⟨s1, s2⟩ := hj.split
    cases j with
    | zero => simp [IdT.isZero] at hz
    | node a b =>
      rcases h with rfl | rfl
      · exact ⟨⟨_, s1, .inl rfl⟩, ⟨_, s2, .inl rfl⟩⟩
      · exact ⟨⟨_, s1, .inr rfl⟩, ⟨_, s2, .inr rfl⟩⟩
end Go.Proofs.YthnmhdabdiennaaDoor
