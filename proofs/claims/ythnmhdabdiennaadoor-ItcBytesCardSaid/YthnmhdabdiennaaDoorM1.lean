/- What event trees mean: a number at every point; normal forms; fill, grow, merge and leq in these terms. No program in sight. -/
import Derived.Test.YthnmhdabdiennaaDoorK7
namespace Go.Proofs.YthnmhdabdiennaaDoor
/-- A point of the interval: which half, at each level. -/
abbrev Pt := Nat → Bool
def tl (p : Pt) : Pt := fun k => p (k + 1)
def pre (b : Bool) (p : Pt) : Pt := fun k => match k with
  | 0 => b
  | k + 1 => p k
theorem pre_zero (b : Bool) (p : Pt) : pre b p 0 = b := rfl
theorem tl_pre (b : Bool) (p : Pt) : tl (pre b p) = p := rfl
def val : EvT → Pt → Nat
  | .leaf n, _ => n
  | .node n l r, p => n + if p 0 then val r (tl p) else val l (tl p)
def nf : EvT → Prop
  | .leaf _ => True
  | .node _ l r => nf l ∧ nf r ∧ (l.n = 0 ∨ r.n = 0) ∧ ¬(l.isLeaf = true ∧ r.isLeaf = true ∧ l.n = r.n)
theorem n_le_val : ∀ (t : EvT) (p : Pt), t.n ≤ val t p
  | .leaf _, _ => Nat.le_refl _
  | .node _ _ _, _ => Nat.le_add_right _ _
theorem val_le_top : ∀ (t : EvT) (p : Pt), val t p ≤ t.top
  | .leaf _, _ => Nat.le_refl _
  | .node n l r, p => by
    have h1 := val_le_top l (tl p)
    have h2 := val_le_top r (tl p)
    simp only [val, EvT.top]
    split <;> omega
theorem top_val : ∀ t : EvT, ∃ p, val t p = t.top
  | .leaf _ => ⟨fun _ => false, rfl⟩
  | .node n l r => by
    obtain ⟨p, hp⟩ := top_val l
    obtain ⟨q, hq⟩ := top_val r
    by_cases h : l.top ≤ r.top
    · refine ⟨pre true q, ?_⟩
      simp only [val, EvT.top, pre_zero, tl_pre, if_true, hq]; omega
    · refine ⟨pre false p, ?_⟩
      simp only [val, EvT.top, pre_zero, tl_pre, Bool.false_eq_true, if_false, hp]; omega
theorem val_withN (t : EvT) (m : Nat) (p : Pt) : val (t.withN m) p + t.n = val t p + m := by cases t <;> simp only [EvT.withN, val, EvT.n] <;> omega
theorem val_pair (n : Nat) (a b : EvT) (p : Pt) : val (pairF n a b) p = n + if p 0 then val b (tl p) else val a (tl p) := by
  unfold pairF
  split
  · rename_i h
    cases a <;> cases b <;> simp_all [EvT.isLeaf, EvT.n, val]
  · have h1 := val_withN a (a.n - min a.n b.n) (tl p)
    have h2 := val_withN b (b.n - min a.n b.n) (tl p)
    have h3 := n_le_val a (tl p)
    have h4 := n_le_val b (tl p)
    simp only [val]
    split <;> omega
theorem nf_withN (t : EvT) (m : Nat) (h : nf t) : nf (t.withN m) := by cases t <;> exact h
theorem nf_pair (n : Nat) (a b : EvT) (ha : nf a) (hb : nf b) : nf (pairF n a b) := by
  unfold pairF
  split
  · trivial
  · rename_i h
    refine ⟨nf_withN _ _ ha, nf_withN _ _ hb, ?_, ?_⟩
    · simp only [withN_n]; omega
    · simp only [withN_n, withN_isLeaf]
      rintro ⟨h1, h2, h3⟩
      apply h
      rw [h1, h2]
      simp
      omega
theorem nf_low : ∀ t : EvT, nf t → ∃ p, val t p = t.n
  | .leaf n, _ => ⟨fun _ => false, rfl⟩
  | .node n l r, ⟨hl, hr, h0, _⟩ => by
    obtain ⟨p, hp⟩ := nf_low l hl
    obtain ⟨q, hq⟩ := nf_low r hr
    rcases h0 with h0 | h0
    · refine ⟨pre false p, ?_⟩
      simp only [val, EvT.n_node, pre_zero, tl_pre, Bool.false_eq_true, if_false, hp]; omega
    · refine ⟨pre true q, ?_⟩
      simp only [val, EvT.n_node, pre_zero, tl_pre, if_true, hq]; omega
theorem nf_const : ∀ t : EvT, nf t → (∀ p q, val t p = val t q) → t.isLeaf = true
  | .leaf _, _, _ => rfl
  | .node n l r, ⟨hl, hr, h0, hne⟩, hc => by
    have cl : ∀ p q, val l p = val l q := fun p q => by have := hc (pre false p) (pre false q); simp only [val, pre_zero, tl_pre, Bool.false_eq_true, if_false] at this; omega
    have cr : ∀ p q, val r p = val r q := fun p q => by have := hc (pre true p) (pre true q); simp only [val, pre_zero, tl_pre, if_true] at this; omega
    have il := nf_const l hl cl
    have ir := nf_const r hr cr
    obtain ⟨p, hp⟩ := nf_low l hl
    obtain ⟨q, hq⟩ := nf_low r hr
    have := hc (pre false p) (pre true q)
    simp only [val, pre_zero, tl_pre, Bool.false_eq_true, if_false, if_true] at this
    exact absurd ⟨il, ir, by omega⟩ hne
theorem nf_ext : ∀ a b : EvT, nf a → nf b → (∀ p, val a p = val b p) → a = b
  | .leaf n, .leaf m, _, _, h => by have := h (fun _ => false); simp only [val] at this; rw [this]
  | .leaf n, .node m l r, _, hb, h => by
    have := nf_const _ hb (fun p q => by rw [← h p, ← h q]; rfl)
    simp [EvT.isLeaf] at this
  | .node m l r, .leaf n, ha, _, h => by
    have := nf_const _ ha (fun p q => by rw [h p, h q]; rfl)
    simp [EvT.isLeaf] at this
  | .node n l r, .node m l' r', ha, hb, h => by
    obtain ⟨p, hp⟩ := nf_low _ ha
    obtain ⟨q, hq⟩ := nf_low _ hb
    have h1 := n_le_val (.node m l' r') p
    have h2 := n_le_val (.node n l r) q
    rw [← h p] at h1
    rw [h q] at h2
    have hnm : n = m := by simp only [EvT.n] at hp hq h1 h2; omega
    subst hnm
    have hl := nf_ext l l' ha.1 hb.1 (fun p => by have := h (pre false p); simp only [val, pre_zero, tl_pre, Bool.false_eq_true, if_false] at this; omega)
    have hr := nf_ext r r' ha.2.1 hb.2.1 (fun p => by have := h (pre true p); simp only [val, pre_zero, tl_pre, if_true] at this; omega)
    rw [hl, hr]
theorem same_iff : ∀ a b : EvT, a.same b = true ↔ a = b
  | .leaf n, .leaf m => by simp [EvT.same]
  | .leaf n, .node m l r => by simp [EvT.same]
  | .node n l r, .leaf m => by simp [EvT.same]
  | .node n l r, .node m l' r' => by simp [EvT.same, same_iff l l', same_iff r r']
theorem leqF_iff : ∀ (a b : EvT) (x y : Nat), nf b → (leqF a b x y = true ↔ ∀ p, x + val a p ≤ y + val b p)
  | .leaf n, b, x, y, hb => by
    simp only [leqF, decide_eq_true_eq, val]
    constructor
    · intro h p; have := n_le_val b p; omega
    · intro h
      obtain ⟨p, hp⟩ := nf_low b hb
      have := h p
      omega
  | .node n l r, .leaf m, x, y, _ => by
    simp only [leqF, Bool.and_eq_true, leqF_iff l (.leaf m) _ _ trivial, leqF_iff r (.leaf m) _ _ trivial]
    constructor
    · rintro ⟨h1, h2⟩ p
      have h1 := h1 (tl p)
      have h2 := h2 (tl p)
      simp only [val] at *
      split <;> omega
    · intro h
      refine ⟨fun p => ?_, fun p => ?_⟩
      · have := h (pre false p); simp only [val, pre_zero, tl_pre, Bool.false_eq_true, if_false] at *; omega
      · have := h (pre true p); simp only [val, pre_zero, tl_pre, if_true] at *; omega
  | .node n l r, .node m l' r', x, y, hb => by
    simp only [leqF, Bool.and_eq_true, leqF_iff l l' _ _ hb.1, leqF_iff r r' _ _ hb.2.1]
    constructor
    · rintro ⟨h1, h2⟩ p
      have h1 := h1 (tl p)
      have h2 := h2 (tl p)
      simp only [val] at *
      split <;> omega
    · intro h
      refine ⟨fun p => ?_, fun p => ?_⟩
      · have := h (pre false p); simp only [val, pre_zero, tl_pre, Bool.false_eq_true, if_false] at *; omega
      · have := h (pre true p); simp only [val, pre_zero, tl_pre, if_true] at *; omega
/-- What an identity owns. -/
def own : IdT → Pt → Bool
  | .zero, _ => false
  | .node l r, p => if IdT.isOne (.node l r) then true else if p 0 then own r (tl p) else own l (tl p)
theorem own_one (i : IdT) (h : i.isOne = true) (p : Pt) : own i p = true := by
  cases i with
  | zero => simp [IdT.isOne] at h
  | node l r => simp [own, h]
theorem own_node (l r : IdT) (h : IdT.isOne (.node l r) = false) (p : Pt) : own (.node l r) p = if p 0 then own r (tl p) else own l (tl p) := by simp [own, h]
/-- fill: nowhere less, more only where it is owned, in normal form. -/
theorem fill_facts (i : IdT) : ∀ t : EvT, nf t → nf (fillF i t) ∧ ∀ p, val t p ≤ val (fillF i t) p ∧ (own i p = false → val (fillF i t) p = val t p) := by
  induction i with
  | zero => intro t ht; exact ⟨ht, fun p => ⟨Nat.le_refl _, fun _ => rfl⟩⟩
  | node l r ihl ihr =>
    intro t ht
    unfold fillF
    split
    · rename_i h1
      exact ⟨trivial, fun p => ⟨val_le_top t p, fun h => by rw [own_one _ h1] at h; cases h⟩⟩
    · rename_i h1
      simp only [Bool.not_eq_true] at h1
      cases t with
      | leaf n => exact ⟨trivial, fun p => ⟨Nat.le_refl _, fun _ => rfl⟩⟩
      | node n a b =>
        obtain ⟨ha, hb, _, _⟩ := ht
        obtain ⟨la, pa⟩ := ihl a ha
        obtain ⟨lb, pb⟩ := ihr b hb
        simp only []
        split
        · rename_i hl1
          refine ⟨nf_pair _ _ _ trivial lb, fun p => ?_⟩
          rw [val_pair, own_node _ _ h1]
          have q1 := val_le_top a (tl p)
          have q2 := pb (tl p)
          have q3 := own_one l hl1 (tl p)
          simp only [val]
          cases p 0 with
          | true => simp only [if_true]; exact ⟨by omega, fun h => by rw [q2.2 h]⟩
          | false => simp only [Bool.false_eq_true, if_false]; exact ⟨by omega, fun h => by rw [q3] at h; cases h⟩
        · split
          · rename_i hr1
            refine ⟨nf_pair _ _ _ la trivial, fun p => ?_⟩
            rw [val_pair, own_node _ _ h1]
            have q1 := val_le_top b (tl p)
            have q2 := pa (tl p)
            have q3 := own_one r hr1 (tl p)
            simp only [val]
            cases p 0 with
            | false => simp only [Bool.false_eq_true, if_false]; exact ⟨by omega, fun h => by rw [q2.2 h]⟩
            | true => simp only [if_true]; exact ⟨by omega, fun h => by rw [q3] at h; cases h⟩
          · refine ⟨nf_pair _ _ _ la lb, fun p => ?_⟩
            rw [val_pair, own_node _ _ h1]
            have q1 := pa (tl p)
            have q2 := pb (tl p)
            simp only [val]
            cases p 0 with
            | false => simp only [Bool.false_eq_true, if_false]; exact ⟨by omega, fun h => by rw [q1.2 h]⟩
            | true => simp only [if_true]; exact ⟨by omega, fun h => by rw [q2.2 h]⟩
theorem nf_kids (t : EvT) (h : nf t) : nf t.leftK ∧ nf t.rightK := by cases t with
  | leaf n => exact ⟨trivial, trivial⟩
  | node n l r => exact ⟨h.1, h.2.1⟩
theorem val_kids (t : EvT) (p : Pt) : val t p = t.n + if p 0 then val t.rightK (tl p) else val t.leftK (tl p) := by
  cases t with
  | leaf n => simp [val, EvT.n, EvT.leftK, EvT.rightK]
  | node n l r => rfl
theorem fill_leaf_same (i : IdT) (n : Nat) : fillF i (.leaf n) = .leaf n := by
  cases i with
  | zero => rfl
  | node l r => unfold fillF; split <;> rfl
/-- If fill changes nothing, it changes nothing in the halves. -/
theorem fill_kids (l r : IdT) (t : EvT) (ht : nf t) (h1 : IdT.isOne (.node l r) = false) (h : fillF (.node l r) t = t) : fillF l t.leftK = t.leftK ∧ fillF r t.rightK = t.rightK := by
  cases t with
  | leaf n => exact ⟨fill_leaf_same l 0, fill_leaf_same r 0⟩
  | node n a b =>
    obtain ⟨ha, hb, _, _⟩ := ht
    obtain ⟨la, pa⟩ := fill_facts l a ha
    obtain ⟨lb, pb⟩ := fill_facts r b hb
    have hv : ∀ p, val (fillF (.node l r) (.node n a b)) p = val (.node n a b) p := fun p => by rw [h]
    have hu : fillF (.node l r) (.node n a b) = if l.isOne then pairF n (.leaf (max a.top (fillF r b).n)) (fillF r b) else if r.isOne then pairF n (fillF l a) (.leaf (max b.top (fillF l a).n)) else pairF n (fillF l a) (fillF r b) := by
      simp only [fillF, h1]; rfl
    rw [hu] at hv
    show fillF l a = a ∧ fillF r b = b
    split at hv
    · rename_i hl1
      have hr' : fillF r b = b := nf_ext _ _ lb hb fun p => by have := hv (pre true p); simp only [val_pair, val, pre_zero, tl_pre, if_true] at this; omega
      have ca : ∀ p q, val a p = val a q := fun p q => by
        have h1 := hv (pre false p)
        have h2 := hv (pre false q)
        simp only [val_pair, val, pre_zero, tl_pre, Bool.false_eq_true, if_false] at h1 h2; omega
      have ila := nf_const a ha ca
      refine ⟨?_, hr'⟩
      cases a with
      | node _ _ _ => simp [EvT.isLeaf] at ila
      | leaf k => exact fill_leaf_same l k
    · split at hv
      · rename_i hr1
        have hl' : fillF l a = a := nf_ext _ _ la ha fun p => by have := hv (pre false p); simp only [val_pair, val, pre_zero, tl_pre, Bool.false_eq_true, if_false] at this; omega
        have cb : ∀ p q, val b p = val b q := fun p q => by
          have h1 := hv (pre true p)
          have h2 := hv (pre true q)
          simp only [val_pair, val, pre_zero, tl_pre, if_true] at h1 h2; omega
        have ilb := nf_const b hb cb
        refine ⟨hl', ?_⟩
        cases b with
        | node _ _ _ => simp [EvT.isLeaf] at ilb
        | leaf k => exact fill_leaf_same r k
      · exact ⟨nf_ext _ _ la ha fun p => by have := hv (pre false p); simp only [val_pair, val, pre_zero, tl_pre, Bool.false_eq_true, if_false] at this; omega,
          nf_ext _ _ lb hb fun p => by have := hv (pre true p); simp only [val_pair, val, pre_zero, tl_pre, if_true] at this; omega⟩
/-- grow, where fill changes nothing: nowhere less, more only where it is owned, and more somewhere. -/
theorem grow_facts (i : IdT) : i.isZero = false → ∀ t : EvT, nf t → fillF i t = t → nf (growF i t).1 ∧ (∀ p, val t p ≤ val (growF i t).1 p ∧ (own i p = false → val (growF i t).1 p = val t p)) ∧ ∃ p, own i p = true ∧ val t p < val (growF i t).1 p := by
  induction i with
  | zero => intro h; simp [IdT.isZero] at h
  | node l r ihl ihr =>
    intro _ t ht hf
    cases h1 : IdT.isOne (.node l r) with
    | true =>
      have e : growF (.node l r) t = (.leaf (t.n + 1), 0) := by simp [growF, h1]
      have e2 : fillF (.node l r) t = .leaf t.top := by simp [fillF, h1]
      rw [e2] at hf
      rw [e, ← hf]
      exact ⟨trivial, fun p => ⟨Nat.le_succ _, fun h => by rw [own_one _ h1] at h; cases h⟩, fun _ => false, own_one _ h1 _, Nat.lt_succ_self _⟩
    | false =>
      obtain ⟨fl, fr⟩ := fill_kids l r t ht h1 hf
      obtain ⟨kl, kr⟩ := nf_kids t ht
      have useL : l.isZero = false → nf (pairF t.n (growF l t.leftK).1 t.rightK) ∧ (∀ p, val t p ≤ val (pairF t.n (growF l t.leftK).1 t.rightK) p ∧ (own (.node l r) p = false → val (pairF t.n (growF l t.leftK).1 t.rightK) p = val t p)) ∧ ∃ p, own (.node l r) p = true ∧ val t p < val (pairF t.n (growF l t.leftK).1 t.rightK) p := by
        intro hz
        obtain ⟨g1, g2, p, g3, g4⟩ := ihl hz t.leftK kl fl
        refine ⟨nf_pair _ _ _ g1 kr, fun p => ?_, pre false p, ?_, ?_⟩
        · rw [val_pair, val_kids t p, own_node _ _ h1]
          have := g2 (tl p)
          cases p 0 with
          | false => simp only [Bool.false_eq_true, if_false]; exact ⟨by omega, fun h => by rw [this.2 h]⟩
          | true => simp only [if_true]; exact ⟨Nat.le_refl _, fun _ => trivial⟩
        · rw [own_node _ _ h1]; simpa [pre_zero, tl_pre] using g3
        · rw [val_pair, val_kids t]; simp only [pre_zero, tl_pre, Bool.false_eq_true, if_false]; omega
      have useR : r.isZero = false → nf (pairF t.n t.leftK (growF r t.rightK).1) ∧ (∀ p, val t p ≤ val (pairF t.n t.leftK (growF r t.rightK).1) p ∧ (own (.node l r) p = false → val (pairF t.n t.leftK (growF r t.rightK).1) p = val t p)) ∧ ∃ p, own (.node l r) p = true ∧ val t p < val (pairF t.n t.leftK (growF r t.rightK).1) p := by
        intro hz
        obtain ⟨g1, g2, p, g3, g4⟩ := ihr hz t.rightK kr fr
        refine ⟨nf_pair _ _ _ kl g1, fun p => ?_, pre true p, ?_, ?_⟩
        · rw [val_pair, val_kids t p, own_node _ _ h1]
          have := g2 (tl p)
          cases p 0 with
          | true => simp only [if_true]; exact ⟨by omega, fun h => by rw [this.2 h]⟩
          | false => simp only [Bool.false_eq_true, if_false]; exact ⟨Nat.le_refl _, fun _ => trivial⟩
        · rw [own_node _ _ h1]; simpa [pre_zero, tl_pre] using g3
        · rw [val_pair, val_kids t]; simp only [pre_zero, tl_pre, if_true]; omega
      rw [growF_eq _ _ _ h1]
      unfold growPick
      cases hlz : l.isZero with
      | true =>
        have hrz : r.isZero = false := by
          cases hr : r.isZero with
          | false => rfl
          | true => cases l <;> cases r <;> simp_all [IdT.isZero, IdT.isOne]
        simpa [hrz] using useR hrz
      | false =>
        cases hrz : r.isZero with
        | true => simpa using useL hlz
        | false =>
          by_cases hlt : (growF l t.leftK).2 < (growF r t.rightK).2
          · simpa [hlt] using useL hlz
          · simpa [hlt] using useR hrz
end Go.Proofs.YthnmhdabdiennaaDoor
