/- Identities and event trees under Fork, Join and Event, in plain terms: what is owned, what was seen. No program in sight. -/
import Derived.Test.YthnmhdabdiennaaDoorM2
import Derived.Test.YthnmhdabdiennaaDoorK14
namespace Go.Proofs.YthnmhdabdiennaaDoor
theorem one_not_both {a b : IdT} (h : ¬(a.isZero && b.isZero) = true) : IdT.isOne (.node a b) = false := by
  cases a <;> cases b <;> simp_all [IdT.isZero, IdT.isOne]
theorem not_one_some {l r : IdT} (h1 : IdT.isOne (.node l r) = false) (hl : l.isZero = true) : r.isZero = false := by
  cases l <;> cases r <;> simp_all [IdT.isZero, IdT.isOne]
theorem own_some : ∀ i : IdT, i.isZero = false → ∃ p, own i p = true
  | .zero, h => by simp [IdT.isZero] at h
  | .node l r, _ => by
    cases h1 : IdT.isOne (.node l r) with
    | true => exact ⟨fun _ => false, own_one _ h1 _⟩
    | false =>
      cases hl : l.isZero with
      | false =>
        obtain ⟨p, hp⟩ := own_some l hl
        exact ⟨pre false p, by rw [own_node _ _ h1]; simpa [pre_zero, tl_pre] using hp⟩
      | true =>
        obtain ⟨p, hp⟩ := own_some r (not_one_some h1 hl)
        exact ⟨pre true p, by rw [own_node _ _ h1]; simpa [pre_zero, tl_pre] using hp⟩
theorem own_joinF (a b : IdT) (p : Pt) : own (a.joinF b) p = if p 0 then own b (tl p) else own a (tl p) := by
  unfold IdT.joinF
  split
  · rename_i h; cases a <;> cases b <;> simp_all [IdT.isZero, own]
  · rename_i h
    split
    · rename_i h2
      simp at h2
      rw [own_one _ h2.1, own_one _ h2.2, own_one IdT.one rfl]; simp
    · exact own_node _ _ (one_not_both h) p
theorem depth_joinF (a b : IdT) : (a.joinF b).depth ≤ 1 + max a.depth b.depth := by
  unfold IdT.joinF
  split
  · simp [IdT.depth]
  · split
    · simp [IdT.depth, IdT.one, IdT.isOne]
    · rw [IdT.depth]; split <;> omega
theorem zero_joinF (a b : IdT) : (a.joinF b).isZero = (a.isZero && b.isZero) := by
  unfold IdT.joinF
  split
  · rename_i h; rw [h]; rfl
  · rename_i h
    simp only [Bool.not_eq_true] at h
    rw [h]
    split <;> rfl
theorem depth_node {l r : IdT} (h : IdT.isOne (.node l r) = false) : (IdT.node l r).depth = 1 + max l.depth r.depth := by rw [IdT.depth, h]; rfl
theorem sum_node (l r l' r' : IdT) : IdT.sum (.node l r) (.node l' r') = if IdT.isOne (.node l r) || IdT.isOne (.node l' r') then none else
      match IdT.sum l l' with
      | none => none
      | some x => match IdT.sum r r' with
        | none => none
        | some y => some (x.joinF y) := by rw [IdT.sum]; rfl
theorem sum_zero_left (j : IdT) : IdT.sum .zero j = some j := by cases j <;> rfl
theorem sum_zero_right (i : IdT) : IdT.sum i .zero = some i := by cases i <;> rfl
theorem sum_facts (i : IdT) : ∀ (j x : IdT), i.sum j = some x → (∀ p, own x p = (own i p || own j p)) ∧ x.depth ≤ max i.depth j.depth ∧ x.isZero = (i.isZero && j.isZero) := by
  induction i with
  | zero =>
    intro j x h
    rw [sum_zero_left] at h
    obtain rfl := Option.some.inj h
    exact ⟨fun p => by simp [own], by simp [IdT.depth], by simp [IdT.isZero]⟩
  | node l r ihl ihr =>
    intro j x h
    cases j with
    | zero =>
      rw [sum_zero_right] at h
      obtain rfl := Option.some.inj h
      exact ⟨fun p => by simp [own], by simp [IdT.depth], by simp [IdT.isZero]⟩
    | node l' r' =>
      rw [sum_node] at h
      split at h
      · cases h
      · rename_i h1
        simp only [Bool.or_eq_true, not_or, Bool.not_eq_true] at h1
        split at h
        · cases h
        · rename_i xl hl
          split at h
          · cases h
          · rename_i xr hr
            obtain rfl := Option.some.inj h
            obtain ⟨o1, d1, z1⟩ := ihl _ _ hl
            obtain ⟨o2, d2, z2⟩ := ihr _ _ hr
            refine ⟨fun p => ?_, ?_, ?_⟩
            · rw [own_joinF, own_node _ _ h1.1, own_node _ _ h1.2, o1, o2]
              cases p 0 <;> simp
            · have := depth_joinF xl xr
              rw [depth_node h1.1, depth_node h1.2]
              omega
            · rw [zero_joinF, z1, z2]
              have e1 : (l.isZero && r.isZero) = false := by cases l <;> cases r <;> simp_all [IdT.isZero, IdT.isOne]
              cases hl0 : l.isZero <;> cases hr0 : r.isZero <;> simp_all [IdT.isZero]
theorem sum_none_some (i : IdT) : ∀ j : IdT, i.sum j = none → ∃ p, own i p = true ∧ own j p = true := by
  induction i with
  | zero => intro j h; rw [sum_zero_left] at h; cases h
  | node l r ihl ihr =>
    intro j h
    cases j with
    | zero => rw [sum_zero_right] at h; cases h
    | node l' r' =>
      cases h1 : IdT.isOne (.node l r) with
      | true =>
        obtain ⟨p, hp⟩ := own_some (.node l' r') rfl
        exact ⟨p, own_one _ h1 p, hp⟩
      | false =>
        cases h2 : IdT.isOne (.node l' r') with
        | true =>
          obtain ⟨p, hp⟩ := own_some (.node l r) rfl
          exact ⟨p, hp, own_one _ h2 p⟩
        | false =>
          rw [sum_node, h1, h2] at h
          simp only [Bool.or_self, Bool.false_eq_true, if_false] at h
          split at h
          · rename_i hl
            obtain ⟨p, a, b⟩ := ihl _ hl
            exact ⟨pre false p, by rw [own_node _ _ h1]; simpa [pre_zero, tl_pre] using a, by rw [own_node _ _ h2]; simpa [pre_zero, tl_pre] using b⟩
          · split at h
            · rename_i hr
              obtain ⟨p, a, b⟩ := ihr _ hr
              exact ⟨pre true p, by rw [own_node _ _ h1]; simpa [pre_zero, tl_pre] using a, by rw [own_node _ _ h2]; simpa [pre_zero, tl_pre] using b⟩
            · cases h
theorem sum_disjoint (i j : IdT) (h : ∀ p, own i p = true → own j p = true → False) : ∃ x, i.sum j = some x := by
  cases hs : i.sum j with
  | some x => exact ⟨x, rfl⟩
  | none => obtain ⟨p, a, b⟩ := sum_none_some i j hs; exact (h p a b).elim
theorem own_left0 (x : IdT) (hz : x.isZero = false) (p : Pt) : own (.node x .zero) p = (!p 0 && own x (tl p)) := by
  cases x with
  | zero => simp [IdT.isZero] at hz
  | node a b => rw [own_node _ _ (IdT.isOne_node_left a b .zero)]; cases p 0 <;> simp [own]
theorem own_right0 (x : IdT) (hz : x.isZero = false) (p : Pt) : own (.node .zero x) p = (p 0 && own x (tl p)) := by
  cases x with
  | zero => simp [IdT.isZero] at hz
  | node a b => rw [own_node _ _ (IdT.isOne_node_right a b .zero)]; cases p 0 <;> simp [own]
theorem split_node_l (a b : IdT) : (IdT.node .zero (.node a b)).split = (.node .zero (IdT.node a b).split.1, .node .zero (IdT.node a b).split.2) := rfl
theorem split_node_r (a b : IdT) : (IdT.node (.node a b) .zero).split = (.node (IdT.node a b).split.1 .zero, .node (IdT.node a b).split.2 .zero) := rfl
theorem split_node_lr (a b c d : IdT) : (IdT.node (.node a b) (.node c d)).split = (.node (.node a b) .zero, .node .zero (.node c d)) := rfl
/-- The two parts: neither is empty, they share nothing, and together they own what was owned. -/
theorem split_facts (i : IdT) : i.isZero = false → i.split.1.isZero = false ∧ i.split.2.isZero = false ∧ (∀ p, own i p = (own i.split.1 p || own i.split.2 p)) ∧ (∀ p, own i.split.1 p = true → own i.split.2 p = true → False) := by
  induction i with
  | zero => intro h; simp [IdT.isZero] at h
  | node l r ihl ihr =>
    intro _
    cases l with
    | zero =>
      cases r with
      | zero =>
        refine ⟨rfl, rfl, fun p => ?_, fun p => ?_⟩
        · show own IdT.one p = (own (.node .one .zero) p || own (.node .zero .one) p)
          rw [own_left0 _ rfl, own_right0 _ rfl, own_one IdT.one rfl, own_one IdT.one rfl]; cases p 0 <;> rfl
        · show own (.node .one .zero) p = true → own (.node .zero .one) p = true → False
          rw [own_left0 _ rfl, own_right0 _ rfl]; cases p 0 <;> simp
      | node a b =>
        obtain ⟨z1, z2, o, d⟩ := ihr rfl
        rw [split_node_l]
        refine ⟨rfl, rfl, fun p => ?_, fun p => ?_⟩
        · rw [own_right0 _ z1, own_right0 _ z2, own_right0 _ rfl, o]; cases p 0 <;> simp
        · rw [own_right0 _ z1, own_right0 _ z2]
          have := d (tl p)
          cases p 0 <;> simp_all
    | node a b =>
      cases r with
      | zero =>
        obtain ⟨z1, z2, o, d⟩ := ihl rfl
        rw [split_node_r]
        refine ⟨rfl, rfl, fun p => ?_, fun p => ?_⟩
        · rw [own_left0 _ z1, own_left0 _ z2, own_left0 _ rfl, o]; cases p 0 <;> simp
        · rw [own_left0 _ z1, own_left0 _ z2]
          have := d (tl p)
          cases p 0 <;> simp_all
      | node c d =>
        rw [split_node_lr]
        refine ⟨rfl, rfl, fun p => ?_, fun p => ?_⟩
        · rw [own_left0 _ rfl, own_right0 _ rfl, own_node _ _ (IdT.isOne_node_left a b _)]; cases p 0 <;> simp
        · rw [own_left0 _ rfl, own_right0 _ rfl]; cases p 0 <;> simp
theorem depth_zero_leaf {t : EvT} (h : t.depth ≤ 0) : t.isLeaf = true := by
  cases t with
  | leaf n => rfl
  | node n l r => simp [EvT.depth] at h
theorem val_leaf {t : EvT} (h : t.isLeaf = true) (p : Pt) : val t p = t.n := by cases t <;> simp_all [EvT.isLeaf, val, EvT.n]
/-- merge: the greater value at every point, in normal form. -/
theorem merge_facts (k : Nat) : ∀ a b : EvT, nf a → nf b → a.depth ≤ k → b.depth ≤ k → nf (mergeF k a b) ∧ (mergeF k a b).depth ≤ k ∧ ∀ p, val (mergeF k a b) p = max (val a p) (val b p) := by
  induction k with
  | zero =>
    intro a b _ _ da db
    refine ⟨trivial, by simp [mergeF, EvT.depth], fun p => ?_⟩
    rw [val_leaf (depth_zero_leaf da), val_leaf (depth_zero_leaf db)]; rfl
  | succ k ih =>
    intro a b ha hb da db
    have la := leftK_depth da
    have ra := rightK_depth da
    have lb := leftK_depth db
    have rb := rightK_depth db
    obtain ⟨nla, nra⟩ := nf_kids a ha
    obtain ⟨nlb, nrb⟩ := nf_kids b hb
    unfold mergeF
    split
    · rename_i h
      simp only [Bool.and_eq_true] at h
      refine ⟨trivial, by simp [EvT.depth], fun p => ?_⟩
      rw [val_leaf h.1, val_leaf h.2]; rfl
    · split
      · rename_i hlt
        obtain ⟨n1, d1, v1⟩ := ih b.leftK (a.leftK.withN (a.leftK.n + (a.n - b.n))) nlb (nf_withN _ _ nla) lb (by rw [withN_depth]; exact la)
        obtain ⟨n2, d2, v2⟩ := ih b.rightK (a.rightK.withN (a.rightK.n + (a.n - b.n))) nrb (nf_withN _ _ nra) rb (by rw [withN_depth]; exact ra)
        refine ⟨nf_pair _ _ _ n1 n2, ?_, fun p => ?_⟩
        · have := pairF_depth b.n (mergeF k b.leftK (a.leftK.withN (a.leftK.n + (a.n - b.n)))) (mergeF k b.rightK (a.rightK.withN (a.rightK.n + (a.n - b.n))))
          omega
        · have e1 := val_withN a.leftK (a.leftK.n + (a.n - b.n)) (tl p)
          have e2 := val_withN a.rightK (a.rightK.n + (a.n - b.n)) (tl p)
          rw [val_pair, v1, v2, val_kids a p, val_kids b p]
          cases p 0 <;> simp only [Bool.false_eq_true, if_false, if_true] <;> omega
      · rename_i hlt
        obtain ⟨n1, d1, v1⟩ := ih a.leftK (b.leftK.withN (b.leftK.n + (b.n - a.n))) nla (nf_withN _ _ nlb) la (by rw [withN_depth]; exact lb)
        obtain ⟨n2, d2, v2⟩ := ih a.rightK (b.rightK.withN (b.rightK.n + (b.n - a.n))) nra (nf_withN _ _ nrb) ra (by rw [withN_depth]; exact rb)
        refine ⟨nf_pair _ _ _ n1 n2, ?_, fun p => ?_⟩
        · have := pairF_depth a.n (mergeF k a.leftK (b.leftK.withN (b.leftK.n + (b.n - a.n)))) (mergeF k a.rightK (b.rightK.withN (b.rightK.n + (b.n - a.n))))
          omega
        · have e1 := val_withN b.leftK (b.leftK.n + (b.n - a.n)) (tl p)
          have e2 := val_withN b.rightK (b.rightK.n + (b.n - a.n)) (tl p)
          rw [val_pair, v1, v2, val_kids a p, val_kids b p]
          cases p 0 <;> simp only [Bool.false_eq_true, if_false, if_true] <;> omega
theorem fill_depth (i : IdT) : ∀ t : EvT, (fillF i t).depth ≤ t.depth := by
  induction i with
  | zero => intro t; simp [fillF]
  | node l r ihl ihr =>
    intro t
    unfold fillF
    split
    · simp [EvT.depth]
    · cases t with
      | leaf n => simp [EvT.depth]
      | node n a b =>
        have h1 := ihl a
        have h2 := ihr b
        have z : ∀ n, (EvT.leaf n).depth = 0 := fun _ => rfl
        simp only [EvT.depth]
        split
        · have := pairF_depth n (.leaf (max a.top (fillF r b).n)) (fillF r b); rw [z] at this; omega
        · split
          · have := pairF_depth n (fillF l a) (.leaf (max b.top (fillF l a).n)); rw [z] at this; omega
          · have := pairF_depth n (fillF l a) (fillF r b); omega
theorem grow_depth (i : IdT) : ∀ t : EvT, (growF i t).1.depth ≤ max i.depth t.depth := by
  induction i with
  | zero => intro t; simp only [growF]; omega
  | node l r ihl ihr =>
    intro t
    cases h1 : IdT.isOne (.node l r) with
    | true => simp only [growF, h1, if_true, EvT.depth]; omega
    | false =>
      rw [growF_eq _ _ _ h1, depth_node h1]
      have h2 := ihl t.leftK
      have h3 := ihr t.rightK
      have kd : t.leftK.depth ≤ t.depth - 1 ∧ t.rightK.depth ≤ t.depth - 1 := by cases t <;> simp [EvT.leftK, EvT.rightK, EvT.depth]; omega
      unfold growPick
      have q1 := pairF_depth t.n (growF l t.leftK).1 t.rightK
      have q2 := pairF_depth t.n t.leftK (growF r t.rightK).1
      have kz : t.depth = 0 → t.leftK.depth = 0 ∧ t.rightK.depth = 0 := fun h => by omega
      split <;> simp only [] <;> omega
theorem event_depth (i : IdT) (t : EvT) : (eventT i t).depth ≤ max i.depth t.depth := by
  unfold eventT
  split
  · exact grow_depth i t
  · exact Nat.le_trans (fill_depth i t) (Nat.le_max_right _ _)
end Go.Proofs.YthnmhdabdiennaaDoor
