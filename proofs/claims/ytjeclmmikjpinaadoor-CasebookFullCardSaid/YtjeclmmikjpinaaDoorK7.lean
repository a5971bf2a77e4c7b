/- The plain functions fill, grow, merge and leq on event trees, and their bounds. -/
import Derived.Test.YtjeclmmikjpinaaDoorK5
namespace Go.Proofs.YtjeclmmikjpinaaDoor.I

def EvT.leftK : EvT → EvT
  | .leaf _ => .leaf 0
  | .node _ l _ => l
def EvT.rightK : EvT → EvT
  | .leaf _ => .leaf 0
  | .node _ _ r => r
def EvT.extra : EvT → Nat
  | .leaf _ => 1000
  | .node _ _ _ => 0
def EvT.depth : EvT → Nat
  | .leaf _ => 0
  | .node _ l r => 1 + max l.depth r.depth
def fillF : IdT → EvT → EvT
  | .zero, t => t
  | .node l r, t => if IdT.isOne (.node l r) then .leaf t.top else
      match t with
      | .leaf n => .leaf n
      | .node n a b =>
        if l.isOne then pairF n (.leaf (max a.top (fillF r b).n)) (fillF r b)
        else if r.isOne then pairF n (fillF l a) (.leaf (max b.top (fillF l a).n))
        else pairF n (fillF l a) (fillF r b)
def growPick (rz lz : Bool) (x y : EvT × Nat) (n : Nat) (a b : EvT) (c : Nat) : EvT × Nat :=
  if rz || (!lz && decide (x.2 < y.2)) then (pairF n x.1 b, x.2 + 1 + c) else (pairF n a y.1, y.2 + 1 + c)
def growF : IdT → EvT → EvT × Nat
  | .zero, t => (t, 0)
  | .node l r, t =>
    if IdT.isOne (.node l r) then (.leaf (t.n + 1), 0)
    else growPick r.isZero l.isZero (growF l t.leftK) (growF r t.rightK) t.n t.leftK t.rightK t.extra
theorem growF_eq (l r : IdT) (t : EvT) (h1 : IdT.isOne (.node l r) = false) : growF (.node l r) t = growPick r.isZero l.isZero (growF l t.leftK) (growF r t.rightK) t.n t.leftK t.rightK t.extra := by
  simp only [growF, h1]; rfl
theorem growPick_c (rz lz : Bool) (x y : EvT × Nat) (n : Nat) (a b : EvT) (c : Nat) : growPick rz lz x y n a b c = ((growPick rz lz x y n a b 0).1, (growPick rz lz x y n a b 0).2 + c) := by
  unfold growPick
  split <;> rfl
theorem growF_leaf (l r : IdT) (n : Nat) (h1 : IdT.isOne (.node l r) = false) : growF (.node l r) (.leaf n) = ((growF (.node l r) (.node n (.leaf 0) (.leaf 0))).1, (growF (.node l r) (.node n (.leaf 0) (.leaf 0))).2 + 1000) := by
  rw [growF_eq _ _ _ h1, growF_eq _ _ _ h1]
  exact growPick_c _ _ _ _ _ _ _ _
def mergeF : Nat → EvT → EvT → EvT
  | 0, a, b => .leaf (max a.n b.n)
  | k + 1, a, b =>
    if a.isLeaf && b.isLeaf then .leaf (max a.n b.n)
    else if b.n < a.n then pairF b.n (mergeF k b.leftK (a.leftK.withN (a.leftK.n + (a.n - b.n)))) (mergeF k b.rightK (a.rightK.withN (a.rightK.n + (a.n - b.n))))
    else pairF a.n (mergeF k a.leftK (b.leftK.withN (b.leftK.n + (b.n - a.n)))) (mergeF k a.rightK (b.rightK.withN (b.rightK.n + (b.n - a.n))))
def leqF : EvT → EvT → Nat → Nat → Bool
  | .leaf n, b, x, y => decide (x + n ≤ y + b.n)
  | .node n l r, .leaf m, x, y => leqF l (.leaf m) (x + n) y && leqF r (.leaf m) (x + n) y
  | .node n l r, .node m l' r', x, y => leqF l l' (x + n) (y + m) && leqF r r' (x + n) (y + m)
theorem withN_n (t : EvT) (m : Nat) : (t.withN m).n = m := by cases t <;> rfl
theorem withN_isLeaf (t : EvT) (m : Nat) : (t.withN m).isLeaf = t.isLeaf := by cases t <;> rfl
theorem withN_top (t : EvT) (m : Nat) : (t.withN m).top = t.top - t.n + m := by cases t <;> simp [EvT.withN, EvT.top, EvT.n] <;> omega
theorem withN_depth (t : EvT) (m : Nat) : (t.withN m).depth = t.depth := by cases t <;> rfl
theorem pairF_top (n : Nat) (a b : EvT) : (pairF n a b).top = n + max a.top b.top := by
  have ha := a.n_le_top
  have hb := b.n_le_top
  unfold pairF
  split
  · rename_i h
    cases a <;> cases b <;> simp_all [EvT.isLeaf, EvT.top, EvT.n]
  · simp only [EvT.top, withN_top]
    omega
theorem pairF_depth (n : Nat) (a b : EvT) : (pairF n a b).depth ≤ 1 + max a.depth b.depth := by
  unfold pairF
  split
  · simp [EvT.depth]
  · simp [EvT.depth, withN_depth]
theorem fill_top (i : IdT) : ∀ t : EvT, (fillF i t).top ≤ t.top := by
  induction i with
  | zero => intro t; simp [fillF]
  | node l r ihl ihr =>
    intro t
    unfold fillF
    split
    · simp [EvT.top]
    · cases t with
      | leaf n => simp [EvT.top]
      | node n a b =>
        have h1 := ihl a
        have h2 := ihr b
        have h3 := (fillF r b).n_le_top
        have h4 := (fillF l a).n_le_top
        simp only []
        split
        · rw [pairF_top]; simp only [EvT.top]; omega
        · split
          · rw [pairF_top]; simp only [EvT.top]; omega
          · rw [pairF_top]; simp only [EvT.top]; omega
theorem kids_top (t : EvT) : t.n + max t.leftK.top t.rightK.top = t.top := by cases t <;> simp [EvT.n, EvT.leftK, EvT.rightK, EvT.top]
theorem grow_top (i : IdT) : ∀ t : EvT, (growF i t).1.top ≤ t.top + 1 := by
  induction i with
  | zero => intro t; simp [growF]
  | node l r ihl ihr =>
    intro t
    have h1 := ihl t.leftK
    have h2 := ihr t.rightK
    have h3 := kids_top t
    have h4 := t.n_le_top
    unfold growF growPick
    split
    · simp only [EvT.top]; omega
    · split
      · simp only [pairF_top]; omega
      · simp only [pairF_top]; omega
theorem extra_le (t : EvT) : t.extra ≤ 1000 := by cases t <;> simp [EvT.extra]
theorem grow_cost (i : IdT) : ∀ t : EvT, (growF i t).2 ≤ 1001 * i.depth := by
  induction i with
  | zero => intro t; simp [growF]
  | node l r ihl ihr =>
    intro t
    have h1 := ihl t.leftK
    have h2 := ihr t.rightK
    have h3 := extra_le t
    unfold growF growPick IdT.depth
    split
    · simp
    · split <;> simp only [] <;> omega
theorem merge_top (k : Nat) : ∀ a b : EvT, (mergeF k a b).top ≤ max a.top b.top := by
  induction k with
  | zero => intro a b; have := a.n_le_top; have := b.n_le_top; simp only [mergeF, EvT.top]; omega
  | succ k ih =>
    intro a b
    have ha := a.n_le_top
    have hb := b.n_le_top
    have ka := kids_top a
    have kb := kids_top b
    have q1 := a.leftK.n_le_top
    have q2 := a.rightK.n_le_top
    have q3 := b.leftK.n_le_top
    have q4 := b.rightK.n_le_top
    unfold mergeF
    split
    · simp only [EvT.top]; omega
    · split
      · have h1 := ih b.leftK (a.leftK.withN (a.leftK.n + (a.n - b.n)))
        have h2 := ih b.rightK (a.rightK.withN (a.rightK.n + (a.n - b.n)))
        rw [withN_top] at h1 h2
        rw [pairF_top]; omega
      · have h1 := ih a.leftK (b.leftK.withN (b.leftK.n + (b.n - a.n)))
        have h2 := ih a.rightK (b.rightK.withN (b.rightK.n + (b.n - a.n)))
        rw [withN_top] at h1 h2
        rw [pairF_top]; omega
theorem leftK_depth {t : EvT} {k : Nat} (h : t.depth ≤ k + 1) : t.leftK.depth ≤ k := by cases t <;> simp_all [EvT.depth, EvT.leftK]; omega
theorem rightK_depth {t : EvT} {k : Nat} (h : t.depth ≤ k + 1) : t.rightK.depth ≤ k := by cases t <;> simp_all [EvT.depth, EvT.rightK]; omega
end Go.Proofs.YtjeclmmikjpinaaDoor.I
