/- The plain data of interval tree clocks (identities and event trees), how they lie in memory, and the relation 'Ext': memory that has only grown. -/
import Derived.Test.YtjeclmmikjpinaaDoorProg
import Derived.WalkKit
import Derived.WalkSpells
import Derived.WalkLawsBesides
import Derived.Lib.Hide
namespace Go.Proofs.YtjeclmmikjpinaaDoor.I
open Go.RowKit

/-- Memory has only grown: what was there is as it was. -/
def Ext (w w' : World) : Prop := Below w.heap.size w w'
theorem Ext.refl (w : World) : Ext w w := Below.refl _ _
theorem Ext.trans {a b c : World} (h : Ext a b) (k : Ext b c) : Ext a c := Below.trans h (Below.mono k h.size)
theorem Ext.alloc {a w : World} (h : Ext a w) (o : Obj) : Ext a (w.alloc o) := Below.alloc h h.size o
theorem Ext.drew {a w : World} (h : Ext a w) : Ext a w.drew := Below.drew h
theorem Ext.drewN {a w : World} (h : Ext a w) (n : Nat) : Ext a (w.drewN n) := ⟨h.os, h.tape, h.output, h.size, h.block⟩
attribute [simp] Ext.refl Ext.alloc Ext.drew Ext.drewN
theorem Ext.size {a w : World} (h : Ext a w) : a.heap.size ≤ w.heap.size := Below.size h
theorem Ext.below {a w : World} (h : Ext a w) : Below a.heap.size a w := h
theorem Ext.set {a w : World} (h : Ext a w) {p : Addr} (hp : a.heap.size ≤ p.block) (u : Value) : Ext a (w.setCell p u) := Below.setCell h hp u
theorem Ext.cell {w w' : World} (h : Ext w w') {p : Addr} {v : Value} (hc : w.cell? p = some v) : w'.cell? p = some v := by
  rw [Below.cell h (World.block_lt_of_cell? w _ hc)]; exact hc
theorem Ext.cells {w w' : World} (h : Ext w w') : ∀ b o, b < w.heap.size → w'.cell? ⟨b, o, none⟩ = w.cell? ⟨b, o, none⟩ := fun b o hb => Below.cell h (p := ⟨b, o, none⟩) hb

theorem Ext.both {w w' : World} (h : Ext w w') : (∀ b o, b < w.heap.size → w'.cell? ⟨b, o, none⟩ = w.cell? ⟨b, o, none⟩) ∧ (∀ b o, b < w.heap.size → w'.frozen? ⟨b, o, none⟩ = w.frozen? ⟨b, o, none⟩) :=
  ⟨fun _ _ hb => Below.cell h hb, fun _ _ hb => Below.frozen h hb⟩

theorem Ext.lt {w w' : World} (h : Ext w w') : ∀ a, a < w.heap.size → a < w'.heap.size := fun _ k => Nat.lt_of_lt_of_le k h.size
/-- What a region may lean on: memory has only grown since the world w. -/
theorem Ext.held {w w' : World} (h : Ext w w') : Ext w w' ∧ ∀ b o, b < w.heap.size → w'.cell? ⟨b, o, none⟩ = w.cell? ⟨b, o, none⟩ := ⟨h, h.cells⟩

/-- The type of the elements of a block. -/
def typ (w : World) (b : Nat) : Option Nat := (w.shape? b).map (·.1)
theorem Ext.typ {w w' : World} (h : Ext w w') {b T : Nat} (k : typ w b = some T) : typ w' b = some T := by
  unfold Go.Proofs.YtjeclmmikjpinaaDoor.I.typ World.shape? at *
  have hb : b < w.heap.size := by
    rcases Nat.lt_or_ge b w.heap.size with h' | h'
    · exact h'
    · simp [Array.getElem?_eq_none h'] at k
  rw [h.block b hb]; exact k
theorem typ_new (w : World) (c : Array Value) (T : Nat) : typ (w.alloc (.cells c T)) w.heap.size = some T := by
  unfold typ World.shape?; rw [heap_alloc_new]; rfl
theorem typ_set (w : World) (a : Addr) (u : Value) (b : Nat) : typ (w.setCell a u) b = typ w b := by
  unfold typ World.shape? World.setCell
  by_cases hb : a.block = b
  · subst hb
    simp only [Array.getElem?_modify]
    cases w.heap[a.block]? with
    | none => rfl
    | some o => cases o <;> simp
  · simp only [Array.getElem?_modify, hb, if_false]
theorem set_far {w : World} {a : Addr} {u : Value} {b o T T' : Nat} (h : typ w b = some T) (k : typ w a.block = some T') (hT : T' ≠ T) : (w.setCell a u).cell? ⟨b, o, none⟩ = w.cell? ⟨b, o, none⟩ := by
  refine World.cell?_setCell_other _ _ _ _ (fun e => hT ?_)
  have e' : a.block = b := by rw [e]
  rw [e', h] at k
  exact (Option.some.inj k).symm

/-- An identity: 0, or two halves; 1 has two halves that are 0. -/
inductive IdT where
  | zero
  | node (l r : IdT)
def IdT.isOne : IdT → Bool
  | .node .zero .zero => true
  | _ => false
def IdAt (w : World) : Value → IdT → Prop
  | v, .zero => v = .pointer none
  | v, .node l r => ∃ b pl pr, v = .pointer (some ⟨b, 0, none⟩) ∧ w.cell? ⟨b, 0, none⟩ = some pl ∧ w.cell? ⟨b, 1, none⟩ = some pr ∧ IdAt w pl l ∧ IdAt w pr r ∧ typ w b = some 76
theorem IdAt.ext {w w' : World} (h : Ext w w') : ∀ {i : IdT} {v : Value}, IdAt w v i → IdAt w' v i
  | .zero, _, hv => hv
  | .node _ _, _, ⟨b, pl, pr, e, h0, h1, hl, hr, ht⟩ => ⟨b, pl, pr, e, h.cell h0, h.cell h1, IdAt.ext h hl, IdAt.ext h hr, h.typ ht⟩
/-- A store into a block of another type. -/
theorem IdAt.set {w : World} {a : Addr} {u : Value} {T : Nat} (k : typ w a.block = some T) (hT : T ≠ 76) : ∀ {i : IdT} {v : Value}, IdAt w v i → IdAt (w.setCell a u) v i
  | .zero, _, hv => hv
  | .node _ _, _, ⟨b, pl, pr, e, h0, h1, hl, hr, ht⟩ => ⟨b, pl, pr, e, by rw [set_far ht k hT]; exact h0, by rw [set_far ht k hT]; exact h1, IdAt.set k hT hl, IdAt.set k hT hr, by rw [typ_set]; exact ht⟩

/-- A number of 128 bits, as its two halves. -/
def hi (n : Nat) : Nat := n / 18446744073709551616
def lo (n : Nat) : Nat := n % 18446744073709551616
abbrev Wd (n : Nat) : Value := .agg #[.int .u64 (hi n), .int .u64 (lo n)]
theorem hi_lt (n : Nat) (h : n < 2 ^ 127) : hi n ≤ 9223372036854775807 := by unfold hi; omega
theorem lo_lt (n : Nat) : lo n ≤ 18446744073709551615 := by unfold lo; omega
theorem wide_ext {a b : Nat} (h : hi a = hi b) (h' : lo a = lo b) : a = b := by unfold hi at h; unfold lo at h'; omega
theorem lt_iff_wide (a b : Nat) : a < b ↔ (hi a < hi b ∨ (hi a = hi b ∧ lo a < lo b)) := by unfold hi lo; omega

/-- An event tree. -/
inductive EvT where
  | leaf (n : Nat)
  | node (n : Nat) (l r : EvT)
def EvT.n : EvT → Nat
  | .leaf n => n
  | .node n _ _ => n
def EvT.isLeaf : EvT → Bool
  | .leaf _ => true
  | .node _ _ _ => false
theorem EvT.n_leaf (n : Nat) : (EvT.leaf n).n = n := rfl
theorem EvT.n_node (n : Nat) (l r : EvT) : (EvT.node n l r).n = n := rfl
theorem EvT.isLeaf_leaf (n : Nat) : (EvT.leaf n).isLeaf = true := rfl
theorem EvT.isLeaf_node (n : Nat) (l r : EvT) : (EvT.node n l r).isLeaf = false := rfl
/-- The greatest value. -/
def EvT.top : EvT → Nat
  | .leaf n => n
  | .node n l r => n + max l.top r.top
theorem EvT.n_le_top : ∀ t : EvT, t.n ≤ t.top
  | .leaf _ => Nat.le_refl _
  | .node _ _ _ => Nat.le_add_right _ _
def EvAt (w : World) : Value → EvT → Prop
  | v, .leaf n => ∃ b, v = .pointer (some ⟨b, 0, none⟩) ∧ w.cell? ⟨b, 0, none⟩ = some (.int .u64 (hi n)) ∧ w.cell? ⟨b, 1, none⟩ = some (.int .u64 (lo n)) ∧
      w.cell? ⟨b, 2, none⟩ = some (.pointer none) ∧ w.cell? ⟨b, 3, none⟩ = some (.pointer none) ∧ typ w b = some 94
  | v, .node n l r => ∃ b pl pr, v = .pointer (some ⟨b, 0, none⟩) ∧ w.cell? ⟨b, 0, none⟩ = some (.int .u64 (hi n)) ∧ w.cell? ⟨b, 1, none⟩ = some (.int .u64 (lo n)) ∧
      w.cell? ⟨b, 2, none⟩ = some pl ∧ w.cell? ⟨b, 3, none⟩ = some pr ∧ EvAt w pl l ∧ EvAt w pr r ∧ typ w b = some 94
theorem EvAt.ext {w w' : World} (h : Ext w w') : ∀ {t : EvT} {v : Value}, EvAt w v t → EvAt w' v t
  | .leaf _, _, ⟨b, e, h0, h1, h2, h3, ht⟩ => ⟨b, e, h.cell h0, h.cell h1, h.cell h2, h.cell h3, h.typ ht⟩
  | .node _ _ _, _, ⟨b, pl, pr, e, h0, h1, h2, h3, hl, hr, ht⟩ => ⟨b, pl, pr, e, h.cell h0, h.cell h1, h.cell h2, h.cell h3, EvAt.ext h hl, EvAt.ext h hr, h.typ ht⟩
theorem EvAt.set {w : World} {a : Addr} {u : Value} {T : Nat} (k : typ w a.block = some T) (hT : T ≠ 94) : ∀ {t : EvT} {v : Value}, EvAt w v t → EvAt (w.setCell a u) v t
  | .leaf _, _, ⟨b, e, h0, h1, h2, h3, ht⟩ => ⟨b, e, by rw [set_far ht k hT]; exact h0, by rw [set_far ht k hT]; exact h1, by rw [set_far ht k hT]; exact h2, by rw [set_far ht k hT]; exact h3, by rw [typ_set]; exact ht⟩
  | .node _ _ _, _, ⟨b, pl, pr, e, h0, h1, h2, h3, hl, hr, ht⟩ => ⟨b, pl, pr, e, by rw [set_far ht k hT]; exact h0, by rw [set_far ht k hT]; exact h1, by rw [set_far ht k hT]; exact h2, by rw [set_far ht k hT]; exact h3, EvAt.set k hT hl, EvAt.set k hT hr, by rw [typ_set]; exact ht⟩
/-- What every event tree has: its number, and its two pointers. -/
theorem EvAt.root {w : World} : ∀ {t : EvT} {v : Value}, EvAt w v t → ∃ b pl pr, v = .pointer (some ⟨b, 0, none⟩) ∧ w.cell? ⟨b, 0, none⟩ = some (.int .u64 (hi t.n)) ∧
    w.cell? ⟨b, 1, none⟩ = some (.int .u64 (lo t.n)) ∧ w.cell? ⟨b, 2, none⟩ = some pl ∧ w.cell? ⟨b, 3, none⟩ = some pr ∧ b < w.heap.size
  | .leaf _, _, ⟨b, e, h0, h1, h2, h3, _⟩ => ⟨b, _, _, e, h0, h1, h2, h3, World.block_lt_of_cell? w _ h0⟩
  | .node _ _ _, _, ⟨b, pl, pr, e, h0, h1, h2, h3, _, _, _⟩ => ⟨b, pl, pr, e, h0, h1, h2, h3, World.block_lt_of_cell? w _ h0⟩

def EvT.withN (t : EvT) (m : Nat) : EvT := match t with
  | .leaf _ => .leaf m
  | .node _ l r => .node m l r
/-- The two pointers of a node. -/
def Kids (w : World) (t : EvT) (pl pr : Value) : Prop := match t with
  | .leaf _ => pl = .pointer none ∧ pr = .pointer none
  | .node _ l r => EvAt w pl l ∧ EvAt w pr r
theorem EvAt.kids {w : World} {t : EvT} {v : Value} (h : EvAt w v t) : ∃ b ql qr, v = .pointer (some ⟨b, 0, none⟩) ∧ w.cell? ⟨b, 0, none⟩ = some (.int .u64 (hi t.n)) ∧
    w.cell? ⟨b, 1, none⟩ = some (.int .u64 (lo t.n)) ∧ w.cell? ⟨b, 2, none⟩ = some (.pointer ql) ∧ w.cell? ⟨b, 3, none⟩ = some (.pointer qr) ∧ b < w.heap.size ∧ Kids w t (.pointer ql) (.pointer qr) := by
  cases t with
  | leaf n => obtain ⟨b, e, h0, h1, h2, h3, _⟩ := h; exact ⟨b, _, _, e, h0, h1, h2, h3, World.block_lt_of_cell? w _ h0, rfl, rfl⟩
  | node n l r =>
    obtain ⟨b, pl, pr, e, h0, h1, h2, h3, hl, hr, _⟩ := h
    obtain ⟨b1, _, _, rfl, _⟩ := hl.root
    obtain ⟨b2, _, _, rfl, _⟩ := hr.root
    exact ⟨b, _, _, e, h0, h1, h2, h3, World.block_lt_of_cell? w _ h0, hl, hr⟩
theorem EvAt.of_kids {w : World} {t : EvT} {b : Nat} {pl pr : Value} {m : Nat} (h0 : w.cell? ⟨b, 0, none⟩ = some (.int .u64 (hi m))) (h1 : w.cell? ⟨b, 1, none⟩ = some (.int .u64 (lo m)))
    (h2 : w.cell? ⟨b, 2, none⟩ = some pl) (h3 : w.cell? ⟨b, 3, none⟩ = some pr) (k : Kids w t pl pr) (ht : typ w b = some 94) : EvAt w (.pointer (some ⟨b, 0, none⟩)) (t.withN m) := by
  cases t with
  | leaf n => obtain ⟨rfl, rfl⟩ := k; exact ⟨b, rfl, h0, h1, h2, h3, ht⟩
  | node n l r => exact ⟨b, pl, pr, rfl, h0, h1, h2, h3, k.1, k.2, ht⟩
theorem Kids.ext {w w' : World} (h : Ext w w') {t : EvT} {pl pr : Value} (k : Kids w t pl pr) : Kids w' t pl pr := by
  cases t with
  | leaf n => exact k
  | node n l r => exact ⟨k.1.ext h, k.2.ext h⟩

theorem new_at (w : World) (c : Array Value) (T o : Nat) (v : Value) (h : c[o]? = some v) : (w.alloc (.cells c T)).cell? ⟨w.heap.size, o, none⟩ = some v := by
  unfold World.cell?; rw [heap_alloc_new]; simpa using h
theorem ev_new {w : World} {t : EvT} {pl pr : Value} (m : Nat) (k : Kids w t pl pr) :
    EvAt (w.alloc (.cells #[.int .u64 (hi m), .int .u64 (lo m), pl, pr] 94)) (.pointer (some ⟨w.heap.size, 0, none⟩)) (t.withN m) :=
  EvAt.of_kids (new_at _ _ _ _ _ rfl) (new_at _ _ _ _ _ rfl) (new_at _ _ _ _ _ rfl) (new_at _ _ _ _ _ rfl) (k.ext ((Ext.refl w).alloc _)) (typ_new _ _ _)
theorem ev_leaf_new (w : World) (m : Nat) : EvAt (w.alloc (.cells #[.int .u64 (hi m), .int .u64 (lo m), .pointer none, .pointer none] 94)) (.pointer (some ⟨w.heap.size, 0, none⟩)) (.leaf m) :=
  ev_new (t := .leaf m) m ⟨rfl, rfl⟩
theorem ev_node_new {w : World} {l r : EvT} {pl pr : Value} (m : Nat) (hl : EvAt w pl l) (hr : EvAt w pr r) :
    EvAt (w.alloc (.cells #[.int .u64 (hi m), .int .u64 (lo m), pl, pr] 94)) (.pointer (some ⟨w.heap.size, 0, none⟩)) (.node m l r) :=
  ev_new (t := .node m l r) m ⟨hl, hr⟩
theorem ev_zero_new_at {w : World} {n : Nat} (hn : n = w.heap.size) : EvAt (w.alloc (.cells #[.int .u64 0, .int .u64 0, .pointer none, .pointer none] 94)) (.pointer (some ⟨n, 0, none⟩)) (.leaf 0) := by
  subst hn; exact ev_leaf_new w 0
theorem ev_node_new_at {w : World} {n : Nat} {l r : EvT} {pl pr : Value} {m : Nat} (hn : n = w.heap.size) (hl : EvAt w pl l) (hr : EvAt w pr r) :
    EvAt (w.alloc (.cells #[.int .u64 (hi m), .int .u64 (lo m), pl, pr] 94)) (.pointer (some ⟨n, 0, none⟩)) (.node m l r) := by subst hn; exact ev_node_new m hl hr
theorem id_new {w : World} {l r : IdT} {pl pr : Value} (hl : IdAt w pl l) (hr : IdAt w pr r) :
    IdAt (w.alloc (.cells #[pl, pr] 76)) (.pointer (some ⟨w.heap.size, 0, none⟩)) (.node l r) :=
  ⟨_, _, _, rfl, new_at _ _ _ _ _ rfl, new_at _ _ _ _ _ rfl, hl.ext ((Ext.refl w).alloc _), hr.ext ((Ext.refl w).alloc _), typ_new _ _ _⟩
theorem id_new_at {w : World} {n : Nat} {l r : IdT} {pl pr : Value} (hn : n = w.heap.size) (hl : IdAt w pl l) (hr : IdAt w pr r) :
    IdAt (w.alloc (.cells #[pl, pr] 76)) (.pointer (some ⟨n, 0, none⟩)) (.node l r) := by subst hn; exact id_new hl hr
theorem IdAt.alloc {w : World} {v : Value} {i : IdT} (h : IdAt w v i) (o : Obj) : IdAt (w.alloc o) v i := h.ext (by simp)
theorem EvAt.alloc {w : World} {v : Value} {i : EvT} (h : EvAt w v i) (o : Obj) : EvAt (w.alloc o) v i := h.ext (by simp)
/-- The normal form of a number with two halves. -/
def pairF (n : Nat) (a b : EvT) : EvT :=
  if a.isLeaf && b.isLeaf && a.n == b.n then .leaf (n + a.n) else .node (n + min a.n b.n) (a.withN (a.n - min a.n b.n)) (b.withN (b.n - min a.n b.n))
def EvT.fits : EvT → Bool
  | .leaf n => decide (n ≤ 4611686018427387904)
  | .node n l r => decide (n ≤ 4611686018427387904) && (l.fits && r.fits)
def EvT.same : EvT → EvT → Bool
  | .leaf n, .leaf m => n == m
  | .node n l r, .node m l' r' => n == m && (l.same l' && r.same r')
  | _, _ => false

theorem EvAt.node_parts {w : World} {v : Value} {n : Nat} {l r : EvT} (h : EvAt w v (.node n l r)) : ∃ b bl br, v = .pointer (some ⟨b, 0, none⟩) ∧ w.cell? ⟨b, 0, none⟩ = some (.int .u64 (hi n)) ∧
    w.cell? ⟨b, 1, none⟩ = some (.int .u64 (lo n)) ∧ w.cell? ⟨b, 2, none⟩ = some (.pointer (some ⟨bl, 0, none⟩)) ∧ w.cell? ⟨b, 3, none⟩ = some (.pointer (some ⟨br, 0, none⟩)) ∧ b < w.heap.size ∧
    EvAt w (.pointer (some ⟨bl, 0, none⟩)) l ∧ EvAt w (.pointer (some ⟨br, 0, none⟩)) r := by
  obtain ⟨b, pl, pr, e, h0, h1, h2, h3, hl, hr, _⟩ := h
  obtain ⟨b1, _, _, rfl, _⟩ := hl.root
  obtain ⟨b2, _, _, rfl, _⟩ := hr.root
  exact ⟨b, b1, b2, e, h0, h1, h2, h3, World.block_lt_of_cell? w _ h0, hl, hr⟩
theorem IdAt.ptr {w : World} {i : IdT} {v : Value} (h : IdAt w v i) : ∃ q, v = .pointer q := by
  cases i with
  | zero => exact ⟨_, h⟩
  | node l r => obtain ⟨b, _, _, e, _⟩ := h; exact ⟨_, e⟩
theorem IdAt.node_parts {w : World} {v : Value} {l r : IdT} (h : IdAt w v (.node l r)) : ∃ b ql qr, v = .pointer (some ⟨b, 0, none⟩) ∧ w.cell? ⟨b, 0, none⟩ = some (.pointer ql) ∧
    w.cell? ⟨b, 1, none⟩ = some (.pointer qr) ∧ b < w.heap.size ∧ IdAt w (.pointer ql) l ∧ IdAt w (.pointer qr) r := by
  obtain ⟨b, pl, pr, e, h0, h1, hl, hr, _⟩ := h
  obtain ⟨ql, rfl⟩ := hl.ptr
  obtain ⟨qr, rfl⟩ := hr.ptr
  exact ⟨b, ql, qr, e, h0, h1, World.block_lt_of_cell? w _ h0, hl, hr⟩
/-- Two cells that can be written. -/
def Box2 (w : World) (b : Nat) : Prop := (∃ x, w.cell? ⟨b, 0, none⟩ = some x) ∧ (∃ x, w.cell? ⟨b, 1, none⟩ = some x) ∧ w.frozen? ⟨b, 0, none⟩ = false ∧ w.frozen? ⟨b, 1, none⟩ = false
theorem Box2.ext {w w' : World} {b : Nat} (h : Ext w w') (k : Box2 w b) : Box2 w' b := by
  obtain ⟨⟨x, hx⟩, ⟨y, hy⟩, f0, f1⟩ := k
  exact ⟨⟨x, h.cell hx⟩, ⟨y, h.cell hy⟩, by rw [Below.frozen h (World.block_lt_of_cell? w _ hx)]; exact f0, by rw [Below.frozen h (World.block_lt_of_cell? w _ hy)]; exact f1⟩
theorem Box2.new (w : World) (x y : Value) (T : Nat) : Box2 (w.alloc (.cells #[x, y] T)) w.heap.size :=
  ⟨⟨x, new_at _ _ _ _ _ rfl⟩, ⟨y, new_at _ _ _ _ _ rfl⟩, by simp, by simp⟩
theorem Box2.drew {w : World} {b : Nat} (k : Box2 w b) : Box2 w.drew b := k
theorem Box2.set {w : World} {b : Nat} (k : Box2 w b) (p : Addr) (u : Value) : Box2 (w.setCell p u) b := by
  obtain ⟨⟨x, hx⟩, ⟨y, hy⟩, f0, f1⟩ := k
  obtain ⟨x', hx'⟩ := cell?_setCell_some (w := w) (p := p) (x := u) (q := ⟨b, 0, none⟩) hx
  obtain ⟨y', hy'⟩ := cell?_setCell_some (w := w) (p := p) (x := u) (q := ⟨b, 1, none⟩) hy
  exact ⟨⟨x', hx'⟩, ⟨y', hy'⟩, by simpa using f0, by simpa using f1⟩
theorem quietOf {P : Program} {f : FuncId} {args : Array Value} {w W : World} {n : Nat} {v : Value} (h : ∀ w', Ext W w' → Calls P f args w' fun e w'' => e = .returned v ∧ w' = w'') (hx : Ext W w) :
    Calls P f args (w.drewN n) fun e w'' => e = .returned v ∧ ∃ m, w'' = w.drewN m := (h _ (hx.drewN n)).mono fun _ _ h => ⟨h.1, n, h.2.symm⟩
theorem EvAt.ptr {w : World} {t : EvT} {v : Value} (h : EvAt w v t) : ∃ b, v = .pointer (some ⟨b, 0, none⟩) := let ⟨b, _, _, e, _⟩ := h.root; ⟨b, e⟩
/-- A world behind some draws, under a letter. -/
theorem letter0 {w w0 : World} {k : Nat} (h : w.drewN k = w0) : Ext w w0 ∧ (∀ a, w0.cell? a = w.cell? a) ∧ Hid (w0 = w.drewN k) := by
  subst h
  exact ⟨by simp, fun _ => rfl, rfl⟩
/-- A new block of two cells, under a letter for the world: what is known of it. -/
theorem letter2 {w w0 : World} {x y : Value} {T k : Nat} (h : (w.alloc (.cells #[x, y] T)).drewN k = w0) : Ext w w0 ∧ w0.cell? ⟨w.heap.size, 0, none⟩ = some x ∧ w0.cell? ⟨w.heap.size, 1, none⟩ = some y ∧ w.heap.size < w0.heap.size ∧
    w0.frozen? ⟨w.heap.size, 0, none⟩ = false ∧ w0.frozen? ⟨w.heap.size, 1, none⟩ = false := by
  subst h
  exact ⟨by simp, by simp, by simp, by simp, by simp, by simp⟩
theorem set_other {w : World} {a b : Addr} {v : Value} (h : a ≠ b) : (w.setCell a v).cell? b = w.cell? b := by apply World.cell?_setCell_other; exact h
theorem set_same {w : World} {a : Addr} {v u : Value} (h : w.cell? a = some u) : (w.setCell a v).cell? a = some v := by apply World.cell?_setCell_same; exact h
theorem four_sets {w : World} {g g' : Nat} {x0 x1 y0 y1 : Value} (hne : g ≠ g') (k0 : w.cell? ⟨g, 0, none⟩ = some x0) (k1 : w.cell? ⟨g, 1, none⟩ = some x1) (k0' : w.cell? ⟨g', 0, none⟩ = some y0) (k1' : w.cell? ⟨g', 1, none⟩ = some y1) (a b c d : Value) :
    ((((w.setCell ⟨g, 0, none⟩ a).setCell ⟨g, 1, none⟩ b).setCell ⟨g', 0, none⟩ c).setCell ⟨g', 1, none⟩ d).cell? ⟨g, 0, none⟩ = some a ∧
    ((((w.setCell ⟨g, 0, none⟩ a).setCell ⟨g, 1, none⟩ b).setCell ⟨g', 0, none⟩ c).setCell ⟨g', 1, none⟩ d).cell? ⟨g, 1, none⟩ = some b ∧
    ((((w.setCell ⟨g, 0, none⟩ a).setCell ⟨g, 1, none⟩ b).setCell ⟨g', 0, none⟩ c).setCell ⟨g', 1, none⟩ d).cell? ⟨g', 0, none⟩ = some c ∧
    ((((w.setCell ⟨g, 0, none⟩ a).setCell ⟨g, 1, none⟩ b).setCell ⟨g', 0, none⟩ c).setCell ⟨g', 1, none⟩ d).cell? ⟨g', 1, none⟩ = some d := by
  have e1 : (⟨g, 0, none⟩ : Addr) ≠ ⟨g, 1, none⟩ := by simp
  have e2 : (⟨g', 0, none⟩ : Addr) ≠ ⟨g', 1, none⟩ := by simp
  have e3 : ∀ i j, (⟨g', i, none⟩ : Addr) ≠ ⟨g, j, none⟩ := fun i j h => hne (congrArg Addr.block h).symm
  have q0 : ((w.setCell ⟨g, 0, none⟩ a).setCell ⟨g, 1, none⟩ b).cell? ⟨g', 0, none⟩ = some y0 := by
    rw [set_other (Ne.symm (e3 _ _)), set_other (Ne.symm (e3 _ _))]; exact k0'
  have q1 : ((w.setCell ⟨g, 0, none⟩ a).setCell ⟨g, 1, none⟩ b).cell? ⟨g', 1, none⟩ = some y1 := by
    rw [set_other (Ne.symm (e3 _ _)), set_other (Ne.symm (e3 _ _))]; exact k1'
  refine ⟨?_, ?_, ?_, ?_⟩
  · rw [set_other (e3 _ _), set_other (e3 _ _), set_other (Ne.symm e1), set_same k0]
  · rw [set_other (e3 _ _), set_other (e3 _ _), set_same (by rw [set_other e1]; exact k1)]
  · rw [set_other (Ne.symm e2), set_same q0]
  · rw [set_same (by rw [set_other e2]; exact q1)]
/-- The operation at a place of a region that is written out. -/
theorem oper_at {l : List Oper} {i : Nat} {o : Oper} (h : l[i]? = some o) : l.toArray[i]? = some o := by simpa using h
/-- Results: what a call returns, and that memory has only grown. -/
def RetW (n : Nat) (w : World) (e : Ending) (w' : World) : Prop := e = .returned (Wd n) ∧ Ext w w'
def RetB (b : Bool) (w : World) (e : Ending) (w' : World) : Prop := e = .returned (.bool b) ∧ Ext w w'
def RetN (n : Nat) (w : World) (e : Ending) (w' : World) : Prop := e = .returned (.int .i64 n) ∧ Ext w w'
def RetI (i : IdT) (w : World) (e : Ending) (w' : World) : Prop := ∃ v, e = .returned v ∧ IdAt w' v i ∧ Ext w w'
def RetE (t : EvT) (w : World) (e : Ending) (w' : World) : Prop := ∃ v, e = .returned v ∧ EvAt w' v t ∧ Ext w w'
theorem ret_intn {k : IntKind} {a b : Int} (h : a = b) : Ending.returned (.int k a) = .returned (.int k b) := by rw [h]
end Go.Proofs.YtjeclmmikjpinaaDoor.I
