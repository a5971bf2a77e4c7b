/- The walks over the functions on identities: whole, join, depth, split, sum, equal. -/
import Derived.Test.YtjeclmmikjpinaaDoorK0
import Derived.Deep.QuietTactic
import Derived.BigQuiet
import Derived.BigRegion
import Derived.Deep.RegionHeld3
import Derived.Deep.DrawnRows
namespace Go.Proofs.YtjeclmmikjpinaaDoor.I
open Go.RowKit
attribute [local go_sem ↓] Go.wp_at_zero Go.wp_at_succ
def IdT.one : IdT := .node .zero .zero
def IdT.isZero : IdT → Bool
  | .zero => true
  | .node _ _ => false
def IdT.depth : IdT → Nat
  | .zero => 0
  | .node l r => if IdT.isOne (.node l r) then 0 else 1 + max l.depth r.depth
def IdT.joinF (a b : IdT) : IdT :=
  if a.isZero && b.isZero then .zero else if a.isOne && b.isOne then .one else .node a b
def IdT.split : IdT → IdT × IdT
  | .zero => (.zero, .zero)
  | .node .zero .zero => (.node .one .zero, .node .zero .one)
  | .node .zero r => (.node .zero (IdT.split r).1, .node .zero (IdT.split r).2)
  | .node l .zero => (.node (IdT.split l).1 .zero, .node (IdT.split l).2 .zero)
  | .node l r => (.node l .zero, .node .zero r)
def IdT.sum : IdT → IdT → Option IdT
  | .zero, b => some b
  | a, .zero => some a
  | .node l r, .node l' r' => if IdT.isOne (.node l r) || IdT.isOne (.node l' r') then none else
      match IdT.sum l l' with
      | none => none
      | some x => match IdT.sum r r' with
        | none => none
        | some y => some (x.joinF y)
def IdT.same : IdT → IdT → Bool
  | .zero, .zero => true
  | .node l r, .node l' r' => l.same l' && r.same r'
  | _, _ => false
theorem IdT.isOne_node_left (l r r' : IdT) : (IdT.node (.node l r) r').isOne = false := by cases r' <;> rfl
theorem IdT.isOne_node_right (l r l' : IdT) : (IdT.node l' (.node l r)).isOne = false := by cases l' <;> rfl
set_option maxHeartbeats 400000 in
theorem whole_any (i : IdT) (v : Value) (w : World) (h : IdAt w v i) : Calls Tryd.prog 49 #[v] w fun e w' => e = .returned (.bool i.isOne) ∧ w = w' := by
  match i, h with
  | .zero, h =>
    obtain rfl := h
    go_enter Tryd.func49, Tryd.ntmps49
    go_wp2
    go_ret
    exact ⟨rfl, rfl⟩
  | .node .zero .zero, h =>
    obtain ⟨b, pl, pr, rfl, h0, h1, rfl, rfl, -⟩ := h
    go_enter Tryd.func49, Tryd.ntmps49
    go_wp2
    go_ret
    exact ⟨rfl, rfl⟩
  | .node (.node _ _) r, h =>
    obtain ⟨b, pl, pr, rfl, h0, h1, ⟨b1, _, _, rfl, _, _, _⟩, _⟩ := h
    go_enter Tryd.func49, Tryd.ntmps49
    go_wp2
    go_ret
    exact ⟨by rw [IdT.isOne_node_left]; rfl, rfl⟩
  | .node .zero (.node _ _), h =>
    obtain ⟨b, pl, pr, rfl, h0, h1, rfl, ⟨b1, _, _, rfl, _, _, _⟩, -⟩ := h
    go_enter Tryd.func49, Tryd.ntmps49
    go_wp2
    go_ret
    exact ⟨rfl, rfl⟩
/-- A pointer of an identity, and whether it is nil. -/
theorem IdAt.zero_or {w : World} {i : IdT} {v : Value} (h : IdAt w v i) : (i = .zero ∧ v = .pointer none) ∨ (i.isZero = false ∧ ∃ b, v = .pointer (some ⟨b, 0, none⟩)) := by
  cases i with
  | zero => exact .inl ⟨rfl, h⟩
  | node l r => obtain ⟨b, _, _, e, _⟩ := h; exact .inr ⟨rfl, b, e⟩
set_option maxHeartbeats 1000000 in
theorem join_any (i j : IdT) (v u : Value) (w : World) (h : IdAt w v i) (k : IdAt w u j) : Calls Tryd.prog 55 #[v, u] w (RetI (i.joinF j) w) := by
  have WA := Lib.hid (whole_any _ _ w h)
  have WB := Lib.hid (whole_any _ _ w k)
  have HI := Lib.hid h
  have HJ := Lib.hid k
  have F : Hid (∀ x, i.joinF j = x ↔ (if i.isZero && j.isZero then IdT.zero else if i.isOne && j.isOne then .one else .node i j) = x) := fun x => Iff.rfl
  rcases h.zero_or with ⟨rfl, rfl⟩ | ⟨hz, b, rfl⟩ <;> rcases k.zero_or with ⟨rfl, rfl⟩ | ⟨hz', b', rfl⟩
  · go_enter Tryd.func55, Tryd.ntmps55
    go_wp2_with fail
    go_ret
    exact ⟨_, rfl, rfl, by simp⟩
  · go_enter Tryd.func55, Tryd.ntmps55
    go_wp2_with fail
    refine WA.out.mono ?_
    rintro e w1 ⟨rfl, rfl⟩
    simp only [IdT.isOne]
    go_wp2_with fail
    go_ret
    refine ⟨_, rfl, ?_, by simp⟩
    rw [IdT.joinF, hz']
    exact id_new HI.out HJ.out
  · cases h1 : i.isOne <;>
    · rw [h1] at WA
      go_enter Tryd.func55, Tryd.ntmps55
      go_wp2_with (first
        | (go_at_call_of 49 (Value.pointer (some ⟨b, 0, none⟩)); refine WA.out.mono ?_; rintro e w1 ⟨rfl, rfl⟩)
        | (go_at_call_of 49 (Value.pointer none); refine WB.out.mono ?_; rintro e w1 ⟨rfl, rfl⟩; simp only [IdT.isOne]))
      go_ret
      refine ⟨_, rfl, ?_, by simp⟩
      rw [IdT.joinF, hz, h1]
      exact id_new HI.out HJ.out
  · cases h1 : i.isOne <;> cases h2 : j.isOne <;>
    · rw [h1] at WA
      rw [h2] at WB
      go_enter Tryd.func55, Tryd.ntmps55
      go_wp2_with (first
        | (go_at_call_of 49 (Value.pointer (some ⟨b, 0, none⟩)); refine WA.out.mono ?_; rintro e w1 ⟨rfl, rfl⟩)
        | (go_at_call_of 49 (Value.pointer (some ⟨b', 0, none⟩)); refine WB.out.mono ?_; rintro e w1 ⟨rfl, rfl⟩))
      go_ret
      refine ⟨_, rfl, ?_, by simp⟩
      rw [IdT.joinF, hz, h1, h2]
      first | exact id_new HI.out HJ.out | exact id_new (l := .zero) (r := .zero) rfl rfl
end Go.Proofs.YtjeclmmikjpinaaDoor.I
