/- Appends at a base; arrivals of the call's own; the walk over Send. -/
import Derived.Test.YtjedhndhdkiidaaDoorNX
namespace Go.Proofs.YtjedhndhdkiidaaDoor
open Go.RowKit
open Go.ChangeMaps (setBlock)
attribute [local go_sem ↓] Go.wp_at_zero Go.wp_at_succ
/-- A world's first blocks. -/
def trunc (w : World) (m : Nat) : World := { w with heap := w.heap.extract 0 m }
theorem trunc_size {w : World} {m : Nat} (h : m ≤ w.heap.size) : (trunc w m).heap.size = m := by simp [trunc]; omega
theorem trunc_ext {w : World} {m : Nat} (h : m ≤ w.heap.size) : Ext (trunc w m) w := by
  refine ⟨rfl, rfl, rfl, by rw [trunc_size h]; exact h, fun k hk => ?_⟩
  rw [trunc_size h] at hk
  show w.heap[k]? = (w.heap.extract 0 m)[k]?
  rw [Array.getElem?_extract, if_pos (by omega)]
  simp
section
variable {ops : Array Oper} {o : Oper} {a : Act} {Q : Exit → Act → World → Prop} {K : Act → World → Prop} {E : Prop} {w : World} {t e s n B : Nat} {z : Value}
theorem wappB {rest : List Oper} (el : El t e z s n) (hgd : o.guard = none) (p x : Operand) (ho : o.op = .call { callee := .builtin .append, args := #[p, x], argTypes := #[t, t] }) {v : Value} {vs us : List (List Value)} (hs : a.eval p = v) (hB : B ≤ w.heap.size) (hrow : Row s w B e v vs)
    {A : Option Addr} {c m : Nat} (hx : a.eval x = .slice A m c) (hn : m = us.length) (hw : Wide s us) (hy : VsAt w A us.flatten) (h1 : ∀ u ∈ us.flatten, u.oneCell' = true) (hm : (vs.length + us.length) * n ≤ 140737488355328) (hm2 : vs.length + us.length ≤ 1000000000000000)
    (h : ∀ v' w', Row s w' B e v' (vs ++ us) → w.grownBy w' v.ownBlock → (v'.ownBlock = v.ownBlock ∨ v'.ownBlock = some w.heap.size) → wpList Tryd.prog ops Q rest (a.put o.dst v') w') :
    wpList Tryd.prog ops Q (o :: rest) a w := by
  refine wapp el hgd p x ho hs (w5 := trunc w B) (trunc_ext hB) (by rw [trunc_size hB]; exact hrow) hx hn hw hy h1 hm hm2 fun v' w' k1 _ k3 k4 => h v' w' ?_ k3 k4
  rw [trunc_size hB] at k1
  exact k1
theorem sappB (el : El t e z s n) (hgd : o.guard = none) (p x : Operand) (ho : o.op = .call { callee := .builtin .append, args := #[p, x], argTypes := #[t, t] }) {v : Value} {vs us : List (List Value)} (hs : a.eval p = v) (hB : B ≤ w.heap.size) (hrow : Row s w B e v vs)
    {A : Option Addr} {c m : Nat} (hx : a.eval x = .slice A m c) (hn : m = us.length) (hw : Wide s us) (hy : VsAt w A us.flatten) (h1 : ∀ u ∈ us.flatten, u.oneCell' = true) (hm : (vs.length + us.length) * n ≤ 140737488355328) (hm2 : vs.length + us.length ≤ 1000000000000000)
    (h : ∀ v' w', Row s w' B e v' (vs ++ us) → w.grownBy w' v.ownBlock → (v'.ownBlock = v.ownBlock ∨ v'.ownBlock = some w.heap.size) → K (a.put o.dst v') w') :
    if Region.wanted o (yielded ops a.tmps) = true then Oper.wp Tryd.prog o a w K Q else E := by
  refine sapp el hgd p x ho hs (w5 := trunc w B) (trunc_ext hB) (by rw [trunc_size hB]; exact hrow) hx hn hw hy h1 hm hm2 fun v' w' k1 _ k3 k4 => h v' w' ?_ k3 k4
  rw [trunc_size hB] at k1
  exact k1
end
end Go.Proofs.YtjedhndhdkiidaaDoor
