/- Memory that has only grown; slices of elements of s cells that are read; rows of a call's own; the laws of appends. -/
import Derived.Test.YtjeclmmikjpinaaDoorProg
import Derived.WalkKit
import Derived.WalkSpells
import Derived.WalkLawsBesides
import Derived.Lib.Hide
import Derived.Outline
import Derived.IntWalk
import Derived.Deep.AppendLies
import Derived.Deep.QuietTactic
import Derived.BigQuiet
import Derived.BigRegion
import Derived.Deep.RegionHeld3
import Derived.Deep.DrawnRows
import Derived.Deep.DeepCutAuto
import Derived.Laws.Rows
import Derived.Laws.CopyRow
import Derived.Laws.ResultCell
import Derived.Laws.IdiomRangeMap
import Derived.WideMake
import Derived.Sort.Grow
namespace Go.Proofs.YtjeclmmikjpinaaDoor
open Go.RowKit
/-- Memory has only grown: what was there is as it was. -/
def Ext (w w' : World) : Prop := Below w.heap.size w w'
theorem Ext.refl (w : World) : Ext w w := Below.refl _ _
theorem Ext.trans {a b c : World} (h : Ext a b) (k : Ext b c) : Ext a c := Below.trans h (Below.mono k h.size)
theorem Ext.alloc {a w : World} (h : Ext a w) (o : Obj) : Ext a (w.alloc o) := Below.alloc h h.size o
theorem Ext.drew {a w : World} (h : Ext a w) : Ext a w.drew := Below.drew h
theorem Ext.drewN {a w : World} (h : Ext a w) (n : Nat) : Ext a (w.drewN n) := ⟨h.os, h.tape, h.output, h.size, h.block⟩
attribute [simp] Ext.refl Ext.alloc Ext.drew Ext.drewN
theorem Ext.size {a w : World} (h : Ext a w) : a.heap.size ≤ w.heap.size := Below.size h
theorem Ext.set {a w : World} (h : Ext a w) {p : Addr} (hp : a.heap.size ≤ p.block) (u : Value) : Ext a (w.setCell p u) := Below.setCell h hp u
theorem Ext.cell {w w' : World} (h : Ext w w') {p : Addr} {v : Value} (hc : w.cell? p = some v) : w'.cell? p = some v := by
  rw [Below.cell h (World.block_lt_of_cell? w _ hc)]; exact hc
theorem Ext.cells {w w' : World} (h : Ext w w') : ∀ b o, b < w.heap.size → w'.cell? ⟨b, o, none⟩ = w.cell? ⟨b, o, none⟩ := fun b o hb => Below.cell h (p := ⟨b, o, none⟩) hb
theorem Ext.both {w w' : World} (h : Ext w w') : (∀ b o, b < w.heap.size → w'.cell? ⟨b, o, none⟩ = w.cell? ⟨b, o, none⟩) ∧ (∀ b o, b < w.heap.size → w'.frozen? ⟨b, o, none⟩ = w.frozen? ⟨b, o, none⟩) :=
  ⟨fun _ _ hb => Below.cell h hb, fun _ _ hb => Below.frozen h hb⟩
theorem Ext.lt {w w' : World} (h : Ext w w') : ∀ a, a < w.heap.size → a < w'.heap.size := fun _ k => Nat.lt_of_lt_of_le k h.size
theorem Ext.held {w w' : World} (h : Ext w w') : Ext w w' ∧ ∀ b o, b < w.heap.size → w'.cell? ⟨b, o, none⟩ = w.cell? ⟨b, o, none⟩ := ⟨h, h.cells⟩
theorem ext_grow {w w1 w2 : World} {row : Option Nat} (h : Ext w w1) (hg : w1.grownBy w2 row) (hr : ∀ k, row = some k → w.heap.size ≤ k) : Ext w w2 := Below.grown h hg h.size hr
theorem ext_of_grown {w w' : World} (h : w.grownBy w' none) : Ext w w' := ⟨h.os, h.tape, h.output, h.size, fun k hk => h.block k hk (by simp)⟩
/-- Cells that read as these values, nil let in. -/
def VsAt (w : World) (A : Option Addr) (vs : List Value) : Prop := 0 < vs.length → ∃ b o : Nat, A = some ⟨b, o, none⟩ ∧ b < w.heap.size ∧ ∀ j u, vs[j]? = some u → w.cell? ⟨b, o + j, none⟩ = some u
theorem addE {g o j : Nat} : (⟨g, o, none⟩ : Addr).add j = ⟨g, o + j, none⟩ := by
  unfold Addr.add
  split <;> simp_all
theorem VsAt.ext {w w' : World} {A : Option Addr} {vs : List Value} (h : VsAt w A vs) (k : Ext w w') : VsAt w' A vs := fun h0 => by
  obtain ⟨b, o, e, hb, hc⟩ := h h0
  exact ⟨b, o, e, k.lt _ hb, fun j b hj => k.cell (hc j b hj)⟩
theorem VsAt.nil (w : World) (A : Option Addr) : VsAt w A [] := fun h => absurd h (by simp)
/-- All elements have s cells. -/
def Wide (s : Nat) (es : List (List Value)) : Prop := ∀ x ∈ es, x.length = s
theorem Wide.flat {s : Nat} : ∀ {es : List (List Value)}, Wide s es → es.flatten.length = es.length * s
  | [], _ => by simp
  | x :: es, h => by
    rw [List.flatten_cons, List.length_append, Wide.flat (fun y hy => h y (by simp [hy])), h x (by simp), List.length_cons, Nat.succ_mul]
    omega
theorem Wide.at_ {s : Nat} : ∀ {es : List (List Value)}, Wide s es → ∀ {j i : Nat}, j < es.length → i < s → es.flatten[j * s + i]? = (es.getD j [])[i]?
  | [], _, j, i, hj, _ => by simp at hj
  | x :: es, h, j, i, hj, hi => by
    have hx := h x (by simp)
    cases j with
    | zero => rw [List.flatten_cons, List.getElem?_append_left (by rw [hx]; omega)]; simp
    | succ j =>
      rw [List.flatten_cons, List.getElem?_append_right (by rw [hx, Nat.succ_mul]; omega), hx, show (j + 1) * s + i - s = j * s + i by rw [Nat.succ_mul]; omega,
        Wide.at_ (fun y hy => h y (by simp [hy])) (by simp at hj; omega) hi]
      rfl
theorem Wide.app {s : Nat} {a b : List (List Value)} (h : Wide s a) (k : Wide s b) : Wide s (a ++ b) := fun x hx => by
  rcases List.mem_append.1 hx with h1 | h1
  · exact h x h1
  · exact k x h1
theorem Wide.nil (s : Nat) : Wide s [] := fun x hx => by cases hx
theorem Wide.one {s : Nat} {x : List Value} (h : x.length = s) : Wide s [x] := fun y hy => by rw [List.mem_singleton.1 hy]; exact h
theorem Wide.map {α : Type} {s : Nat} {f : α → List Value} (h : ∀ x, (f x).length = s) (l : List α) : Wide s (l.map f) := fun y hy => by
  obtain ⟨x, _, rfl⟩ := List.mem_map.1 hy
  exact h x
/-- A slice that reads as these elements of s cells. -/
structure SlAt (s : Nat) (w : World) (v : Value) (es : List (List Value)) : Prop where
  at_ : ∃ A c, v = .slice A es.length c ∧ es.length ≤ c ∧ c ≤ maxLen ∧ VsAt w A es.flatten
  wide : Wide s es
theorem SlAt.ext {s : Nat} {w w' : World} {v : Value} {es : List (List Value)} (h : SlAt s w v es) (k : Ext w w') : SlAt s w' v es := by
  obtain ⟨A, c, h1, h2, h3, h4⟩ := h.at_
  exact ⟨⟨A, c, h1, h2, h3, h4.ext k⟩, h.wide⟩
theorem SlAt.nil (s : Nat) (w : World) : SlAt s w (.slice none 0 0) [] := ⟨⟨none, 0, rfl, by simp, by unfold maxLen; omega, VsAt.nil _ _⟩, Wide.nil s⟩
/-- A slice as the walk reads it. -/
theorem SlAt.read {s : Nat} {w : World} {v : Value} {es : List (List Value)} (h : SlAt s w v es) : ∃ A c, v = .slice A es.length c ∧ es.length ≤ c ∧ c ≤ maxLen ∧ ∀ W, Ext w W → ∀ j, j < es.length → 0 < s → ∃ b o : Nat, A = some ⟨b, o, none⟩ ∧ b < W.heap.size ∧ ∀ i u, i < s → (es.getD j [])[i]? = some u → W.cell? ⟨b, o + j * s + i, none⟩ = some u := by
  obtain ⟨A, c, h1, h2, h3, h4⟩ := h.at_
  refine ⟨A, c, h1, h2, h3, fun W hW j hj hs => ?_⟩
  obtain ⟨b, o, e, hb, hc⟩ := h4 (by
    rw [h.wide.flat]
    exact Nat.mul_pos (by omega) hs)
  exact ⟨b, o, e, hW.lt _ hb, fun i u hi hu => hW.cell (by rw [Nat.add_assoc]; exact hc _ _ (by rw [h.wide.at_ hj hi]; exact hu))⟩
abbrev iV (x : Int) : Value := .int .i64 x
/-- A row of the call's own: elements of s cells. -/
def Row (s : Nat) (w : World) (B e : Nat) (v : Value) (es : List (List Value)) : Prop := Wide s es ∧ w.ownsRow B e s v es.length es.flatten
theorem Row.nil (s : Nat) (w : World) (B e : Nat) : Row s w B e (.slice none 0 0) [] := ⟨Wide.nil s, World.ownsRow_nil _ _ _ _⟩
theorem Row.lt {s : Nat} {w : World} {B e : Nat} {v : Value} {vs : List (List Value)} (h : Row s w B e v vs) : ∀ k, v.ownBlock = some k → B ≤ k ∧ k < w.heap.size := fun k hk => World.ownsRow.lt h.2 k hk
theorem Row.kept {s : Nat} {w w' : World} {B e : Nat} {v : Value} {vs : List (List Value)} (h : Row s w B e v vs) (hb : ∀ k, v.ownBlock = some k → w'.heap[k]? = w.heap[k]?) : Row s w' B e v vs := by
  have h' := h.2
  refine ⟨h.1, h'.1, ?_⟩
  rcases h'.2 with ⟨e1, h0⟩ | ⟨g, cap, cur, rfl, hB, hg, h1⟩
  · exact .inl ⟨e1, h0⟩
  · exact .inr ⟨g, cap, cur, rfl, hB, by rw [hb g rfl]; exact hg, h1⟩
theorem Row.ext {s : Nat} {w w' : World} {B e : Nat} {v : Value} {vs : List (List Value)} (h : Row s w B e v vs) (k : Ext w w') : Row s w' B e v vs := h.kept fun g hg => k.block g (h.lt g hg).2
theorem Row.base {s : Nat} {w : World} {B B' e : Nat} {v : Value} {vs : List (List Value)} (h : Row s w B e v vs) (hB : B' ≤ B) : Row s w B' e v vs := by
  have h' := h.2
  refine ⟨h.1, h'.1, ?_⟩
  rcases h'.2 with h1 | ⟨g, cap, cur, e, hb, h2⟩
  · exact .inl h1
  · exact .inr ⟨g, cap, cur, e, by omega, h2⟩
theorem add0 {g j : Nat} : (⟨g, 0, none⟩ : Addr).add j = ⟨g, j, none⟩ := by rw [addE, Nat.zero_add]
theorem Row.sl {s : Nat} {w : World} {B e : Nat} {v : Value} {vs : List (List Value)} (h : Row s w B e v vs) : SlAt s w v vs := by
  have h' := h.2
  rcases h'.2 with ⟨rfl, h0⟩ | ⟨g, cap, cur, rfl, hb, hc, h1, h2, h3, h4⟩
  · have : vs = [] := List.eq_nil_of_length_eq_zero h0
    subst this
    exact SlAt.nil _ _
  · refine ⟨⟨some ⟨g, 0, none⟩, cap, rfl, h1, h2, fun h0 => ⟨g, 0, rfl, (Array.getElem?_eq_some_iff.1 hc).1, fun j u hj => ?_⟩⟩, h.1⟩
    rw [← addE]
    exact World.ownsRow.cells h' rfl j _ hj
theorem Row.form {s : Nat} {w : World} {B e : Nat} {v : Value} {vs : List (List Value)} (h : Row s w B e v vs) : ∃ A c, v = .slice A vs.length c ∧ vs.length ≤ c ∧ (A = none → vs.length = 0) := by
  have h' := h.2
  rcases h'.2 with ⟨rfl, h0⟩ | ⟨g, cap, cur, rfl, hb, hc, h1, h2, h3, h4⟩
  · exact ⟨none, 0, by rw [h0], by omega, fun _ => h0⟩
  · exact ⟨_, cap, rfl, h1, fun h => by cases h⟩
/-- A row in a block that has just been laid. -/
theorem row_new {s : Nat} {w : World} {B e : Nat} {cs : Array Value} {us : List (List Value)} (hB : B ≤ w.heap.size) (hw : Wide s us) (hc : cs.toList = us.flatten) (hl : us.length ≤ 1000) : Row s (w.alloc (.cells cs e)) B e (.slice (some ⟨w.heap.size, 0, none⟩) us.length us.length) us := by
  have hs : cs.size = us.length * s := by rw [← hw.flat, ← hc]; simp
  refine ⟨hw, hw.flat, .inr ⟨w.heap.size, us.length, cs, rfl, hB, heap_alloc_new w _, Nat.le_refl _, by unfold maxLen; omega, hs, ?_⟩⟩
  rw [hc, ← hw.flat, List.take_length]
/-- The types of slices, and of their elements. -/
structure El (t e : Nat) (z : Value) (s n : Nat) : Prop where
  und : Tryd.prog.underlying t = some (.slice e)
  info : (Tryd.prog.info? e).map (fun i => (i.zero, i.size, i.bytes)) = some (some z, s, n)
  cells : z.cells.size = s
  pos : 0 < s
  le : n ≤ 200
theorem run_append0 {t e s n : Nat} {z : Value} (el : El t e z s n) (w : World) (ty : TypeId) (A0 A : Option Addr) (m c0 c : Nat) (h : m ≤ c0) (h1 : A0 = none → m = 0) : (Builtin.append_ #[t, t] ty #[.slice A0 m c0, .slice A 0 c]).run Tryd.prog w = .ok (.slice A0 m c0) w := by
  obtain ⟨i0, hi0, _, hz1, _⟩ := info_parts el.info
  have h' : ¬ c0 < m := by omega
  cases A0 with
  | none =>
    have := h1 rfl
    subst this
    cases A with
    | none => simp [Builtin.append_, run_underlying el.und, sizeOf, typeInfo, hi0, Builtin.lenOf, Builtin.firstCells]
    | some ad => simp [Builtin.append_, run_underlying el.und, sizeOf, typeInfo, hi0, Builtin.lenOf, Builtin.firstCells, loadCells, loadCellsFrom]
  | some a0 =>
    cases A with
    | none => simp [Builtin.append_, run_underlying el.und, sizeOf, typeInfo, hi0, Builtin.lenOf, Builtin.firstCells, storeCells, h]
    | some ad => simp [Builtin.append_, run_underlying el.und, sizeOf, typeInfo, hi0, Builtin.lenOf, Builtin.firstCells, storeCells, loadCells, loadCellsFrom, h]
section
variable {ops : Array Oper} {o : Oper} {a : Act} {K : Act → World → Prop} {Q : Exit → Act → World → Prop} {E : Prop} {w w5 : World} {t e s n : Nat} {z : Value}
/-- An append onto a row of one's own. -/
theorem oapp (el : El t e z s n) (p x : Operand) (ho : o.op = .call { callee := .builtin .append, args := #[p, x], argTypes := #[t, t] }) {v : Value} {vs us : List (List Value)} (hs : a.eval p = v) (hE : Ext w5 w) (hrow : Row s w w5.heap.size e v vs)
    {A : Option Addr} {c m : Nat} (hx : a.eval x = .slice A m c) (hn : m = us.length) (hw : Wide s us) (hy : VsAt w A us.flatten) (h1 : ∀ u ∈ us.flatten, u.oneCell' = true) (hm : (vs.length + us.length) * n ≤ 140737488355328) (hm2 : vs.length + us.length ≤ 1000000000000000)
    (h : ∀ v' w', Row s w' w5.heap.size e v' (vs ++ us) → Ext w5 w' → w.grownBy w' v.ownBlock → (v'.ownBlock = v.ownBlock ∨ v'.ownBlock = some w.heap.size) → K (a.put o.dst v') w') : Oper.wp Tryd.prog o a w K Q := by
  subst hn
  rcases Nat.eq_zero_or_pos us.length with h0 | h0
  · have he : us = [] := List.eq_nil_of_length_eq_zero h0
    subst he
    obtain ⟨A0, c0, rfl, h2, h3⟩ := hrow.form
    have hr := run_append0 el w o.type A0 A vs.length c0 c h2 h3
    have hx' : a.eval x = .slice A 0 c := hx
    unfold Oper.wp execOp
    simp only [ho, resolve, invoke, builtin, Sem.run_bind, Sem.run_pure, Result.andThen_ok, List.map_toArray, List.map_cons, List.map_nil, hs, hx', hr]
    exact h _ w (by rw [List.append_nil]; exact hrow) hE (World.grownBy.refl w _) (.inl rfl)
  · obtain ⟨i0, hi0, hz0, hz1, hz2⟩ := info_parts el.info
    have hfl := hw.flat
    obtain ⟨b, of, rfl, _, hc⟩ := hy (by rw [hfl]; exact Nat.mul_pos h0 el.pos)
    refine wp_append_lies w p x t ho w5.heap.size e i0 _ s n el.und hi0 hz0 hz1 hz2 el.cells el.pos _ vs.length vs.flatten hs hrow.2 ⟨b, of, none⟩ us.length c us.flatten hx hfl (fun j u hj => by rw [addE]; exact hc j u hj) h1 h0 (by unfold maxLen; omega) hm hE.size _ rfl ?_
    intro g cap w' hown hgrow hat _
    refine h _ w' ?_ (ext_grow hE hgrow (fun k hk => (hrow.lt k hk).1)) hgrow ?_
    · refine ⟨hrow.1.app hw, ?_⟩
      rw [List.length_append, List.flatten_append]
      exact hown
    · rcases hat with h2 | h2
      · exact .inl h2.symm
      · exact .inr (by rw [h2]; rfl)
theorem wapp {rest : List Oper} (el : El t e z s n) (hgd : o.guard = none) (p x : Operand) (ho : o.op = .call { callee := .builtin .append, args := #[p, x], argTypes := #[t, t] }) {v : Value} {vs us : List (List Value)} (hs : a.eval p = v) (hE : Ext w5 w) (hrow : Row s w w5.heap.size e v vs)
    {A : Option Addr} {c m : Nat} (hx : a.eval x = .slice A m c) (hn : m = us.length) (hw : Wide s us) (hy : VsAt w A us.flatten) (h1 : ∀ u ∈ us.flatten, u.oneCell' = true) (hm : (vs.length + us.length) * n ≤ 140737488355328) (hm2 : vs.length + us.length ≤ 1000000000000000)
    (h : ∀ v' w', Row s w' w5.heap.size e v' (vs ++ us) → Ext w5 w' → w.grownBy w' v.ownBlock → (v'.ownBlock = v.ownBlock ∨ v'.ownBlock = some w.heap.size) → wpList Tryd.prog ops Q rest (a.put o.dst v') w') :
    wpList Tryd.prog ops Q (o :: rest) a w :=
  wpList_plain hgd fun _ hK => oapp el p x ho hs hE hrow hx hn hw hy h1 hm hm2 fun v' w' k1 k2 k3 k4 => hK _ _ (h v' w' k1 k2 k3 k4)
theorem sapp (el : El t e z s n) (hgd : o.guard = none) (p x : Operand) (ho : o.op = .call { callee := .builtin .append, args := #[p, x], argTypes := #[t, t] }) {v : Value} {vs us : List (List Value)} (hs : a.eval p = v) (hE : Ext w5 w) (hrow : Row s w w5.heap.size e v vs)
    {A : Option Addr} {c m : Nat} (hx : a.eval x = .slice A m c) (hn : m = us.length) (hw : Wide s us) (hy : VsAt w A us.flatten) (h1 : ∀ u ∈ us.flatten, u.oneCell' = true) (hm : (vs.length + us.length) * n ≤ 140737488355328) (hm2 : vs.length + us.length ≤ 1000000000000000)
    (h : ∀ v' w', Row s w' w5.heap.size e v' (vs ++ us) → Ext w5 w' → w.grownBy w' v.ownBlock → (v'.ownBlock = v.ownBlock ∨ v'.ownBlock = some w.heap.size) → K (a.put o.dst v') w') :
    if Region.wanted o (yielded ops a.tmps) = true then Oper.wp Tryd.prog o a w K Q else E := by
  have hw' : Region.wanted o (yielded ops a.tmps) = true := by simp [Region.wanted, hgd]
  rw [if_pos hw']
  exact oapp el p x ho hs hE hrow hx hn hw hy h1 hm hm2 h
end
/-- The one element that an append lays out first. -/
theorem vs1 (w : World) (cs : Array Value) (e : Nat) : VsAt (w.alloc (.cells cs e)) (some ⟨w.heap.size, 0, none⟩) cs.toList := fun _ => ⟨_, _, rfl, by simp, fun j u hj => by rw [← addE]; exact World.news_of_block (heap_alloc_new w _) j u hj⟩
theorem new_at (w : World) (c : Array Value) (T o : Nat) (v : Value) (h : c[o]? = some v) : (w.alloc (.cells c T)).cell? ⟨w.heap.size, o, none⟩ = some v := by
  unfold World.cell?; rw [heap_alloc_new]; simpa using h
/-- Nothing but draws and new blocks. -/
def Gr (w w' : World) : Prop := ∃ q os, w' = Sort.grow (w.drewN q) os
theorem Gr.refl (w : World) : Gr w w := ⟨0, #[], by simp [Sort.grow, World.drewN]⟩
theorem Gr.alloc {w w' : World} (h : Gr w w') (o : Obj) : Gr w (w'.alloc o) := by
  obtain ⟨q, os, rfl⟩ := h
  exact ⟨q, os ++ #[o], by rw [Sort.alloc_eq_grow, Sort.grow_grow]⟩
theorem Gr.drewN {w w' : World} (h : Gr w w') (n : Nat) : Gr w (w'.drewN n) := by
  obtain ⟨q, os, rfl⟩ := h
  exact ⟨q + n, os, by rw [← World.drewN_drewN]; rfl⟩
theorem Gr.drew {w w' : World} (h : Gr w w') : Gr w w'.drew := h.drewN 1
theorem Gr.trans {a b c : World} (h : Gr a b) (k : Gr b c) : Gr a c := by
  obtain ⟨q, os, rfl⟩ := k
  obtain ⟨q', os', e⟩ := h.drewN q
  exact ⟨q', os' ++ os, by rw [e, Sort.grow_grow]⟩
theorem Gr.ext {w w' : World} (h : Gr w w') : Ext w w' := by
  obtain ⟨q, os, rfl⟩ := h
  refine ⟨rfl, rfl, rfl, by rw [Sort.size_grow]; exact Nat.le_add_right _ _, fun k hk => ?_⟩
  show (w.heap ++ os)[k]? = w.heap[k]?
  rw [Array.getElem?_append_left hk]
def RetG (x : Int) (w : World) (e : Ending) (w' : World) : Prop := e = .returned (.int .i64 x) ∧ Gr w w'
def RetB (b : Bool) (w : World) (e : Ending) (w' : World) : Prop := e = .returned (.bool b) ∧ Ext w w'
def RetI (x : Int) (w : World) (e : Ending) (w' : World) : Prop := e = .returned (.int .i64 x) ∧ Ext w w'
theorem ret_bool {a b : Bool} (h : a = b) : Ending.returned (Value.bool a) = .returned (.bool b) := by rw [h]
theorem ret_int {k : IntKind} {a b : Int} (h : a = b) : Ending.returned (Value.int k a) = .returned (.int k b) := by rw [h]
theorem oper_at {l : List Oper} {i : Nat} {o : Oper} (h : l[i]? = some o) : l.toArray[i]? = some o := by simpa using h
end Go.Proofs.YtjeclmmikjpinaaDoor
