/- Memory that has only grown; slices that are read; rows of a call's own; the laws of appends. -/
import Derived.Test.YtdcbejccplonjaaDoorProg
import Derived.Test.YtdcbejccplonjaaDoorH1
import Derived.WalkKit
import Derived.WalkSpells
import Derived.WalkLawsBesides
import Derived.Lib.Hide
import Derived.Outline
import Derived.IntWalk
import Derived.Deep.AppendLies
import Derived.Deep.QuietTactic
import Derived.BigQuiet
import Derived.BigRegion
import Derived.Deep.RegionHeld3
import Derived.Deep.DrawnRows
import Derived.Deep.DeepCutAuto
import Derived.Shelf.Spec.TrailingZeros
import Derived.Laws.BitsAllLaws
namespace Go.Proofs.YtdcbejccplonjaaDoor
open Go.RowKit
/-- Memory has only grown: what was there is as it was. -/
def Ext (w w' : World) : Prop := Below w.heap.size w w'
theorem Ext.refl (w : World) : Ext w w := Below.refl _ _
theorem Ext.trans {a b c : World} (h : Ext a b) (k : Ext b c) : Ext a c := Below.trans h (Below.mono k h.size)
theorem Ext.alloc {a w : World} (h : Ext a w) (o : Obj) : Ext a (w.alloc o) := Below.alloc h h.size o
theorem Ext.drew {a w : World} (h : Ext a w) : Ext a w.drew := Below.drew h
theorem Ext.drewN {a w : World} (h : Ext a w) (n : Nat) : Ext a (w.drewN n) := ⟨h.os, h.tape, h.output, h.size, h.block⟩
attribute [simp] Ext.refl Ext.alloc Ext.drew Ext.drewN
theorem Ext.size {a w : World} (h : Ext a w) : a.heap.size ≤ w.heap.size := Below.size h
theorem Ext.set {a w : World} (h : Ext a w) {p : Addr} (hp : a.heap.size ≤ p.block) (u : Value) : Ext a (w.setCell p u) := Below.setCell h hp u
theorem Ext.cell {w w' : World} (h : Ext w w') {p : Addr} {v : Value} (hc : w.cell? p = some v) : w'.cell? p = some v := by
  rw [Below.cell h (World.block_lt_of_cell? w _ hc)]; exact hc
theorem Ext.cells {w w' : World} (h : Ext w w') : ∀ b o, b < w.heap.size → w'.cell? ⟨b, o, none⟩ = w.cell? ⟨b, o, none⟩ := fun b o hb => Below.cell h (p := ⟨b, o, none⟩) hb
theorem Ext.both {w w' : World} (h : Ext w w') : (∀ b o, b < w.heap.size → w'.cell? ⟨b, o, none⟩ = w.cell? ⟨b, o, none⟩) ∧ (∀ b o, b < w.heap.size → w'.frozen? ⟨b, o, none⟩ = w.frozen? ⟨b, o, none⟩) :=
  ⟨fun _ _ hb => Below.cell h hb, fun _ _ hb => Below.frozen h hb⟩
theorem Ext.lt {w w' : World} (h : Ext w w') : ∀ a, a < w.heap.size → a < w'.heap.size := fun _ k => Nat.lt_of_lt_of_le k h.size
theorem Ext.held {w w' : World} (h : Ext w w') : Ext w w' ∧ ∀ b o, b < w.heap.size → w'.cell? ⟨b, o, none⟩ = w.cell? ⟨b, o, none⟩ := ⟨h, h.cells⟩
theorem ext_grow {w w1 w2 : World} {row : Option Nat} (h : Ext w w1) (hg : w1.grownBy w2 row) (hr : ∀ k, row = some k → w.heap.size ≤ k) : Ext w w2 := Below.grown h hg h.size hr
theorem ext_of_grown {w w' : World} (h : w.grownBy w' none) : Ext w w' := ⟨h.os, h.tape, h.output, h.size, fun k hk => h.block k hk (by simp)⟩
/-- Cells that read as these values, nil let in. -/
def VsAt (w : World) (A : Option Addr) (vs : List Value) : Prop := 0 < vs.length → ∃ ad : Addr, A = some ad ∧ ad.block < w.heap.size ∧ ∀ j u, vs[j]? = some u → w.cell? (ad.add j) = some u
theorem VsAt.ext {w w' : World} {A : Option Addr} {vs : List Value} (h : VsAt w A vs) (k : Ext w w') : VsAt w' A vs := fun h0 => by
  obtain ⟨ad, e, hb, hc⟩ := h h0
  exact ⟨ad, e, k.lt _ hb, fun j b hj => k.cell (hc j b hj)⟩
theorem VsAt.nil (w : World) (A : Option Addr) : VsAt w A [] := fun h => absurd h (by simp)
/-- A slice that reads as these values. -/
structure SlAt (w : World) (v : Value) (vs : List Value) : Prop where
  at_ : ∃ A c, v = .slice A vs.length c ∧ vs.length ≤ c ∧ c ≤ maxLen ∧ VsAt w A vs
theorem SlAt.ext {w w' : World} {v : Value} {vs : List Value} (h : SlAt w v vs) (k : Ext w w') : SlAt w' v vs := by
  obtain ⟨A, c, h1, h2, h3, h4⟩ := h.at_
  exact ⟨A, c, h1, h2, h3, h4.ext k⟩
theorem SlAt.nil (w : World) : SlAt w (.slice none 0 0) [] := ⟨none, 0, rfl, by simp, by unfold maxLen; omega, VsAt.nil _ _⟩
abbrev uV (x : Nat) : Value := .int .u64 (x : Int)
abbrev iV (x : Int) : Value := .int .i64 x
def Us (w : World) (v : Value) (xs : List Nat) : Prop := SlAt w v (xs.map uV)
def Is (w : World) (v : Value) (zs : List Int) : Prop := SlAt w v (zs.map iV)
theorem Us.ext {w w' : World} {v : Value} {xs : List Nat} (h : Us w v xs) (k : Ext w w') : Us w' v xs := SlAt.ext h k
theorem Is.ext {w w' : World} {v : Value} {zs : List Int} (h : Is w v zs) (k : Ext w w') : Is w' v zs := SlAt.ext h k
/-- A slice as the walk reads it. -/
theorem Us.read {w : World} {v : Value} {xs : List Nat} (h : Us w v xs) : ∃ A c, v = .slice A xs.length c ∧ xs.length ≤ c ∧ c ≤ maxLen ∧ ∀ W, Ext w W → ∀ j, j < xs.length → ∃ ad : Addr, A = some ad ∧ W.cell? (ad.add j) = some (uV (xs.getD j 0)) := by
  obtain ⟨A, c, h1, h2, h3, h4⟩ := h.at_
  rw [List.length_map] at h1 h2
  refine ⟨A, c, h1, h2, h3, fun W hW j hj => ?_⟩
  obtain ⟨ad, e, _, hc⟩ := h4 (by rw [List.length_map]; omega)
  refine ⟨ad, e, hW.cell (hc j _ ?_)⟩
  rw [List.getElem?_map, List.getElem?_eq_getElem hj, List.getD_eq_getElem?_getD, List.getElem?_eq_getElem hj]
  rfl
theorem Is.read {w : World} {v : Value} {zs : List Int} (h : Is w v zs) : ∃ A c, v = .slice A zs.length c ∧ zs.length ≤ c ∧ c ≤ maxLen ∧ ∀ W, Ext w W → ∀ j, j < zs.length → ∃ ad : Addr, A = some ad ∧ W.cell? (ad.add j) = some (iV (zs.getD j 0)) := by
  obtain ⟨A, c, h1, h2, h3, h4⟩ := h.at_
  rw [List.length_map] at h1 h2
  refine ⟨A, c, h1, h2, h3, fun W hW j hj => ?_⟩
  obtain ⟨ad, e, _, hc⟩ := h4 (by rw [List.length_map]; omega)
  refine ⟨ad, e, hW.cell (hc j _ ?_)⟩
  rw [List.getElem?_map, List.getElem?_eq_getElem hj, List.getD_eq_getElem?_getD, List.getElem?_eq_getElem hj]
  rfl
/-- A slice of slices of numbers. -/
structure Rs (w : World) (v : Value) (ls : List (List Int)) : Prop where
  at_ : ∃ vs : List Value, SlAt w v vs ∧ vs.length = ls.length ∧ ∀ j, j < ls.length → Is w (vs.getD j (.slice none 0 0)) (ls.getD j [])
theorem Rs.ext {w w' : World} {v : Value} {ls : List (List Int)} (h : Rs w v ls) (k : Ext w w') : Rs w' v ls := by
  obtain ⟨vs, h1, h2, h3⟩ := h.at_
  exact ⟨vs, h1.ext k, h2, fun j hj => (h3 j hj).ext k⟩
theorem Rs.read {w : World} {v : Value} {ls : List (List Int)} (h : Rs w v ls) : ∃ A c, v = .slice A ls.length c ∧ ls.length ≤ c ∧ c ≤ maxLen ∧ ∀ W, Ext w W → ∀ j, j < ls.length → ∃ (ad : Addr) (u : Value), A = some ad ∧ W.cell? (ad.add j) = some u ∧ Is W u (ls.getD j []) := by
  obtain ⟨vs, ⟨A, c, h1, h2, h3, h4⟩, h5, h6⟩ := h.at_
  rw [h5] at h1 h2
  refine ⟨A, c, h1, h2, h3, fun W hW j hj => ?_⟩
  obtain ⟨ad, e, _, hc⟩ := h4 (by omega)
  have hj' : j < vs.length := by omega
  refine ⟨ad, vs.getD j (.slice none 0 0), e, hW.cell (hc j _ ?_), (h6 j hj).ext hW⟩
  rw [List.getElem?_eq_getElem hj', List.getD_eq_getElem?_getD, List.getElem?_eq_getElem hj']
  rfl
/-- A row of the call's own: elements of one cell. -/
def Row (w : World) (B e : Nat) (v : Value) (vs : List Value) : Prop := w.ownsRow B e 1 v vs.length vs
theorem Row.nil (w : World) (B e : Nat) : Row w B e (.slice none 0 0) [] := World.ownsRow_nil _ _ _ _
theorem Row.lt {w : World} {B e : Nat} {v : Value} {vs : List Value} (h : Row w B e v vs) : ∀ k, v.ownBlock = some k → B ≤ k ∧ k < w.heap.size := fun k hk => World.ownsRow.lt h k hk
theorem Row.kept {w w' : World} {B e : Nat} {v : Value} {vs : List Value} (h : Row w B e v vs) (hb : ∀ k, v.ownBlock = some k → w'.heap[k]? = w.heap[k]?) : Row w' B e v vs := by
  have h' : w.ownsRow B e 1 v vs.length vs := h
  refine ⟨h'.1, ?_⟩
  rcases h'.2 with ⟨e1, h0⟩ | ⟨g, cap, cur, rfl, hB, hg, h1⟩
  · exact .inl ⟨e1, h0⟩
  · exact .inr ⟨g, cap, cur, rfl, hB, by rw [hb g rfl]; exact hg, h1⟩
theorem Row.ext {w w' : World} {B e : Nat} {v : Value} {vs : List Value} (h : Row w B e v vs) (k : Ext w w') : Row w' B e v vs := h.kept fun g hg => k.block g (h.lt g hg).2
theorem Row.base {w : World} {B B' e : Nat} {v : Value} {vs : List Value} (h : Row w B e v vs) (hB : B' ≤ B) : Row w B' e v vs := by
  have h' : w.ownsRow B e 1 v vs.length vs := h
  refine ⟨h'.1, ?_⟩
  rcases h'.2 with h1 | ⟨g, cap, cur, e, hb, h2⟩
  · exact .inl h1
  · exact .inr ⟨g, cap, cur, e, by omega, h2⟩
theorem Row.sl {w : World} {B e : Nat} {v : Value} {vs : List Value} (h : Row w B e v vs) : SlAt w v vs := by
  have h' : w.ownsRow B e 1 v vs.length vs := h
  rcases h'.2 with ⟨rfl, h0⟩ | ⟨g, cap, cur, rfl, hb, hc, h1, h2, h3, h4⟩
  · have : vs = [] := List.eq_nil_of_length_eq_zero h0
    subst this
    exact SlAt.nil _
  · refine ⟨some ⟨g, 0, none⟩, cap, rfl, h1, h2, fun h0 => ⟨⟨g, 0, none⟩, rfl, (Array.getElem?_eq_some_iff.1 hc).1, fun j u hj => ?_⟩⟩
    exact World.ownsRow.cells h rfl j _ hj
/-- The types of slices, and of their elements. -/
structure El (t e : Nat) (z : Value) (n : Nat) : Prop where
  und : Tryd.prog.underlying t = some (.slice e)
  info : (Tryd.prog.info? e).map (fun i => (i.zero, i.size, i.bytes)) = some (some z, 1, n)
  cells : z.cells.size = 1
  le : n ≤ 24
theorem el48 : El 48 52 (.int .u64 0) 8 := ⟨Tryd.underlying48, by kernel_rfl, rfl, by omega⟩
theorem el35 : El 35 3 (.int .i64 0) 8 := ⟨Tryd.underlying35, by kernel_rfl, rfl, by omega⟩
theorem el24 : El 24 35 (.slice none 0 0) 24 := ⟨Tryd.underlying24, by kernel_rfl, rfl, by omega⟩
theorem el53 : El 53 48 (.slice none 0 0) 24 := ⟨Tryd.underlying53, by kernel_rfl, rfl, by omega⟩
theorem run_append0 {t e n : Nat} {z : Value} (el : El t e z n) (w : World) (ty : TypeId) (A0 A : Option Addr) (m c0 c : Nat) (h : m ≤ c0) (h1 : A0 = none → m = 0) : (Builtin.append_ #[t, t] ty #[.slice A0 m c0, .slice A 0 c]).run Tryd.prog w = .ok (.slice A0 m c0) w := by
  obtain ⟨i0, hi0, _, hz1, _⟩ := info_parts el.info
  have h' : ¬ c0 < m := by omega
  cases A0 with
  | none =>
    have := h1 rfl
    subst this
    cases A with
    | none => simp [Builtin.append_, run_underlying el.und, sizeOf, typeInfo, hi0, Builtin.lenOf, Builtin.firstCells]
    | some ad => simp [Builtin.append_, run_underlying el.und, sizeOf, typeInfo, hi0, Builtin.lenOf, Builtin.firstCells, loadCells, loadCellsFrom]
  | some a0 =>
    cases A with
    | none => simp [Builtin.append_, run_underlying el.und, sizeOf, typeInfo, hi0, Builtin.lenOf, Builtin.firstCells, storeCells, h]
    | some ad => simp [Builtin.append_, run_underlying el.und, sizeOf, typeInfo, hi0, Builtin.lenOf, Builtin.firstCells, storeCells, loadCells, loadCellsFrom, h]
theorem Row.form {w : World} {B e : Nat} {v : Value} {vs : List Value} (h : Row w B e v vs) : ∃ A c, v = .slice A vs.length c ∧ vs.length ≤ c ∧ (A = none → vs.length = 0) := by
  have h' : w.ownsRow B e 1 v vs.length vs := h
  rcases h'.2 with ⟨rfl, h0⟩ | ⟨g, cap, cur, rfl, hb, hc, h1, h2, h3, h4⟩
  · exact ⟨none, 0, by rw [h0], by omega, fun _ => h0⟩
  · exact ⟨_, cap, rfl, h1, fun h => by cases h⟩
section
variable {ops : Array Oper} {o : Oper} {a : Act} {K : Act → World → Prop} {Q : Exit → Act → World → Prop} {E : Prop} {w w5 : World} {t e n : Nat} {z : Value}
/-- An append onto a row of one's own. -/
theorem oapp (el : El t e z n) (s x : Operand) (ho : o.op = .call { callee := .builtin .append, args := #[s, x], argTypes := #[t, t] }) {v : Value} {vs us : List Value} (hs : a.eval s = v) (hE : Ext w5 w) (hrow : Row w w5.heap.size e v vs)
    {A : Option Addr} {c m : Nat} (hx : a.eval x = .slice A m c) (hn : m = us.length) (hy : VsAt w A us) (h1 : ∀ u ∈ us, u.oneCell' = true) (hm : vs.length + us.length ≤ 1000000)
    (h : ∀ v' w', Row w' w5.heap.size e v' (vs ++ us) → Ext w5 w' → w.grownBy w' v.ownBlock → (v'.ownBlock = v.ownBlock ∨ v'.ownBlock = some w.heap.size) → K (a.put o.dst v') w') : Oper.wp Tryd.prog o a w K Q := by
  subst hn
  rcases Nat.eq_zero_or_pos us.length with h0 | h0
  · have he : us = [] := List.eq_nil_of_length_eq_zero h0
    subst he
    obtain ⟨A0, c0, rfl, h2, h3⟩ := hrow.form
    have hr := run_append0 el w o.type A0 A vs.length c0 c h2 h3
    have hx' : a.eval x = .slice A 0 c := hx
    unfold Oper.wp execOp
    simp only [ho, resolve, invoke, builtin, Sem.run_bind, Sem.run_pure, Result.andThen_ok, List.map_toArray, List.map_cons, List.map_nil, hs, hx', hr]
    exact h _ w (by rw [List.append_nil]; exact hrow) hE (World.grownBy.refl w _) (.inl rfl)
  · obtain ⟨i0, hi0, hz0, hz1, hz2⟩ := info_parts el.info
    obtain ⟨ad, rfl, _, hc⟩ := hy h0
    have hle := el.le
    refine wp_append_lies w s x t ho w5.heap.size e i0 _ 1 n el.und hi0 hz0 hz1 hz2 el.cells (by decide) _ vs.length vs hs hrow ad us.length c us hx (by omega) hc h1 h0 (by unfold maxLen; omega)
      (Nat.le_trans (Nat.mul_le_mul_left _ hle) (by omega)) hE.size _ rfl ?_
    intro g cap w' hown hgrow hat _
    refine h _ w' ?_ (ext_grow hE hgrow (fun k hk => (hrow.lt k hk).1)) hgrow ?_
    · unfold Row
      rw [List.length_append]
      exact hown
    · rcases hat with h2 | h2
      · exact .inl h2.symm
      · exact .inr (by rw [h2]; rfl)
theorem wapp {rest : List Oper} (el : El t e z n) (hgd : o.guard = none) (s x : Operand) (ho : o.op = .call { callee := .builtin .append, args := #[s, x], argTypes := #[t, t] }) {v : Value} {vs us : List Value} (hs : a.eval s = v) (hE : Ext w5 w) (hrow : Row w w5.heap.size e v vs)
    {A : Option Addr} {c m : Nat} (hx : a.eval x = .slice A m c) (hn : m = us.length) (hy : VsAt w A us) (h1 : ∀ u ∈ us, u.oneCell' = true) (hm : vs.length + us.length ≤ 1000000)
    (h : ∀ v' w', Row w' w5.heap.size e v' (vs ++ us) → Ext w5 w' → w.grownBy w' v.ownBlock → (v'.ownBlock = v.ownBlock ∨ v'.ownBlock = some w.heap.size) → wpList Tryd.prog ops Q rest (a.put o.dst v') w') :
    wpList Tryd.prog ops Q (o :: rest) a w :=
  wpList_plain hgd fun _ hK => oapp el s x ho hs hE hrow hx hn hy h1 hm fun v' w' k1 k2 k3 k4 => hK _ _ (h v' w' k1 k2 k3 k4)
theorem sapp (el : El t e z n) (hgd : o.guard = none) (s x : Operand) (ho : o.op = .call { callee := .builtin .append, args := #[s, x], argTypes := #[t, t] }) {v : Value} {vs us : List Value} (hs : a.eval s = v) (hE : Ext w5 w) (hrow : Row w w5.heap.size e v vs)
    {A : Option Addr} {c m : Nat} (hx : a.eval x = .slice A m c) (hn : m = us.length) (hy : VsAt w A us) (h1 : ∀ u ∈ us, u.oneCell' = true) (hm : vs.length + us.length ≤ 1000000)
    (h : ∀ v' w', Row w' w5.heap.size e v' (vs ++ us) → Ext w5 w' → w.grownBy w' v.ownBlock → (v'.ownBlock = v.ownBlock ∨ v'.ownBlock = some w.heap.size) → K (a.put o.dst v') w') :
    if Region.wanted o (yielded ops a.tmps) = true then Oper.wp Tryd.prog o a w K Q else E := by
  have hw : Region.wanted o (yielded ops a.tmps) = true := by simp [Region.wanted, hgd]
  rw [if_pos hw]
  exact oapp el s x ho hs hE hrow hx hn hy h1 hm h
end
/-- The one element that an append lays out first. -/
theorem vs1 (w : World) (u : Value) (e : Nat) : VsAt (w.alloc (.cells #[u] e)) (some ⟨w.heap.size, 0, none⟩) [u] := fun _ => ⟨_, rfl, by simp, World.news_of_block (cs := #[u]) (heap_alloc_new w _)⟩
theorem one1 {u : Value} (h : u.oneCell' = true) : ∀ x ∈ [u], x.oneCell' = true := fun x hx => by rw [List.mem_singleton.1 hx]; exact h
theorem new_at (w : World) (c : Array Value) (T o : Nat) (v : Value) (h : c[o]? = some v) : (w.alloc (.cells c T)).cell? ⟨w.heap.size, o, none⟩ = some v := by
  unfold World.cell?; rw [heap_alloc_new]; simpa using h
/-- The table of the library's TrailingZeros64. -/
def Tab (w : World) : Prop := TabAt 0 Lib.deBruijn64tab w
theorem Tab.ext {w w' : World} (h : Tab w) (k : Ext w w') : Tab w' := fun j hj => k.cell (h j hj)
end Go.Proofs.YtdcbejccplonjaaDoor
