/- Parts in memory: while parts that meet a set are joined. -/
import Derived.Test.YtdcbejccplonjaaDoorB12
import Derived.Laws.OwnMore
namespace Go.Proofs.YtdcbejccplonjaaDoor
open Go.RowKit
attribute [local go_sem ↓] Go.wp_at_zero Go.wp_at_succ
/-- Only the rows t and u, and new blocks, have changed. -/
structure Chg (w w' : World) (t u : Value) : Prop where
  os : w'.os = w.os
  tape : w'.tape = w.tape
  output : w'.output = w.output
  size : w.heap.size ≤ w'.heap.size
  block : ∀ b, b < w.heap.size → t.ownBlock ≠ some b → u.ownBlock ≠ some b → w'.heap[b]? = w.heap[b]?
theorem Chg.of_ext {w w' : World} {t u : Value} (h : Ext w w') : Chg w w' t u := ⟨h.os, h.tape, h.output, h.size, fun b hb _ _ => h.block b hb⟩
theorem Chg.grown {w w1 w2 : World} {t u : Value} {row : Option Nat} (h : Chg w w1 t u) (hg : w1.grownBy w2 row) (hr : ∀ b, b < w.heap.size → t.ownBlock ≠ some b → u.ownBlock ≠ some b → row ≠ some b) : Chg w w2 t u :=
  ⟨hg.os.trans h.os, hg.tape.trans h.tape, hg.output.trans h.output, Nat.le_trans h.size hg.size, fun b hb ht hu => by
    rw [hg.block b (Nat.lt_of_lt_of_le hb h.size) (Ne.symm (hr b hb ht hu)), h.block b hb ht hu]⟩
theorem Chg.ext_r {w w1 w2 : World} {t u : Value} (h : Chg w w1 t u) (k : Ext w1 w2) : Chg w w2 t u :=
  ⟨k.os.trans h.os, k.tape.trans h.tape, k.output.trans h.output, Nat.le_trans h.size k.size, fun b hb ht hu => by
    rw [k.block b (Nat.lt_of_lt_of_le hb h.size), h.block b hb ht hu]⟩
/-- A part: its row, its sets, their union. -/
abbrev PT := Value × List Nat × Nat
def kp (s : Nat) (p : PT) : Bool := decide (p.2.2 &&& s = 0)
def nk (s : Nat) (p : PT) : Bool := !decide (p.2.2 &&& s = 0)
structure Pts (w : World) (B : Nat) (t u : Value) (ps : List PT) : Prop where
  row : Row w B 48 t (ps.map (·.1))
  row2 : Row w B 52 u ((ps.map (·.2.2)).map uV)
  is : ∀ p ∈ ps, Us w p.1 p.2.1
  ne : ∀ p ∈ ps, ∀ k, p.1.ownBlock = some k → t.ownBlock ≠ some k ∧ u.ownBlock ≠ some k ∧ k < w.heap.size
  tu : ∀ k, t.ownBlock = some k → u.ownBlock ≠ some k
theorem Pts.nil (w : World) (B : Nat) : Pts w B (.slice none 0 0) (.slice none 0 0) [] := ⟨Row.nil _ _ _, Row.nil _ _ _, by simp, by simp, by simp [Value.ownBlock]⟩
/-- The parts as they read after changes of the rows alone. -/
theorem Pts.part {w w' : World} {B : Nat} {t u : Value} {ps : List PT} (h : Pts w B t u ps) (hc : Chg w w' t u) {p : PT} (hp : p ∈ ps) : Us w' p.1 p.2.1 :=
  SlAt.kept (h.is p hp) fun k hk hkb => hc.block k hk (h.ne p hp k hkb).1 (h.ne p hp k hkb).2.1
/-- The inner loop's state. -/
structure Inn (w w0 wr : World) (t u : Value) (ps : List PT) (s i : Nat) (vp : Value) (un kept : Nat) (vs : List Value) (us : List Nat) : Prop where
  ext : Ext w wr
  chg : Chg w0 wr t u
  row : Row wr w.heap.size 48 t vs
  row2 : Row wr w.heap.size 52 u (us.map uV)
  hk : kept = ((ps.take i).filter (kp s)).length
  vt : vs.take kept = ((ps.take i).filter (kp s)).map (·.1)
  vd : vs.drop i = (ps.drop i).map (·.1)
  ut : us.take kept = ((ps.take i).filter (kp s)).map (·.2.2)
  ud : us.drop i = (ps.drop i).map (·.2.2)
  lv : vs.length = ps.length
  lu : us.length = ps.length
  prow : Row wr w.heap.size 52 vp ((s :: ((ps.take i).filter (nk s)).flatMap (·.2.1)).map uV)
  pnew : ∀ k, vp.ownBlock = some k → w0.heap.size ≤ k
  pun : un = ((ps.take i).filter (nk s)).foldl (fun u p => u ||| p.2.2) s
theorem Inn.start {w w0 : World} {t u : Value} {ps : List PT} {s : Nat} (h : Pts w0 w.heap.size t u ps) (hE : Ext w w0) :
    Inn w w0 (w0.alloc (.cells #[uV s] 52)) t u ps s 0 (.slice (some ⟨w0.heap.size, 0, none⟩) 1 1) s 0 (ps.map (·.1)) (ps.map (·.2.2)) :=
  ⟨hE.alloc _, Chg.of_ext ((Ext.refl _).alloc _), h.row.ext ((Ext.refl _).alloc _), h.row2.ext ((Ext.refl _).alloc _), by simp, by simp, by simp, by simp, by simp, by simp, by simp,
    World.ownsRow_lit w0 #[uV s] 1 hE.size (by unfold maxLen; omega) (by simp), fun k hk => by simp [Value.ownBlock] at hk; omega, by simp⟩
theorem take_snoc {α : Type} {l : List α} {i : Nat} (h : i < l.length) : l.take (i + 1) = l.take i ++ [l[i]] := List.take_succ_eq_append_getElem h
theorem filter_snoc {α : Type} {l : List α} {i : Nat} (f : α → Bool) (h : i < l.length) : (l.take (i + 1)).filter f = (l.take i).filter f ++ (if f l[i] then [l[i]] else []) := by
  rw [take_snoc h, List.filter_append, List.filter_cons]
  split <;> rfl
theorem nk_kp (s : Nat) (p : PT) : nk s p = !kp s p := rfl
theorem drop_getD {α β : Type} {vs : List β} {ps : List α} {f : α → β} {i : Nat} {d : β} (h : vs.drop i = (ps.drop i).map f) (hi : i < ps.length) : i < vs.length ∧ vs.getD i d = f ps[i] := by
  rw [List.drop_eq_getElem_cons hi, List.map_cons] at h
  have h1 : vs[i]? = some (f ps[i]) := by
    have := congrArg (fun l => l[0]?) h
    simpa using this
  refine ⟨?_, by rw [List.getD_eq_getElem?_getD, h1]; rfl⟩
  refine Classical.byContradiction fun hn => ?_
  rw [List.getElem?_eq_none (by omega)] at h1
  cases h1
theorem drop_next {α β : Type} {vs : List β} {ps : List α} {f : α → β} {i : Nat} (h : vs.drop i = (ps.drop i).map f) : vs.drop (i + 1) = (ps.drop (i + 1)).map f := by
  have : (vs.drop i).drop 1 = ((ps.drop i).map f).drop 1 := by rw [h]
  rw [List.drop_drop, ← List.map_drop, List.drop_drop] at this
  exact this
theorem set_take {α : Type} {l : List α} {k : Nat} (x : α) (h : k < l.length) : (l.set k x).take (k + 1) = l.take k ++ [x] := by
  rw [take_snoc (by rw [List.length_set]; exact h), List.getElem_set_self]
  congr 1
  rw [List.take_set_of_le (Nat.le_refl _)]
theorem set_drop {α : Type} {l : List α} {k i : Nat} (x : α) (h : k ≤ i) : (l.set k x).drop (i + 1) = l.drop (i + 1) := List.drop_set_of_lt (by omega)
theorem kept_le {ps : List PT} {s i : Nat} : ((ps.take i).filter (kp s)).length ≤ i := by
  have := List.length_filter_le (kp s) (ps.take i)
  rw [List.length_take] at this
  omega
/-- A part is kept. -/
theorem Inn.keep {w w0 wr : World} {g1 g2 c1 c2 n : Nat} {ps : List PT} {s i : Nat} {vp : Value} {un kept : Nat} {vs : List Value} {us : List Nat}
    (h : Inn w w0 wr (.slice (some ⟨g1, 0, none⟩) n c1) (.slice (some ⟨g2, 0, none⟩) n c2) ps s i vp un kept vs us) (hp : Pts w0 w.heap.size (.slice (some ⟨g1, 0, none⟩) n c1) (.slice (some ⟨g2, 0, none⟩) n c2) ps)
    (hn : n = ps.length) (hi : i < ps.length) (hk : kp s ps[i] = true) :
    Inn w w0 ((wr.setCell ⟨g1, kept, none⟩ ps[i].1).setCell ⟨g2, kept, none⟩ (uV ps[i].2.2)) (.slice (some ⟨g1, 0, none⟩) n c1) (.slice (some ⟨g2, 0, none⟩) n c2) ps s (i + 1) vp un (kept + 1) (vs.set kept ps[i].1) (us.set kept ps[i].2.2) := by
  subst hn
  have g12 : g1 ≠ g2 := fun e => hp.tu g1 rfl (by rw [e]; rfl)
  have b1 := hp.row.lt g1 rfl
  have b2 := hp.row2.lt g2 rfl
  have r1 : wr.ownsRow w.heap.size 48 1 (.slice (some ⟨g1, 0, none⟩) ps.length c1) ps.length vs := by have := h.row; unfold Row at this; rwa [h.lv] at this
  have r2 : wr.ownsRow w.heap.size 52 1 (.slice (some ⟨g2, 0, none⟩) ps.length c2) ps.length (us.map uV) := by have := h.row2; unfold Row at this; rwa [List.length_map, h.lu] at this
  obtain ⟨s1, G1⟩ := r1.stored kept ps[i].1
  have r2' := r2.kept G1 (.inr (by simp [Value.ownBlock]; exact Ne.symm g12))
  obtain ⟨s2, G2⟩ := r2'.stored kept (uV ps[i].2.2)
  have s1' := s1.kept G2 (.inr (by simp [Value.ownBlock]; exact g12))
  have kl : kept < ps.length := by have := kept_le (ps := ps) (s := s) (i := i); rw [← h.hk] at this; omega
  have nk' : nk s ps[i] = false := by rw [nk_kp, hk]; rfl
  have ki : kept ≤ i := by rw [h.hk]; exact kept_le
  refine ⟨(h.ext.set b1.1 _).set b2.1 _, (h.chg.grown G1 fun b _ ht _ => ht).grown G2 fun b _ _ hu => hu, ?_, ?_, ?_, ?_, ?_, ?_, ?_, by rw [List.length_set]; exact h.lv, by rw [List.length_set]; exact h.lu, ?_, h.pnew, ?_⟩
  · unfold Row; rw [List.length_set, h.lv]; exact s1'
  · unfold Row; rw [List.length_map, List.length_set, h.lu, List.map_set]; exact s2
  · rw [filter_snoc _ hi, hk, if_pos rfl, List.length_append, List.length_singleton, ← h.hk]
  · rw [set_take _ (by rw [h.lv]; exact kl), h.vt, filter_snoc _ hi, hk, if_pos rfl, List.map_append]; rfl
  · rw [set_drop _ ki]; exact drop_next h.vd
  · rw [set_take _ (by rw [h.lu]; exact kl), h.ut, filter_snoc _ hi, hk, if_pos rfl, List.map_append]; rfl
  · rw [set_drop _ ki]; exact drop_next h.ud
  · rw [filter_snoc _ hi, nk', if_neg (by simp), List.append_nil]
    exact h.prow.kept fun k hkb => by
      have := h.pnew k hkb
      have k1 : k ≠ g1 := fun e => by omega
      have k2 : k ≠ g2 := fun e => by omega
      rw [heap_set (Ne.symm k2), heap_set (Ne.symm k1)]
  · rw [filter_snoc _ hi, nk', if_neg (by simp), List.append_nil]; exact h.pun
/-- A part is joined to the new one. -/
theorem Inn.join {w w0 wr w1 : World} {t u : Value} {ps : List PT} {s i : Nat} {vp vp1 : Value} {un kept : Nat} {vs : List Value} {us : List Nat}
    (h : Inn w w0 wr t u ps s i vp un kept vs us) (hp : Pts w0 w.heap.size t u ps) (hi : i < ps.length) (hk : kp s ps[i] = false)
    (hr : Row w1 w.heap.size 52 vp1 ((s :: ((ps.take i).filter (nk s)).flatMap (·.2.1)).map uV ++ ps[i].2.1.map uV)) (hE : Ext w w1) (hg : wr.grownBy w1 vp.ownBlock) (hb : vp1.ownBlock = vp.ownBlock ∨ vp1.ownBlock = some wr.heap.size) :
    Inn w w0 w1 t u ps s (i + 1) vp1 (un ||| ps[i].2.2) kept vs us := by
  have nk' : nk s ps[i] = true := by rw [nk_kp, hk]; rfl
  have tl : ∀ k, t.ownBlock = some k → k < w0.heap.size := fun k hk => (hp.row.lt k hk).2
  have ul : ∀ k, u.ownBlock = some k → k < w0.heap.size := fun k hk => (hp.row2.lt k hk).2
  have kk : ((ps.take (i + 1)).filter (kp s)) = (ps.take i).filter (kp s) := by rw [filter_snoc _ hi, hk, if_neg (by simp), List.append_nil]
  refine ⟨hE, h.chg.grown hg fun b hb _ _ e => by have := h.pnew b e; omega, ?_, ?_, by rw [kk]; exact h.hk, by rw [kk]; exact h.vt, drop_next h.vd, by rw [kk]; exact h.ut, drop_next h.ud, h.lv, h.lu, ?_, ?_, ?_⟩
  · exact h.row.kept fun k hkb => hg.block k (h.row.lt k hkb).2 fun e => by have := h.pnew k e.symm; have := tl k hkb; omega
  · exact h.row2.kept fun k hkb => hg.block k (h.row2.lt k hkb).2 fun e => by have := h.pnew k e.symm; have := ul k hkb; omega
  · rw [filter_snoc _ hi, nk', if_pos rfl, List.flatMap_append]
    simpa using hr
  · intro k hkb
    rcases hb with e | e
    · exact h.pnew k (e ▸ hkb)
    · rw [e] at hkb
      cases hkb
      exact h.chg.size
  · rw [filter_snoc _ hi, nk', if_pos rfl, List.foldl_append, ← h.pun]
    rfl
/-- A row's first elements. -/
theorem Row.cut {w : World} {B e n c : Nat} {A : Option Addr} {vs : List Value} (h : Row w B e (.slice A n c) vs) {k : Nat} (hk : k ≤ vs.length) : Row w B e (.slice A k c) (vs.take k) := by
  have h' : w.ownsRow B e 1 (.slice A n c) vs.length vs := h
  rcases h'.2 with ⟨h1, h0⟩ | ⟨g, cap, cur, e1, hB, hg, h1, h2, h3, h4⟩
  · simp only [Value.slice.injEq] at h1
    obtain ⟨rfl, rfl, rfl⟩ := h1
    have : vs = [] := List.eq_nil_of_length_eq_zero h0
    subst this
    have : k = 0 := by simpa using hk
    subst this
    exact h
  · simp only [Value.slice.injEq] at e1
    obtain ⟨rfl, rfl, rfl⟩ := e1
    have := h
    have e2 : vs.take k ++ vs.drop k = vs := List.take_append_drop _ _
    rw [← e2] at this
    exact Row.init this (by rw [List.length_take]; omega)
/-- The rows while the new part is entered. -/
structure Two (w w0 wr w' : World) (t0 u0 vp : Value) (pv : List Value) (t u : Value) (ts us : List Value) : Prop where
  ext : Ext w w'
  chg : Chg w0 w' t0 u0
  size : wr.heap.size ≤ w'.heap.size
  rt : Row w' w.heap.size 48 t ts
  ru : Row w' w.heap.size 52 u us
  rp : Row w' w.heap.size 52 vp pv
  tu : ∀ k, t.ownBlock = some k → u.ownBlock ≠ some k
  nt : t.ownBlock = t0.ownBlock ∨ ∃ k, t.ownBlock = some k ∧ wr.heap.size ≤ k
  nu : u.ownBlock = u0.ownBlock ∨ ∃ k, u.ownBlock = some k ∧ wr.heap.size ≤ k
structure Old (w0 wr : World) (t0 u0 vp : Value) : Prop where
  t : ∀ k, t0.ownBlock = some k → k < w0.heap.size
  u : ∀ k, u0.ownBlock = some k → k < w0.heap.size
  p : ∀ k, vp.ownBlock = some k → w0.heap.size ≤ k ∧ k < wr.heap.size
  s : w0.heap.size ≤ wr.heap.size
theorem Two.step {w w0 wr w1 w2 : World} {t0 u0 vp t u : Value} {pv ts us : List Value} (h : Two w w0 wr w1 t0 u0 vp pv t u ts us) (k : Ext w1 w2) : Two w w0 wr w2 t0 u0 vp pv t u ts us :=
  ⟨h.ext.trans k, h.chg.ext_r k, Nat.le_trans h.size k.size, h.rt.ext k, h.ru.ext k, h.rp.ext k, h.tu, h.nt, h.nu⟩
theorem Two.app1 {w w0 wr w1 w2 : World} {t0 u0 vp t u t' : Value} {pv ts us ts' : List Value} (o : Old w0 wr t0 u0 vp) (h : Two w w0 wr w1 t0 u0 vp pv t u ts us) (hr : Row w2 w.heap.size 48 t' ts') (hE : Ext w w2) (hg : w1.grownBy w2 t.ownBlock) (hb : t'.ownBlock = t.ownBlock ∨ t'.ownBlock = some w1.heap.size) :
    Two w w0 wr w2 t0 u0 vp pv t' u ts' us := by
  refine ⟨hE, h.chg.grown hg fun b hb0 ht _ e => ?_, Nat.le_trans h.size hg.size, hr, h.ru.kept fun k hk => hg.block k (h.ru.lt k hk).2 fun e => h.tu k e.symm hk, h.rp.kept fun k hk => hg.block k (h.rp.lt k hk).2 fun e => ?_, fun k hk hu => ?_, ?_, h.nu⟩
  · rcases h.nt with e1 | ⟨k, e1, hk⟩
    · exact ht (e1 ▸ e)
    · rw [e1] at e; cases e; have := o.s; omega
  · obtain ⟨p1, p2⟩ := o.p k hk
    rcases h.nt with e1 | ⟨j, e1, hj⟩
    · have := o.t k (by rw [← e1]; exact e.symm); omega
    · rw [e1] at e; cases e; omega
  · rcases hb with e1 | e1
    · exact h.tu k (e1 ▸ hk) hu
    · rw [e1] at hk; cases hk
      have := (h.ru.lt _ hu).2
      omega
  · rcases hb with e1 | e1
    · rw [e1]; exact h.nt
    · exact .inr ⟨_, e1, h.size⟩
theorem Two.app2 {w w0 wr w1 w2 : World} {t0 u0 vp t u u' : Value} {pv ts us us' : List Value} (o : Old w0 wr t0 u0 vp) (h : Two w w0 wr w1 t0 u0 vp pv t u ts us) (hr : Row w2 w.heap.size 52 u' us') (hE : Ext w w2) (hg : w1.grownBy w2 u.ownBlock) (hb : u'.ownBlock = u.ownBlock ∨ u'.ownBlock = some w1.heap.size) :
    Two w w0 wr w2 t0 u0 vp pv t u' ts us' := by
  refine ⟨hE, h.chg.grown hg fun b hb0 _ hu e => ?_, Nat.le_trans h.size hg.size, h.rt.kept fun k hk => hg.block k (h.rt.lt k hk).2 fun e => h.tu k hk e.symm, hr, h.rp.kept fun k hk => hg.block k (h.rp.lt k hk).2 fun e => ?_, fun k hk hu => ?_, h.nt, ?_⟩
  · rcases h.nu with e1 | ⟨k, e1, hk⟩
    · exact hu (e1 ▸ e)
    · rw [e1] at e; cases e; have := o.s; omega
  · obtain ⟨p1, p2⟩ := o.p k hk
    rcases h.nu with e1 | ⟨j, e1, hj⟩
    · have := o.u k (by rw [← e1]; exact e.symm); omega
    · rw [e1] at e; cases e; omega
  · rcases hb with e1 | e1
    · exact h.tu k hk (e1 ▸ hu)
    · rw [e1] at hu; cases hu
      have := (h.rt.lt _ hk).2
      omega
  · rcases hb with e1 | e1
    · rw [e1]; exact h.nu
    · exact .inr ⟨_, e1, h.size⟩
theorem VsAt.grown {w w' : World} {k : Nat} {vs : List Value} {row : Option Nat} (h : VsAt w (some ⟨k, 0, none⟩) vs) (hg : w.grownBy w' row) (hr : row ≠ some k) : VsAt w' (some ⟨k, 0, none⟩) vs := fun h0 => by
  obtain ⟨ad, e, hb, hc⟩ := h h0
  obtain rfl := Option.some.inj e
  refine ⟨_, rfl, Nat.lt_of_lt_of_le hb hg.size, fun j u hj => ?_⟩
  rw [add0]
  have := hc j u hj
  rw [add0] at this
  rw [World.cell?_of_block (a := ⟨k, j, none⟩) (hg.block k hb (Ne.symm hr))]
  exact this
/-- The parts behind a round. -/
theorem Two.done {w w0 wr w' : World} {t0 u0 vp t u : Value} {ps : List PT} {s un : Nat} {xs : List Nat} (h : Pts w0 w.heap.size t0 u0 ps) (o : Old w0 wr t0 u0 vp)
    (k : Two w w0 wr w' t0 u0 vp (xs.map uV) t u ((ps.filter (kp s)).map (·.1) ++ [vp]) (((ps.filter (kp s)).map (·.2.2)).map uV ++ [uV un])) :
    Pts w' w.heap.size t u (ps.filter (kp s) ++ [(vp, xs, un)]) := by
  have nb : ∀ b, b < w0.heap.size → t0.ownBlock ≠ some b → u0.ownBlock ≠ some b → t.ownBlock ≠ some b ∧ u.ownBlock ≠ some b := fun b hb h1 h2 => by
    have := o.s
    refine ⟨fun e => ?_, fun e => ?_⟩
    · rcases k.nt with e1 | ⟨j, e1, hj⟩
      · exact h1 (e1 ▸ e)
      · rw [e1] at e; cases e; omega
    · rcases k.nu with e1 | ⟨j, e1, hj⟩
      · exact h2 (e1 ▸ e)
      · rw [e1] at e; cases e; omega
  refine ⟨by rw [List.map_append]; exact k.rt, by rw [List.map_append, List.map_append]; exact k.ru, fun p hp => ?_, fun p hp b hb => ?_, k.tu⟩
  · rcases List.mem_append.1 hp with h1 | h1
    · exact h.part k.chg (List.mem_filter.1 h1).1
    · rw [List.mem_singleton.1 h1]
      exact k.rp.sl
  · rcases List.mem_append.1 hp with h1 | h1
    · obtain ⟨a1, a2, a3⟩ := h.ne p (List.mem_filter.1 h1).1 b hb
      have := nb b a3 a1 a2
      exact ⟨this.1, this.2, Nat.lt_of_lt_of_le a3 k.chg.size⟩
    · rw [List.mem_singleton.1 h1] at hb
      obtain ⟨p1, p2⟩ := o.p b hb
      refine ⟨fun e => ?_, fun e => ?_, Nat.lt_of_lt_of_le p2 k.size⟩
      · rcases k.nt with e1 | ⟨j, e1, hj⟩
        · have := o.t b (e1 ▸ e); omega
        · rw [e1] at e; cases e; omega
      · rcases k.nu with e1 | ⟨j, e1, hj⟩
        · have := o.u b (e1 ▸ e); omega
        · rw [e1] at e; cases e; omega
/-- The lists of a round, as the plain law has them. -/
theorem round_eq (ps : List PT) (s : Nat) (vp : Value) : (ps.filter (kp s) ++ [(vp, s :: (ps.filter (nk s)).flatMap (·.2.1), (ps.filter (nk s)).foldl (fun u p => u ||| p.2.2) s)]).map (·.2) = partS (ps.map (·.2)) s := by
  unfold partS
  have e1 : (ps.map (·.2)).filter (fun p => decide (p.2 &&& s = 0)) = (ps.filter (kp s)).map (·.2) := by rw [List.filter_map]; rfl
  have e2 : (ps.map (·.2)).filter (fun p => !decide (p.2 &&& s = 0)) = (ps.filter (nk s)).map (·.2) := by rw [List.filter_map]; rfl
  rw [e1, e2, List.map_append, List.flatMap_map, List.foldl_map]
  rfl
end Go.Proofs.YtdcbejccplonjaaDoor
