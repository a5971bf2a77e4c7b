/- A map of keys that a call has made: it is filled, and looked at in any order. Words for networks: values of 83 cells that are not written out; the program's network lies in memory as such cells, with a map in the last one. The network's calls in plain terms. -/
import Derived.Test.YtehmpbaiefbemaaGreatN13
import Derived.Maps.RangeRun
import Derived.WideKeyRuns
namespace Go.Proofs.YtehmpbaiefbemaaGreat
open Go.RowKit
open Go.ChangeMaps (setBlock)
theorem keyV_inj {a b : Ky} (h : keyV a = keyV b) : a = b := by
  obtain ⟨a1, a2, a3, a4⟩ := a
  obtain ⟨b1, b2, b3, b4⟩ := b
  simp at h
  obtain ⟨h1, h2, h3, h4⟩ := h
  have h1 : a1 = b1 := by omega
  simp [h1, h2, h3, h4]
theorem run_same73 (w : World) (a b : Ky) : (Op.equal 58 (keyV a) (keyV b)).run Tryz.prog w = .ok (decide (a = b)) w := by
  have h := run_eq73 w a.1 b.1 a.2.1 a.2.2.1 a.2.2.2 b.2.1 b.2.2.1 b.2.2.2
  unfold eqS at h
  have e : eqB (a.1, a.2.1, a.2.2.1, a.2.2.2) (b.1, b.2.1, b.2.2.1, b.2.2.2) = decide (a = b) := by unfold eqB; rfl
  rw [e] at h
  simp only [binOp, Sem.run_bind] at h
  cases hr : (Op.equal 58 (keyV a) (keyV b)).run Tryz.prog w with
  | ok v w' =>
    rw [hr] at h
    simp [Result.andThen, Sem.run_pure] at h
    rw [h.1, h.2]
  | _ =>
    rw [hr] at h
    simp [Result.andThen] at h
theorem run_check_any (w : World) (e : Bool) (k : Ky) (n : Nat) : (Instr.checkKey e (n + 1 + 1) 58 (keyV k)).run Tryz.prog w = .ok () w := by
  have h1 : ∀ x : Int, (Instr.checkKey e (n + 1) 3 (iV x)).run Tryz.prog w = .ok () w := fun x => MapKept.run_checkKey (d := .int .i64) Tryz.underlying3 (by simp [MapKept.IsKey]) _ n
  have h2 : ∀ x : Nat, (Instr.checkKey e (n + 1) 56 (kV x)).run Tryz.prog w = .ok () w := fun x => MapKept.run_checkKey (d := .int .u8) Tryz.underlying56 (by simp [MapKept.IsKey]) _ n
  rw [Instr.checkKey]
  go_simp
theorem run_check73 (w : World) (e : Bool) (k : Ky) : (Instr.checkKey e 10000 58 (keyV k)).run Tryz.prog w = .ok () w := run_check_any w e k 9998
/-- A map holds true at these keys, and at no others. -/
structure Mk (w : World) (r : Nat) (ks : List Ky) : Prop where
  at_ : ∃ es clock, w.heap[r]? = some (.map es clock) ∧ es.toList.map (·.key) = ks.map keyV ∧ (∀ e ∈ es.toList, e.val = .bool true) ∧ MapKept.Stamped es clock
theorem Mk.kept {w w' : World} {r : Nat} {ks : List Ky} (h : Mk w r ks) (hb : w'.heap[r]? = w.heap[r]?) : Mk w' r ks := by
  obtain ⟨es, c, h1, h2⟩ := h.at_
  exact ⟨es, c, by rw [hb]; exact h1, h2⟩
theorem Mk.lt {w : World} {r : Nat} {ks : List Ky} (h : Mk w r ks) : r < w.heap.size := by
  obtain ⟨es, c, h1, _⟩ := h.at_
  exact (Array.getElem?_eq_some_iff.1 h1).1
theorem Mk.ext {w w' : World} {r : Nat} {ks : List Ky} (h : Mk w r ks) (k : Ext w w') : Mk w' r ks := h.kept (k.block r h.lt)
theorem Mk.new (w : World) : Mk (w.alloc (.map #[] 0)) w.heap.size [] := ⟨#[], 0, heap_alloc_new w _, rfl, by simp, MapKept.stamped_empty 0⟩
theorem Mk.nodup {w : World} {r : Nat} {ks : List Ky} (h : Mk w r ks) : ks.Nodup := by
  obtain ⟨es, c, _, h2, _, _, _, h5⟩ := h.at_
  rw [h2] at h5
  exact List.Pairwise.of_map keyV (fun a b hab e => hab (by rw [e])) h5
theorem find_ask (w : World) (x : Ky) : ∀ (es : List MapEntry) (ks : List Ky) (i : Nat), es.map (·.key) = ks.map keyV → (∀ e ∈ es, e.val = .bool true) →
    ((∃ j e, es[j]? = some e ∧ e.key = keyV x ∧ x ∈ ks ∧ (Instr.findAsking 58 (keyV x) es i).run Tryz.prog w = .ok (some (i + j, .bool true)) w) ∨ (x ∉ ks ∧ (Instr.findAsking 58 (keyV x) es i).run Tryz.prog w = .ok none w))
  | [], [], i, _, _ => .inr ⟨by simp, rfl⟩
  | [], _ :: _, _, h, _ => by simp at h
  | _ :: _, [], _, h, _ => by simp at h
  | e :: es, k :: ks, i, h, hv => by
    rw [List.map_cons, List.map_cons, List.cons.injEq] at h
    obtain ⟨h1, h2⟩ := h
    have hr := run_same73 w x k
    rw [← h1] at hr
    by_cases hz : x = k
    · subst hz
      rw [decide_eq_true rfl] at hr
      exact .inl ⟨0, e, rfl, h1, by simp, by simp [Instr.findAsking, hr, hv e (by simp), Result.andThen]⟩
    · rw [decide_eq_false hz] at hr
      rcases find_ask w x es ks (i + 1) h2 (fun e' he' => hv e' (by simp [he'])) with ⟨j, e', g1, g2, g3, g4⟩ | ⟨g1, g2⟩
      · exact .inl ⟨j + 1, e', by simpa using g1, g2, by simp [g3], by simp [Instr.findAsking, hr, g4, Result.andThen]; omega⟩
      · exact .inr ⟨by simp [hz, g1], by simp [Instr.findAsking, hr, g2, Result.andThen]⟩
theorem bits_any (k : Ky) (n : Nat) : Instr.sameBits (n + 1) (keyV k) (keyV k) = true := by
  simp [Instr.sameBits]
theorem bits_self (k : Ky) : Instr.sameBits 10000 (keyV k) (keyV k) = true := bits_any k 9999
theorem run_stay (w : World) (k : Ky) : (Instr.keyThatStays (keyV k) (keyV k)).run Tryz.prog w = .ok (keyV k) w := by
  unfold Instr.keyThatStays
  rw [if_pos (bits_self k)]
  rfl
/-- The keys behind an update. -/
def putM (ks : List Ky) (k : Ky) : List Ky := if k ∈ ks then ks else ks ++ [k]
theorem mem_putM {ks : List Ky} {k x : Ky} : x ∈ putM ks k ↔ x = k ∨ x ∈ ks := by
  unfold putM
  split
  · rename_i h
    exact ⟨.inr, fun e => e.elim (fun e => e ▸ h) id⟩
  · simp [or_comm]
theorem run_upd {w : World} {r : Nat} {ks : List Ky} (h : Mk w r ks) (x : Ky) : ∃ o, (Instr.mapUpdate 73 (.map (some r)) (keyV x) (.bool true)).run Tryz.prog w = .ok () (setBlock w r o) ∧ Mk (setBlock w r o) r (putM ks x) := by
  obtain ⟨es, clock, hb, hk, hv, hs⟩ := h.at_
  have hf := run_findKey_eq (P := Tryz.prog) (k := 58) w (by rw [Tryz.underlying58]) (keyV x) es.toList
  rcases find_ask w x es.toList ks 0 hk hv with ⟨j, e, h1, h2, h3, h4⟩ | ⟨h1, h2⟩
  · rw [h4, Nat.zero_add] at hf
    have hj : es[j]? = some e := by rw [← Array.getElem?_toList]; exact h1
    have hkf : ∀ e', es[j]? = some e' → ({ e' with key := keyV x, val := .bool true } : MapEntry).key = e'.key := fun e' he' => by rw [hj] at he'; cases he'; exact h2.symm
    refine ⟨.map (es.modify j fun e => { e with key := keyV x, val := .bool true }) clock, ?_, _, clock, (MapKept.heap_set hb).1, ?_, ?_, MapKept.stamped_modify hs _ _ (fun _ _ => rfl) (fun e' _ he' => hkf e' he')⟩
    · simp [Instr.mapUpdate, run_underlying Tryz.underlying73, MapKept.run_getObj_map hb, run_check73, hf, hj, h2, run_stay, MapKept.run_setObj_map _ hb, Result.andThen, setBlock]
    · rw [MapKept.modify_keys _ _ hkf, hk, putM, if_pos h3]
    · intro e' he'
      rcases MapFrom.mem_modify he' with he' | ⟨_, _, rfl⟩
      · exact hv e' he'
      · rfl
  · rw [h2] at hf
    have hne : ∀ e ∈ es.toList, e.key ≠ keyV x := fun e he hx => by
      have : e.key ∈ ks.map keyV := by rw [← hk]; exact List.mem_map.2 ⟨e, he, rfl⟩
      obtain ⟨k, hk1, hk2⟩ := List.mem_map.1 this
      exact h1 (by rw [← keyV_inj (hk2.trans hx)]; exact hk1)
    refine ⟨.map (es.push { key := keyV x, val := .bool true, born := clock }) (clock + 1), ?_, _, clock + 1, (MapKept.heap_set hb).1, ?_, ?_, MapKept.stamped_push hs hne⟩
    · simp [Instr.mapUpdate, run_underlying Tryz.underlying73, MapKept.run_getObj_map hb, run_check73, hf, MapKept.run_setObj_map _ hb, Result.andThen, setBlock]
    · rw [Array.toList_push, List.map_append, hk, putM, if_neg h1]
      simp
    · intro e' he'
      rw [Array.toList_push] at he'
      rcases List.mem_append.1 he' with hm | hm
      · exact hv e' hm
      · rw [List.mem_singleton.1 hm]
section
variable {ops : Array Oper} {rest : List Oper} {o : Oper} {a : Act} {Q : Exit → Act → World → Prop} {w : World}
theorem wupd (hgd : o.guard = none) (m k x : Operand) (ho : o.op = .mapUpdate 73 m k x) {r : Nat} {ks : List Ky} {z : Ky} (hm : a.eval m = .map (some r)) (hk : a.eval k = keyV z) (hx : a.eval x = .bool true) (h : Mk w r ks)
    (hK : ∀ o', Mk (setBlock w r o') r (putM ks z) → wpList Tryz.prog ops Q rest (a.put o.dst undef) (setBlock w r o')) :
    wpList Tryz.prog ops Q (o :: rest) a w := by
  refine wpList_plain hgd fun K hK' => ?_
  obtain ⟨o', hrun, h1⟩ := run_upd h z
  unfold Oper.wp
  simp [execOp, ho, hm, hk, hx, hrun, Result.andThen]
  exact hK' _ _ (hK o' h1)
end
theorem size_setBlock (w : World) (r : Nat) (o : Obj) : (setBlock w r o).heap.size = w.heap.size := by simp [setBlock]
theorem heap_setBlock (w : World) (r k : Nat) (o : Obj) (h : k ≠ r) : (setBlock w r o).heap[k]? = w.heap[k]? := by
  unfold setBlock
  rw [Array.getElem?_setIfInBounds_ne (by omega)]
end Go.Proofs.YtehmpbaiefbemaaGreat
namespace Go.Proofs.YtehmpbaiefbemaaGreat
open Go.RowKit
open Go.ChangeMaps (setBlock)
/-- The cells of a network: choices, holds, numbers of messages, timers, disk operations; what was consumed. -/
def nvl (c h : Value) (s t d : Nat → Nat) (u : Value) : List Value := [c, h] ++ ((List.range 64).map (fun k => iV (s k : Int)) ++ ((List.range 8).map (fun k => iV (t k : Int)) ++ ((List.range 8).map (fun k => iV (d k : Int)) ++ [u])))
@[irreducible] def NV (c h : Value) (s t d : Nat → Nat) (u : Value) : Array Value := (nvl c h s t d u).toArray
def upd (s : Nat → Nat) (k v : Nat) : Nat → Nat := fun j => if j = k then v else s j
section
variable {c h u : Value} {s t d : Nat → Nat}
theorem NV_size : (NV c h s t d u).size = 83 := by unfold NV nvl; simp
theorem NV_0 : (NV c h s t d u)[0]? = some c := by unfold NV nvl; simp
theorem NV_1 : (NV c h s t d u)[1]? = some h := by unfold NV nvl; simp
theorem NV_sent {k : Nat} (hk : k < 64) : (NV c h s t d u)[2 + k]? = some (iV (s k : Int)) := by
  unfold NV nvl
  rw [List.getElem?_toArray, List.getElem?_append_right (by simp), List.getElem?_append_left (by simp; omega)]
  simp [hk]
theorem NV_tim {k : Nat} (hk : k < 8) : (NV c h s t d u)[66 + k]? = some (iV (t k : Int)) := by
  unfold NV nvl
  rw [List.getElem?_toArray, List.getElem?_append_right (by simp; omega), List.getElem?_append_right (by simp; omega), List.getElem?_append_left (by simp; omega)]
  have : 66 + k - 2 - 64 = k := by omega
  simp [this, hk]
theorem NV_dis {k : Nat} (hk : k < 8) : (NV c h s t d u)[74 + k]? = some (iV (d k : Int)) := by
  unfold NV nvl
  rw [List.getElem?_toArray, List.getElem?_append_right (by simp; omega), List.getElem?_append_right (by simp; omega), List.getElem?_append_right (by simp; omega), List.getElem?_append_left (by simp; omega)]
  have : 74 + k - 2 - 64 - 8 = k := by omega
  simp [this, hk]
theorem NV_82 : (NV c h s t d u)[82]? = some u := by
  unfold NV nvl
  rw [List.getElem?_toArray, List.getElem?_append_right (by simp), List.getElem?_append_right (by simp), List.getElem?_append_right (by simp), List.getElem?_append_right (by simp)]
  simp
theorem NV_ext {cs : Array Value} (hz : cs.size = 83) (h0 : cs[0]? = some c) (h1 : cs[1]? = some h) (hs : ∀ k, k < 64 → cs[2 + k]? = some (iV (s k : Int))) (ht : ∀ k, k < 8 → cs[66 + k]? = some (iV (t k : Int)))
    (hd : ∀ k, k < 8 → cs[74 + k]? = some (iV (d k : Int))) (hu : cs[82]? = some u) : cs = NV c h s t d u := by
  apply Array.ext_getElem?
  intro i
  by_cases e0 : i = 0
  · subst e0; rw [h0, NV_0]
  by_cases e1 : i = 1
  · subst e1; rw [h1, NV_1]
  by_cases e2 : i < 66
  · rw [show i = 2 + (i - 2) by omega, hs _ (by omega), NV_sent (by omega)]
  by_cases e3 : i < 74
  · rw [show i = 66 + (i - 66) by omega, ht _ (by omega), NV_tim (by omega)]
  by_cases e4 : i < 82
  · rw [show i = 74 + (i - 74) by omega, hd _ (by omega), NV_dis (by omega)]
  by_cases e5 : i = 82
  · subst e5; rw [hu, NV_82]
  rw [Array.getElem?_eq_none (by omega), Array.getElem?_eq_none (by rw [NV_size]; omega)]
theorem set_at {cs : Array Value} {i j : Nat} {v : Value} (hz : cs.size = 83) (hi : i < 83) : (cs.setIfInBounds i v)[j]? = if i = j then some v else cs[j]? := by
  rw [Array.getElem?_setIfInBounds]
  by_cases e : i = j
  · subst e; rw [if_pos rfl, if_pos rfl, if_pos (by omega)]
  · rw [if_neg e, if_neg e]
theorem NV_setSent {k v : Nat} (hk : k < 64) : (NV c h s t d u).setIfInBounds (2 + k) (iV (v : Int)) = NV c h (upd s k v) t d u := by
  have S : ∀ j, ((NV c h s t d u).setIfInBounds (2 + k) (iV (v : Int)))[j]? = if 2 + k = j then some (iV (v : Int)) else (NV c h s t d u)[j]? := fun j => set_at NV_size (by omega)
  refine NV_ext (by simp [NV_size]) (by rw [S, if_neg (by omega), NV_0]) (by rw [S, if_neg (by omega), NV_1]) (fun j hj => ?_) (fun j hj => by rw [S, if_neg (by omega), NV_tim hj]) (fun j hj => by rw [S, if_neg (by omega), NV_dis hj]) (by rw [S, if_neg (by omega), NV_82])
  rw [S, NV_sent hj, upd]
  by_cases e : j = k
  · rw [if_pos (by omega), if_pos e]
  · rw [if_neg (by omega), if_neg e]
theorem NV_setTim {k v : Nat} (hk : k < 8) : (NV c h s t d u).setIfInBounds (66 + k) (iV (v : Int)) = NV c h s (upd t k v) d u := by
  have S : ∀ j, ((NV c h s t d u).setIfInBounds (66 + k) (iV (v : Int)))[j]? = if 66 + k = j then some (iV (v : Int)) else (NV c h s t d u)[j]? := fun j => set_at NV_size (by omega)
  refine NV_ext (by simp [NV_size]) (by rw [S, if_neg (by omega), NV_0]) (by rw [S, if_neg (by omega), NV_1]) (fun j hj => by rw [S, if_neg (by omega), NV_sent hj]) (fun j hj => ?_) (fun j hj => by rw [S, if_neg (by omega), NV_dis hj]) (by rw [S, if_neg (by omega), NV_82])
  rw [S, NV_tim hj, upd]
  by_cases e : j = k
  · rw [if_pos (by omega), if_pos e]
  · rw [if_neg (by omega), if_neg e]
theorem NV_setDis {k v : Nat} (hk : k < 8) : (NV c h s t d u).setIfInBounds (74 + k) (iV (v : Int)) = NV c h s t (upd d k v) u := by
  have S : ∀ j, ((NV c h s t d u).setIfInBounds (74 + k) (iV (v : Int)))[j]? = if 74 + k = j then some (iV (v : Int)) else (NV c h s t d u)[j]? := fun j => set_at NV_size (by omega)
  refine NV_ext (by simp [NV_size]) (by rw [S, if_neg (by omega), NV_0]) (by rw [S, if_neg (by omega), NV_1]) (fun j hj => by rw [S, if_neg (by omega), NV_sent hj]) (fun j hj => by rw [S, if_neg (by omega), NV_tim hj]) (fun j hj => ?_) (by rw [S, if_neg (by omega), NV_82])
  rw [S, NV_dis hj, upd]
  by_cases e : j = k
  · rw [if_pos (by omega), if_pos e]
  · rw [if_neg (by omega), if_neg e]
theorem NV_setU {v : Value} : (NV c h s t d u).setIfInBounds 82 v = NV c h s t d v := by
  have S : ∀ j, ((NV c h s t d u).setIfInBounds 82 v)[j]? = if 82 = j then some v else (NV c h s t d u)[j]? := fun j => set_at NV_size (by omega)
  exact NV_ext (by simp [NV_size]) (by rw [S, if_neg (by omega), NV_0]) (by rw [S, if_neg (by omega), NV_1]) (fun j hj => by rw [S, if_neg (by omega), NV_sent hj]) (fun j hj => by rw [S, if_neg (by omega), NV_tim hj]) (fun j hj => by rw [S, if_neg (by omega), NV_dis hj]) (by rw [S, if_pos rfl])
theorem NV_setH {v : Value} : (NV c h s t d u).setIfInBounds 1 v = NV c v s t d u := by
  have S : ∀ j, ((NV c h s t d u).setIfInBounds 1 v)[j]? = if 1 = j then some v else (NV c h s t d u)[j]? := fun j => set_at NV_size (by omega)
  exact NV_ext (by simp [NV_size]) (by rw [S, if_neg (by omega), NV_0]) (by rw [S, if_pos rfl]) (fun j hj => by rw [S, if_neg (by omega), NV_sent hj]) (fun j hj => by rw [S, if_neg (by omega), NV_tim hj]) (fun j hj => by rw [S, if_neg (by omega), NV_dis hj]) (by rw [S, if_neg (by omega), NV_82])
theorem NV_setC {v : Value} : (NV c h s t d u).setIfInBounds 0 v = NV v h s t d u := by
  have S : ∀ j, ((NV c h s t d u).setIfInBounds 0 v)[j]? = if 0 = j then some v else (NV c h s t d u)[j]? := fun j => set_at NV_size (by omega)
  exact NV_ext (by simp [NV_size]) (by rw [S, if_pos rfl]) (by rw [S, if_neg (by omega), NV_1]) (fun j hj => by rw [S, if_neg (by omega), NV_sent hj]) (fun j hj => by rw [S, if_neg (by omega), NV_tim hj]) (fun j hj => by rw [S, if_neg (by omega), NV_dis hj]) (by rw [S, if_neg (by omega), NV_82])
theorem NV_one (hc : c.oneCell' = true) (hh : h.oneCell' = true) (hu : u.oneCell' = true) : (NV c h s t d u).all (·.oneCell') = true := by
  unfold NV
  rw [Array.all_eq_true_iff_forall_mem]
  intro v hv
  have hv : v ∈ nvl c h s t d u := by simpa using hv
  unfold nvl at hv
  simp only [List.mem_append, List.mem_map, List.mem_cons, List.not_mem_nil, or_false] at hv
  rcases hv with (rfl | rfl) | ⟨k, _, rfl⟩ | ⟨k, _, rfl⟩ | ⟨k, _, rfl⟩ | rfl
  · exact hc
  · exact hh
  · rfl
  · rfl
  · rfl
  · exact hu
end
/-- The cells of a block. -/
def blkOf (w : World) (g : Nat) : Array Value := match w.heap[g]? with
  | some (.cells cs _ (0, 0)) => cs
  | _ => #[]
theorem blkOf_of {w : World} {g T : Nat} {cs : Array Value} (h : w.heap[g]? = some (.cells cs T (0, 0))) : blkOf w g = cs := by simp [blkOf, h]
theorem of_blkOf {w : World} {g : Nat} (h : (blkOf w g).size = 83) : ∃ T, w.heap[g]? = some (.cells (blkOf w g) T (0, 0)) := by
  unfold blkOf at h ⊢
  split at h
  · rename_i cs T e; exact ⟨T, by rw [e]⟩
  · simp at h
theorem blkOf_kept {w w' : World} {g : Nat} (h : w'.heap[g]? = w.heap[g]?) : blkOf w' g = blkOf w g := by unfold blkOf; rw [h]
theorem blkOf_ext {w w' : World} (h : Ext w w') {g : Nat} (hg : g < w.heap.size) : blkOf w' g = blkOf w g := blkOf_kept (h.block g hg)
theorem blkOf_drew (w : World) (g : Nat) : blkOf w.drew g = blkOf w g := rfl
theorem blkOf_new {w : World} {cs : Array Value} {T : Nat} : blkOf (w.alloc (.cells cs T)) w.heap.size = cs := blkOf_of (heap_alloc_new w _)
theorem blkOf_cell {w : World} {g k : Nat} {v : Value} (h : (blkOf w g)[k]? = some v) : w.cell? ⟨g, k, none⟩ = some v := by
  unfold blkOf at h
  split at h
  · rename_i cs T e; rw [cell_of_row w g k cs T (0, 0) e]; exact h
  · simp at h
theorem blkOf_frozen {w : World} {g k : Nat} (h : 0 < (blkOf w g).size) : w.frozen? ⟨g, k, none⟩ = false := by
  unfold blkOf at h
  split at h
  · rename_i cs T e; simp [World.frozen?, e]
  · simp at h
theorem blkOf_set {w : World} {g k : Nat} {v : Value} (h : 0 < (blkOf w g).size) : blkOf (w.setCell ⟨g, k, none⟩ v) g = (blkOf w g).setIfInBounds k v := by
  have h' := h
  unfold blkOf at h
  split at h
  · rename_i cs T e
    rw [blkOf_of e]
    apply blkOf_of (T := T)
    simp [World.setCell, Array.getElem?_modify, e]
  · simp at h
theorem blkOf_far {w : World} {g : Nat} {a : Addr} {v : Value} (h : a.block ≠ g) : blkOf (w.setCell a v) g = blkOf w g := by
  unfold blkOf; rw [Below.heap_setCell w a v g (Ne.symm h)]
theorem blkOf_lt {w : World} {g : Nat} (h : 0 < (blkOf w g).size) : g < w.heap.size := by
  rcases Nat.lt_or_ge g w.heap.size with h' | h'
  · exact h'
  · unfold blkOf at h; rw [Array.getElem?_eq_none h'] at h; simp at h
/-- Memory has only grown, but for the blocks g and r. -/
structure Exc (g r : Nat) (w w' : World) : Prop where
  os : w'.os = w.os
  tape : w'.tape = w.tape
  output : w'.output = w.output
  size : w.heap.size ≤ w'.heap.size
  block : ∀ k, k < w.heap.size → k ≠ g → k ≠ r → w'.heap[k]? = w.heap[k]?
theorem Exc.refl (g r : Nat) (w : World) : Exc g r w w := ⟨rfl, rfl, rfl, Nat.le_refl _, fun _ _ _ _ => rfl⟩
theorem Exc.trans {g r : Nat} {a b c : World} (h : Exc g r a b) (k : Exc g r b c) : Exc g r a c :=
  ⟨k.os.trans h.os, k.tape.trans h.tape, k.output.trans h.output, Nat.le_trans h.size k.size, fun i hi h1 h2 => (k.block i (Nat.lt_of_lt_of_le hi h.size) h1 h2).trans (h.block i hi h1 h2)⟩
theorem Ext.exc {w w' : World} (h : Ext w w') (g r : Nat) : Exc g r w w' := ⟨h.os, h.tape, h.output, h.size, fun k hk _ _ => h.block k hk⟩
/-- What was there ahead of the blocks g and r is as it was. -/
theorem Exc.ext {g r : Nat} {a b c : World} (h : Exc g r b c) (k : Ext a b) (hg : a.heap.size ≤ g) (hr : a.heap.size ≤ r) : Ext a c :=
  ⟨h.os.trans k.os, h.tape.trans k.tape, h.output.trans k.output, Nat.le_trans k.size h.size, fun i hi => (h.block i (Nat.lt_of_lt_of_le hi k.size) (by omega) (by omega)).trans (k.block i hi)⟩
theorem Exc.set {g r : Nat} {w w' : World} (h : Exc g r w w') {p : Addr} (hp : p.block = g ∨ p.block = r ∨ w.heap.size ≤ p.block) (u : Value) : Exc g r w (w'.setCell p u) :=
  ⟨h.os, h.tape, h.output, by simpa using h.size, fun k hk h1 h2 => by
    rw [Below.heap_setCell _ _ _ _ (by omega)]; exact h.block k hk h1 h2⟩
theorem Exc.map {g r : Nat} {w w' : World} (h : Exc g r w w') (o : Obj) : Exc g r w (setBlock w' r o) :=
  ⟨h.os, h.tape, h.output, by rw [size_setBlock]; exact h.size, fun k hk h1 h2 => by rw [heap_setBlock _ _ _ _ h2]; exact h.block k hk h1 h2⟩
theorem Exc.alloc {g r : Nat} {w w' : World} (h : Exc g r w w') (o : Obj) : Exc g r w (w'.alloc o) := h.trans (((Ext.refl _).alloc o).exc g r)
theorem Exc.drewN {g r : Nat} {w w' : World} (h : Exc g r w w') (n : Nat) : Exc g r w (w'.drewN n) := h.trans (((Ext.refl _).drewN n).exc g r)
/-- A fact that stands whatever becomes of the blocks g and r. -/
def Stay (g r : Nat) (P : World → Prop) (w : World) : Prop := ∀ w', Exc g r w w' → P w'
theorem Stay.now {g r : Nat} {P : World → Prop} {w : World} (h : Stay g r P w) : P w := h w (Exc.refl _ _ _)
theorem Stay.exc {g r : Nat} {P : World → Prop} {w w' : World} (h : Stay g r P w) (k : Exc g r w w') : Stay g r P w' := fun w2 h2 => h w2 (k.trans h2)
end Go.Proofs.YtehmpbaiefbemaaGreat
namespace Go.Proofs.YtehmpbaiefbemaaGreat
/-- The number of the choice with a key. -/
def getF (cs : List Ch) (k : Ky) : Option Int := (cs.find? fun c => decide (c.1 = k)).map (·.2)
/-- The ordinals so far, and the keys that were consumed, in order. -/
structure St where
  s : Nat → Nat
  t : Nat → Nat
  d : Nat → Nat
  ks : List Ky
def eatF (cs : List Ch) (ks : List Ky) (k : Ky) : List Ky := if (getF cs k).isSome then insK k ks else ks
def inC (c : Int) : Prop := 0 ≤ c ∧ c < 8
instance (c : Int) : Decidable (inC c) := inferInstanceAs (Decidable (0 ≤ c ∧ c < 8))
def ix (f t : Int) : Nat := (8 * f + t).toNat
def hasB (hs : List Jh) (m : Ms) : Bool := hs.any fun h => decide (h.1 = m)
theorem hasB_iff {hs : List Jh} {m : Ms} : hasB hs m = true ↔ HasM hs m := by simp [hasB, HasM]
def sendF (cs : List Ch) (hs : List Jh) (f t tick lat : Int) (x : St) : St × Int × List Int :=
  if inC f ∧ inC t then
    if hasB hs (f, t, x.s (ix f t)) then ({ x with s := upd x.s (ix f t) (x.s (ix f t) + 1) }, x.s (ix f t), [])
    else match getF cs (5, f, t, x.s (ix f t)) with
      | some _ => ({ x with s := upd x.s (ix f t) (x.s (ix f t) + 1), ks := insK (5, f, t, x.s (ix f t)) x.ks }, x.s (ix f t), [])
      | none => match getF cs (7, f, t, x.s (ix f t)) with
        | some d => ({ x with s := upd x.s (ix f t) (x.s (ix f t) + 1), ks := insK (7, f, t, x.s (ix f t)) (eatF cs x.ks (6, f, t, x.s (ix f t))) }, x.s (ix f t),
            [tick + max lat 1 + (getF cs (6, f, t, x.s (ix f t))).getD 0, tick + max lat 1 + (getF cs (6, f, t, x.s (ix f t))).getD 0 + d])
        | none => ({ x with s := upd x.s (ix f t) (x.s (ix f t) + 1), ks := eatF cs x.ks (6, f, t, x.s (ix f t)) }, x.s (ix f t), [tick + max lat 1 + (getF cs (6, f, t, x.s (ix f t))).getD 0])
  else (x, -1, [])
def timF (cs : List Ch) (c due : Int) (x : St) : St × Int × Int :=
  if inC c then ({ x with t := upd x.t c.toNat (x.t c.toNat + 1), ks := eatF cs x.ks (9, c, 0, x.t c.toNat) }, x.t c.toNat, due + (getF cs (9, c, 0, x.t c.toNat)).getD 0)
  else (x, -1, due)
/-- The keys of the disk operations that fail. -/
def failK (cs : List Ch) (c : Int) (n : Nat) (count : Int) : List Ky := (cs.map (·.1)).filter fun k => decide (k.1 = 8 ∧ k.2.1 = c ∧ (n : Int) ≤ k.2.2.2 ∧ k.2.2.2 - n < count)
def diskF (cs : List Ch) (c count : Int) (x : St) : Int × List Int := if inC c then (x.d c.toNat, (failK cs c (x.d c.toNat) count).map (·.2.2.2)) else (-1, [])
def exeF (cs : List Ch) (c count : Int) (x : St) : St :=
  if inC c ∧ 0 < count then { x with d := upd x.d c.toNat (x.d c.toNat + count.toNat), ks := (failK cs c (x.d c.toNat) count).foldl (fun u k => insK k u) x.ks } else x
theorem getF_mem {cs : List Ch} {k : Ky} {v : Int} (h : getF cs k = some v) : (k, v) ∈ cs := by
  unfold getF at h
  rw [Option.map_eq_some_iff] at h
  obtain ⟨c, h1, rfl⟩ := h
  have h2 := List.find?_some h1
  have h3 := List.mem_of_find?_eq_some h1
  have : c.1 = k := of_decide_eq_true h2
  rw [← this]
  exact h3
theorem getF_some {cs : List Ch} {k : Ky} : (getF cs k).isSome = true ↔ k ∈ cs.map (·.1) := by
  unfold getF
  rw [Option.isSome_map, List.find?_isSome, List.mem_map]
  exact ⟨fun ⟨c, h, e⟩ => ⟨c, h, of_decide_eq_true e⟩, fun ⟨c, h, e⟩ => ⟨c, h, decide_eq_true e⟩⟩
theorem getF_none {cs : List Ch} {k : Ky} : getF cs k = none ↔ k ∉ cs.map (·.1) := by
  rw [← getF_some]
  cases getF cs k <;> simp
theorem eatF_asc {cs : List Ch} {ks : List Ky} {k : Ky} (h : Asc ks) : Asc (eatF cs ks k) := by
  unfold eatF
  split
  · exact insK_asc h
  · exact h
theorem mem_eatF {cs : List Ch} {ks : List Ky} {k x : Ky} : x ∈ eatF cs ks k ↔ (x = k ∧ k ∈ cs.map (·.1)) ∨ x ∈ ks := by
  unfold eatF
  split
  · rename_i h
    rw [getF_some] at h
    rw [mem_insK]
    simp [h]
  · rename_i h
    rw [getF_some] at h
    simp [h]
theorem mem_foldI {x : Ky} : ∀ (l ks : List Ky), x ∈ l.foldl (fun u k => insK k u) ks ↔ x ∈ l ∨ x ∈ ks
  | [], ks => by simp
  | k :: l, ks => by
    rw [List.foldl_cons, mem_foldI l, mem_insK, List.mem_cons]
    constructor
    · rintro (h | h | h) <;> simp [h]
    · rintro ((h | h) | h) <;> simp [h]
theorem foldI_asc : ∀ (l ks : List Ky), Asc ks → Asc (l.foldl (fun u k => insK k u) ks)
  | [], _, h => h
  | _ :: l, _, h => foldI_asc l _ (insK_asc h)
theorem mem_foldE {cs : List Ch} {x : Ky} : ∀ (l ks : List Ky), x ∈ l.foldl (fun u k => eatF cs u k) ks ↔ (x ∈ l ∧ x ∈ cs.map (·.1)) ∨ x ∈ ks
  | [], ks => by simp
  | k :: l, ks => by
    rw [List.foldl_cons, mem_foldE l, mem_eatF, List.mem_cons]
    constructor
    · rintro (⟨h1, h2⟩ | ⟨rfl, h2⟩ | h)
      · exact .inl ⟨.inr h1, h2⟩
      · exact .inl ⟨.inl rfl, h2⟩
      · exact .inr h
    · rintro (⟨rfl | h1, h2⟩ | h)
      · exact .inr (.inl ⟨rfl, h2⟩)
      · exact .inl ⟨h1, h2⟩
      · exact .inr (.inr h)
theorem foldE_asc {cs : List Ch} : ∀ (l ks : List Ky), Asc ks → Asc (l.foldl (fun u k => eatF cs u k) ks)
  | [], _, h => h
  | _ :: l, _, h => foldE_asc l _ (eatF_asc h)
/-- The keys of the next count disk operations of a component. -/
def nextK (c : Int) (n count : Nat) : List Ky := (List.range count).map fun i => (8, c, 0, ((n + i : Nat) : Int))
/-- Disk operations have no second number. -/
def Disk0 (cs : List Ch) : Prop := ∀ c ∈ cs, c.1.1 = 8 → c.1.2.2.1 = 0
theorem OkL.disk0 {cs : List Ch} (h : OkL cs) : Disk0 cs := fun c hc h8 => (h.ok c hc).key.pair (by omega) (by omega) (by omega) (by omega)
theorem mem_fail {cs : List Ch} (hd : Disk0 cs) {c : Int} {n : Nat} {count : Int} {k : Ky} : k ∈ failK cs c n count ↔ k ∈ nextK c n count.toNat ∧ k ∈ cs.map (·.1) := by
  unfold failK nextK
  rw [List.mem_filter]
  constructor
  · rintro ⟨h1, h2⟩
    have h2 := of_decide_eq_true h2
    obtain ⟨a, b, x, y⟩ := h2
    obtain ⟨z, hz, rfl⟩ := List.mem_map.1 h1
    have h0 := hd z hz a
    refine ⟨List.mem_map.2 ⟨(z.1.2.2.2 - n).toNat, by rw [List.mem_range]; omega, ?_⟩, h1⟩
    rw [← a, ← b, ← h0]
    have e : ((n + (z.1.2.2.2 - (n : Int)).toNat : Nat) : Int) = z.1.2.2.2 := by omega
    rw [e]
  · rintro ⟨h0, h1⟩
    obtain ⟨i, hi, rfl⟩ := List.mem_map.1 h0
    refine ⟨h1, decide_eq_true ⟨rfl, rfl, ?_, ?_⟩⟩
    · show (n : Int) ≤ ((n + i : Nat) : Int); omega
    · rw [List.mem_range] at hi
      show ((n + i : Nat) : Int) - n < count; omega
/-- What fails, by the reference: one key after the other is asked for. -/
theorem exe_keys {cs : List Ch} (hd : Disk0 cs) {c : Int} {n : Nat} {count : Int} {ks : List Ky} (h : Asc ks) : (nextK c n count.toNat).foldl (fun u k => eatF cs u k) ks = (failK cs c n count).foldl (fun u k => insK k u) ks :=
  asc_ext (foldE_asc _ _ h) (foldI_asc _ _ h) fun s => by rw [mem_foldE, mem_foldI, mem_fail hd]
theorem nextK_asc (c : Int) (n count : Nat) : Asc (nextK c n count) := by
  unfold nextK Asc
  rw [List.pairwise_map]
  refine List.Pairwise.imp ?_ List.pairwise_lt_range
  intro a b hab
  unfold klt
  right
  refine ⟨rfl, .inr ⟨rfl, .inr ⟨rfl, ?_⟩⟩⟩
  show ((n + a : Nat) : Int) < ((n + b : Nat) : Int)
  omega
theorem fail_eq {cs : List Ch} (ha : AscC cs) (hd : Disk0 cs) {c : Int} {n : Nat} {count : Int} : (nextK c n count.toNat).filter (fun k => (getF cs k).isSome) = failK cs c n count :=
  asc_ext (List.Pairwise.filter _ (nextK_asc _ _ _)) (List.Pairwise.filter _ ha) fun s => by
    rw [List.mem_filter, mem_fail hd, getF_some]
end Go.Proofs.YtehmpbaiefbemaaGreat
