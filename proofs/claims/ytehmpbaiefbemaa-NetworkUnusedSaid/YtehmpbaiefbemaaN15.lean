/- Words for networks: values of 83 cells that are not written out; the program's network lies in memory as such cells, with a map in the last one. -/
import Derived.Test.YtehmpbaiefbemaaN14
namespace Go.Proofs.Ytehmpbaiefbemaa
open Go.RowKit
open Go.ChangeMaps (setBlock)
/-- The cells of a network: choices, holds, numbers of messages, timers, disk operations; what was consumed. -/
def nvl (c h : Value) (s t d : Nat → Nat) (u : Value) : List Value := [c, h] ++ ((List.range 64).map (fun k => iV (s k : Int)) ++ ((List.range 8).map (fun k => iV (t k : Int)) ++ ((List.range 8).map (fun k => iV (d k : Int)) ++ [u])))
@[irreducible] def NV (c h : Value) (s t d : Nat → Nat) (u : Value) : Array Value := (nvl c h s t d u).toArray
def upd (s : Nat → Nat) (k v : Nat) : Nat → Nat := fun j => if j = k then v else s j
section
variable {c h u : Value} {s t d : Nat → Nat}
theorem NV_size : (NV c h s t d u).size = 83 := by unfold NV nvl; simp
theorem NV_0 : (NV c h s t d u)[0]? = some c := by unfold NV nvl; simp
theorem NV_1 : (NV c h s t d u)[1]? = some h := by unfold NV nvl; simp
theorem NV_sent {k : Nat} (hk : k < 64) : (NV c h s t d u)[2 + k]? = some (iV (s k : Int)) := by
  unfold NV nvl
  rw [List.getElem?_toArray, List.getElem?_append_right (by simp), List.getElem?_append_left (by simp; omega)]
  simp [hk]
theorem NV_tim {k : Nat} (hk : k < 8) : (NV c h s t d u)[66 + k]? = some (iV (t k : Int)) := by
  unfold NV nvl
  rw [List.getElem?_toArray, List.getElem?_append_right (by simp; omega), List.getElem?_append_right (by simp; omega), List.getElem?_append_left (by simp; omega)]
  have : 66 + k - 2 - 64 = k := by omega
  simp [this, hk]
theorem NV_dis {k : Nat} (hk : k < 8) : (NV c h s t d u)[74 + k]? = some (iV (d k : Int)) := by
  unfold NV nvl
  rw [List.getElem?_toArray, List.getElem?_append_right (by simp; omega), List.getElem?_append_right (by simp; omega), List.getElem?_append_right (by simp; omega), List.getElem?_append_left (by simp; omega)]
  have : 74 + k - 2 - 64 - 8 = k := by omega
  simp [this, hk]
theorem NV_82 : (NV c h s t d u)[82]? = some u := by
  unfold NV nvl
  rw [List.getElem?_toArray, List.getElem?_append_right (by simp), List.getElem?_append_right (by simp), List.getElem?_append_right (by simp), List.getElem?_append_right (by simp)]
  simp
theorem NV_ext {cs : Array Value} (hz : cs.size = 83) (h0 : cs[0]? = some c) (h1 : cs[1]? = some h) (hs : ∀ k, k < 64 → cs[2 + k]? = some (iV (s k : Int))) (ht : ∀ k, k < 8 → cs[66 + k]? = some (iV (t k : Int)))
    (hd : ∀ k, k < 8 → cs[74 + k]? = some (iV (d k : Int))) (hu : cs[82]? = some u) : cs = NV c h s t d u := by
  apply Array.ext_getElem?
  intro i
  by_cases e0 : i = 0
  · subst e0; rw [h0, NV_0]
  by_cases e1 : i = 1
  · subst e1; rw [h1, NV_1]
  by_cases e2 : i < 66
  · rw [show i = 2 + (i - 2) by omega, hs _ (by omega), NV_sent (by omega)]
  by_cases e3 : i < 74
  · rw [show i = 66 + (i - 66) by omega, ht _ (by omega), NV_tim (by omega)]
  by_cases e4 : i < 82
  · rw [show i = 74 + (i - 74) by omega, hd _ (by omega), NV_dis (by omega)]
  by_cases e5 : i = 82
  · subst e5; rw [hu, NV_82]
  rw [Array.getElem?_eq_none (by omega), Array.getElem?_eq_none (by rw [NV_size]; omega)]
theorem set_at {cs : Array Value} {i j : Nat} {v : Value} (hz : cs.size = 83) (hi : i < 83) : (cs.setIfInBounds i v)[j]? = if i = j then some v else cs[j]? := by
  rw [Array.getElem?_setIfInBounds]
  by_cases e : i = j
  · subst e; rw [if_pos rfl, if_pos rfl, if_pos (by omega)]
  · rw [if_neg e, if_neg e]
theorem NV_setSent {k v : Nat} (hk : k < 64) : (NV c h s t d u).setIfInBounds (2 + k) (iV (v : Int)) = NV c h (upd s k v) t d u := by
  have S : ∀ j, ((NV c h s t d u).setIfInBounds (2 + k) (iV (v : Int)))[j]? = if 2 + k = j then some (iV (v : Int)) else (NV c h s t d u)[j]? := fun j => set_at NV_size (by omega)
  refine NV_ext (by simp [NV_size]) (by rw [S, if_neg (by omega), NV_0]) (by rw [S, if_neg (by omega), NV_1]) (fun j hj => ?_) (fun j hj => by rw [S, if_neg (by omega), NV_tim hj]) (fun j hj => by rw [S, if_neg (by omega), NV_dis hj]) (by rw [S, if_neg (by omega), NV_82])
  rw [S, NV_sent hj, upd]
  by_cases e : j = k
  · rw [if_pos (by omega), if_pos e]
  · rw [if_neg (by omega), if_neg e]
theorem NV_setTim {k v : Nat} (hk : k < 8) : (NV c h s t d u).setIfInBounds (66 + k) (iV (v : Int)) = NV c h s (upd t k v) d u := by
  have S : ∀ j, ((NV c h s t d u).setIfInBounds (66 + k) (iV (v : Int)))[j]? = if 66 + k = j then some (iV (v : Int)) else (NV c h s t d u)[j]? := fun j => set_at NV_size (by omega)
  refine NV_ext (by simp [NV_size]) (by rw [S, if_neg (by omega), NV_0]) (by rw [S, if_neg (by omega), NV_1]) (fun j hj => by rw [S, if_neg (by omega), NV_sent hj]) (fun j hj => ?_) (fun j hj => by rw [S, if_neg (by omega), NV_dis hj]) (by rw [S, if_neg (by omega), NV_82])
  rw [S, NV_tim hj, upd]
  by_cases e : j = k
  · rw [if_pos (by omega), if_pos e]
  · rw [if_neg (by omega), if_neg e]
theorem NV_setDis {k v : Nat} (hk : k < 8) : (NV c h s t d u).setIfInBounds (74 + k) (iV (v : Int)) = NV c h s t (upd d k v) u := by
  have S : ∀ j, ((NV c h s t d u).setIfInBounds (74 + k) (iV (v : Int)))[j]? = if 74 + k = j then some (iV (v : Int)) else (NV c h s t d u)[j]? := fun j => set_at NV_size (by omega)
  refine NV_ext (by simp [NV_size]) (by rw [S, if_neg (by omega), NV_0]) (by rw [S, if_neg (by omega), NV_1]) (fun j hj => by rw [S, if_neg (by omega), NV_sent hj]) (fun j hj => by rw [S, if_neg (by omega), NV_tim hj]) (fun j hj => ?_) (by rw [S, if_neg (by omega), NV_82])
  rw [S, NV_dis hj, upd]
  by_cases e : j = k
  · rw [if_pos (by omega), if_pos e]
  · rw [if_neg (by omega), if_neg e]
theorem NV_setU {v : Value} : (NV c h s t d u).setIfInBounds 82 v = NV c h s t d v := by
  have S : ∀ j, ((NV c h s t d u).setIfInBounds 82 v)[j]? = if 82 = j then some v else (NV c h s t d u)[j]? := fun j => set_at NV_size (by omega)
  exact NV_ext (by simp [NV_size]) (by rw [S, if_neg (by omega), NV_0]) (by rw [S, if_neg (by omega), NV_1]) (fun j hj => by rw [S, if_neg (by omega), NV_sent hj]) (fun j hj => by rw [S, if_neg (by omega), NV_tim hj]) (fun j hj => by rw [S, if_neg (by omega), NV_dis hj]) (by rw [S, if_pos rfl])
theorem NV_setH {v : Value} : (NV c h s t d u).setIfInBounds 1 v = NV c v s t d u := by
  have S : ∀ j, ((NV c h s t d u).setIfInBounds 1 v)[j]? = if 1 = j then some v else (NV c h s t d u)[j]? := fun j => set_at NV_size (by omega)
  exact NV_ext (by simp [NV_size]) (by rw [S, if_neg (by omega), NV_0]) (by rw [S, if_pos rfl]) (fun j hj => by rw [S, if_neg (by omega), NV_sent hj]) (fun j hj => by rw [S, if_neg (by omega), NV_tim hj]) (fun j hj => by rw [S, if_neg (by omega), NV_dis hj]) (by rw [S, if_neg (by omega), NV_82])
theorem NV_setC {v : Value} : (NV c h s t d u).setIfInBounds 0 v = NV v h s t d u := by
  have S : ∀ j, ((NV c h s t d u).setIfInBounds 0 v)[j]? = if 0 = j then some v else (NV c h s t d u)[j]? := fun j => set_at NV_size (by omega)
  exact NV_ext (by simp [NV_size]) (by rw [S, if_pos rfl]) (by rw [S, if_neg (by omega), NV_1]) (fun j hj => by rw [S, if_neg (by omega), NV_sent hj]) (fun j hj => by rw [S, if_neg (by omega), NV_tim hj]) (fun j hj => by rw [S, if_neg (by omega), NV_dis hj]) (by rw [S, if_neg (by omega), NV_82])
theorem NV_one (hc : c.oneCell' = true) (hh : h.oneCell' = true) (hu : u.oneCell' = true) : (NV c h s t d u).all (·.oneCell') = true := by
  unfold NV
  rw [Array.all_eq_true_iff_forall_mem]
  intro v hv
  have hv : v ∈ nvl c h s t d u := by simpa using hv
  unfold nvl at hv
  simp only [List.mem_append, List.mem_map, List.mem_cons, List.not_mem_nil, or_false] at hv
  rcases hv with (rfl | rfl) | ⟨k, _, rfl⟩ | ⟨k, _, rfl⟩ | ⟨k, _, rfl⟩ | rfl
  · exact hc
  · exact hh
  · rfl
  · rfl
  · rfl
  · exact hu
end
/-- The cells of a block. -/
def blkOf (w : World) (g : Nat) : Array Value := match w.heap[g]? with
  | some (.cells cs _ (0, 0)) => cs
  | _ => #[]
theorem blkOf_of {w : World} {g T : Nat} {cs : Array Value} (h : w.heap[g]? = some (.cells cs T (0, 0))) : blkOf w g = cs := by simp [blkOf, h]
theorem of_blkOf {w : World} {g : Nat} (h : (blkOf w g).size = 83) : ∃ T, w.heap[g]? = some (.cells (blkOf w g) T (0, 0)) := by
  unfold blkOf at h ⊢
  split at h
  · rename_i cs T e; exact ⟨T, by rw [e]⟩
  · simp at h
theorem blkOf_kept {w w' : World} {g : Nat} (h : w'.heap[g]? = w.heap[g]?) : blkOf w' g = blkOf w g := by unfold blkOf; rw [h]
theorem blkOf_ext {w w' : World} (h : Ext w w') {g : Nat} (hg : g < w.heap.size) : blkOf w' g = blkOf w g := blkOf_kept (h.block g hg)
theorem blkOf_drew (w : World) (g : Nat) : blkOf w.drew g = blkOf w g := rfl
theorem blkOf_new {w : World} {cs : Array Value} {T : Nat} : blkOf (w.alloc (.cells cs T)) w.heap.size = cs := blkOf_of (heap_alloc_new w _)
theorem blkOf_cell {w : World} {g k : Nat} {v : Value} (h : (blkOf w g)[k]? = some v) : w.cell? ⟨g, k, none⟩ = some v := by
  unfold blkOf at h
  split at h
  · rename_i cs T e; rw [cell_of_row w g k cs T (0, 0) e]; exact h
  · simp at h
theorem blkOf_frozen {w : World} {g k : Nat} (h : 0 < (blkOf w g).size) : w.frozen? ⟨g, k, none⟩ = false := by
  unfold blkOf at h
  split at h
  · rename_i cs T e; simp [World.frozen?, e]
  · simp at h
theorem blkOf_set {w : World} {g k : Nat} {v : Value} (h : 0 < (blkOf w g).size) : blkOf (w.setCell ⟨g, k, none⟩ v) g = (blkOf w g).setIfInBounds k v := by
  have h' := h
  unfold blkOf at h
  split at h
  · rename_i cs T e
    rw [blkOf_of e]
    apply blkOf_of (T := T)
    simp [World.setCell, Array.getElem?_modify, e]
  · simp at h
theorem blkOf_far {w : World} {g : Nat} {a : Addr} {v : Value} (h : a.block ≠ g) : blkOf (w.setCell a v) g = blkOf w g := by
  unfold blkOf; rw [Below.heap_setCell w a v g (Ne.symm h)]
theorem blkOf_lt {w : World} {g : Nat} (h : 0 < (blkOf w g).size) : g < w.heap.size := by
  rcases Nat.lt_or_ge g w.heap.size with h' | h'
  · exact h'
  · unfold blkOf at h; rw [Array.getElem?_eq_none h'] at h; simp at h
/-- Memory has only grown, but for the blocks g and r. -/
structure Exc (g r : Nat) (w w' : World) : Prop where
  os : w'.os = w.os
  tape : w'.tape = w.tape
  output : w'.output = w.output
  size : w.heap.size ≤ w'.heap.size
  block : ∀ k, k < w.heap.size → k ≠ g → k ≠ r → w'.heap[k]? = w.heap[k]?
theorem Exc.refl (g r : Nat) (w : World) : Exc g r w w := ⟨rfl, rfl, rfl, Nat.le_refl _, fun _ _ _ _ => rfl⟩
theorem Exc.trans {g r : Nat} {a b c : World} (h : Exc g r a b) (k : Exc g r b c) : Exc g r a c :=
  ⟨k.os.trans h.os, k.tape.trans h.tape, k.output.trans h.output, Nat.le_trans h.size k.size, fun i hi h1 h2 => (k.block i (Nat.lt_of_lt_of_le hi h.size) h1 h2).trans (h.block i hi h1 h2)⟩
theorem Ext.exc {w w' : World} (h : Ext w w') (g r : Nat) : Exc g r w w' := ⟨h.os, h.tape, h.output, h.size, fun k hk _ _ => h.block k hk⟩
/-- What was there ahead of the blocks g and r is as it was. -/
theorem Exc.ext {g r : Nat} {a b c : World} (h : Exc g r b c) (k : Ext a b) (hg : a.heap.size ≤ g) (hr : a.heap.size ≤ r) : Ext a c :=
  ⟨h.os.trans k.os, h.tape.trans k.tape, h.output.trans k.output, Nat.le_trans k.size h.size, fun i hi => (h.block i (Nat.lt_of_lt_of_le hi k.size) (by omega) (by omega)).trans (k.block i hi)⟩
theorem Exc.set {g r : Nat} {w w' : World} (h : Exc g r w w') {p : Addr} (hp : p.block = g ∨ p.block = r ∨ w.heap.size ≤ p.block) (u : Value) : Exc g r w (w'.setCell p u) :=
  ⟨h.os, h.tape, h.output, by simpa using h.size, fun k hk h1 h2 => by
    rw [Below.heap_setCell _ _ _ _ (by omega)]; exact h.block k hk h1 h2⟩
theorem Exc.map {g r : Nat} {w w' : World} (h : Exc g r w w') (o : Obj) : Exc g r w (setBlock w' r o) :=
  ⟨h.os, h.tape, h.output, by rw [size_setBlock]; exact h.size, fun k hk h1 h2 => by rw [heap_setBlock _ _ _ _ h2]; exact h.block k hk h1 h2⟩
theorem Exc.alloc {g r : Nat} {w w' : World} (h : Exc g r w w') (o : Obj) : Exc g r w (w'.alloc o) := h.trans (((Ext.refl _).alloc o).exc g r)
theorem Exc.drewN {g r : Nat} {w w' : World} (h : Exc g r w w') (n : Nat) : Exc g r w (w'.drewN n) := h.trans (((Ext.refl _).drewN n).exc g r)
/-- A fact that stands whatever becomes of the blocks g and r. -/
def Stay (g r : Nat) (P : World → Prop) (w : World) : Prop := ∀ w', Exc g r w w' → P w'
theorem Stay.now {g r : Nat} {P : World → Prop} {w : World} (h : Stay g r P w) : P w := h w (Exc.refl _ _ _)
theorem Stay.exc {g r : Nat} {P : World → Prop} {w w' : World} (h : Stay g r P w) (k : Exc g r w w') : Stay g r P w' := fun w2 h2 => h w2 (k.trans h2)
end Go.Proofs.Ytehmpbaiefbemaa
