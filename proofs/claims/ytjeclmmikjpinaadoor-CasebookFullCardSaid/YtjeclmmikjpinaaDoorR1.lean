/- Blocks as arrays of a function; whole loads and stores, in the middle of a block too. -/
import Derived.Test.YtjeclmmikjpinaaDoorR0
import Derived.Deep.MidRow
namespace Go.Proofs.YtjeclmmikjpinaaDoor
open Go.RowKit
/-- n cells told by a function. -/
@[irreducible] def arV (f : Nat → Value) (n : Nat) : Array Value := ((List.range n).map f).toArray
theorem arV_size {f : Nat → Value} {n : Nat} : (arV f n).size = n := by unfold arV; simp
theorem arV_at {f : Nat → Value} {n i : Nat} (h : i < n) : (arV f n)[i]? = some (f i) := by
  unfold arV
  simp [h]
theorem arV_ext {a : Array Value} {f : Nat → Value} {n : Nat} (hz : a.size = n) (h : ∀ i, i < n → a[i]? = some (f i)) : a = arV f n := by
  apply Array.ext
  · rw [hz, arV_size]
  · intro i h1 h2
    have e1 := h i (by omega)
    have e2 : (arV f n)[i]? = some (f i) := arV_at (by omega)
    rw [Array.getElem?_eq_getElem h1] at e1
    rw [Array.getElem?_eq_getElem h2] at e2
    exact Option.some.inj (e1.trans e2.symm)
theorem arV_congr {f g : Nat → Value} {n : Nat} (h : ∀ i, i < n → f i = g i) : arV f n = arV g n := arV_ext arV_size (fun i hi => by rw [arV_at hi, h i hi])
def upd {α : Type} (f : Nat → α) (i : Nat) (v : α) : Nat → α := fun j => if j = i then v else f j
/-- f, but h from o on, m places. -/
def updR {α : Type} (f : Nat → α) (o m : Nat) (h : Nat → α) : Nat → α := fun j => if o ≤ j ∧ j < o + m then h (j - o) else f j
theorem arV_set {f : Nat → Value} {n i : Nat} {v : Value} : (arV f n).setIfInBounds i v = arV (upd f i v) n := by
  refine arV_ext (by simp [arV_size]) fun j hj => ?_
  rw [Array.getElem?_setIfInBounds]
  unfold upd
  by_cases e : i = j
  · subst e
    simp [arV_size, hj]
  · rw [if_neg e, if_neg (fun e' => e e'.symm), arV_at hj]
/-- The cells of a block. -/
def blkOf (w : World) (g : Nat) : Array Value := match w.heap[g]? with
  | some (.cells cs _ (0, 0)) => cs
  | _ => #[]
theorem blkOf_of {w : World} {g T : Nat} {cs : Array Value} (h : w.heap[g]? = some (.cells cs T (0, 0))) : blkOf w g = cs := by simp [blkOf, h]
theorem of_blkOf {w : World} {g : Nat} (h : 0 < (blkOf w g).size) : ∃ T, w.heap[g]? = some (.cells (blkOf w g) T (0, 0)) := by
  unfold blkOf at h ⊢
  split at h
  · rename_i cs T e; exact ⟨T, by rw [e]⟩
  · simp at h
theorem blkOf_kept {w w' : World} {g : Nat} (h : w'.heap[g]? = w.heap[g]?) : blkOf w' g = blkOf w g := by unfold blkOf; rw [h]
theorem blkOf_new {w : World} {cs : Array Value} {T : Nat} : blkOf (w.alloc (.cells cs T)) w.heap.size = cs := blkOf_of (heap_alloc_new w _)
theorem blkOf_cell {w : World} {g k : Nat} {v : Value} (h : (blkOf w g)[k]? = some v) : w.cell? ⟨g, k, none⟩ = some v := by
  unfold blkOf at h
  split at h
  · rename_i cs T e; rw [cell_of_row w g k cs T (0, 0) e]; exact h
  · simp at h
theorem blkOf_set {w : World} {g k : Nat} {v : Value} (h : 0 < (blkOf w g).size) : blkOf (w.setCell ⟨g, k, none⟩ v) g = (blkOf w g).setIfInBounds k v := by
  have h' := h
  unfold blkOf at h
  split at h
  · rename_i cs T e
    rw [blkOf_of e]
    apply blkOf_of (T := T)
    simp [World.setCell, Array.getElem?_modify, e]
  · simp at h
/-- The block g has n cells, told by f. -/
def Bk (w : World) (g n : Nat) (f : Nat → Value) : Prop := 0 < n ∧ blkOf w g = arV f n
theorem Bk.pos {w : World} {g n : Nat} {f : Nat → Value} (h : Bk w g n f) : 0 < (blkOf w g).size := by rw [h.2, arV_size]; exact h.1
theorem Bk.lt {w : World} {g n : Nat} {f : Nat → Value} (h : Bk w g n f) : g < w.heap.size := by
  obtain ⟨T, e⟩ := of_blkOf h.pos
  rcases Nat.lt_or_ge g w.heap.size with h' | h'
  · exact h'
  · rw [Array.getElem?_eq_none h'] at e; cases e
theorem Bk.cell {w : World} {g n : Nat} {f : Nat → Value} (h : Bk w g n f) {k : Nat} (hk : k < n) : w.cell? ⟨g, k, none⟩ = some (f k) := blkOf_cell (by rw [h.2, arV_at hk])
theorem Bk.frozen {w : World} {g n : Nat} {f : Nat → Value} (h : Bk w g n f) (k : Nat) : w.frozen? ⟨g, k, none⟩ = false := by
  obtain ⟨T, e⟩ := of_blkOf h.pos
  simp [World.frozen?, e]
theorem Bk.kept {w w' : World} {g n : Nat} {f : Nat → Value} (h : Bk w g n f) (hb : w'.heap[g]? = w.heap[g]?) : Bk w' g n f := ⟨h.1, by rw [blkOf_kept hb, h.2]⟩
theorem Bk.ext {w w' : World} {g n : Nat} {f : Nat → Value} (h : Bk w g n f) (e : Ext w w') : Bk w' g n f := h.kept (e.block g h.lt)
theorem Bk.new {w : World} {n T : Nat} {f : Nat → Value} (hn : 0 < n) : Bk (w.alloc (.cells (arV f n) T)) w.heap.size n f := ⟨hn, blkOf_new⟩
theorem Bk.set {w : World} {g n : Nat} {f : Nat → Value} (h : Bk w g n f) (k : Nat) (v : Value) : Bk (w.setCell ⟨g, k, none⟩ v) g n (upd f k v) := ⟨h.1, by rw [blkOf_set h.pos, h.2, arV_set]⟩
theorem Bk.far {w : World} {g n : Nat} {f : Nat → Value} (h : Bk w g n f) {a : Addr} (ha : a.block ≠ g) (v : Value) : Bk (w.setCell a v) g n f := h.kept (Below.heap_setCell w a v g (Ne.symm ha))
theorem Bk.congr {w : World} {g n : Nat} {f f' : Nat → Value} (h : Bk w g n f) (e : ∀ i, i < n → f i = f' i) : Bk w g n f' := ⟨h.1, by rw [h.2, arV_congr e]⟩
theorem Bk.drew {w : World} {g n : Nat} {f : Nat → Value} (h : Bk w g n f) : Bk w.drew g n f := h.kept rfl
theorem setCells_far {b g : Nat} (hg : g ≠ b) : ∀ (vs : List Value) (o : Nat) (w : World), (w.setCells b o vs).heap[g]? = w.heap[g]?
  | [], _, _ => rfl
  | v :: r, o, w => by
    show ((w.setCell ⟨b, o, none⟩ v).setCells b (o + 1) r).heap[g]? = _
    rw [setCells_far hg r (o + 1), Below.heap_setCell w _ v g hg]
theorem Bk.setCells {g n : Nat} : ∀ (vs : List Value) (o : Nat) {w : World} {f : Nat → Value}, Bk w g n f → Bk (w.setCells g o vs) g n (updR f o vs.length fun j => vs.getD j undef)
  | [], o, w, f, h => h.congr fun i _ => by unfold updR; rw [if_neg (by simp)]
  | v :: r, o, w, f, h => (Bk.setCells r (o + 1) (h.set o v)).congr fun i _ => by
    unfold updR upd
    rw [List.length_cons]
    by_cases h1 : i = o
    · subst h1
      rw [if_neg (by omega), if_pos rfl, if_pos (by omega), Nat.sub_self]
      rfl
    · by_cases h2 : o + 1 ≤ i ∧ i < o + 1 + r.length
      · rw [if_pos h2, if_pos (by omega), show i - o = (i - (o + 1)) + 1 by omega]
        rfl
      · rw [if_neg h2, if_neg h1, if_neg (by omega)]
theorem arV_getD {f : Nat → Value} {n j : Nat} (h : j < n) : (arV f n).toList.getD j undef = f j := by
  have := arV_at (f := f) h
  rw [List.getD_eq_getElem?_getD, Array.getElem?_toList, this]
  rfl
/-- A whole store into a block, from o on. -/
theorem Bk.put {w : World} {g n o m : Nat} {f h : Nat → Value} (hb : Bk w g n f) : Bk (w.setCells g o (arV h m).toList) g n (updR f o m h) := (Bk.setCells (arV h m).toList o hb).congr fun i _ => by
  unfold updR
  rw [Array.length_toList, arV_size]
  by_cases h2 : o ≤ i ∧ i < o + m
  · rw [if_pos h2, if_pos h2]
    exact arV_getD (by omega)
  · rw [if_neg h2, if_neg h2]
theorem Bk.putAll {w : World} {g n : Nat} {f h : Nat → Value} (hb : Bk w g n f) : Bk (w.setCells g 0 (arV h n).toList) g n h := hb.put.congr fun i hi => by unfold updR; rw [if_pos (by omega), Nat.sub_zero]
theorem Ext.setCells {a : World} {b : Nat} (hb : a.heap.size ≤ b) : ∀ (vs : List Value) (o : Nat) {w : World}, Ext a w → Ext a (w.setCells b o vs)
  | [], _, _, h => h
  | v :: r, o, _, h => Ext.setCells hb r (o + 1) (h.set (p := ⟨b, o, none⟩) hb v)
@[irreducible] def ldS (t : TypeId) (v : Value) : Sem Value := Instr.loadAt t v
@[irreducible] def stS (t : TypeId) (p v : Value) : Sem Unit := Instr.storeAt t p v
@[irreducible] def alS (t : TypeId) (h : Bool) (old : Value) : Sem Value := Instr.alloc t h old
@[irreducible] def buS (t : TypeId) (ps : Array (Nat × Value)) : Sem Value := Instr.build t ps
theorem Bk.load {w : World} {g n o m : Nat} {f : Nat → Value} (h : Bk w g n f) {ty : TypeId} {dd : TypeDesc} (hm : o + m ≤ n) (hu : Tryd.prog.underlying ty = some dd) (hd : dd.isRow = true) (hi : (Tryd.prog.info? ty).map (·.size) = some m) :
    (ldS ty (.pointer (some ⟨g, o, none⟩))).run Tryd.prog w = .ok (.agg (arV (fun k => f (o + k)) m)) w := by
  have e : (arV (fun k => f (o + k)) m).toList.toArray = arV (fun k => f (o + k)) m := rfl
  rw [← e]
  unfold ldS
  refine run_loadAt_mid w g o ty _ _ (fun j v hv => ?_) hu hd (by rw [hi]; simp [arV_size])
  have hj : j < m := by
    rcases Nat.lt_or_ge j m with h' | h'
    · exact h'
    · rw [List.getElem?_eq_none (by simpa [arV_size] using h')] at hv; cases hv
  rw [Array.getElem?_toList, arV_at hj] at hv
  cases hv
  exact h.cell (by omega)
theorem arV_cells {f : Nat → Value} {n : Nat} (h : ∀ i, i < n → (f i).oneCell' = true) : (arV f n).all (·.oneCell') = true := by
  rw [Array.all_eq_true_iff_forall_mem]
  intro v hv
  obtain ⟨i, hi, rfl⟩ := Array.mem_iff_getElem.1 hv
  have e : (arV f n)[i]? = some (f i) := arV_at (by rw [arV_size] at hi; exact hi)
  rw [Array.getElem?_eq_getElem hi] at e
  rw [Option.some.inj e]
  exact h i (by rw [arV_size] at hi; exact hi)
theorem Bk.store {w : World} {g n o m : Nat} {f h : Nat → Value} (hb : Bk w g n f) {ty : TypeId} (hm : o + m ≤ n) (hi : (Tryd.prog.info? ty).map (·.size) = some m) (h1 : ∀ i, i < m → (h i).oneCell' = true) :
    (stS ty (.pointer (some ⟨g, o, none⟩)) (.agg (arV h m))).run Tryd.prog w = .ok () (w.setCells g o (arV h m).toList) := by
  unfold stS
  refine run_storeAt_mid w g o ty _ (fun j hj => ?_) (by rw [hi, arV_size]) (arV_cells h1)
  rw [arV_size] at hj
  exact ⟨by rw [hb.cell (k := o + j) (by omega)]; rfl, hb.frozen _⟩
theorem run_alloc {ty : TypeId} {n : Nat} {f : Nat → Value} (hz : (Tryd.prog.info? ty).map (·.zero) = some (some (.agg (arV f n)))) (w : World) (hp : Bool) (old : Value) (h : hp = true ∨ old = undef) :
    (alS ty hp old).run Tryd.prog w = .ok (.pointer (some ⟨w.heap.size, 0, none⟩)) (w.alloc (.cells (arV f n) ty)) := by
  have z : (zeroValue ty).run Tryd.prog w = .ok (.agg (arV f n)) w := by
    unfold zeroValue typeInfo
    cases hq : Tryd.prog.info? ty with
    | none => rw [hq] at hz; cases hz
    | some i =>
      rw [hq] at hz
      have hz : i.zero = some (.agg (arV f n)) := by simpa using hz
      simp [hq, hz]
  unfold alS Instr.alloc
  rw [Sem.run_bind, z, Result.andThen_ok]
  rcases h with rfl | rfl
  · go_simp
  · cases hp
    · unfold undef; go_simp
    · go_simp
abbrev vU32 (x : Int) : Value := .int .u32 x
abbrev vU8 (x : Int) : Value := .int .u8 x
/-- Memory has only grown, but for the block g. -/
def Exg (g : Nat) (w w' : World) : Prop := w'.os = w.os ∧ w'.tape = w.tape ∧ w'.output = w.output ∧ w.heap.size ≤ w'.heap.size ∧ ∀ k, k < w.heap.size → k ≠ g → w'.heap[k]? = w.heap[k]?
theorem Exg.refl (g : Nat) (w : World) : Exg g w w := ⟨rfl, rfl, rfl, Nat.le_refl _, fun _ _ _ => rfl⟩
theorem Exg.trans {g : Nat} {a b c : World} (h : Exg g a b) (k : Exg g b c) : Exg g a c :=
  ⟨k.1.trans h.1, k.2.1.trans h.2.1, k.2.2.1.trans h.2.2.1, Nat.le_trans h.2.2.2.1 k.2.2.2.1, fun i hi h1 => (k.2.2.2.2 i (Nat.lt_of_lt_of_le hi h.2.2.2.1) h1).trans (h.2.2.2.2 i hi h1)⟩
theorem Ext.exg {w w' : World} (h : Ext w w') (g : Nat) : Exg g w w' := ⟨h.os, h.tape, h.output, h.size, fun k hk _ => h.block k hk⟩
theorem Exg.ext {g : Nat} {a b c : World} (h : Exg g b c) (k : Ext a b) (hg : a.heap.size ≤ g) : Ext a c :=
  ⟨h.1.trans k.os, h.2.1.trans k.tape, h.2.2.1.trans k.output, Nat.le_trans k.size h.2.2.2.1, fun i hi => (h.2.2.2.2 i (Nat.lt_of_lt_of_le hi k.size) (by omega)).trans (k.block i hi)⟩
theorem Exg.size {g : Nat} {a b : World} (h : Exg g a b) : a.heap.size ≤ b.heap.size := h.2.2.2.1
theorem Exg.set {g : Nat} {a w : World} (h : Exg g a w) {p : Addr} (hp : p.block = g ∨ a.heap.size ≤ p.block) (u : Value) : Exg g a (w.setCell p u) :=
  ⟨h.1, h.2.1, h.2.2.1, by rw [show (w.setCell p u).heap.size = w.heap.size by unfold World.setCell; split <;> simp]; exact h.2.2.2.1, fun k hk h1 => (Below.heap_setCell w p u k (by omega)).trans (h.2.2.2.2 k hk h1)⟩
theorem Exg.setCells {g b : Nat} {a : World} (hb : b = g ∨ a.heap.size ≤ b) : ∀ (vs : List Value) (o : Nat) {w : World}, Exg g a w → Exg g a (w.setCells b o vs)
  | [], _, _, h => h
  | v :: r, o, _, h => Exg.setCells hb r (o + 1) (h.set (p := ⟨b, o, none⟩) hb v)
theorem Exg.alloc {g : Nat} {a w : World} (h : Exg g a w) (o : Obj) : Exg g a (w.alloc o) := h.trans (((Ext.refl w).alloc o).exg g)
theorem Exg.drew {g : Nat} {a w : World} (h : Exg g a w) : Exg g a w.drew := h.trans (((Ext.refl w).drew).exg g)
end Go.Proofs.YtjeclmmikjpinaaDoor
