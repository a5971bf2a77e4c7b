/- How a casebook lies in memory; what keeps it. -/
import Derived.Test.YtjeclmmikjpinaaDoorC2
import Derived.Test.YtjeclmmikjpinaaDoorK14
namespace Go.Proofs.YtjeclmmikjpinaaDoor
open Go.RowKit
open Go.ChangeMaps (setBlock)
open I (IdT EvT IdAt EvAt SeenAt StAt)
theorem size_setBlock (w : World) (r : Nat) (o : Obj) : (setBlock w r o).heap.size = w.heap.size := by simp [setBlock]
theorem heap_setBlock (w : World) (r k : Nat) (o : Obj) (h : k ≠ r) : (setBlock w r o).heap[k]? = w.heap[k]? := by
  unfold setBlock
  rw [Array.getElem?_setIfInBounds_ne (by omega)]
/-- Memory has only grown, but for the blocks g and r. -/
structure Exc (g r : Nat) (w w' : World) : Prop where
  os : w'.os = w.os
  tape : w'.tape = w.tape
  output : w'.output = w.output
  size : w.heap.size ≤ w'.heap.size
  block : ∀ k, k < w.heap.size → k ≠ g → k ≠ r → w'.heap[k]? = w.heap[k]?
theorem Exc.refl (g r : Nat) (w : World) : Exc g r w w := ⟨rfl, rfl, rfl, Nat.le_refl _, fun _ _ _ _ => rfl⟩
theorem Exc.trans {g r : Nat} {a b c : World} (h : Exc g r a b) (k : Exc g r b c) : Exc g r a c :=
  ⟨k.os.trans h.os, k.tape.trans h.tape, k.output.trans h.output, Nat.le_trans h.size k.size, fun i hi h1 h2 => (k.block i (Nat.lt_of_lt_of_le hi h.size) h1 h2).trans (h.block i hi h1 h2)⟩
theorem Ext.exc {w w' : World} (h : Ext w w') (g r : Nat) : Exc g r w w' := ⟨h.os, h.tape, h.output, h.size, fun k hk _ _ => h.block k hk⟩
/-- What was there ahead of the blocks g and r is as it was. -/
theorem Exc.ext {g r : Nat} {a b c : World} (h : Exc g r b c) (k : Ext a b) (hg : a.heap.size ≤ g) (hr : a.heap.size ≤ r) : Ext a c :=
  ⟨h.os.trans k.os, h.tape.trans k.tape, h.output.trans k.output, Nat.le_trans k.size h.size, fun i hi => (h.block i (Nat.lt_of_lt_of_le hi k.size) (by omega) (by omega)).trans (k.block i hi)⟩
theorem Exc.set {g r : Nat} {w w' : World} (h : Exc g r w w') {p : Addr} (hp : p.block = g ∨ p.block = r ∨ w.heap.size ≤ p.block) (u : Value) : Exc g r w (w'.setCell p u) :=
  ⟨h.os, h.tape, h.output, by simpa using h.size, fun k hk h1 h2 => by
    rw [Below.heap_setCell _ _ _ _ (by omega)]; exact h.block k hk h1 h2⟩
theorem Exc.map {g r : Nat} {w w' : World} (h : Exc g r w w') (o : Obj) : Exc g r w (setBlock w' r o) :=
  ⟨h.os, h.tape, h.output, by rw [size_setBlock]; exact h.size, fun k hk h1 h2 => by rw [heap_setBlock _ _ _ _ h2]; exact h.block k hk h1 h2⟩
theorem Exc.alloc {g r : Nat} {w w' : World} (h : Exc g r w w') (o : Obj) : Exc g r w (w'.alloc o) := h.trans (((Ext.refl _).alloc o).exc g r)
theorem Exc.grown {g r : Nat} {a b c : World} (h : Exc g r a b) (k : Ext b c) : Exc g r a c := h.trans (k.exc g r)
theorem Ext.then {g r : Nat} {a b c : World} (h : Ext a b) (k : Exc g r b c) : Exc g r a c := (h.exc g r).trans k
theorem Exc.swap {g r : Nat} {w w' : World} (h : Exc g r w w') : Exc r g w w' := ⟨h.os, h.tape, h.output, h.size, fun k hk h1 h2 => h.block k hk h2 h1⟩
/-- A map lies here. -/
def MpB (w : World) (r : Nat) : Prop := ∃ es c, w.heap[r]? = some (.map es c)
theorem Mk.mpB {w : World} {r : Nat} {ks : List (List UInt8)} (h : Mk w r ks) : MpB w r := by
  obtain ⟨es, c, h1, _⟩ := h.at_
  exact ⟨es, c, h1⟩
theorem MpB.lt {w : World} {r : Nat} (h : MpB w r) : r < w.heap.size := by
  obtain ⟨es, c, h1⟩ := h
  exact (Array.getElem?_eq_some_iff.1 h1).1
theorem MpB.ne {w : World} {r T b : Nat} (h : MpB w r) (k : TyB w T b) : b ≠ r := by
  rintro rfl
  obtain ⟨es, c, h1⟩ := h
  obtain ⟨cs, fr, h2⟩ := k
  rw [h1] at h2
  cases h2
theorem typ_ty {w : World} {b T : Nat} (h : I.typ w b = some T) : TyB w T b := by
  unfold I.typ World.shape? at h
  cases hb : w.heap[b]? with
  | none => simp [hb] at h
  | some o =>
    cases o <;> simp [hb] at h
    rename_i cs t fr
    subst h
    exact ⟨cs, fr, hb⟩
theorem ty_typ {w : World} {b T : Nat} (h : TyB w T b) : I.typ w b = some T := by
  obtain ⟨cs, fr, hb⟩ := h
  unfold I.typ World.shape?
  rw [hb]
  rfl
theorem cell_kept {w w' : World} {b : Nat} (h : w'.heap[b]? = w.heap[b]?) (o : Nat) : w'.cell? ⟨b, o, none⟩ = w.cell? ⟨b, o, none⟩ := by
  unfold World.cell?
  rw [h]
/-- The parts of identities and event trees are as they were. -/
def Calm (w w' : World) : Prop := ∀ T b, TyB w T b → (T = 76 ∨ T = 94) → w'.heap[b]? = w.heap[b]?
theorem Exc.calm {g r : Nat} {w w' : World} (h : Exc g r w w') (hg : TyB w 48 g) (hr : MpB w r) : Calm w w' := fun _ b hb hT =>
  h.block b hb.lt (hb.ne hg (by rcases hT with rfl | rfl <;> decide)) (hr.ne hb)
theorem Ext.calm {w w' : World} (h : Ext w w') : Calm w w' := fun _ b hb _ => h.block b hb.lt
theorem IdAt_calm {w w' : World} (h : Calm w w') : ∀ {i : IdT} {v : Value}, IdAt w v i → IdAt w' v i
  | .zero, _, hv => hv
  | .node _ _, _, ⟨b, pl, pr, e, h0, h1, hl, hr, ht⟩ =>
    have hk := h 76 b (typ_ty ht) (.inl rfl)
    ⟨b, pl, pr, e, by rw [cell_kept hk]; exact h0, by rw [cell_kept hk]; exact h1, IdAt_calm h hl, IdAt_calm h hr, ty_typ ((typ_ty ht).kept hk)⟩
theorem EvAt_calm {w w' : World} (h : Calm w w') : ∀ {t : EvT} {v : Value}, EvAt w v t → EvAt w' v t
  | .leaf _, _, ⟨b, e, h0, h1, h2, h3, ht⟩ =>
    have hk := h 94 b (typ_ty ht) (.inr rfl)
    ⟨b, e, by rw [cell_kept hk]; exact h0, by rw [cell_kept hk]; exact h1, by rw [cell_kept hk]; exact h2, by rw [cell_kept hk]; exact h3, ty_typ ((typ_ty ht).kept hk)⟩
  | .node _ _ _, _, ⟨b, pl, pr, e, h0, h1, h2, h3, hl, hr, ht⟩ =>
    have hk := h 94 b (typ_ty ht) (.inr rfl)
    ⟨b, pl, pr, e, by rw [cell_kept hk]; exact h0, by rw [cell_kept hk]; exact h1, by rw [cell_kept hk]; exact h2, by rw [cell_kept hk]; exact h3, EvAt_calm h hl, EvAt_calm h hr, ty_typ ((typ_ty ht).kept hk)⟩
theorem SeenAt_calm {w w' : World} (h : Calm w w') {v : Value} {t : EvT} (k : SeenAt w v t) : SeenAt w' v t := k.imp id (EvAt_calm h)
theorem StAt_calm {w w' : World} (h : Calm w w') {v : Value} {i : IdT} {t : EvT} (k : StAt w v i t) : StAt w' v i t := by
  obtain ⟨qi, qs, e, hi, ht⟩ := k
  exact ⟨qi, qs, e, IdAt_calm h hi, SeenAt_calm h ht⟩
theorem StAt_ext {w w' : World} (h : Ext w w') {v : Value} {i : IdT} {t : EvT} (k : StAt w v i t) : StAt w' v i t := I.StAt.ext h k
/-- The cells of a casebook. -/
def bkF (qi qs : Option Addr) (r : Nat) : Nat → Value := fun i => if i = 0 then .pointer qi else if i = 1 then .pointer qs else .map (some r)
/-- A casebook at the block g, with its map at the block r, its stamp, and the digests of its cases, of which none is closed. -/
structure BookAt (w : World) (g r : Nat) (i : IdT) (t : EvT) (ks : List (List UInt8)) : Prop where
  st : ∃ qi qs, Bk w g 3 (bkF qi qs r) ∧ StAt w (.agg #[.pointer qi, .pointer qs]) i t
  ty : TyB w 48 g
  mp : Mk w r ks
theorem BookAt.ext {w w' : World} {g r : Nat} {i : IdT} {t : EvT} {ks : List (List UInt8)} (h : BookAt w g r i t ks) (k : Ext w w') : BookAt w' g r i t ks := by
  obtain ⟨qi, qs, h1, h2⟩ := h.st
  exact ⟨⟨qi, qs, h1.ext k, StAt_ext k h2⟩, h.ty.ext k, h.mp.ext k⟩
/-- Another casebook has been changed. -/
theorem BookAt.far {w w' : World} {g r g' r' : Nat} {i : IdT} {t : EvT} {ks : List (List UInt8)} (h : BookAt w g r i t ks) (k : Exc g' r' w w') (hg : TyB w 48 g') (hr : MpB w r') (n1 : g ≠ g') (n2 : r ≠ r') : BookAt w' g r i t ks := by
  obtain ⟨qi, qs, h1, h2⟩ := h.st
  have e1 := k.block g h.ty.lt n1 (hr.ne h.ty)
  have e2 := k.block r h.mp.lt (Ne.symm (h.mp.mpB.ne hg)) n2
  exact ⟨⟨qi, qs, h1.kept e1, StAt_calm (k.calm hg hr) h2⟩, h.ty.kept e1, h.mp.kept e2⟩
/-- A block that is no part of a casebook has been written. -/
theorem BookAt.exg {w w' : World} {g r b T : Nat} {i : IdT} {t : EvT} {ks : List (List UInt8)} (h : BookAt w g r i t ks) (k : Exg b w w') (hb : TyB w T b) (n1 : T ≠ 48) (n2 : T ≠ 76) (n3 : T ≠ 94) : BookAt w' g r i t ks := by
  obtain ⟨qi, qs, h1, h2⟩ := h.st
  have e1 := k.2.2.2.2 g h.ty.lt (h.ty.ne hb (Ne.symm n1))
  have e2 := k.2.2.2.2 r h.mp.lt (Ne.symm (h.mp.mpB.ne hb))
  exact ⟨⟨qi, qs, h1.kept e1, StAt_calm (fun T' b' hb' hT' => k.2.2.2.2 b' hb'.lt (hb'.ne hb (hT'.elim (fun e => e ▸ Ne.symm n2) (fun e => e ▸ Ne.symm n3)))) h2⟩, h.ty.kept e1, h.mp.kept e2⟩
theorem exg_setCells (b o : Nat) (vs : List Value) (w : World) : Exg b w (w.setCells b o vs) := Exg.setCells (.inl rfl) vs o (Exg.refl b w)
theorem Exc.setCells {g r : Nat} {w w' : World} (h : Exc g r w w') {b o : Nat} (hb : w.heap.size ≤ b) (vs : List Value) : Exc g r w (w'.setCells b o vs) := by
  have k := exg_setCells b o vs w'
  exact ⟨k.1.trans h.os, k.2.1.trans h.tape, k.2.2.1.trans h.output, Nat.le_trans h.size k.2.2.2.1, fun j hj h1 h2 => (k.2.2.2.2 j (Nat.lt_of_lt_of_le hj h.size) (by omega)).trans (h.block j hj h1 h2)⟩
theorem TyB.exc {w w' : World} {g r T b : Nat} (h : TyB w T b) (k : Exc g r w w') (n1 : b ≠ g) (n2 : b ≠ r) : TyB w' T b := h.kept (k.block b h.lt n1 n2)
theorem Bk.exc {w w' : World} {g r b n : Nat} {f : Nat → Value} (h : Bk w b n f) (k : Exc g r w w') (n1 : b ≠ g) (n2 : b ≠ r) : Bk w' b n f := h.kept (k.block b h.lt n1 n2)
theorem run_lenMk {w : World} {r : Nat} {ks : List (List UInt8)} (h : Mk w r ks) : (Builtin.len_ #[46] 3 #[.map (some r)]).run Tryd.prog w = .ok (.int .i64 (ks.length : Int)) w := by
  obtain ⟨es, clock, h1, h2⟩ := run_lenM h
  simp [Builtin.len_, run_underlying Tryd.underlying46, MapKept.run_getObj_map h1, goInt, h2]
theorem Tab_calm {w w' : World} (h : Tab w) (k : w'.heap[0]? = w.heap[0]?) : Tab w' := fun j hj => by rw [cell_kept k]; exact h j hj
theorem MpB.ext {w w' : World} {r : Nat} (h : MpB w r) (k : Ext w w') : MpB w' r := by
  obtain ⟨es, c, h1⟩ := h
  exact ⟨es, c, by rw [k.block r (MpB.lt ⟨es, c, h1⟩)]; exact h1⟩
theorem Tab.exc {g r : Nat} {w w' : World} (h : Tab w) (k : Exc g r w w') (hg : 0 < g) (hr : 0 < r) : Tab w' := Tab_calm h (k.block 0 h.lt (by omega) (by omega))
end Go.Proofs.YtjeclmmikjpinaaDoor
