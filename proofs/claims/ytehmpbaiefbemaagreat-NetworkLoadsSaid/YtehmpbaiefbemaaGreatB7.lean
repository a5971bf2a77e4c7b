/- A network that is being loaded, in the numbers of the .Z seat. -/
import Derived.Test.YtehmpbaiefbemaaGreatB5
namespace Go.Proofs.YtehmpbaiefbemaaGreat
open Go.RowKit
open Go.ChangeMaps (setBlock)
/-- The numbers that have been read so far. -/
def pre (f : Nat → Nat) (n : Nat) : Nat → Nat := fun i => if i < n then f i else 0
theorem pre_zero (f : Nat → Nat) : pre f 0 = fun _ => 0 := by funext i; simp [pre]
theorem pre_step (f : Nat → Nat) (n : Nat) : upd (pre f n) n (f n) = pre f (n + 1) := by
  funext i
  unfold upd pre
  by_cases e : i = n
  · subst e; rw [if_pos rfl, if_pos (by omega)]
  · rw [if_neg e]
    by_cases h : i < n
    · rw [if_pos h, if_pos (by omega)]
    · rw [if_neg h, if_neg (by omega)]
theorem NV_pre {c h u : Value} {s t d : Nat → Nat} : NV c h (pre s 64) (pre t 8) (pre d 8) u = NV c h s t d u :=
  NV_ext NV_size NV_0 NV_1 (fun k hk => by rw [NV_sent hk]; simp [pre, hk]) (fun k hk => by rw [NV_tim hk]; simp [pre, hk]) (fun k hk => by rw [NV_dis hk]; simp [pre, hk]) NV_82
/-- The bytes from the k-th of eight rows on. -/
def fromR (f : Nat → List UInt8) (k : Nat) : List UInt8 := ((List.range 8).drop k).flatMap f
theorem fromR_step {f : Nat → List UInt8} {k : Nat} (h : k < 8) : fromR f k = f k ++ fromR f (k + 1) := by
  unfold fromR
  rw [List.drop_eq_getElem_cons (by simpa using h), List.flatMap_cons, List.getElem_range]
theorem fromR_8 (f : Nat → List UInt8) : fromR f 8 = [] := rfl
theorem fromR_0 (f : Nat → List UInt8) : fromR f 0 = (List.range 8).flatMap f := rfl
theorem Rd.exc {w w' : World} {N : Nat → Prop} {b g r : Nat} {xs : List UInt8} (h : Rd w N b xs) (k : Exc g r w w') (hN : ∀ i, N i → i ≠ g ∧ i ≠ r) (hbg : b ≠ g) (hbr : b ≠ r) : Rd w' N b xs := by
  obtain ⟨A, c, h0, h1, hf, hb, hc, hm, hne⟩ := h
  have hbl : b < w.heap.size := World.block_lt_of_cell? w _ h0
  have hk := k.block b hbl hbg hbr
  refine ⟨A, c, (cell_kept hk).trans h0, (cell_kept hk).trans h1, fun i => (frozen_kept hk).trans (hf i), fun h0 => ?_, hc, hm, hne⟩
  obtain ⟨ad, e, h2, h3⟩ := hb h0
  refine ⟨ad, e, Nat.lt_of_lt_of_le h2 k.size, fun j y hj => ?_⟩
  have h4 := h3 j y hj
  have h5 : (ad.add j).block = ad.block := block_of_add _ _
  have h6 := (hne ad e).2
  have hk2 : w'.heap[(ad.add j).block]? = w.heap[(ad.add j).block]? := by rw [h5]; exact k.block ad.block h2 (hN _ h6).1 (hN _ h6).2
  rw [← h4]
  unfold World.cell?
  rw [hk2]
/-- Between the readings: the network's block g, its map r, the reader b in its box bb. -/
structure Ld (w0 W : World) (N : Nat → Prop) (g r b bb : Nat) (cv hv : Value) (s t d : Nat → Nat) (ks : List Ky) (rest : List UInt8) : Prop where
  ext : Ext w0 W
  blk : blkOf W g = NV cv hv s t d (.map (some r))
  mp : Mk W r ks
  rd : Rd W N b rest
  box : W.cell? ⟨bb, 0, none⟩ = some (.pointer (some ⟨b, 0, none⟩))
/-- Where they lie. -/
structure LdO (w0 : World) (N : Nat → Prop) (g r b bb : Nat) : Prop where
  g0 : w0.heap.size ≤ g
  r0 : w0.heap.size ≤ r
  b0 : w0.heap.size ≤ b
  bb0 : w0.heap.size ≤ bb
  gr : g ≠ r
  gb : g ≠ b
  gbb : g ≠ bb
  rb : r ≠ b
  rbb : r ≠ bb
  bbb : b ≠ bb
  nn : ∀ i, N i → i ≠ g ∧ i ≠ r
section
variable {w0 W W' : World} {N : Nat → Prop} {g r b bb : Nat} {cv hv : Value} {s t d : Nat → Nat} {ks : List Ky} {rest rest' : List UInt8}
theorem Ld.lt (h : Ld w0 W N g r b bb cv hv s t d ks rest) : g < W.heap.size := blkOf_lt (by rw [h.blk, NV_size]; omega)
theorem Ld.to (h : Ld w0 W N g r b bb cv hv s t d ks rest) (k : Ext W W') : Ld w0 W' N g r b bb cv hv s t d ks rest := by
  obtain ⟨A, c, h0, h1, hf, hb, hc, hm, hne⟩ := h.rd
  have hbl : b < W.heap.size := World.block_lt_of_cell? W _ h0
  have hk := k.block b hbl
  exact ⟨h.ext.trans k, (blkOf_ext k h.lt).trans h.blk, h.mp.ext k, ⟨A, c, k.cell h0, k.cell h1, fun i => (frozen_kept hk).trans (hf i), hb.ext k, hc, hm, hne⟩, k.cell h.box⟩
/-- The reader has gone on. -/
theorem Ld.read (h : Ld w0 W N g r b bb cv hv s t d ks rest) (o : LdO w0 N g r b bb) (h1 : Rd W' N b rest') (h2 : ∃ u, W' = W.setCell ⟨b, 0, none⟩ u) : Ld w0 W' N g r b bb cv hv s t d ks rest' := by
  obtain ⟨u, rfl⟩ := h2
  exact ⟨h.ext.set o.b0 u, (blkOf_far (Ne.symm o.gb)).trans h.blk, h.mp.kept (Below.heap_setCell _ _ _ _ o.rb), h1, (cell_kept (Below.heap_setCell _ _ _ _ (Ne.symm o.bbb))).trans h.box⟩
theorem Ld.put (h : Ld w0 W N g r b bb cv hv s t d ks rest) (o : LdO w0 N g r b bb) {i : Nat} {v : Value} {s' t' d' : Nat → Nat} (hv' : (NV cv hv s t d (.map (some r))).setIfInBounds i v = NV cv hv s' t' d' (.map (some r))) : Ld w0 (W.setCell ⟨g, i, none⟩ v) N g r b bb cv hv s' t' d' ks rest := by
  have E : Exc g r W (W.setCell ⟨g, i, none⟩ v) := (Exc.refl g r W).set (.inl rfl) _
  refine ⟨h.ext.set o.g0 v, ?_, h.mp.kept (Below.heap_setCell _ _ _ _ (Ne.symm o.gr)), h.rd.exc E o.nn (Ne.symm o.gb) (Ne.symm o.rb), (cell_kept (Below.heap_setCell _ _ _ _ (Ne.symm o.gbb))).trans h.box⟩
  rw [blkOf_set (by rw [h.blk, NV_size]; omega), h.blk, hv']
theorem Ld.setS (h : Ld w0 W N g r b bb cv hv s t d ks rest) (o : LdO w0 N g r b bb) {k : Nat} (hk : k < 64) (v : Nat) : Ld w0 (W.setCell ⟨g, 2 + k, none⟩ (iV (v : Int))) N g r b bb cv hv (upd s k v) t d ks rest := h.put o (NV_setSent hk)
theorem Ld.setT (h : Ld w0 W N g r b bb cv hv s t d ks rest) (o : LdO w0 N g r b bb) {k : Nat} (hk : k < 8) (v : Nat) : Ld w0 (W.setCell ⟨g, 66 + k, none⟩ (iV (v : Int))) N g r b bb cv hv s (upd t k v) d ks rest := h.put o (NV_setTim hk)
theorem Ld.setD (h : Ld w0 W N g r b bb cv hv s t d ks rest) (o : LdO w0 N g r b bb) {k : Nat} (hk : k < 8) (v : Nat) : Ld w0 (W.setCell ⟨g, 74 + k, none⟩ (iV (v : Int))) N g r b bb cv hv s t (upd d k v) ks rest := h.put o (NV_setDis hk)
theorem Ld.ins (h : Ld w0 W N g r b bb cv hv s t d ks rest) (o : LdO w0 N g r b bb) {ob : Obj} {ks' : List Ky} (hm : Mk (setBlock W r ob) r ks') : Ld w0 (setBlock W r ob) N g r b bb cv hv s t d ks' rest := by
  have E : Exc g r W (setBlock W r ob) := (Exc.refl g r W).map ob
  exact ⟨E.ext h.ext o.g0 o.r0, (blkOf_kept (heap_setBlock _ _ _ _ o.gr)).trans h.blk, hm, h.rd.exc E o.nn (Ne.symm o.gb) (Ne.symm o.rb), (cell_kept (heap_setBlock _ _ _ _ (Ne.symm o.rbb))).trans h.box⟩
/-- A cell of another block is set. -/
theorem Ld.far (h : Ld w0 W N g r b bb cv hv s t d ks rest) {a : Nat} (h0 : w0.heap.size ≤ a) (hg : a ≠ g) (hr : a ≠ r) (hb : a ≠ b) (hbb : a ≠ bb) (hN : ∀ i, N i → i ≠ a) (i : Nat) (v : Value) : Ld w0 (W.setCell ⟨a, i, none⟩ v) N g r b bb cv hv s t d ks rest := by
  have E : Exc a a W (W.setCell ⟨a, i, none⟩ v) := (Exc.refl a a W).set (.inl rfl) _
  exact ⟨h.ext.set h0 v, (blkOf_far hg).trans h.blk, h.mp.kept (Below.heap_setCell _ _ _ _ (Ne.symm hr)), h.rd.exc E (fun i hi => ⟨hN i hi, hN i hi⟩) (Ne.symm hb) (Ne.symm hb), (cell_kept (Below.heap_setCell _ _ _ _ (Ne.symm hbb))).trans h.box⟩
/-- Load's closure, at a number's encoding. -/
theorem Ld.next {v : Nat} (h : Ld w0 W N g r b bb cv hv s t d ks (putU v ++ rest)) (o : LdO w0 N g r b bb) (hv' : v ≤ 1000000) : Calls Tryz.prog 34 #[.pointer (some ⟨bb, 0, none⟩)] W fun e W' => e = .returned (iV (v : Int)) ∧ Ld w0 W' N g r b bb cv hv s t d ks rest ∧ ∃ u, W' = W.setCell ⟨b, 0, none⟩ u :=
  (load34_ok N bb b v rest W h.box h.rd hv').mono fun _ _ ⟨he, hR, hu⟩ => ⟨he, h.read o hR hu, hu⟩
end
/-- The key ahead of the j-th one. -/
def lastK (ks : List Ky) : Nat → Ky
  | 0 => (0, 0, 0, 0)
  | j + 1 => ks.getD j (0, 0, 0, 0)
theorem lastK_lt {ks : List Ky} (ha : Asc ks) (h1 : ∀ k ∈ ks, 1 ≤ k.1) {j : Nat} (hj : j < ks.length) : klt (lastK ks j) (ks.getD j (0, 0, 0, 0)) := by
  have e : ks.getD j (0, 0, 0, 0) = ks[j] := by rw [List.getD_eq_getElem?_getD, List.getElem?_eq_getElem hj]; rfl
  cases j with
  | zero =>
    have := h1 _ (List.getElem_mem hj)
    rw [e]
    exact .inl (by show 0 < _; omega)
  | succ j =>
    have e' : ks.getD j (0, 0, 0, 0) = ks[j] := by rw [List.getD_eq_getElem?_getD, List.getElem?_eq_getElem (by omega)]; rfl
    show klt (ks.getD j _) _
    rw [e, e']
    exact List.pairwise_iff_getElem.1 ha j (j + 1) (by omega) hj (by omega)
theorem putM_take {ks : List Ky} (ha : Asc ks) {j : Nat} (hj : j < ks.length) : putM (ks.take j) (ks.getD j (0, 0, 0, 0)) = ks.take (j + 1) := by
  have e : ks.getD j (0, 0, 0, 0) = ks[j] := by rw [List.getD_eq_getElem?_getD, List.getElem?_eq_getElem hj]; rfl
  have hn : ks[j] ∉ ks.take j := fun hm => by
    obtain ⟨i, hi, e2⟩ := List.getElem_of_mem hm
    rw [List.length_take] at hi
    rw [List.getElem_take] at e2
    exact klt_ne (List.pairwise_iff_getElem.1 ha i j (by omega) hj (by omega)) e2
  unfold putM
  rw [e, if_neg hn, List.take_succ_eq_append_getElem hj]
end Go.Proofs.YtehmpbaiefbemaaGreat
