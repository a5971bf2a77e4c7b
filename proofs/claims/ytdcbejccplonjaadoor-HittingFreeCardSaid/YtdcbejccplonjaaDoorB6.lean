/- A search in memory, and what a call of run or choose may change. -/
import Derived.Test.YtdcbejccplonjaaDoorB5
namespace Go.Proofs.YtdcbejccplonjaaDoor
open Go.RowKit
attribute [local go_sem ↓] Go.wp_at_zero Go.wp_at_succ
/-- Only the search's own block, the row of what is found, the row of elements, and new blocks have changed. -/
structure Fr (w w' : World) (g : Nat) (vf ve : Value) : Prop where
  os : w'.os = w.os
  tape : w'.tape = w.tape
  output : w'.output = w.output
  size : w.heap.size ≤ w'.heap.size
  block : ∀ b, b < w.heap.size → b ≠ g → vf.ownBlock ≠ some b → ve.ownBlock ≠ some b → w'.heap[b]? = w.heap[b]?
/-- A row that has stayed where it was, or lies in a new block. -/
def Mv (w : World) (v v1 : Value) : Prop := v1.ownBlock = v.ownBlock ∨ ∃ k, v1.ownBlock = some k ∧ w.heap.size ≤ k
theorem Mv.refl (w : World) (v : Value) : Mv w v v := .inl rfl
theorem Mv.trans {w w1 : World} {v v1 v2 : Value} (h : Mv w v v1) (hs : w.heap.size ≤ w1.heap.size) (k : Mv w1 v1 v2) : Mv w v v2 := by
  rcases k with k | ⟨b, k, hb⟩
  · rcases h with h | ⟨c, h, hc⟩
    · exact .inl (k.trans h)
    · exact .inr ⟨c, k.trans h, hc⟩
  · exact .inr ⟨b, k, by omega⟩
theorem Mv.ne {w : World} {v v1 : Value} (h : Mv w v v1) {b : Nat} (hb : b < w.heap.size) (hv : v.ownBlock ≠ some b) : v1.ownBlock ≠ some b := by
  rcases h with h | ⟨k, h, hk⟩
  · rw [h]; exact hv
  · rw [h]; intro e; cases e; omega
theorem Fr.of_ext {w w' : World} {g : Nat} {vf ve : Value} (h : Ext w w') : Fr w w' g vf ve := ⟨h.os, h.tape, h.output, h.size, fun b hb _ _ _ => h.block b hb⟩
theorem Fr.trans {w w1 w2 : World} {g : Nat} {vf ve vf1 ve1 : Value} (h : Fr w w1 g vf ve) (k : Fr w1 w2 g vf1 ve1) (mf : Mv w vf vf1) (me : Mv w ve ve1) : Fr w w2 g vf ve :=
  ⟨k.os.trans h.os, k.tape.trans h.tape, k.output.trans h.output, Nat.le_trans h.size k.size, fun b hb hg hf he => by
    rw [k.block b (Nat.lt_of_lt_of_le hb h.size) hg (mf.ne hb hf) (me.ne hb he), h.block b hb hg hf he]⟩
theorem Fr.ext_r {w w1 w2 : World} {g : Nat} {vf ve : Value} (h : Fr w w1 g vf ve) (k : Ext w1 w2) : Fr w w2 g vf ve := h.trans (Fr.of_ext k) (Mv.refl _ _) (Mv.refl _ _)
theorem Fr.set {w w1 : World} {g : Nat} {vf ve : Value} (h : Fr w w1 g vf ve) (o : Nat) (u : Value) : Fr w (w1.setCell ⟨g, o, none⟩ u) g vf ve :=
  ⟨h.os, h.tape, h.output, by simpa using h.size, fun b hb hg hf he => by rw [heap_set (Ne.symm hg)]; exact h.block b hb hg hf he⟩
theorem Fr.grown {w w1 w2 : World} {g : Nat} {vf ve : Value} {row : Option Nat} (h : Fr w w1 g vf ve) (hg : w1.grownBy w2 row) (hr : ∀ b, b < w.heap.size → vf.ownBlock ≠ some b → ve.ownBlock ≠ some b → row ≠ some b) : Fr w w2 g vf ve :=
  ⟨hg.os.trans h.os, hg.tape.trans h.tape, hg.output.trans h.output, Nat.le_trans h.size hg.size, fun b hb hbg hf he => by
    rw [hg.block b (Nat.lt_of_lt_of_le hb h.size) (Ne.symm (hr b hb hf he)), h.block b hb hbg hf he]⟩
/-- Old memory, below a base. -/
theorem Fr.below {wB w w' : World} {g : Nat} {vf ve : Value} (h : Fr w w' g vf ve) (e : Ext wB w) (hg : wB.heap.size ≤ g) (hf : ∀ k, vf.ownBlock = some k → wB.heap.size ≤ k) (he : ∀ k, ve.ownBlock = some k → wB.heap.size ≤ k) : Ext wB w' :=
  ⟨h.os.trans e.os, h.tape.trans e.tape, h.output.trans e.output, Nat.le_trans e.size h.size, fun b hb => by
    rw [h.block b (e.lt b hb) (by omega) (fun e' => by have := hf b e'; omega) (fun e' => by have := he b e'; omega), e.block b hb]⟩
theorem SAt.kept {w w' : World} {g : Nat} {f : Nat → Value} (h : SAt w g f) (hb : w'.heap[g]? = w.heap[g]?) : SAt w' g f := by
  refine ⟨?_, fun k hk => ?_, fun k hk => ?_⟩
  · have := h.lt
    rcases Nat.lt_or_ge g w'.heap.size with h1 | h1
    · exact h1
    · rw [Array.getElem?_eq_none h1, Array.getElem?_eq_getElem this] at hb; cases hb
  · rw [World.cell?_of_block (a := ⟨g, k, none⟩) hb]; exact h.cell k hk
  · rw [World.frozen?_of_block (a := ⟨g, k, none⟩) hb]; exact h.free k hk
theorem SlAt.kept {w w' : World} {v : Value} {vs : List Value} (h : SlAt w v vs) (hb : ∀ k, k < w.heap.size → v.ownBlock = some k → w'.heap[k]? = w.heap[k]?) : SlAt w' v vs := by
  obtain ⟨A, c, rfl, h2, h3, h4⟩ := h.at_
  refine ⟨A, c, rfl, h2, h3, fun h0 => ?_⟩
  obtain ⟨ad, rfl, hlt, hc⟩ := h4 h0
  have e := hb ad.block hlt rfl
  refine ⟨ad, rfl, ?_, fun j u hj => ?_⟩
  · rcases Nat.lt_or_ge ad.block w'.heap.size with h1 | h1
    · exact h1
    · rw [Array.getElem?_eq_none h1, Array.getElem?_eq_getElem hlt] at e; cases e
  · have hbl : (ad.add j).block = ad.block := by unfold Addr.add; split <;> rfl
    have hcell : w'.cell? (ad.add j) = w.cell? (ad.add j) := World.cell?_of_block (by rw [hbl]; exact e)
    rw [hcell]
    exact hc j u hj
/-- A search: chosen elements, allowed ones, what is found. -/
structure St (wB w : World) (g : Nat) (sets els : List Nat) (vs vf ve vc : Value) (most limit A : Nat) (found : List Nat) : Prop where
  ext : Ext wB w
  gB : wB.heap.size ≤ g
  s : SAt w g (srcF vs (hav sets) most limit vf ve vc (opnF sets els) A)
  rf : Row w wB.heap.size 52 vf (found.map uV)
  re : Row w wB.heap.size 3 ve ((nI els).map iV)
  rc : Us w vc (els.map (critF sets els))
  fg : vf.ownBlock ≠ some g
  eg : ve.ownBlock ≠ some g
  fe : ∀ k, vf.ownBlock = some k → ve.ownBlock ≠ some k
  cg : vc.ownBlock ≠ some g
  cf : ∀ k, vc.ownBlock = some k → vf.ownBlock ≠ some k
  ce : ∀ k, vc.ownBlock = some k → ve.ownBlock ≠ some k
  cl : ∀ k, vc.ownBlock = some k → k < w.heap.size
theorem St.ext_r {wB w w' : World} {g : Nat} {sets els : List Nat} {vs vf ve vc : Value} {most limit A : Nat} {found : List Nat} (h : St wB w g sets els vs vf ve vc most limit A found) (k : Ext w w') : St wB w' g sets els vs vf ve vc most limit A found :=
  ⟨h.ext.trans k, h.gB, h.s.ext k, h.rf.ext k, h.re.ext k, h.rc.ext k, h.fg, h.eg, h.fe, h.cg, h.cf, h.ce, fun b hb => k.lt _ (h.cl b hb)⟩
/-- Another set of allowed elements. -/
theorem St.allow {wB w : World} {g : Nat} {sets els : List Nat} {vs vf ve vc : Value} {most limit A : Nat} {found : List Nat} (h : St wB w g sets els vs vf ve vc most limit A found) (A' : Nat) : St wB (w.setCell ⟨g, 71, none⟩ (uV A')) g sets els vs vf ve vc most limit A' found :=
  ⟨h.ext.set h.gB _, h.gB, h.s.set (by omega) _ srcF_set71, h.rf.kept fun k hk => heap_set (fun e => h.fg (by rw [hk]; exact congrArg some e.symm)), h.re.kept fun k hk => heap_set (fun e => h.eg (by rw [hk]; exact congrArg some e.symm)),
    SlAt.kept h.rc fun k _ hk => heap_set (fun e => h.cg (by rw [hk]; exact congrArg some e.symm)), h.fg, h.eg, h.fe, h.cg, h.cf, h.ce, fun b hb => by simpa using h.cl b hb⟩
theorem opn_less {sets els : List Nat} {p x : Nat} (hl : sets.length ≤ 64) (hp : (opnF sets els).testBit p = true) (hx : (sets.getD p 0).testBit x = true) : card (opnF sets (els ++ [x])) < card (opnF sets els) := by
  have p1 := (opn_bit.1 hp).1
  have h1 : card (opnF sets (els ++ [x]) ||| 2 ^ p) ≤ card (opnF sets els) := card_le fun i hi => by
    rcases or_pow_bit.1 hi with h | h
    · obtain ⟨i1, i2⟩ := opn_bit.1 h
      exact opn_bit.2 ⟨i1, fun y hy => i2 y (by simp [hy])⟩
    · rw [h]; exact hp
  rw [card_or, elems_pow (by omega)] at h1
  · omega
  · rintro i ⟨i1, i2⟩
    have : p = i := by rw [Nat.testBit_two_pow] at i2; simpa using i2
    subst this
    have := (opn_bit.1 i1).2 x (by simp)
    rw [hx] at this; cases this
/-- What the chosen elements owe. -/
structure ElsOk (els : List Nat) (A : Nat) : Prop where
  nodup : els.Nodup
  lt : ∀ e ∈ els, e < 64
  out : ∀ e ∈ els, A.testBit e = false
theorem ElsOk.len {els : List Nat} {A : Nat} (h : ElsOk els A) : els.length ≤ 64 := by
  have := card_maskOf h.nodup h.lt
  have := card_le64 (maskOf els)
  omega
def RetRun (wB : World) (g : Nat) (sets els : List Nat) (vs vf ve vc : Value) (most limit : Nat) (found : List Nat) (w : World) (e : Ending) (w' : World) : Prop :=
  e = .returned (.tuple #[]) ∧ ∃ vf' ve' A', St wB w' g sets els vs vf' ve' vc most limit A' found ∧ Fr w w' g vf ve ∧ Mv w vf vf' ∧ Mv w ve ve'
/-- What choose leaves: the allowed elements are as they were. -/
def RetCh (wB : World) (g : Nat) (sets els : List Nat) (vs vf ve vc : Value) (most limit A : Nat) (found : List Nat) (w : World) (e : Ending) (w' : World) : Prop :=
  e = .returned (.tuple #[]) ∧ ∃ vf' ve', St wB w' g sets els vs vf' ve' vc most limit A found ∧ Fr w w' g vf ve ∧ Mv w vf vf' ∧ Mv w ve ve'
def chF (sets : List Nat) (most limit n : Nat) (els : List Nat) (x A : Nat) (fd : List Nat) : List Nat := if els.any (fun e => decide (critF sets (els ++ [x]) e = 0)) then fd else runF sets most limit n (els ++ [x]) A fd
end Go.Proofs.YtdcbejccplonjaaDoor
