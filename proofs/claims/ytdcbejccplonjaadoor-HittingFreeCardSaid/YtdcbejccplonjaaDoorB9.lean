/- A search one element deeper, and back. -/
import Derived.Test.YtdcbejccplonjaaDoorB8
namespace Go.Proofs.YtdcbejccplonjaaDoor
open Go.RowKit
/-- The first elements of a row. -/
theorem Row.init {w : World} {B e n cap : Nat} {ad : Addr} {vs us : List Value} (h : Row w B e (.slice (some ad) (vs ++ us).length cap) (vs ++ us)) (hn : vs.length = n) : Row w B e (.slice (some ad) n cap) vs := by
  subst hn
  have h' : w.ownsRow B e 1 (.slice (some ad) (vs ++ us).length cap) (vs ++ us).length (vs ++ us) := h
  refine ⟨by simp, ?_⟩
  rcases h'.2 with ⟨h1, _⟩ | ⟨g, cap', cur, e1, hB, hg, h1, h2, h3, h4⟩
  · cases h1
  · simp only [Value.slice.injEq, Option.some.injEq] at e1
    obtain ⟨rfl, -, rfl⟩ := e1
    refine .inr ⟨g, cap, cur, rfl, hB, hg, ?_, h2, h3, ?_⟩
    · rw [List.length_append] at h1; omega
    · rw [Nat.mul_one] at h4 ⊢
      have : cur.toList.take vs.length = (cur.toList.take (vs ++ us).length).take vs.length := by
        rw [List.take_take, List.length_append, Nat.min_eq_left (by omega)]
      rw [this, h4, List.take_left]
theorem nI_snoc (els : List Nat) (x : Nat) : (nI (els ++ [x])).map iV = (nI els).map iV ++ [iV (x : Int)] := by simp [nI]
section
variable {wB w wa wc wd w6 : World} {g : Nat} {sets els : List Nat} {vs vf ve vc t2 ve2 vf6 ve6 ve7 : Value} {most limit A A6 x : Nat} {found found6 : List Nat}
/-- The new critical places are stored. -/
theorem St.d69 (h : St wB w g sets els vs vf ve vc most limit A found) (hE : Ext w wa) : SAt wa g (srcF vs (hav sets) most limit vf ve vc (opnF sets els) A) ∧ SAt (wa.setCell ⟨g, 69, none⟩ t2) g (srcF vs (hav sets) most limit vf ve t2 (opnF sets els) A) ∧ Ext wB (wa.setCell ⟨g, 69, none⟩ t2) ∧ Row (wa.setCell ⟨g, 69, none⟩ t2) wB.heap.size 3 ve ((nI els).map iV) :=
  ⟨h.s.ext hE, (h.s.ext hE).set (by omega) _ srcF_set69, (h.ext.trans hE).set h.gB _, (h.re.ext hE).kept fun k hk => heap_set (fun e => h.eg (by rw [hk]; exact congrArg some e.symm))⟩
theorem St.d68 (h : St wB w g sets els vs vf ve vc most limit A found) (hE : Ext w wa) (hx : Ext (wa.setCell ⟨g, 69, none⟩ t2) wc) (hg : wc.grownBy wd ve.ownBlock) : SAt wd g (srcF vs (hav sets) most limit vf ve t2 (opnF sets els) A) := by
  have h1 := ((h.d69 (t2 := t2) hE).2.1).ext hx
  exact h1.kept (hg.block g h1.lt (Ne.symm h.eg))
/-- One element deeper. -/
theorem St.down (h : St wB w g sets els vs vf ve vc most limit A found) (hE : Ext w wa) (ht : Row wa w.heap.size 52 t2 (((els ++ [x]).map (critF sets (els ++ [x]))).map uV)) (hx : Ext (wa.setCell ⟨g, 69, none⟩ t2) wc) (hg : wc.grownBy wd ve.ownBlock) (hEd : Ext wB wd)
    (hr : Row wd wB.heap.size 3 ve2 ((nI els).map iV ++ [iV (x : Int)])) (hb : ve2.ownBlock = ve.ownBlock ∨ ve2.ownBlock = some wc.heap.size) :
    St wB ((wd.setCell ⟨g, 68, none⟩ ve2).setCell ⟨g, 70, none⟩ (uV (opnF sets (els ++ [x])))) g sets (els ++ [x]) vs vf ve2 t2 most limit A found ∧
      Fr w ((wd.setCell ⟨g, 68, none⟩ ve2).setCell ⟨g, 70, none⟩ (uV (opnF sets (els ++ [x])))) g vf ve ∧ Mv w ve ve2 := by
  have S0 := h.d68 (t2 := t2) hE hx hg
  have hgw := h.s.lt
  have sza : w.heap.size ≤ wc.heap.size := Nat.le_trans hE.size (by have := hx.size; simpa using this)
  have mv : Mv w ve ve2 := by
    rcases hb with h1 | h1
    · exact .inl h1
    · exact .inr ⟨_, h1, sza⟩
  have e2g : ve2.ownBlock ≠ some g := mv.ne hgw h.eg
  have tB : ∀ k, t2.ownBlock = some k → w.heap.size ≤ k ∧ k < wa.heap.size := fun k hk => ht.lt k hk
  have keep : ∀ k, k < wa.heap.size → k ≠ g → ve.ownBlock ≠ some k → ((wd.setCell ⟨g, 68, none⟩ ve2).setCell ⟨g, 70, none⟩ (uV (opnF sets (els ++ [x])))).heap[k]? = wa.heap[k]? := fun k hk hkg hve => by
    have hkc : k < wc.heap.size := hx.lt _ (by simpa using hk)
    rw [heap_set (Ne.symm hkg), heap_set (Ne.symm hkg), hg.block k hkc (Ne.symm hve), hx.block k (by simpa using hk), heap_set (Ne.symm hkg)]
  refine ⟨⟨(hEd.set h.gB _).set h.gB _, h.gB, (S0.set (by omega) _ srcF_set68).set (by omega) _ srcF_set70, ?_, ?_, ?_, h.fg, e2g, ?_, ?_, ?_, ?_, ?_⟩, ?_, mv⟩
  · refine h.rf.kept fun k hk => ?_
    have hkl := own_lt h.rf hk
    rw [keep k (hE.lt _ hkl) (fun e => h.fg (by rw [hk, e])) (h.fe k hk), hE.block k hkl]
  · rw [nI_snoc]
    exact hr.kept fun k hk => by
      have hkg : k ≠ g := fun e => e2g (by rw [hk, e])
      rw [heap_set (Ne.symm hkg), heap_set (Ne.symm hkg)]
  · refine SlAt.kept ht.sl fun k hkl hk => keep k hkl (fun e => by have := (tB k hk).1; omega) (fun e => ?_)
    have := own_lt h.re e
    have := (tB k hk).1
    omega
  · intro k hk he
    have hkl := own_lt h.rf hk
    exact mv.ne hkl (h.fe k hk) he
  · intro hk
    have := (tB g hk).1
    omega
  · intro k hk hv
    have := own_lt h.rf hv
    have := (tB k hk).1
    omega
  · intro k hk hv
    obtain ⟨t1, t3⟩ := tB k hk
    rcases hb with h1 | h1
    · rw [h1] at hv
      have := own_lt h.re hv
      omega
    · rw [h1] at hv
      cases hv
      have := hx.size
      simp at this
      omega
  · intro k hk
    have h1 := (tB k hk).2
    have h2 := hx.size
    have h3 := hg.size
    simp at h2 ⊢
    omega
  · refine ⟨?_, ?_, ?_, ?_, fun b hb hbg hf he => ?_⟩
    · exact (hg.os.trans hx.os).trans hE.os
    · exact (hg.tape.trans hx.tape).trans hE.tape
    · exact (hg.output.trans hx.output).trans hE.output
    · have := hg.size
      simp
      omega
    · rw [keep b (hE.lt _ hb) hbg he, hE.block b hb]
/-- And back. -/
theorem St.up (h : St wB w g sets els vs vf ve vc most limit A found) {wf : World} (hD : Fr w wf g vf ve) (mv : Mv w ve ve2) (h6 : St wB w6 g sets (els ++ [x]) vs vf6 ve6 t2 most limit A6 found6) (hF : Fr wf w6 g vf ve2) (mf : Mv wf vf vf6) (me : Mv wf ve2 ve6)
    (h7 : Row w6 wB.heap.size 3 ve7 ((nI els).map iV)) (hb : ve7.ownBlock = ve6.ownBlock) {w7 : World}
    (S7 : SAt w7 g (srcF vs (hav sets) most limit vf6 ve7 vc (opnF sets els) A)) (h67 : Fr w6 w7 g vf6 ve6)
    (hk67 : ∀ k, k ≠ g → w7.heap[k]? = w6.heap[k]?) : St wB w7 g sets els vs vf6 ve7 vc most limit A found6 ∧ Fr w w7 g vf ve ∧ Mv w vf vf6 ∧ Mv w ve ve7 := by
  have mfw : Mv w vf vf6 := by
    have := (Mv.refl w vf).trans hD.size mf
    exact this
  have mew : Mv w ve ve6 := mv.trans hD.size me
  have mew7 : Mv w ve ve7 := by
    rcases mew with e | ⟨k, e, hk⟩
    · exact .inl (hb.trans e)
    · exact .inr ⟨k, hb.trans e, hk⟩
  have F6 : Fr w w6 g vf ve := hD.trans hF (Mv.refl _ _) mv
  have F7 : Fr w w7 g vf ve := F6.trans h67 mfw mew
  have sz6 : w.heap.size ≤ w6.heap.size := F6.size
  have e7g : ve7.ownBlock ≠ some g := by rw [hb]; exact h6.eg
  refine ⟨⟨h67.below h6.ext h6.gB (fun k hk => (h6.rf.lt k hk).1) (fun k hk => (h6.re.lt k hk).1), h6.gB, S7, ?_, ?_, ?_, h6.fg, e7g, ?_, h.cg, ?_, ?_, ?_⟩, F7, mfw, mew7⟩
  · exact h6.rf.kept fun k hk => hk67 k (fun e => h6.fg (by rw [hk, e]))
  · exact h7.kept fun k hk => hk67 k (fun e => e7g (by rw [hk, e]))
  · refine SlAt.kept h.rc fun k hkl hk => F7.block k hkl (fun e => h.cg (by rw [hk, e])) (h.cf k hk) (h.ce k hk)
  · intro k hk; rw [hb]; exact h6.fe k hk
  · intro k hk; exact mfw.ne (h.cl k hk) (h.cf k hk)
  · intro k hk; exact mew7.ne (h.cl k hk) (h.ce k hk)
  · intro k hk
    have := h.cl k hk
    have := F7.size
    omega
end
end Go.Proofs.YtdcbejccplonjaaDoor
