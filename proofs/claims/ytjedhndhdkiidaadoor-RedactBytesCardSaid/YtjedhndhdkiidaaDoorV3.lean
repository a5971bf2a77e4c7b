/- A document's check. -/
import Derived.Test.YtjedhndhdkiidaaDoorV2
namespace Go.Proofs.YtjedhndhdkiidaaDoor
open Go.RowKit
attribute [local go_sem ↓] Go.wp_at_zero Go.wp_at_succ
attribute [local go_sem] baSize baList
/-- check$1: another field has the name of the one in the box. -/
theorem same54_ok (a b : List UInt8) (v s : Value) (g : Nat) (w : World) (h : w.cell? ⟨g, 0, none⟩ = some (sV b)) : Calls Tryd.prog 54 #[.agg #[sV a, v, s], .pointer (some ⟨g, 0, none⟩)] w (RetB (a == b) w) := by
  have hg := World.block_lt_of_cell? w _ h
  have hne : ¬ w.heap.size = g := fun e => by simp at hg; omega
  have hne2 : ¬ g = w.heap.size := fun e => hne e.symm
  go_enter Tryd.func54, Tryd.ntmps54
  go_wp2_with fail
  go_ret
  exact ⟨rfl, (Ext.refl _).alloc _⟩
def RetXf (b : List UInt8) (fs : List Fd) (w : World) (e : Ending) (w' : World) : Prop := ∃ i : Int, e = .returned (iV i) ∧ decide (0 ≤ i) = fs.any (fun f => f.nm == b) ∧ Ext w w'
theorem any_take {fs : List Fd} {k : Nat} {p : Fd → Bool} (hk : k < fs.length) (h : (fs.take k).any p = false) (hp : p (fs.getD k Fd0) = false) : (fs.take (k + 1)).any p = false := by
  rw [List.take_succ_eq_append_getElem hk, List.any_append, h]
  rw [List.getD_eq_getElem?_getD, List.getElem?_eq_getElem hk] at hp
  simpa using hp
theorem any_of {fs : List Fd} {k : Nat} {p : Fd → Bool} (hk : k < fs.length) (hp : p (fs.getD k Fd0) = true) : fs.any p = true := by
  rw [List.getD_eq_getElem?_getD, List.getElem?_eq_getElem hk] at hp
  exact List.any_eq_true.2 ⟨_, List.getElem_mem hk, hp⟩
set_option maxRecDepth 100000 in
theorem indexf72_ok (b : List UInt8) (g : Nat) (fs : List Fd) (v : Value) (w : World) (h : FsAt w v fs) (hg : w.cell? ⟨g, 0, none⟩ = some (sV b)) : Calls Tryd.prog 72 #[v, .func (.func 54) #[] #[.pointer (some ⟨g, 0, none⟩)]] w (RetXf b fs w) := by
  have CX := Lib.hid (fun W (hW : Ext w W) a v s => same54_ok a b v s g W (hW.cell hg))
  obtain ⟨A, c, rfl, h1, h2, h3⟩ := h.read
  have HR := Lib.hid h3
  have HL : Hid (fs.length ≤ 9223372036854775807) := Lib.hid (by unfold maxLen at h2; omega)
  clear h h3 h2 h1 hg
  go_enter Tryd.func72, Tryd.ntmps72
  go_wp2_with fail
  go_loopw [8] (fun i wr => ∃ k : Nat, k ≤ fs.length ∧ i = iV (k : Int) ∧ Ext w wr ∧ (fs.take k).any (fun f => f.nm == b) = false) (fun i _ => fs.length - (intOf i).toNat)
  case atStart => exact ⟨0, by omega, rfl, Ext.refl _, by simp⟩
  case round =>
    obtain ⟨k, hk, rfl, hX, ha⟩ := hrel
    have HX := Lib.hid hX
    have HA := Lib.hid ha
    clear hX ha
    by_cases hlt : k < fs.length
    · have q1 : (k : Int) < (fs.length : Int) := by omega
      have q0 : (0 : Int) ≤ (k : Int) := by omega
      have q2 : (k : Int) < 9223372036854775807 := by have := HL.out; omega
      obtain ⟨bb, o, A1, c1, A2, c2, rfl, hb, e0, e1, e2, -⟩ := HR.out wr HX.out k hlt
      obtain ⟨f, hf⟩ : ∃ f, fs.getD k Fd0 = f := ⟨_, rfl⟩
      rw [hf] at e0 e1 e2
      have HF := Lib.hid hf
      clear hf
      go_wp2_with fail
      go_at_call 54
      refine (CX.out _ HX.out _ _ _).mono ?_
      rintro _ w1 ⟨rfl, hE1⟩
      have HE1 := Lib.hid hE1
      clear hE1 e0 e1 e2
      by_cases hn : f.nm = b
      · have q3 : (f.nm == b) = true := by simp [hn]
        go_wp2_with fail
        go_ret
        refine ⟨(k : Int), rfl, ?_, HX.out.trans HE1.out⟩
        rw [any_of hlt (by rw [HF.out]; exact q3)]
        simp
      · have q3 : (f.nm == b) = false := by simp [hn]
        go_wp2_with fail
        exact ⟨⟨k + 1, by omega, by go_num, HX.out.trans HE1.out, any_take hlt HA.out (by rw [HF.out]; exact q3)⟩, by simp [intOf]; omega⟩
    · obtain rfl : k = fs.length := by omega
      have ha := HA.out
      rw [List.take_length] at ha
      go_wp2_with fail
      go_ret
      exact ⟨-1, rfl, by rw [ha]; simp, HX.out⟩
set_option maxRecDepth 100000 in
theorem containsf53_ok (b : List UInt8) (g : Nat) (fs : List Fd) (v : Value) (w : World) (h : FsAt w v fs) (hg : w.cell? ⟨g, 0, none⟩ = some (sV b)) : Calls Tryd.prog 53 #[v, .func (.func 54) #[] #[.pointer (some ⟨g, 0, none⟩)]] w (RetB (fs.any (fun f => f.nm == b)) w) := by
  have CC := Lib.hid (indexf72_ok b g fs v w h hg)
  obtain ⟨A, c, rfl, -, -, -⟩ := h.read
  clear h hg
  go_enter Tryd.func53, Tryd.ntmps53
  go_wp2_with fail
  refine CC.out.mono ?_
  rintro _ w1 ⟨i, rfl, hi, hE⟩
  have HI := Lib.hid hi
  have HE := Lib.hid hE
  clear hi hE CC
  go_wp2_with fail
  go_ret
  exact ⟨by rw [← HI.out]; rfl, HE.out⟩
def chkOne (pre : List Fd) (f : Fd) : Int := if okN f.nm = false then 9 else if 4000 < f.vl.length then 3 else if f.sl.length ≠ 16 then 1 else if pre.any (fun o => o.nm == f.nm) = true then 5 else 0
def chkG (fs : List Fd) : Nat → Nat → Int
  | _, 0 => 0
  | k, n + 1 => if chkOne (fs.take k) (fs.getD k Fd0) = 0 then chkG fs (k + 1) n else chkOne (fs.take k) (fs.getD k Fd0)
/-- The error of a document. -/
def chkF (fs : List Fd) : Int := if fs.length = 0 then 1 else if 64 < fs.length then 3 else chkG fs 0 fs.length
theorem chkG_step {fs : List Fd} {k : Nat} (hk : k < fs.length) : chkG fs k (fs.length - k) = if chkOne (fs.take k) (fs.getD k Fd0) = 0 then chkG fs (k + 1) (fs.length - (k + 1)) else chkOne (fs.take k) (fs.getD k Fd0) := by
  rw [show fs.length - k = (fs.length - (k + 1)) + 1 by omega, chkG]
/-- A prefix of fields. -/
theorem FsAt.take {w : World} {A : Option Addr} {fs : List Fd} {c k : Nat} (h : FsAt w (.slice A fs.length c) fs) (hk : k ≤ fs.length) : FsAt w (.slice A k c) (fs.take k) := by
  obtain ⟨us, ⟨⟨A', c', e, h1, h2, h3⟩, hw⟩, hl, hf⟩ := h
  obtain ⟨rfl, -, rfl⟩ : A = A' ∧ fs.length = us.length ∧ c = c' := by simpa using e
  have hwt : Wide 3 (us.take k) := fun x hx => hw x (List.mem_of_mem_take hx)
  have hlt : (us.take k).length = k := by rw [List.length_take]; omega
  refine ⟨us.take k, ⟨⟨A, c, by rw [hlt], by omega, h2, fun h0 => ?_⟩, hwt⟩, by rw [hlt, List.length_take]; omega, fun j hj => ?_⟩
  · have e1 : us.flatten = (us.take k).flatten ++ (us.drop k).flatten := by rw [← List.flatten_append, List.take_append_drop]
    obtain ⟨b, o, e2, hb, hc⟩ := h3 (by rw [e1, List.length_append]; omega)
    refine ⟨b, o, e2, hb, fun j u hj => hc j u ?_⟩
    rw [e1, List.getElem?_append_left (by
      rcases Nat.lt_or_ge j (us.take k).flatten.length with h | h
      · exact h
      · rw [List.getElem?_eq_none h] at hj; cases hj)]
    exact hj
  · have hj2 : j < k := by rw [List.length_take] at hj; omega
    have := hf j (by omega)
    rw [List.getD_eq_getElem?_getD, List.getD_eq_getElem?_getD, List.getElem?_take, List.getElem?_take, if_pos hj2, if_pos hj2, ← List.getD_eq_getElem?_getD, ← List.getD_eq_getElem?_getD]
    exact this
set_option maxRecDepth 100000 in
theorem check28_ok (fs : List Fd) (v : Value) (w : World) (h : FsAt w v fs) : Calls Tryd.prog 28 #[v] w (RetI (chkF fs) w) := by
  obtain ⟨A, c, rfl, h1, h2, h3⟩ := h.read
  have HH := Lib.hid h
  have HR := Lib.hid h3
  have HC : Hid (fs.length ≤ c ∧ c ≤ maxLen) := Lib.hid ⟨h1, h2⟩
  clear h h3 h2 h1
  by_cases hz : fs.length = 0
  · have q1 : ((fs.length : Int) == 0) = true := by simp [hz]
    go_enter Tryd.func28, Tryd.ntmps28
    go_wp2_with fail
    go_ret
    exact ⟨by unfold chkF; rw [if_pos hz]; rfl, Ext.refl _⟩
  · by_cases h64 : 64 < fs.length
    · have q1 : ((fs.length : Int) == 0) = false := by simpa using hz
      have q2 : (64 : Int) < (fs.length : Int) := by omega
      go_enter Tryd.func28, Tryd.ntmps28
      go_wp2_with fail
      go_ret
      exact ⟨by unfold chkF; rw [if_neg hz, if_pos h64]; rfl, Ext.refl _⟩
    · have q1 : ((fs.length : Int) == 0) = false := by simpa using hz
      have q2 : ¬ (64 : Int) < (fs.length : Int) := by omega
      have HX0 : Hid (chkF fs = chkG fs 0 (fs.length - 0)) := Lib.hid (by unfold chkF; rw [if_neg hz, if_neg h64, Nat.sub_zero])
      obtain ⟨E, hE⟩ : ∃ E, chkF fs = E := ⟨_, rfl⟩
      rw [hE] at HX0 ⊢
      clear hE
      go_enter Tryd.func28, Tryd.ntmps28
      go_wp2_with fail
      clear q1 q2
      go_loopw [13] (fun i wr => ∃ k : Nat, k ≤ fs.length ∧ i = iV (k : Int) ∧ Ext w wr ∧ E = chkG fs k (fs.length - k)) (fun i _ => fs.length - (intOf i).toNat)
      case atStart => exact ⟨0, by omega, rfl, Ext.refl _, HX0.out⟩
      case round =>
        obtain ⟨k, hk, rfl, hX, ha⟩ := hrel
        have HX := Lib.hid hX
        have HA := Lib.hid ha
        clear hX ha
        by_cases hlt : k < fs.length
        · have q1 : (k : Int) < (fs.length : Int) := by omega
          have q0 : (0 : Int) ≤ (k : Int) := by omega
          have q2 : (k : Int) < 9223372036854775807 := by omega
          have HS := Lib.hid (chkG_step hlt)
          obtain ⟨bb, o, A1, c1, A2, c2, rfl, hb, e0, e1, e2, -⟩ := HR.out wr HX.out k hlt
          have HT := Lib.hid (HH.out.take hk)
          obtain ⟨f, hf⟩ : ∃ f, fs.getD k Fd0 = f := ⟨_, rfl⟩
          rw [hf] at e0 e1 e2 HS
          clear hf
          obtain ⟨m, hm⟩ : ∃ m, f.vl.length = m := ⟨_, rfl⟩
          obtain ⟨l, hl⟩ : ∃ l, f.sl.length = l := ⟨_, rfl⟩
          rw [hm] at e1
          rw [hl] at e2
          have HM := Lib.hid hm
          have HL := Lib.hid hl
          clear hm hl
          have CV := Lib.hid (fun W => valid49_ok f.nm W)
          have q3 : (k : Int) ≤ (c : Int) := by have := HC.out; omega
          go_wp2_with fail
          refine (CV.out _).mono ?_
          rintro _ _ ⟨rfl, rfl⟩
          by_cases ho : okN f.nm = false
          · go_wp2_with fail
            go_ret
            refine ⟨?_, (HX.out.alloc _)⟩
            rw [HA.out, HS.out]
            unfold chkOne
            rw [if_pos ho]
            rfl
          · have ho' : okN f.nm = true := by simpa using ho
            by_cases hv : 4000 < m
            · have r1 : decide ((4000 : Int) < (m : Int)) = true := by rw [decide_eq_true_iff]; omega
              have HV := Lib.hid hv
              clear hv
              go_wp2_with fail
              go_ret
              refine ⟨?_, (HX.out.alloc _)⟩
              rw [HA.out, HS.out]
              unfold chkOne
              rw [if_neg ho, HM.out, if_pos HV.out]
              rfl
            · have r1 : decide ((4000 : Int) < (m : Int)) = false := by rw [decide_eq_false_iff_not]; omega
              have HV := Lib.hid hv
              clear hv
              by_cases hs : l = 16
              · have r2 : ((l : Int) != 16) = false := by rw [hs]; rfl
                have HSL := Lib.hid hs
                clear hs
                go_wp2_with fail
                have hE2 : Ext wr (wr.alloc (.cells #[sV f.nm, .slice A1 m c1, .slice A2 l c2] 40)) := (Ext.refl _).alloc _
                refine (containsf53_ok f.nm wr.heap.size (fs.take k) _ _ (HT.out.ext (HX.out.trans hE2)) (new_at _ _ _ 0 _ rfl)).mono ?_
                rintro _ w1 ⟨rfl, hE1⟩
                have HE1 := Lib.hid (HX.out.trans (hE2.trans hE1))
                clear hE1 hE2
                by_cases ha : (fs.take k).any (fun o => o.nm == f.nm) = true
                · go_wp2_with fail
                  go_ret
                  refine ⟨?_, HE1.out⟩
                  rw [HA.out, HS.out]
                  unfold chkOne
                  rw [if_neg ho, HM.out, if_neg HV.out, HL.out, if_neg (show ¬ l ≠ 16 by rw [HSL.out]; decide), if_pos ha]
                  rfl
                · have ha' : (fs.take k).any (fun o => o.nm == f.nm) = false := by simpa using ha
                  go_wp2_with fail
                  refine ⟨⟨k + 1, by omega, by go_num, HE1.out, ?_⟩, by simp [intOf]; omega⟩
                  rw [HA.out, HS.out]
                  unfold chkOne
                  rw [if_neg ho, HM.out, if_neg HV.out, HL.out, if_neg (show ¬ l ≠ 16 by rw [HSL.out]; decide), if_neg ha, if_pos rfl]
              · have r2 : ((l : Int) != 16) = true := by rw [bne_iff_ne]; omega
                have HSL := Lib.hid hs
                clear hs
                go_wp2_with fail
                go_ret
                refine ⟨?_, (HX.out.alloc _)⟩
                rw [HA.out, HS.out]
                unfold chkOne
                rw [if_neg ho, HM.out, if_neg HV.out, HL.out, if_pos HSL.out]
                rfl
        · obtain rfl : k = fs.length := by omega
          go_wp2_with fail
          go_ret
          refine ⟨?_, HX.out⟩
          rw [HA.out, Nat.sub_self]
          rfl
end Go.Proofs.YtjedhndhdkiidaaDoor
