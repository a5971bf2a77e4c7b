/- Fields are compared; items are cloned and closed. -/
import Derived.Test.YtjedhndhdkiidaaDoorV16
namespace Go.Proofs.YtjedhndhdkiidaaDoor
open Go.RowKit
attribute [local go_sem ↓] Go.wp_at_zero Go.wp_at_succ
attribute [local go_sem] baSize baList
attribute [local go_sem ↓] ld75 ld48 ld73 st75 st48 al75 al48 bu75 bu48
attribute [local go_sem] run_al75 run_al48 run_bu48 run_bu75n run_bu75c run_bu75o run_st75n run_st48n
theorem conv389 {w : World} {v : Value} {xs : List UInt8} (h : SlB w v xs) : (convert 38 9 v).run Tryd.prog w = .ok (sV xs) w := by
  obtain ⟨A, c, rfl, h1, h2, h3⟩ := h
  cases A with
  | some ad =>
    refine run_convert_bytes_back (P := Tryd.prog) w 38 9 5 ad c xs Tryd.underlying38 Tryd.underlying5 Tryd.underlying9 fun j hj => ?_
    obtain ⟨ad', e, -, hc⟩ := h3 (by omega)
    cases e
    exact hc j _ (List.getElem?_eq_getElem hj)
  | none =>
    have hx : xs = [] := by
      rcases Nat.eq_zero_or_pos xs.length with h0 | h0
      · exact List.eq_nil_of_length_eq_zero h0
      · obtain ⟨ad, e, -⟩ := h3 h0
        cases e
    subst hx
    rw [run_convert_bytes_string w 38 9 5 none _ c Tryd.underlying38 Tryd.underlying5 Tryd.underlying9]
    simp [Conv.bytesToString]
    rfl
set_option maxRecDepth 100000 in
theorem same24_ok (f : Fd) (v s v' s' : Value) (w : World) (hv : SlB w v f.vl) (hs : SlB w s f.sl) (hv' : SlB w v' f.vl) (hs' : SlB w s' f.sl) : Calls Tryd.prog 24 #[.agg #[sV f.nm, v, s], .agg #[sV f.nm, v', s']] w (RetB true w) := by
  have E1 := Lib.hid (fun W (hW : Ext w W) => conv389 (hv.ext hW))
  have E2 := Lib.hid (fun W (hW : Ext w W) => conv389 (hs.ext hW))
  have E3 := Lib.hid (fun W (hW : Ext w W) => conv389 (hv'.ext hW))
  have E4 := Lib.hid (fun W (hW : Ext w W) => conv389 (hs'.ext hW))
  obtain ⟨A1, c1, rfl, -, -, -⟩ := hv
  obtain ⟨A2, c2, rfl, -, -, -⟩ := hs
  obtain ⟨A3, c3, rfl, -, -, -⟩ := hv'
  obtain ⟨A4, c4, rfl, -, -, -⟩ := hs'
  go_enter Tryd.func24, Tryd.ntmps24
  go_upto_region 1 with fail
  generalize hwB : (w.alloc (.cells #[sV f.nm, .slice A1 f.vl.length c1, .slice A2 f.sl.length c2] 40)).alloc (.cells #[sV f.nm, .slice A3 f.vl.length c3, .slice A4 f.sl.length c4] 58) = wB
  have HE : Hid (Ext w wB) := Lib.hid (by rw [← hwB]; exact ((Ext.refl _).alloc _).alloc _)
  have a0 : wB.cell? ⟨w.heap.size, 0, none⟩ = some (sV f.nm) := by rw [← hwB]; exact ((Ext.refl _).alloc _).cell (new_at _ _ _ 0 _ rfl)
  have a1 : wB.cell? ⟨w.heap.size, 1, none⟩ = some (.slice A1 f.vl.length c1) := by rw [← hwB]; exact ((Ext.refl _).alloc _).cell (new_at _ _ _ 1 _ rfl)
  have a2 : wB.cell? ⟨w.heap.size, 2, none⟩ = some (.slice A2 f.sl.length c2) := by rw [← hwB]; exact ((Ext.refl _).alloc _).cell (new_at _ _ _ 2 _ rfl)
  have hz : (w.alloc (.cells #[sV f.nm, .slice A1 f.vl.length c1, .slice A2 f.sl.length c2] 40)).heap.size = w.heap.size + 1 := by simp
  have b0 : wB.cell? ⟨w.heap.size + 1, 0, none⟩ = some (sV f.nm) := by rw [← hwB, ← hz]; exact new_at _ _ _ 0 _ rfl
  have b1 : wB.cell? ⟨w.heap.size + 1, 1, none⟩ = some (.slice A3 f.vl.length c3) := by rw [← hwB, ← hz]; exact new_at _ _ _ 1 _ rfl
  have b2 : wB.cell? ⟨w.heap.size + 1, 2, none⟩ = some (.slice A4 f.sl.length c4) := by rw [← hwB, ← hz]; exact new_at _ _ _ 2 _ rfl
  clear hwB hz
  have e1 := E1.out wB HE.out
  have e2 := E2.out wB HE.out
  have e3 := E3.out wB HE.out
  have e4 := E4.out wB HE.out
  go_wp2_with fail
  go_ret
  exact ⟨rfl, HE.out⟩
/-! ### Items -/
theorem ps_of {w : World} : ∀ {us : List (List Value)} {xs : List It}, us.length = xs.length → (∀ j, j < xs.length → ItAt w (us.getD j []) (xs.getD j It0)) → ∃ ps : List PI, us = ps.map encI ∧ ps.map (·.1) = xs ∧ ∀ p ∈ ps, SlB w (.slice p.2.1 p.1.vl.length p.2.2) p.1.vl
  | [], [], _, _ => ⟨[], rfl, rfl, fun p hp => by cases hp⟩
  | [], _ :: _, h, _ => by simp at h
  | _ :: _, [], h, _ => by simp at h
  | u :: us, x :: xs, h, k => by
    obtain ⟨ps, e1, e2, e3⟩ := ps_of (us := us) (xs := xs) (by simpa using h) (fun j hj => by
      have := k (j + 1) (by simp; omega)
      simpa using this)
    obtain ⟨v, e4, e5⟩ := k 0 (by simp)
    obtain ⟨A, c, e6, h1, h2, h3⟩ := e5
    rw [e6] at e4
    have e4' : u = (itA x.nm x.op x.cm (.slice A x.vl.length c) x.sl).toList := e4
    have h3' : BytesAt w A x.vl := h3
    refine ⟨(x, A, c) :: ps, by rw [List.map_cons, e1, e4']; rfl, by rw [List.map_cons, e2], fun p hp => ?_⟩
    rcases List.mem_cons.1 hp with rfl | hp
    · exact ⟨A, c, rfl, h1, h2, h3'⟩
    · exact e3 p hp
theorem DsAt.of_row2 {w : World} {B : Nat} {v : Value} {ps : List PI} (h : Row 51 w B 75 v (ps.map encI)) (hp : ∀ p ∈ ps, SlB w (.slice p.2.1 p.1.vl.length p.2.2) p.1.vl) : DsAt w v (ps.map (·.1)) := by
  refine ⟨ps.map encI, h.sl, by simp, fun j hj => ?_⟩
  rw [List.length_map] at hj
  have e1 : (ps.map encI).getD j [] = encI ps[j] := by rw [List.getD_eq_getElem?_getD, List.getElem?_map, List.getElem?_eq_getElem hj]; rfl
  have e2 : (ps.map (·.1)).getD j It0 = ps[j].1 := by rw [List.getD_eq_getElem?_getD, List.getElem?_map, List.getElem?_eq_getElem hj]; rfl
  rw [e1, e2]
  exact ⟨_, rfl, hp _ (List.getElem_mem hj)⟩
theorem one_encIs (ps : List PI) : ∀ u ∈ (ps.map encI).flatten, u.oneCell' = true := fun u hu => by
  obtain ⟨l, hl, hu⟩ := List.mem_flatten.1 hu
  obtain ⟨p, _, rfl⟩ := List.mem_map.1 hl
  exact encI_one p u hu
theorem run_eqnil30 (w : World) (A : Option Addr) (n c : Nat) : (binOp .eql 30 (.slice A n c) (.slice none 0 0)).run Tryd.prog w = .ok (.bool A.isNone) w := by
  have h0 : ∀ d, (Op.equalIn (d + 1) 30 (.slice A n c) (.slice none 0 0)).run Tryd.prog w = .ok A.isNone w := fun d => by
    cases A <;> simp [Op.equalIn, run_underlying Tryd.underlying30, Result.andThen]
  have h1 : (Op.equal 30 (.slice A n c) (.slice none 0 0)).run Tryd.prog w = .ok A.isNone w := h0 9999
  simp only [binOp, Sem.run_bind]
  rw [h1]
  rfl
attribute [local go_sem] run_eqnil30
/-- A copy of items: a row of one's own. -/
def RetCl (xs : List It) (w : World) (e : Ending) (w' : World) : Prop := ∃ (ps : List PI) (v : Value), e = .returned v ∧ Row 51 w' w.heap.size 75 v (ps.map encI) ∧ ps.map (·.1) = xs ∧ (∀ p ∈ ps, SlB w (.slice p.2.1 p.1.vl.length p.2.2) p.1.vl) ∧ Ext w w'
set_option maxRecDepth 100000 in
theorem clone36_ok (xs : List It) (v : Value) (w : World) (h : DsAt w v xs) (hl : xs.length ≤ 100) : Calls Tryd.prog 36 #[v] w (RetCl xs w) := by
  obtain ⟨us, h1, h2, h3⟩ := h
  obtain ⟨ps, rfl, e2, e3⟩ := ps_of h2 h3
  obtain ⟨A, c, rfl, k1, k2, k3⟩ := h1.at_
  have HPS := Lib.hid e3
  have HXS := Lib.hid e2
  have HV := Lib.hid k3
  have HL : Hid ((ps.map encI).length = ps.length) := Lib.hid (List.length_map _)
  have HN : Hid (ps.length ≤ 100) := Lib.hid (by rw [← HL.out, h2]; exact hl)
  rw [HL.out]
  clear h1 h2 h3 e2 e3 k1 k2 k3 hl
  cases A with
  | some ad =>
    go_enter Tryd.func36, Tryd.ntmps36
    go_wp2_with (at_builtin; go_loud (refine wapp el30 rfl (.tmp 5) (.tmp 6) rfl (w5 := w) (vs := []) (us := ps.map encI) rfl ((Ext.refl _).alloc _) (row_new (Nat.le_refl _) (Wide.nil 51) rfl (by simp)) rfl HL.out.symm (Wide.map encI_len ps) (HV.out.ext ((Ext.refl _).alloc _)) (one_encIs ps) (by rw [HL.out, List.length_nil]; have := HN.out; omega) (by rw [HL.out, List.length_nil]; have := HN.out; omega) ?_; intro v1 w1 hr1 hE1 hg1 hb1; rw [List.nil_append] at hr1; have HR1 := Lib.hid hr1; have HE1 := Lib.hid hE1; clear hr1 hE1 hg1 hb1))
    go_ret
    exact ⟨ps, _, rfl, HR1.out, HXS.out, HPS.out, HE1.out⟩
  | none =>
    have hx : ps = [] := by
      rcases Nat.eq_zero_or_pos ps.length with h0 | h0
      · exact List.eq_nil_of_length_eq_zero h0
      · obtain ⟨b, o, e, -⟩ := HV.out (by rw [(Wide.map encI_len ps).flat, HL.out]; omega)
        cases e
    subst hx
    go_enter Tryd.func36, Tryd.ntmps36
    go_wp2_with fail
    go_ret
    exact ⟨[], nilV, rfl, Row.nil _ _ _ _, HXS.out, HPS.out, Ext.refl _⟩
end Go.Proofs.YtjedhndhdkiidaaDoor
