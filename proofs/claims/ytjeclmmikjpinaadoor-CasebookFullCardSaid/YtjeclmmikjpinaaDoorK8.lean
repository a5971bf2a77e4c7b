/- The walk over fill. -/
import Derived.Test.YtjeclmmikjpinaaDoorK3
import Derived.Test.YtjeclmmikjpinaaDoorK7
namespace Go.Proofs.YtjeclmmikjpinaaDoor.I
open Go.RowKit
attribute [local go_sem ↓] Go.wp_at_zero Go.wp_at_succ
set_option maxHeartbeats 1000000 in
theorem fill_zero (t : EvT) (v : Value) (w : World) (h : EvAt w v t) : Calls Tryd.prog 52 #[.pointer none, v] w (RetE t w) := by
  have HT := Lib.hid h
  obtain ⟨p, rfl⟩ := h.ptr
  clear h
  go_enter Tryd.func52, Tryd.ntmps52
  go_wp2_with fail
  go_ret
  exact ⟨_, rfl, HT.out, by simp⟩
set_option maxHeartbeats 1000000 in
theorem fill_one (i : IdT) (t : EvT) (v u : Value) (w : World) (hi : IdAt w v i) (h1 : i.isOne = true) (h : EvAt w u t) (ht : t.top < 2 ^ 127) : Calls Tryd.prog 52 #[v, u] w (RetE (.leaf t.top) w) := by
  have hw := whole_any _ v w hi
  rw [h1] at hw
  have HW := Lib.hid hw
  have HG := Lib.hid (greatest_any t u w h ht)
  clear hw
  rcases hi.zero_or with ⟨rfl, rfl⟩ | ⟨hz, b, rfl⟩
  · simp [IdT.isOne] at h1
  obtain ⟨p, rfl⟩ := h.ptr
  clear h hi h1 hz
  go_enter Tryd.func52, Tryd.ntmps52
  go_wp2_with (first
    | (go_at_call 49; refine HW.out.mono ?_; rintro e w1 ⟨rfl, rfl⟩)
    | (go_at_call 67; refine HG.out.mono ?_; rintro e w1 ⟨rfl, hb⟩))
  go_ret
  exact ⟨_, rfl, ev_leaf_new _ _, hb.alloc _⟩
set_option maxHeartbeats 1000000 in
theorem fill_leaf (i : IdT) (n : Nat) (v u : Value) (w : World) (hi : IdAt w v i) (hz : i.isZero = false) (h1 : i.isOne = false) (h : EvAt w u (.leaf n)) : Calls Tryd.prog 52 #[v, u] w (RetE (.leaf n) w) := by
  have hw := whole_any _ v w hi
  rw [h1] at hw
  have HW := Lib.hid hw
  have LA := Lib.hid (leaf_any _ _ w h)
  have HT := Lib.hid h
  clear hw
  rcases hi.zero_or with ⟨rfl, rfl⟩ | ⟨-, b, rfl⟩
  · simp [IdT.isZero] at hz
  obtain ⟨p, rfl⟩ := h.ptr
  simp only [EvT.isLeaf_leaf] at LA
  clear h hi h1 hz
  go_enter Tryd.func52, Tryd.ntmps52
  go_wp2_with (first
    | (go_at_call 49; refine HW.out.mono ?_; rintro e w1 ⟨rfl, rfl⟩)
    | (go_at_call 47; refine LA.out.mono ?_; rintro e w1 ⟨rfl, rfl⟩))
  go_ret
  exact ⟨_, rfl, HT.out, by simp⟩
set_option maxHeartbeats 2000000 in
theorem fill_node (l r : IdT) (n : Nat) (a b : EvT) (v u : Value) (w : World) (hi : IdAt w v (.node l r)) (h1 : IdT.isOne (.node l r) = false) (h : EvAt w u (.node n a b)) (ht : EvT.top (.node n a b) < 2 ^ 127)
    (ihl : ∀ (t : EvT) (v u : Value) (w : World), IdAt w v l → EvAt w u t → t.top < 2 ^ 127 → Calls Tryd.prog 52 #[v, u] w (RetE (fillF l t) w))
    (ihr : ∀ (t : EvT) (v u : Value) (w : World), IdAt w v r → EvAt w u t → t.top < 2 ^ 127 → Calls Tryd.prog 52 #[v, u] w (RetE (fillF r t) w)) :
    Calls Tryd.prog 52 #[v, u] w (RetE (fillF (.node l r) (.node n a b)) w) := by
  have hw := whole_any _ v w hi
  rw [h1] at hw
  have HW := Lib.hid hw
  have LA := Lib.hid (leaf_any _ _ w h)
  obtain ⟨p, ql, qr, rfl, i0, i1, hp, il, ir⟩ := hi.node_parts
  obtain ⟨q, ba, bb, rfl, t0, t1, t2, t3, hq, ta, tb⟩ := h.node_parts
  have WL := Lib.hid (whole_any _ _ w il)
  have WR := Lib.hid fun w' (hx : Ext w w') => (whole_any _ _ w' (ir.ext hx))
  have IL := Lib.hid fun w' (hx : Ext w w') => ihl a _ _ w' (il.ext hx) (ta.ext hx)
  have IR := Lib.hid fun w' (hx : Ext w w') => ihr b _ _ w' (ir.ext hx) (tb.ext hx)
  have GA := Lib.hid fun w' (hx : Ext w w') => greatest_any a _ w' (ta.ext hx)
  have GB := Lib.hid fun w' (hx : Ext w w') => greatest_any b _ w' (tb.ext hx)
  simp only [EvT.isLeaf_node] at LA
  simp only [EvT.top] at ht
  have ha : a.top < 2 ^ 127 := by omega
  have hb : b.top < 2 ^ 127 := by omega
  have fa := fill_top l a
  have fb := fill_top r b
  have na := (fillF l a).n_le_top
  have nb := (fillF r b).n_le_top
  clear ihl ihr h hi hw il ir ta tb
  cases hl1 : l.isOne with
  | true =>
    have H : Hid (fillF (.node l r) (.node n a b) = pairF n (.leaf (max a.top (fillF r b).n)) (fillF r b)) := by simp [Hid, fillF, h1, hl1]
    rw [hl1] at WL
    clear h1
    go_enter Tryd.func52, Tryd.ntmps52
    go_wp2_with (first
      | (go_at_call_of 49 (Value.pointer (some ⟨p, 0, none⟩)); refine HW.out.mono ?_; rintro e w1 ⟨rfl, rfl⟩)
      | (go_at_call 47; refine LA.out.mono ?_; rintro e w1 ⟨rfl, rfl⟩)
      | (go_at_call_of 49 (Value.pointer ql); refine WL.out.mono ?_; rintro e w1 ⟨rfl, rfl⟩))
    go_region_held3 (fun w' => Ext w w' ∧ w'.cell? ⟨p, 1, none⟩ = some (.pointer qr) ∧ w'.cell? ⟨q, 3, none⟩ = some (.pointer (some ⟨bb, 0, none⟩)))
      (first
        | go_keep
        | (go_split_ands; refine ⟨Ext.trans (by assumption) hbb, hbb.cell ?_, hbb.cell ?_⟩ <;> go_keep))
      ((go_at_call 52; go_split_ands; refine (IR.out _ (by assumption) hb).mono ?_; rintro e w1 ⟨v1, rfl, hv1, hbb⟩; obtain ⟨p1, ql1, qr1, rfl, f0, f1, f2, f3, hp1, hk1⟩ := hv1.kids))
    go_split_ands
    have E1 : Ext w w1 := by assumption
    have s0 := E1.cell t0
    have s1 := E1.cell t1
    have s2 := E1.cell t2
    clear hbb hk1
    have hpr := fun w' v' (hx : EvAt w' v' (.leaf (max a.top (fillF r b).n))) u' (hy : EvAt w' u' (fillF r b)) => pair_any n _ _ v' u' w' hx hy (by simp only [EvT.n_leaf]; omega) (by omega)
    have HPR := Lib.hid hpr
    clear hpr
    go_wp2_with fail
    go_region_held3 (fun w' => Ext w w' ∧ Ext w1 w' ∧ w'.cell? ⟨q, 0, none⟩ = some (.int .u64 (hi n)) ∧ w'.cell? ⟨q, 1, none⟩ = some (.int .u64 (lo n)) ∧ w'.cell? ⟨q, 2, none⟩ = some (.pointer (some ⟨ba, 0, none⟩)) ∧
        w'.cell? ⟨p1, 0, none⟩ = some (.int .u64 (hi (fillF r b).n)) ∧ w'.cell? ⟨p1, 1, none⟩ = some (.int .u64 (lo (fillF r b).n)))
      (first
        | go_keep
        | (go_split_ands; refine ⟨Ext.trans (by assumption) hbb, Ext.trans (by assumption) hbb, hbb.cell ?_, hbb.cell ?_, hbb.cell ?_, hbb.cell ?_, hbb.cell ?_⟩ <;> go_keep))
      (first
        | (go_at_call 67; go_split_ands; refine (GA.out _ (by assumption) ha).mono ?_; rintro e w2 ⟨rfl, hbb⟩)
        | (go_at_call 56; refine (greater_any a.top (fillF r b).n _).mono ?_; rintro e w3 ⟨rfl, hbb⟩)
        | (go_at_call 59; go_split_ands; refine (HPR.out _ _ (ev_leaf_new _ _) _ (hv1.ext (by assumption))).mono ?_; rintro e w4 ⟨v4, rfl, hv4, hbb⟩))
    go_split_ands
    have E4 : Ext w w4 := by assumption
    go_wp2_with fail
    go_ret
    exact ⟨_, rfl, by rw [H.out]; exact hv4, E4⟩
  | false =>
    rw [hl1] at WL
    cases hr1 : r.isOne with
    | true =>
      have H : Hid (fillF (.node l r) (.node n a b) = pairF n (fillF l a) (.leaf (max b.top (fillF l a).n))) := by simp [Hid, fillF, h1, hl1, hr1]
      rw [hr1] at WR
      clear h1
      go_enter Tryd.func52, Tryd.ntmps52
      go_wp2_with (first
        | (go_at_call_of 49 (Value.pointer (some ⟨p, 0, none⟩)); refine HW.out.mono ?_; rintro e w1 ⟨rfl, rfl⟩)
        | (go_at_call 47; refine LA.out.mono ?_; rintro e w1 ⟨rfl, rfl⟩)
        | (go_at_call_of 49 (Value.pointer ql); refine WL.out.mono ?_; rintro e w1 ⟨rfl, rfl⟩)
        | (go_at_call_of 49 (Value.pointer qr); refine (WR.out _ (Ext.refl _)).mono ?_; rintro e w1 ⟨rfl, rfl⟩))
      go_region_held3 (fun w' => Ext w w' ∧ w'.cell? ⟨p, 0, none⟩ = some (.pointer ql) ∧ w'.cell? ⟨q, 2, none⟩ = some (.pointer (some ⟨ba, 0, none⟩)))
        (first
          | go_keep
          | (go_split_ands; refine ⟨Ext.trans (by assumption) hbb, hbb.cell ?_, hbb.cell ?_⟩ <;> go_keep))
        ((go_at_call 52; go_split_ands; refine (IL.out _ (by assumption) ha).mono ?_; rintro e w1 ⟨v1, rfl, hv1, hbb⟩; obtain ⟨p1, ql1, qr1, rfl, f0, f1, f2, f3, hp1, hk1⟩ := hv1.kids))
      go_split_ands
      have E1 : Ext w w1 := by assumption
      have s0 := E1.cell t0
      have s1 := E1.cell t1
      have s3 := E1.cell t3
      clear hbb hk1
      have hpr := fun w' v' (hx : EvAt w' v' (.leaf (max b.top (fillF l a).n))) u' (hy : EvAt w' u' (fillF l a)) => pair_any n _ _ u' v' w' hy hx (by omega) (by simp only [EvT.n_leaf]; omega)
      have HPR := Lib.hid hpr
      clear hpr
      go_wp2_with fail
      go_region_held3 (fun w' => Ext w w' ∧ Ext w1 w' ∧ w'.cell? ⟨q, 0, none⟩ = some (.int .u64 (hi n)) ∧ w'.cell? ⟨q, 1, none⟩ = some (.int .u64 (lo n)) ∧ w'.cell? ⟨q, 3, none⟩ = some (.pointer (some ⟨bb, 0, none⟩)) ∧
          w'.cell? ⟨p1, 0, none⟩ = some (.int .u64 (hi (fillF l a).n)) ∧ w'.cell? ⟨p1, 1, none⟩ = some (.int .u64 (lo (fillF l a).n)))
        (first
          | go_keep
          | (go_split_ands; refine ⟨Ext.trans (by assumption) hbb, Ext.trans (by assumption) hbb, hbb.cell ?_, hbb.cell ?_, hbb.cell ?_, hbb.cell ?_, hbb.cell ?_⟩ <;> go_keep))
        (first
          | (go_at_call 67; go_split_ands; refine (GB.out _ (by assumption) hb).mono ?_; rintro e w2 ⟨rfl, hbb⟩)
          | (go_at_call 56; refine (greater_any b.top (fillF l a).n _).mono ?_; rintro e w3 ⟨rfl, hbb⟩)
          | (go_at_call 59; go_split_ands; refine (HPR.out _ _ (ev_leaf_new _ _) _ (hv1.ext (by assumption))).mono ?_; rintro e w4 ⟨v4, rfl, hv4, hbb⟩))
      go_split_ands
      have E4 : Ext w w4 := by assumption
      go_wp2_with fail
      go_ret
      exact ⟨_, rfl, by rw [H.out]; exact hv4, E4⟩
    | false =>
      have H : Hid (fillF (.node l r) (.node n a b) = pairF n (fillF l a) (fillF r b)) := by simp [Hid, fillF, h1, hl1, hr1]
      rw [hr1] at WR
      clear h1
      have hpr := fun w' v' (hx : EvAt w' v' (fillF l a)) u' (hy : EvAt w' u' (fillF r b)) => pair_any n _ _ v' u' w' hx hy (by omega) (by omega)
      have HPR := Lib.hid hpr
      clear hpr
      go_enter Tryd.func52, Tryd.ntmps52
      go_wp2_with (first
        | (go_at_call_of 49 (Value.pointer (some ⟨p, 0, none⟩)); refine HW.out.mono ?_; rintro e w1 ⟨rfl, rfl⟩)
        | (go_at_call 47; refine LA.out.mono ?_; rintro e w1 ⟨rfl, rfl⟩)
        | (go_at_call_of 49 (Value.pointer ql); refine WL.out.mono ?_; rintro e w1 ⟨rfl, rfl⟩)
        | (go_at_call_of 49 (Value.pointer qr); refine (WR.out _ (Ext.refl _)).mono ?_; rintro e w1 ⟨rfl, rfl⟩))
      go_region_held3 (fun w' => Ext w w' ∧ w'.cell? ⟨p, 0, none⟩ = some (.pointer ql) ∧ w'.cell? ⟨p, 1, none⟩ = some (.pointer qr) ∧ w'.cell? ⟨q, 0, none⟩ = some (.int .u64 (hi n)) ∧ w'.cell? ⟨q, 1, none⟩ = some (.int .u64 (lo n)) ∧ w'.cell? ⟨q, 2, none⟩ = some (.pointer (some ⟨ba, 0, none⟩)) ∧ w'.cell? ⟨q, 3, none⟩ = some (.pointer (some ⟨bb, 0, none⟩)))
        (first
          | go_keep
          | (go_split_ands; refine ⟨Ext.trans (by assumption) hbb, hbb.cell ?_, hbb.cell ?_, hbb.cell ?_, hbb.cell ?_, hbb.cell ?_, hbb.cell ?_⟩ <;> go_keep))
        (first
          | (go_at_call_of 52 (Value.pointer ql); go_split_ands; refine (IL.out _ (by assumption) ha).mono ?_; rintro e w1 ⟨v1, rfl, hv1, hbb⟩)
          | (go_at_call_of 52 (Value.pointer qr); go_split_ands; refine (IR.out _ (by assumption) hb).mono ?_; rintro e w2 ⟨v2, rfl, hv2, hbb⟩; have hv1' := hv1.ext hbb)
          | (go_at_call 59; refine (HPR.out _ _ hv1' _ hv2).mono ?_; rintro e w4 ⟨v4, rfl, hv4, hbb⟩))
      go_split_ands
      have E4 : Ext w w4 := by assumption
      go_wp2_with fail
      go_ret
      exact ⟨_, rfl, by rw [H.out]; exact hv4, E4⟩
theorem fill_any (i : IdT) : ∀ (t : EvT) (v u : Value) (w : World), IdAt w v i → EvAt w u t → t.top < 2 ^ 127 → Calls Tryd.prog 52 #[v, u] w (RetE (fillF i t) w) := by
  induction i with
  | zero =>
    rintro t v u w rfl h _
    exact fill_zero t u w h
  | node l r ihl ihr =>
    intro t v u w hi h ht
    cases h1 : IdT.isOne (.node l r) with
    | true =>
      have : fillF (.node l r) t = .leaf t.top := by simp [fillF, h1]
      rw [this]
      exact fill_one _ t v u w hi h1 h ht
    | false =>
      cases t with
      | leaf n =>
        have : fillF (.node l r) (.leaf n) = .leaf n := by simp [fillF, h1]
        rw [this]
        exact fill_leaf _ n v u w hi rfl h1 h
      | node n a b => exact fill_node l r n a b v u w hi h1 h ht ihl ihr
end Go.Proofs.YtjeclmmikjpinaaDoor.I
