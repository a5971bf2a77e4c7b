/- The walk over grow. -/
import Derived.Test.YtjeclmmikjpinaaDoorK3
import Derived.Test.YtjeclmmikjpinaaDoorK7
namespace Go.Proofs.YtjeclmmikjpinaaDoor.I
open Go.RowKit
attribute [local go_sem ↓] Go.wp_at_zero Go.wp_at_succ
def RetG (g : EvT × Nat) (w : World) (e : Ending) (w' : World) : Prop := ∃ v, e = .returned (.tuple #[v, .int .i64 g.2]) ∧ EvAt w' v g.1 ∧ Ext w w'
theorem plus_one (n : Nat) (w : World) (h : n + 1 < 2 ^ 127) : Calls Tryd.prog 46 #[Wd n, .agg #[.int .u64 0, .int .u64 1]] w (RetW (n + 1) w) := plus_any n 1 w h
theorem wrap_succ (c : Nat) (h : c ≤ 1001000000) : IntKind.i64.wrap ((c : Int) + 1) = ((c + 1 : Nat) : Int) := by
  rw [IntWalk.i64_in _ (by omega)]; omega
theorem ret_pairn {v : Value} {a b : Int} (h : a = b) : Ending.returned (.tuple #[v, .int .i64 a]) = .returned (.tuple #[v, .int .i64 b]) := by rw [h]
set_option maxHeartbeats 1000000 in
theorem grow_one (i : IdT) (t : EvT) (v u : Value) (w : World) (hi : IdAt w v i) (h1 : i.isOne = true) (h : EvAt w u t) (ht : t.top + 1 < 2 ^ 127) : Calls Tryd.prog 54 #[v, u] w (RetG (.leaf (t.n + 1), 0) w) := by
  have hw := whole_any _ v w hi
  rw [h1] at hw
  have HW := Lib.hid hw
  have hn := t.n_le_top
  have HP := Lib.hid fun w => plus_one t.n w (by omega)
  clear hw
  rcases hi.zero_or with ⟨rfl, rfl⟩ | ⟨hz, b, rfl⟩
  · simp [IdT.isOne] at h1
  obtain ⟨p, ql, qr, rfl, t0, t1, t2, t3, hp, hk⟩ := h.kids
  clear h hi h1 hz hk
  go_enter Tryd.func54, Tryd.ntmps54
  go_wp2_with (first
    | (go_at_call 49; refine HW.out.mono ?_; rintro e w1 ⟨rfl, rfl⟩)
    | (go_at_call 46; refine (HP.out _).mono ?_; rintro e w1 ⟨rfl, hb⟩))
  go_ret2
  exact ⟨_, rfl, ev_leaf_new _ _, hb.alloc _⟩
theorem grow_pos (t : EvT) (w : World) (h : EvAt w (.pointer none) t) : False := by
  obtain ⟨b, e⟩ := h.ptr
  cases e
set_option maxHeartbeats 4000000 in
theorem grow_node (l r : IdT) (n : Nat) (a b : EvT) (v u : Value) (w : World) (hi : IdAt w v (.node l r)) (h1 : IdT.isOne (.node l r) = false) (h : EvAt w u (.node n a b)) (ht : EvT.top (.node n a b) + 1 < 2 ^ 127) (hd : IdT.depth (.node l r) ≤ 1000000)
    (ihl : l.isZero = false → ∀ (t : EvT) (v u : Value) (w : World), IdAt w v l → EvAt w u t → t.top + 1 < 2 ^ 127 → Calls Tryd.prog 54 #[v, u] w (RetG (growF l t) w))
    (ihr : r.isZero = false → ∀ (t : EvT) (v u : Value) (w : World), IdAt w v r → EvAt w u t → t.top + 1 < 2 ^ 127 → Calls Tryd.prog 54 #[v, u] w (RetG (growF r t) w)) :
    Calls Tryd.prog 54 #[v, u] w (RetG (growF (.node l r) (.node n a b)) w) := by
  have hw := whole_any _ v w hi
  rw [h1] at hw
  have HW := Lib.hid hw
  have LA := Lib.hid (leaf_any _ _ w h)
  obtain ⟨p, ql, qr, rfl, i0, i1, hp, il, ir⟩ := hi.node_parts
  obtain ⟨q, ba, bb, rfl, t0, t1, t2, t3, hq, ta, tb⟩ := h.node_parts
  simp only [EvT.isLeaf_node] at LA
  simp only [EvT.top] at ht
  have ha : a.top + 1 < 2 ^ 127 := by omega
  have hb : b.top + 1 < 2 ^ 127 := by omega
  have fa := grow_top l a
  have fb := grow_top r b
  have na := (growF l a).1.n_le_top
  have nb := (growF r b).1.n_le_top
  have na' := a.n_le_top
  have nb' := b.n_le_top
  have ca := grow_cost l a
  have cb := grow_cost r b
  have hd' : l.depth ≤ 1000000 ∧ r.depth ≤ 1000000 := by simp only [IdT.depth, h1] at hd; simp at hd; omega
  have ca' : (growF l a).2 ≤ 1001000000 := by omega
  have cb' : (growF r b).2 ≤ 1001000000 := by omega
  have TA := Lib.hid ta
  have TB := Lib.hid tb
  have E : Hid (growF (.node l r) (.node n a b) = if r.isZero || (!l.isZero && decide ((growF l a).2 < (growF r b).2)) then (pairF n (growF l a).1 b, (growF l a).2 + 1) else (pairF n a (growF r b).1, (growF r b).2 + 1)) := by
    rw [Hid, growF_eq _ _ _ h1]; rfl
  clear h hi hw hd hd' ca cb
  rcases il.zero_or with ⟨rfl, hx⟩ | ⟨hz, bl, hx⟩ <;> rcases ir.zero_or with ⟨rfl, hy⟩ | ⟨hz', br, hy⟩ <;> obtain rfl := Value.pointer.inj hx <;> obtain rfl := Value.pointer.inj hy
  · exact absurd h1 (by decide)
  · have H : Hid (growF (.node .zero r) (.node n a b) = (pairF n a (growF r b).1, (growF r b).2 + 1)) := by rw [Hid, E.out, hz']; rfl
    have IR := Lib.hid fun w' (hx : Ext w w') => ihr hz' b _ _ w' (ir.ext hx) (tb.ext hx) hb
    clear ihl ihr il ir ta tb hx hy h1
    go_enter Tryd.func54, Tryd.ntmps54
    go_wp2_with (first
      | (go_at_call 49; refine HW.out.mono ?_; rintro e w1 ⟨rfl, rfl⟩)
      | (go_at_call 47; refine LA.out.mono ?_; rintro e w1 ⟨rfl, rfl⟩))
    go_region_held3 (fun w' => Ext w w' ∧ w'.cell? ⟨p, 1, none⟩ = some (.pointer (some ⟨br, 0, none⟩)) ∧ w'.cell? ⟨q, 3, none⟩ = some (.pointer (some ⟨bb, 0, none⟩)))
      (first
        | go_keep
        | (go_split_ands; refine ⟨Ext.trans (by assumption) hbb, hbb.cell ?_, hbb.cell ?_⟩ <;> go_keep))
      ((go_at_call 54; go_split_ands; refine (IR.out _ (by assumption)).mono ?_; rintro e w2 ⟨v2, rfl, hv2, hbb⟩; obtain ⟨p2, rfl⟩ := hv2.ptr))
    go_split_ands
    have E2 : Ext w w2 := by assumption
    have E12 : Ext w w2 := by assumption
    replace t0 := E12.cell t0
    replace t1 := E12.cell t1
    replace t2 := E12.cell t2
    replace t3 := E12.cell t3
    clear hbb
    go_wp2_with fail
    go_region_held3 (fun w' => Ext w w' ∧ Ext w2 w' ∧ w'.cell? ⟨q, 0, none⟩ = some (.int .u64 (hi n)) ∧ w'.cell? ⟨q, 1, none⟩ = some (.int .u64 (lo n)) ∧ w'.cell? ⟨q, 2, none⟩ = some (.pointer (some ⟨ba, 0, none⟩)))
      (first
        | go_keep
        | (go_split_ands; refine ⟨Ext.trans (by assumption) hbb, Ext.trans (by assumption) hbb, hbb.cell ?_, hbb.cell ?_, hbb.cell ?_⟩ <;> go_keep))
      ((go_at_call 59; go_split_ands; refine (pair_any n _ _ _ _ _ (TA.out.ext (by assumption)) (hv2.ext (by assumption)) (by omega) (by omega)).mono ?_; rintro e w4 ⟨v4, rfl, hv4, hbb⟩))
    go_split_ands
    have E4 : Ext w w4 := by assumption
    go_wp2_with fail
    go_ret2
    exact ⟨_, by rw [H.out]; exact ret_pairn (wrap_succ _ cb'), by rw [H.out]; exact hv4, E4⟩
  · have H : Hid (growF (.node l .zero) (.node n a b) = (pairF n (growF l a).1 b, (growF l a).2 + 1)) := by rw [Hid, E.out]; rfl
    have IL := Lib.hid fun w' (hx : Ext w w') => ihl hz a _ _ w' (il.ext hx) (ta.ext hx) ha
    clear ihl ihr il ir ta tb hx hy h1
    go_enter Tryd.func54, Tryd.ntmps54
    go_wp2_with (first
      | (go_at_call 49; refine HW.out.mono ?_; rintro e w1 ⟨rfl, rfl⟩)
      | (go_at_call 47; refine LA.out.mono ?_; rintro e w1 ⟨rfl, rfl⟩))
    go_region_held3 (fun w' => Ext w w' ∧ w'.cell? ⟨p, 0, none⟩ = some (.pointer (some ⟨bl, 0, none⟩)) ∧ w'.cell? ⟨q, 2, none⟩ = some (.pointer (some ⟨ba, 0, none⟩)))
      (first
        | go_keep
        | (go_split_ands; refine ⟨Ext.trans (by assumption) hbb, hbb.cell ?_, hbb.cell ?_⟩ <;> go_keep))
      ((go_at_call 54; go_split_ands; refine (IL.out _ (by assumption)).mono ?_; rintro e w1 ⟨v1, rfl, hv1, hbb⟩; obtain ⟨p1, rfl⟩ := hv1.ptr))
    go_split_ands
    have E1 : Ext w w1 := by assumption
    replace i1 := E1.cell i1
    replace t0 := E1.cell t0
    replace t1 := E1.cell t1
    replace t2 := E1.cell t2
    replace t3 := E1.cell t3
    clear hbb
    go_wp2_with fail
    go_region_held3 (fun w' => Ext w w' ∧ Ext w1 w' ∧ w'.cell? ⟨q, 0, none⟩ = some (.int .u64 (hi n)) ∧ w'.cell? ⟨q, 1, none⟩ = some (.int .u64 (lo n)) ∧ w'.cell? ⟨q, 3, none⟩ = some (.pointer (some ⟨bb, 0, none⟩)))
      (first
        | go_keep
        | (go_split_ands; refine ⟨Ext.trans (by assumption) hbb, Ext.trans (by assumption) hbb, hbb.cell ?_, hbb.cell ?_, hbb.cell ?_⟩ <;> go_keep))
      ((go_at_call 59; go_split_ands; refine (pair_any n _ _ _ _ _ (hv1.ext (by assumption)) (TB.out.ext (by assumption)) (by omega) (by omega)).mono ?_; rintro e w4 ⟨v4, rfl, hv4, hbb⟩))
    go_split_ands
    have E4 : Ext w w4 := by assumption
    go_wp2_with fail
    go_ret2
    exact ⟨_, by rw [H.out]; exact ret_pairn (wrap_succ _ ca'), by rw [H.out]; exact hv4, E4⟩
  · have IL := Lib.hid fun w' (hx : Ext w w') => ihl hz a _ _ w' (il.ext hx) (ta.ext hx) ha
    have IR := Lib.hid fun w' (hx : Ext w w') => ihr hz' b _ _ w' (ir.ext hx) (tb.ext hx) hb
    clear ihl ihr il ir ta tb hx hy h1
    go_enter Tryd.func54, Tryd.ntmps54
    go_wp2_with (first
      | (go_at_call 49; refine HW.out.mono ?_; rintro e w1 ⟨rfl, rfl⟩)
      | (go_at_call 47; refine LA.out.mono ?_; rintro e w1 ⟨rfl, rfl⟩))
    go_region_held3 (fun w' => Ext w w' ∧ w'.cell? ⟨p, 0, none⟩ = some (.pointer (some ⟨bl, 0, none⟩)) ∧ w'.cell? ⟨q, 2, none⟩ = some (.pointer (some ⟨ba, 0, none⟩)))
      (first
        | go_keep
        | (go_split_ands; refine ⟨Ext.trans (by assumption) hbb, hbb.cell ?_, hbb.cell ?_⟩ <;> go_keep))
      ((go_at_call 54; go_split_ands; refine (IL.out _ (by assumption)).mono ?_; rintro e w1 ⟨v1, rfl, hv1, hbb⟩; obtain ⟨p1, rfl⟩ := hv1.ptr))
    go_split_ands
    have E1 : Ext w w1 := by assumption
    replace i1 := E1.cell i1
    replace t0 := E1.cell t0
    replace t1 := E1.cell t1
    replace t2 := E1.cell t2
    replace t3 := E1.cell t3
    clear hbb
    go_wp2_with fail
    go_region_held3 (fun w' => Ext w w' ∧ Ext w1 w' ∧ w'.cell? ⟨p, 1, none⟩ = some (.pointer (some ⟨br, 0, none⟩)) ∧ w'.cell? ⟨q, 3, none⟩ = some (.pointer (some ⟨bb, 0, none⟩)))
      (first
        | go_keep
        | (go_split_ands; refine ⟨Ext.trans (by assumption) hbb, Ext.trans (by assumption) hbb, hbb.cell ?_, hbb.cell ?_⟩ <;> go_keep))
      ((go_at_call 54; go_split_ands; refine (IR.out _ (by assumption)).mono ?_; rintro e w2 ⟨v2, rfl, hv2, hbb⟩; obtain ⟨p2, rfl⟩ := hv2.ptr))
    go_split_ands
    have E2 : Ext w w2 := by assumption
    have E12 : Ext w1 w2 := by assumption
    replace t0 := E12.cell t0
    replace t1 := E12.cell t1
    replace t2 := E12.cell t2
    replace t3 := E12.cell t3
    clear hbb
    by_cases hlt : (growF l a).2 < (growF r b).2
    · have H : Hid (growF (.node l r) (.node n a b) = (pairF n (growF l a).1 b, (growF l a).2 + 1)) := by rw [Hid, E.out, hz', hz]; simp [hlt]
      have hd1 : decide ((growF l a).2 < (growF r b).2) = true := by simpa using hlt
      have hv1' := hv1.ext E12
      go_wp2_with fail
      go_region_held3 (fun w' => Ext w w' ∧ Ext w2 w' ∧ w'.cell? ⟨q, 0, none⟩ = some (.int .u64 (hi n)) ∧ w'.cell? ⟨q, 1, none⟩ = some (.int .u64 (lo n)) ∧ w'.cell? ⟨q, 3, none⟩ = some (.pointer (some ⟨bb, 0, none⟩)))
        (first
          | go_keep
          | (go_split_ands; refine ⟨Ext.trans (by assumption) hbb, Ext.trans (by assumption) hbb, hbb.cell ?_, hbb.cell ?_, hbb.cell ?_⟩ <;> go_keep))
        ((go_at_call 59; go_split_ands; refine (pair_any n _ _ _ _ _ (hv1'.ext (by assumption)) (TB.out.ext (by assumption)) (by omega) (by omega)).mono ?_; rintro e w4 ⟨v4, rfl, hv4, hbb⟩))
      go_split_ands
      have E4 : Ext w w4 := by assumption
      go_wp2_with fail
      go_ret2
      exact ⟨_, by rw [H.out]; exact ret_pairn (wrap_succ _ ca'), by rw [H.out]; exact hv4, E4⟩
    · have H : Hid (growF (.node l r) (.node n a b) = (pairF n a (growF r b).1, (growF r b).2 + 1)) := by rw [Hid, E.out, hz', hz]; simp [hlt]
      have hd1 : decide ((growF l a).2 < (growF r b).2) = false := by simpa using hlt
      go_wp2_with fail
      go_region_held3 (fun w' => Ext w w' ∧ Ext w2 w' ∧ w'.cell? ⟨q, 0, none⟩ = some (.int .u64 (hi n)) ∧ w'.cell? ⟨q, 1, none⟩ = some (.int .u64 (lo n)) ∧ w'.cell? ⟨q, 2, none⟩ = some (.pointer (some ⟨ba, 0, none⟩)))
        (first
          | go_keep
          | (go_split_ands; refine ⟨Ext.trans (by assumption) hbb, Ext.trans (by assumption) hbb, hbb.cell ?_, hbb.cell ?_, hbb.cell ?_⟩ <;> go_keep))
        ((go_at_call 59; go_split_ands; refine (pair_any n _ _ _ _ _ (TA.out.ext (by assumption)) (hv2.ext (by assumption)) (by omega) (by omega)).mono ?_; rintro e w4 ⟨v4, rfl, hv4, hbb⟩))
      go_split_ands
      have E4 : Ext w w4 := by assumption
      go_wp2_with fail
      go_ret2
      exact ⟨_, by rw [H.out]; exact ret_pairn (wrap_succ _ cb'), by rw [H.out]; exact hv4, E4⟩
set_option maxHeartbeats 1000000 in
theorem grow_leaf (l r : IdT) (n : Nat) (v u : Value) (w : World) (hi : IdAt w v (.node l r)) (h1 : IdT.isOne (.node l r) = false) (h : EvAt w u (.leaf n)) (hd : IdT.depth (.node l r) ≤ 1000000)
    (ih : ∀ (v u : Value) (w : World), IdAt w v (.node l r) → EvAt w u (.node n (.leaf 0) (.leaf 0)) → Calls Tryd.prog 54 #[v, u] w (RetG (growF (.node l r) (.node n (.leaf 0) (.leaf 0))) w)) :
    Calls Tryd.prog 54 #[v, u] w (RetG (growF (.node l r) (.leaf n)) w) := by
  have hw := whole_any _ v w hi
  rw [h1] at hw
  have HW := Lib.hid hw
  have LA := Lib.hid (leaf_any _ _ w h)
  have IH := Lib.hid fun w' (hx : Ext w w') u' (hu : EvAt w' u' (.node n (.leaf 0) (.leaf 0))) => ih v u' w' (hi.ext hx) hu
  obtain ⟨p, ql, qr, rfl, i0, i1, hp, il, ir⟩ := hi.node_parts
  obtain ⟨q, ql', qr', rfl, t0, t1, t2, t3, hq, hk⟩ := h.kids
  simp only [EvT.isLeaf_leaf] at LA
  simp only [EvT.n_leaf] at *
  have gc := grow_cost (.node l r) (.node n (.leaf 0) (.leaf 0))
  have gc' : (growF (.node l r) (.node n (.leaf 0) (.leaf 0))).2 ≤ 1001000000 := by omega
  have E : Hid (growF (.node l r) (.leaf n) = ((growF (.node l r) (.node n (.leaf 0) (.leaf 0))).1, (growF (.node l r) (.node n (.leaf 0) (.leaf 0))).2 + 1000)) := by
    exact growF_leaf l r n h1
  clear ih hi h hw h1 hd il ir hk gc
  generalize growF (.node l r) (.node n (.leaf 0) (.leaf 0)) = g at *
  go_enter Tryd.func54, Tryd.ntmps54
  go_wp2_with (first
    | (go_at_call 49; refine HW.out.mono ?_; rintro e w1 ⟨rfl, rfl⟩)
    | (go_at_call 47; refine LA.out.mono ?_; rintro e w1 ⟨rfl, rfl⟩))
  refine (IH.out _ ?_ _ ?_).mono ?_
  · exact (((Ext.refl w).alloc _).alloc _).alloc _
  · exact ev_node_new_at (by simp) ((ev_zero_new_at rfl).alloc _) (ev_zero_new_at (by simp))
  rintro e w1 ⟨v1, rfl, hv1, hb1⟩
  go_wp2_with fail
  go_ret2
  exact ⟨_, by rw [E.out]; exact ret_pairn (by simp), by rw [E.out]; exact hv1, ((((Ext.refl w).alloc _).alloc _).alloc _).trans hb1⟩
theorem grow_any (i : IdT) : i.isZero = false → i.depth ≤ 1000000 → ∀ (t : EvT) (v u : Value) (w : World), IdAt w v i → EvAt w u t → t.top + 1 < 2 ^ 127 → Calls Tryd.prog 54 #[v, u] w (RetG (growF i t) w) := by
  induction i with
  | zero => intro h; simp [IdT.isZero] at h
  | node l r ihl ihr =>
    intro _ hd t v u w hi h ht
    cases h1 : IdT.isOne (.node l r) with
    | true =>
      have : growF (.node l r) t = (.leaf (t.n + 1), 0) := by simp [growF, h1]
      rw [this]
      exact grow_one _ t v u w hi h1 h ht
    | false =>
      have hdd : l.depth ≤ 1000000 ∧ r.depth ≤ 1000000 := by simp only [IdT.depth, h1] at hd; simp at hd; omega
      cases t with
      | leaf n => 
        refine grow_leaf l r n v u w hi h1 h hd ?_
        intro v u w hi h
        exact grow_node l r n (.leaf 0) (.leaf 0) v u w hi h1 h (by simpa [EvT.top] using ht) hd (fun hz => ihl hz hdd.1) (fun hz => ihr hz hdd.2)
      | node n a b => exact grow_node l r n a b v u w hi h1 h ht hd (fun hz => ihl hz hdd.1) (fun hz => ihr hz hdd.2)
end Go.Proofs.YtjeclmmikjpinaaDoor.I
