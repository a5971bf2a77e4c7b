/- The walks over the functions on event trees: leaf, lift, pair, greatest, fits, equal. -/
import Derived.Test.YtjeclmmikjpinaaDoorK1
import Derived.Deep.QuietTactic
import Derived.BigQuiet
import Derived.BigRegion
import Derived.Deep.RegionHeld3
import Derived.Deep.DrawnRows
namespace Go.Proofs.YtjeclmmikjpinaaDoor.I
open Go.RowKit
attribute [local go_sem ↓] Go.wp_at_zero Go.wp_at_succ
set_option maxHeartbeats 400000 in
theorem leaf_any (t : EvT) (v : Value) (w : World) (h : EvAt w v t) : Calls Tryd.prog 47 #[v] w fun e w' => e = .returned (.bool t.isLeaf) ∧ w = w' := by
  cases t with
  | leaf n =>
    obtain ⟨b, rfl, h0, h1, h2, h3, -⟩ := h
    go_enter Tryd.func47, Tryd.ntmps47
    go_wp2
    go_ret
    exact ⟨rfl, rfl⟩
  | node n l r =>
    obtain ⟨b, pl, pr, rfl, h0, h1, h2, h3, hl, hr, -⟩ := h
    obtain ⟨b1, pl1, pr1, rfl, _⟩ := hl.root
    go_enter Tryd.func47, Tryd.ntmps47
    go_wp2
    go_ret
    exact ⟨rfl, rfl⟩
set_option maxHeartbeats 400000 in
theorem sink_any (t : EvT) (v : Value) (bm m : Nat) (w : World) (h : EvAt w v t) (c0 : w.cell? ⟨bm, 0, none⟩ = some (.int .u64 (hi m))) (c1 : w.cell? ⟨bm, 1, none⟩ = some (.int .u64 (lo m)))
    (hm : m ≤ t.n) (ht : t.n < 2 ^ 127) : Calls Tryd.prog 69 #[v, .pointer (some ⟨bm, 0, none⟩)] w (RetE (t.withN (t.n - m)) w) := by
  obtain ⟨b, ql, qr, rfl, h0, h1, h2, h3, hbs, hk⟩ := h.kids
  have HK := Lib.hid hk
  clear hk h
  go_enter Tryd.func69, Tryd.ntmps69
  go_wp2_with fail
  go_region_held3 (fun w' => w'.cell? ⟨b, 0, none⟩ = some (.int .u64 (hi t.n)) ∧ w'.cell? ⟨b, 1, none⟩ = some (.int .u64 (lo t.n)) ∧ w'.cell? ⟨b, 2, none⟩ = some (.pointer ql) ∧ w'.cell? ⟨b, 3, none⟩ = some (.pointer qr) ∧
      w'.cell? ⟨bm, 0, none⟩ = some (.int .u64 (hi m)) ∧ w'.cell? ⟨bm, 1, none⟩ = some (.int .u64 (lo m))) 
     (first | go_keep | (go_split_ands; refine ⟨hb.cell ?_, hb.cell ?_, hb.cell ?_, hb.cell ?_, hb.cell ?_, hb.cell ?_⟩ <;> go_keep))
     ((go_at_call 58; refine (minus_any t.n m _ hm ht).mono ?_; rintro e w1 ⟨rfl, hb⟩))
  go_wp2
  go_ret
  exact ⟨_, rfl, ev_new _ (HK.out.ext (Ext.trans (Ext.drew (Ext.refl w)) hb)), (Ext.trans (Ext.drew (Ext.refl w)) hb).alloc _⟩
set_option maxHeartbeats 400000 in
theorem lift_any (t : EvT) (v : Value) (d : Nat) (w : World) (h : EvAt w v t) (ht : t.n + d < 2 ^ 127) : Calls Tryd.prog 60 #[v, Wd d] w (RetE (t.withN (t.n + d)) w) := by
  obtain ⟨b, ql, qr, rfl, h0, h1, h2, h3, hbs, hk⟩ := h.kids
  have HK := Lib.hid hk
  clear hk h
  go_enter Tryd.func60, Tryd.ntmps60
  go_wp2_with fail
  go_region_held3 (fun w' => w'.cell? ⟨b, 0, none⟩ = some (.int .u64 (hi t.n)) ∧ w'.cell? ⟨b, 1, none⟩ = some (.int .u64 (lo t.n)) ∧ w'.cell? ⟨b, 2, none⟩ = some (.pointer ql) ∧ w'.cell? ⟨b, 3, none⟩ = some (.pointer qr) ∧
      w'.cell? ⟨w.heap.size, 0, none⟩ = some (.int .u64 (hi d)) ∧ w'.cell? ⟨w.heap.size, 1, none⟩ = some (.int .u64 (lo d))) 
     (first | go_keep | (go_split_ands; refine ⟨hb.cell ?_, hb.cell ?_, hb.cell ?_, hb.cell ?_, hb.cell ?_, hb.cell ?_⟩ <;> go_keep))
     ((go_at_call 46; refine (plus_any t.n d _ ht).mono ?_; rintro e w1 ⟨rfl, hb⟩))
  go_wp2
  go_ret
  have hx := Ext.trans (((Ext.refl w).alloc _).drew) hb
  exact ⟨_, rfl, ev_new _ (HK.out.ext hx), hx.alloc _⟩
set_option maxHeartbeats 1000000 in
theorem greatest_any (t : EvT) : ∀ (v : Value) (w : World), EvAt w v t → t.top < 2 ^ 127 → Calls Tryd.prog 67 #[v] w (RetW t.top w) := by
  induction t with
  | leaf n =>
    intro v w h ht
    have hlf := leaf_any _ v _ (h.ext ((Ext.refl w).alloc (.cells #[.int .u64 0, .int .u64 0] 74)))
    obtain ⟨b, ql, qr, rfl, h0, h1, h2, h3, hbs, hk⟩ := h.kids
    go_enter Tryd.func67, Tryd.ntmps67
    go_wp2_with (go_at_call 47; refine hlf.mono ?_; rintro e w1 ⟨rfl, rfl⟩; simp only [EvT.isLeaf])
    refine bodyPost_ret (v := Wd n) (by simp [results, Tryd.results67, go_sem, EvT.n]) rfl ⟨rfl, ?_⟩
    exact (Ext.refl w).alloc _
  | node n l r ihl ihr =>
    intro v w h ht
    have hlf := leaf_any _ v _ (h.ext ((Ext.refl w).alloc (.cells #[.int .u64 0, .int .u64 0] 74)))
    obtain ⟨b, bl, br, rfl, h0, h1, h2, h3, hbs, hl, hr⟩ := h.node_parts
    simp only [EvT.top] at ht
    have hlt : l.top < 2 ^ 127 := by omega
    have hrt : r.top < 2 ^ 127 := by omega
    go_enter Tryd.func67, Tryd.ntmps67
    go_wp2_with (go_at_call 47; refine hlf.mono ?_; rintro e w1 ⟨rfl, rfl⟩; simp only [EvT.isLeaf])
    have hne := World.new_ne w _ h0
    go_region_held3 (fun w' => Ext w w' ∧ Box2 w' w.heap.size ∧ w'.cell? ⟨b, 0, none⟩ = some (.int .u64 (hi n)) ∧ w'.cell? ⟨b, 1, none⟩ = some (.int .u64 (lo n)) ∧ w'.cell? ⟨b, 2, none⟩ = some (.pointer (some ⟨bl, 0, none⟩)) ∧ w'.cell? ⟨b, 3, none⟩ = some (.pointer (some ⟨br, 0, none⟩)))
     (first
       | (refine ⟨((Ext.refl w).alloc _).drew, (Box2.new _ _ _ _).drew, ?_⟩; go_keep)
       | (go_split_ands; refine ⟨Ext.trans (by assumption) hb, Box2.ext hb (by assumption), hb.cell ?_, hb.cell ?_, hb.cell ?_, hb.cell ?_⟩ <;> go_keep)
       | (go_split_ands; refine ⟨Ext.set (Ext.set (Ext.trans hE hb) (by simp) _) (by simp) _, Box2.set (Box2.set (by assumption) _ _) _ _, ?_⟩; go_keep))
     (first
      | (go_at_call_of 67 (Value.pointer (some ⟨bl, 0, none⟩)); go_split_ands; refine (ihl _ _ (hl.ext (by assumption)) hlt).mono ?_; rintro e w1 ⟨rfl, hb⟩)
      | (go_at_call_of 67 (Value.pointer (some ⟨br, 0, none⟩)); go_split_ands; refine (ihr _ _ (hr.ext (by assumption)) hrt).mono ?_; rintro e w1 ⟨rfl, hb⟩)
      | (go_at_call 56; refine (greater_any l.top r.top _).mono ?_; rintro e w1 ⟨rfl, hb⟩)
      | (go_at_call 46; go_split_ands; refine (plus_any n (max l.top r.top) _ ht).mono ?_; rintro e w1 ⟨rfl, hb⟩; rename_i hE hB _ _ _ _; obtain ⟨⟨x0, hx0⟩, ⟨x1, hx1⟩, hf0, hf1⟩ := Box2.ext hb hB))
    go_wp2
    refine bodyPost_ret (v := Wd (n + max l.top r.top)) (by simp [results, Tryd.results67, go_sem, hx0, hx1]) rfl ⟨rfl, ?_⟩
    exact ((hE.trans hb).set (by simp) _).set (by simp) _
end Go.Proofs.YtjeclmmikjpinaaDoor.I
