/- The walk over pair. -/
import Derived.Test.YtjeclmmikjpinaaDoorK2
namespace Go.Proofs.YtjeclmmikjpinaaDoor.I
open Go.RowKit
attribute [local go_sem ↓] Go.wp_at_zero Go.wp_at_succ
set_option maxHeartbeats 1000000 in
theorem pair_leaf (n m : Nat) (va vb : Value) (w : World) (ha : EvAt w va (.leaf m)) (hb : EvAt w vb (.leaf m)) (hm : n + m < 2 ^ 127) : Calls Tryd.prog 59 #[Wd n, va, vb] w (RetE (.leaf (n + m)) w) := by
  have la := fun w' (hx : Ext w w') => leaf_any _ _ w' (ha.ext hx)
  have lb := fun w' (hx : Ext w w') => leaf_any _ _ w' (hb.ext hx)
  obtain ⟨b, ql, qr, rfl, h0, h1, h2, h3, hbs, hk⟩ := ha.kids
  obtain ⟨b', ql', qr', rfl, h0', h1', h2', h3', hbs', hk'⟩ := hb.kids
  simp only [EvT.n, EvT.isLeaf] at *
  have he := run_eql_wide m m
  have he' : (m == m) = true := by simp
  have LA := Lib.hid la
  have LB := Lib.hid lb
  clear la lb hk hk'
  go_enter Tryd.func59, Tryd.ntmps59
  go_wp2_with fail
  go_quiet (first
    | (go_at_call_of 47 (Value.pointer (some ⟨b, 0, none⟩)); exact quietOf LA.out ((Ext.refl w).alloc _))
    | (go_at_call_of 47 (Value.pointer (some ⟨b', 0, none⟩)); exact quietOf LB.out ((Ext.refl w).alloc _)))
  go_wp2_with fail
  go_region_held3 (fun w' => Ext w w' ∧ w'.cell? ⟨b, 0, none⟩ = some (.int .u64 (hi m)) ∧ w'.cell? ⟨b, 1, none⟩ = some (.int .u64 (lo m)) ∧ w'.cell? ⟨w.heap.size, 0, none⟩ = some (.int .u64 (hi n)) ∧ w'.cell? ⟨w.heap.size, 1, none⟩ = some (.int .u64 (lo n)))
     (first
       | (refine ⟨(((Ext.refl w).alloc _).drewN _).drew, ?_⟩; go_keep)
       | (go_split_ands; refine ⟨Ext.trans (by assumption) hbb, hbb.cell ?_, hbb.cell ?_, hbb.cell ?_, hbb.cell ?_⟩ <;> go_keep)
       | (go_split_ands; refine ⟨Ext.alloc (Ext.trans hE hbb) _, ?_⟩; go_keep))
     ((go_at_call 46; go_split_ands; refine (plus_any n m _ hm).mono ?_; rintro e w1 ⟨rfl, hbb⟩; rename_i hE _ _ _ _))
  go_wp2
  go_ret
  exact ⟨_, rfl, ev_leaf_new _ _, (hE.trans hbb).alloc _⟩
set_option maxHeartbeats 2000000 in
theorem pair_node (n : Nat) (a b : EvT) (va vb : Value) (w : World) (ha : EvAt w va a) (hb : EvAt w vb b) (hne : (a.isLeaf && b.isLeaf && a.n == b.n) = false) (hna : n + a.n < 2 ^ 127) (hnb : n + b.n < 2 ^ 127) :
    Calls Tryd.prog 59 #[Wd n, va, vb] w (RetE (.node (n + min a.n b.n) (a.withN (a.n - min a.n b.n)) (b.withN (b.n - min a.n b.n))) w) := by
  have la := fun w' (hx : Ext w w') => leaf_any _ _ w' (ha.ext hx)
  have lb := fun w' (hx : Ext w w') => leaf_any _ _ w' (hb.ext hx)
  obtain ⟨p, ql, qr, rfl, h0, h1, h2, h3, hbs, hk⟩ := ha.kids
  obtain ⟨p', ql', qr', rfl, h0', h1', h2', h3', hbs', hk'⟩ := hb.kids
  have he := run_eql_wide a.n b.n
  have HA := Lib.hid ha
  have HB := Lib.hid hb
  clear hk hk' ha hb
  have hcases : (a.isLeaf = false) ∨ (a.isLeaf = true ∧ b.isLeaf = false) ∨ (a.isLeaf = true ∧ b.isLeaf = true ∧ (a.n == b.n) = false) := by
    cases h1 : a.isLeaf <;> cases h2 : b.isLeaf <;> simp_all
  clear hne
  have hm1 : min a.n b.n ≤ a.n := Nat.min_le_left _ _
  have hm2 : min a.n b.n ≤ b.n := Nat.min_le_right _ _
  have hnm : n + min a.n b.n < 2 ^ 127 := by omega
  have hmm : (b.n < a.n ∧ min a.n b.n = b.n) ∨ (¬ b.n < a.n ∧ min a.n b.n = a.n) := by omega
  generalize min a.n b.n = m at *
  rcases hcases with hA | ⟨hA, hB⟩ | ⟨hA, hB, hC⟩
  all_goals rw [hA] at la
  all_goals try rw [hB] at lb
  all_goals have LA := Lib.hid la
  all_goals have LB := Lib.hid lb
  all_goals clear la lb
  all_goals go_enter Tryd.func59, Tryd.ntmps59
  all_goals go_wp2_with fail
  all_goals
    go_quiet (first
    | (go_at_call_of 47 (Value.pointer (some ⟨p, 0, none⟩)); exact quietOf LA.out ((Ext.refl w).alloc _))
    | (go_at_call_of 47 (Value.pointer (some ⟨p', 0, none⟩)); exact quietOf LB.out ((Ext.refl w).alloc _)))
  all_goals
    generalize hW : (w.alloc (Obj.cells #[.int .u64 (hi n), .int .u64 (lo n)] 74)).drewN nq = w0
    obtain ⟨x0, n0, n1, z0, f0, f1⟩ := letter2 hW
    have q0 := x0.cell h0
    have q1 := x0.cell h1
    have q0' := x0.cell h0'
    have q1' := x0.cell h1'
    have hbs0 : p < w0.heap.size := by omega
    have hbs0' : p' < w0.heap.size := by omega
    clear hW nq h0 h1 h2 h3 h0' h1' h2' h3'
  all_goals go_wp2_with fail
  all_goals
    go_region_held3 (fun w' => Ext w w' ∧ w'.cell? ⟨p', 0, none⟩ = some (.int .u64 (hi b.n)) ∧ w'.cell? ⟨p', 1, none⟩ = some (.int .u64 (lo b.n)) ∧ w'.cell? ⟨w0.heap.size, 0, none⟩ = some (.int .u64 (hi a.n)) ∧ w'.cell? ⟨w0.heap.size, 1, none⟩ = some (.int .u64 (lo a.n)))
     (first
       | go_keep
       | (go_split_ands; refine ⟨Ext.trans (by assumption) hbb, hbb.cell ?_, hbb.cell ?_, hbb.cell ?_, hbb.cell ?_⟩ <;> go_keep))
     ((go_at_call 48; go_split_ands; refine (less_any b.n a.n _).mono ?_; rintro e w1 ⟨rfl, hbb⟩; rename_i hE _ _ _ _))
  all_goals
    obtain ⟨hc, hf⟩ := hbb.both
    have E1 : Ext w w1 := hE.trans hbb
    have E01 : Ext w0 w1 := Ext.trans (by simp) hbb
    have c0 : w1.cell? ⟨w0.heap.size, 0, none⟩ = some (.int .u64 (hi a.n)) := hbb.cell (by simp)
    have c1 : w1.cell? ⟨w0.heap.size, 1, none⟩ = some (.int .u64 (lo a.n)) := hbb.cell (by simp)
    have g0 : w1.frozen? ⟨w0.heap.size, 0, none⟩ = false := by rw [hf _ _ (by simp)]; simp
    have g1 : w1.frozen? ⟨w0.heap.size, 1, none⟩ = false := by rw [hf _ _ (by simp)]; simp
    have z1 : w0.heap.size < w1.heap.size := by have := hbb.size; simp at this; omega
    replace n0 := E01.cell n0
    replace n1 := E01.cell n1
    replace q0' := E01.cell q0'
    replace q1' := E01.cell q1'
    clear hc hf hbb hE q0 q1 f0 f1 E01
    rcases hmm with ⟨hlt, rfl⟩ | ⟨hnl, rfl⟩
  all_goals try (have hd : decide (b.n < a.n) = true := by simpa using hlt)
  all_goals try (have hd : decide (b.n < a.n) = false := by simpa using hnl)
  all_goals
    go_wp2_with fail
    refine (plus_any n _ _ hnm).mono ?_
    rintro e w2 ⟨rfl, hb2⟩
  all_goals try (have E2 : Ext w w2 := ((E1.set (by simp; omega) _).set (by simp; omega) _).trans hb2)
  all_goals try (have E2 : Ext w w2 := E1.trans hb2)
  all_goals
    first
    | have M0 := hb2.cell c0
      have M1 := hb2.cell c1
    | have M0 : w2.cell? ⟨w0.heap.size, 0, none⟩ = some (.int .u64 (hi b.n)) := by { refine hb2.cell ?_; simp [go_sem, c0] }
      have M1 : w2.cell? ⟨w0.heap.size, 1, none⟩ = some (.int .u64 (lo b.n)) := by { refine hb2.cell ?_; simp [go_sem, c1] }
  all_goals
    clear hb2
    go_wp2_with fail
    refine (sink_any a _ _ _ _ (HA.out.ext E2) M0 M1 hm1 (by omega)).mono ?_
    rintro e w3 ⟨v3, rfl, hv3, hb3⟩
    replace M0 := hb3.cell M0
    replace M1 := hb3.cell M1
    obtain ⟨b3, rfl⟩ := hv3.ptr
    have E3 := E2.trans hb3
    go_wp2_with fail
    refine (sink_any b _ _ _ _ (HB.out.ext E3) M0 M1 hm2 (by omega)).mono ?_
    rintro e w4 ⟨v4, rfl, hv4, hb4⟩
    obtain ⟨b4, rfl⟩ := hv4.ptr
    go_wp2
    go_ret
    exact ⟨_, rfl, ev_node_new _ (hv3.ext hb4) hv4, (E3.trans hb4).alloc _⟩
theorem pair_any (n : Nat) (a b : EvT) (va vb : Value) (w : World) (ha : EvAt w va a) (hb : EvAt w vb b) (hna : n + a.n < 2 ^ 127) (hnb : n + b.n < 2 ^ 127) :
    Calls Tryd.prog 59 #[Wd n, va, vb] w (RetE (pairF n a b) w) := by
  unfold pairF
  cases hc : (a.isLeaf && b.isLeaf && a.n == b.n) with
  | false => simpa using pair_node n a b va vb w ha hb hc hna hnb
  | true =>
    cases a with
    | node m l r => simp [EvT.isLeaf] at hc
    | leaf m =>
      cases b with
      | node m' l r => simp [EvT.isLeaf] at hc
      | leaf m' =>
        simp only [EvT.n, EvT.isLeaf, Bool.and_self, Bool.true_and, beq_iff_eq] at hc
        subst hc
        simpa [EvT.n] using pair_leaf n m va vb w ha hb hna
end Go.Proofs.YtjeclmmikjpinaaDoor.I
