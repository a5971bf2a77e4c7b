/- The walk over merge. -/
import Derived.Test.YtjeclmmikjpinaaDoorK3
import Derived.Test.YtjeclmmikjpinaaDoorK7
import Derived.Deep.DeepCutAuto
namespace Go.Proofs.YtjeclmmikjpinaaDoor.I
open Go.RowKit
attribute [local go_sem ↓] Go.wp_at_zero Go.wp_at_succ
def RetEE (l r : EvT) (w : World) (e : Ending) (w' : World) : Prop := ∃ v u, e = .returned (.tuple #[v, u]) ∧ EvAt w' v l ∧ EvAt w' u r ∧ Ext w w'
set_option maxHeartbeats 1000000 in
theorem halves_any (t : EvT) (v : Value) (w : World) (h : EvAt w v t) : Calls Tryd.prog 57 #[v] w (RetEE t.leftK t.rightK w) := by
  cases t with
  | leaf n =>
    have LA := Lib.hid (leaf_any _ _ w h)
    obtain ⟨p, rfl⟩ := h.ptr
    clear h
    go_enter Tryd.func57, Tryd.ntmps57
    go_wp2_with (go_at_call 47; refine LA.out.mono ?_; rintro e w1 ⟨rfl, rfl⟩; simp only [EvT.isLeaf_leaf])
    go_ret2
    exact ⟨_, _, rfl, (ev_zero_new_at rfl).alloc _, ev_zero_new_at (by simp), ((Ext.refl w).alloc _).alloc _⟩
  | node n l r =>
    have LA := Lib.hid (leaf_any _ _ w h)
    obtain ⟨q, ba, bb, rfl, t0, t1, t2, t3, hq, ta, tb⟩ := h.node_parts
    have TA := Lib.hid ta
    have TB := Lib.hid tb
    clear h ta tb
    go_enter Tryd.func57, Tryd.ntmps57
    go_wp2_with (go_at_call 47; refine LA.out.mono ?_; rintro e w1 ⟨rfl, rfl⟩; simp only [EvT.isLeaf_node])
    go_quiet (fail)
    go_wp2_with fail
    go_ret2
    exact ⟨_, _, rfl, TA.out.ext (by simp), TB.out.ext (by simp), by simp⟩
set_option maxHeartbeats 1000000 in
theorem merge_leaf (a b : EvT) (va vb : Value) (w : World) (ha : EvAt w va a) (hb : EvAt w vb b) (la : a.isLeaf = true) (lb : b.isLeaf = true) : Calls Tryd.prog 40 #[va, vb] w (RetE (.leaf (max a.n b.n)) w) := by
  have LA := Lib.hid (leaf_any _ _ w ha)
  have LB := Lib.hid (leaf_any _ _ w hb)
  rw [la] at LA
  rw [lb] at LB
  obtain ⟨p, ql, qr, rfl, h0, h1, h2, h3, hp, hk⟩ := ha.kids
  obtain ⟨q, ql', qr', rfl, h0', h1', h2', h3', hq, hk'⟩ := hb.kids
  clear ha hb hk hk' la lb
  go_enter Tryd.func40, Tryd.ntmps40
  go_wp2_with (first
    | (go_at_call_of 47 (Value.pointer (some ⟨p, 0, none⟩)); refine LA.out.mono ?_; rintro e w1 ⟨rfl, rfl⟩)
    | (go_at_call_of 47 (Value.pointer (some ⟨q, 0, none⟩)); refine LB.out.mono ?_; rintro e w1 ⟨rfl, rfl⟩))
  go_region_held3 (fun w' => Ext w w' ∧ w'.cell? ⟨p, 0, none⟩ = some (.int .u64 (hi a.n)) ∧ w'.cell? ⟨p, 1, none⟩ = some (.int .u64 (lo a.n)) ∧ w'.cell? ⟨q, 0, none⟩ = some (.int .u64 (hi b.n)) ∧ w'.cell? ⟨q, 1, none⟩ = some (.int .u64 (lo b.n)))
    (first
      | go_keep
      | (go_split_ands; refine ⟨Ext.trans (by assumption) hbb, hbb.cell ?_, hbb.cell ?_, hbb.cell ?_, hbb.cell ?_⟩ <;> go_keep))
    ((go_at_call 56; refine (greater_any a.n b.n _).mono ?_; rintro e w1 ⟨rfl, hbb⟩))
  go_wp2_with fail
  go_ret
  exact ⟨_, rfl, ev_leaf_new _ _, (Ext.trans (by simp) hbb).alloc _⟩
set_option maxHeartbeats 4000000 in
theorem merge_keep (k : Nat) (a b : EvT) (va vb : Value) (w : World) (ha : EvAt w va a) (hb : EvAt w vb b) (hl : (a.isLeaf && b.isLeaf) = false) (hlt : ¬ b.n < a.n) (ht : a.top < 2 ^ 127) (ht' : b.top < 2 ^ 127) (da : a.depth ≤ k + 1) (db : b.depth ≤ k + 1)
    (ih : ∀ (a b : EvT) (va vb : Value) (w : World), EvAt w va a → EvAt w vb b → a.top < 2 ^ 127 → b.top < 2 ^ 127 → a.depth ≤ k → b.depth ≤ k → Calls Tryd.prog 40 #[va, vb] w (RetE (mergeF k a b) w)) :
    Calls Tryd.prog 40 #[va, vb] w (RetE (pairF a.n (mergeF k a.leftK (b.leftK.withN (b.leftK.n + (b.n - a.n)))) (mergeF k a.rightK (b.rightK.withN (b.rightK.n + (b.n - a.n))))) w) := by
  have LA := Lib.hid (leaf_any _ _ w ha)
  have LB := Lib.hid (leaf_any _ _ w hb)
  have HA := Lib.hid ha
  have HB := Lib.hid hb
  have hd : decide (b.n < a.n) = false := by simpa using hlt
  have hle : a.n ≤ b.n := by omega
  have ny := b.n_le_top
  have nx := a.n_le_top
  have kx := kids_top a
  have ky := kids_top b
  have l1 := b.leftK.n_le_top
  have l2 := b.rightK.n_le_top
  have wl := withN_top b.leftK (b.leftK.n + (b.n - a.n))
  have wr := withN_top b.rightK (b.rightK.n + (b.n - a.n))
  have ml := merge_top k a.leftK (b.leftK.withN (b.leftK.n + (b.n - a.n)))
  have mr := merge_top k a.rightK (b.rightK.withN (b.rightK.n + (b.n - a.n)))
  have m1 := (mergeF k a.leftK (b.leftK.withN (b.leftK.n + (b.n - a.n)))).n_le_top
  have m2 := (mergeF k a.rightK (b.rightK.withN (b.rightK.n + (b.n - a.n)))).n_le_top
  have b1 : a.leftK.top < 2 ^ 127 := by omega
  have b2 : a.rightK.top < 2 ^ 127 := by omega
  have b3 : (b.leftK.withN (b.leftK.n + (b.n - a.n))).top < 2 ^ 127 := by omega
  have b4 : (b.rightK.withN (b.rightK.n + (b.n - a.n))).top < 2 ^ 127 := by omega
  have b5 : a.n + (mergeF k a.leftK (b.leftK.withN (b.leftK.n + (b.n - a.n)))).n < 2 ^ 127 := by omega
  have b6 : a.n + (mergeF k a.rightK (b.rightK.withN (b.rightK.n + (b.n - a.n)))).n < 2 ^ 127 := by omega
  have b7 : b.leftK.n + (b.n - a.n) < 2 ^ 127 := by omega
  have b8 : b.rightK.n + (b.n - a.n) < 2 ^ 127 := by omega
  have b9 : b.n < 2 ^ 127 := by omega
  have IL := Lib.hid fun w' va vb (h1 : EvAt w' va a.leftK) (h2 : EvAt w' vb (b.leftK.withN (b.leftK.n + (b.n - a.n)))) => ih _ _ va vb w' h1 h2 b1 b3 (leftK_depth da) (by rw [withN_depth]; exact leftK_depth db)
  have IR := Lib.hid fun w' va vb (h1 : EvAt w' va a.rightK) (h2 : EvAt w' vb (b.rightK.withN (b.rightK.n + (b.n - a.n)))) => ih _ _ va vb w' h1 h2 b2 b4 (rightK_depth da) (by rw [withN_depth]; exact rightK_depth db)
  have KL := Lib.hid fun w' v (h1 : EvAt w' v b.leftK) => lift_any b.leftK v (b.n - a.n) w' h1 b7
  have KR := Lib.hid fun w' v (h1 : EvAt w' v b.rightK) => lift_any b.rightK v (b.n - a.n) w' h1 b8
  have KP := Lib.hid fun w' v u (h1 : EvAt w' v (mergeF k a.leftK (b.leftK.withN (b.leftK.n + (b.n - a.n))))) (h2 : EvAt w' u (mergeF k a.rightK (b.rightK.withN (b.rightK.n + (b.n - a.n))))) => pair_any a.n _ _ v u w' h1 h2 b5 b6
  obtain ⟨p, ql, qr, rfl, h0, h1, h2, h3, hp, hk⟩ := ha.kids
  obtain ⟨q, ql', qr', rfl, h0', h1', h2', h3', hq, hk'⟩ := hb.kids
  have hcases : (a.isLeaf = false) ∨ (a.isLeaf = true ∧ b.isLeaf = false) := by
    cases h1 : a.isLeaf <;> cases h2 : b.isLeaf <;> simp_all
  clear ih da db ha hb hk hk' hl hlt ny nx kx ky l1 l2 wl wr ml mr m1 m2 b1 b2 b3 b4 b5 b6 b7 b8 h2 h3 h2' h3'
  rcases hcases with hA | ⟨hA, hB⟩
  all_goals rw [hA] at LA
  all_goals try rw [hB] at LB
  all_goals
    go_enter Tryd.func40, Tryd.ntmps40
    go_wp2_with (first
      | (go_at_call_of 47 (Value.pointer (some ⟨p, 0, none⟩)); refine LA.out.mono ?_; rintro e w1 ⟨rfl, rfl⟩)
      | (go_at_call_of 47 (Value.pointer (some ⟨q, 0, none⟩)); refine LB.out.mono ?_; rintro e w1 ⟨rfl, rfl⟩))
    go_region_held3 (fun w' => Ext w w' ∧ w'.cell? ⟨p, 0, none⟩ = some (.int .u64 (hi a.n)) ∧ w'.cell? ⟨p, 1, none⟩ = some (.int .u64 (lo a.n)) ∧ w'.cell? ⟨q, 0, none⟩ = some (.int .u64 (hi b.n)) ∧ w'.cell? ⟨q, 1, none⟩ = some (.int .u64 (lo b.n)))
      (first
        | go_keep
        | (go_split_ands; refine ⟨Ext.trans (by assumption) hbb, hbb.cell ?_, hbb.cell ?_, hbb.cell ?_, hbb.cell ?_⟩ <;> go_keep))
      ((go_at_call 48; refine (less_any b.n a.n _).mono ?_; rintro e w1 ⟨rfl, hbb⟩))
    go_split_ands
    have E1 : Ext w w1 := by assumption
    replace h0 := E1.cell h0
    replace h1 := E1.cell h1
    replace h0' := E1.cell h0'
    replace h1' := E1.cell h1'
    clear hbb
    have hne1 := World.new_ne w1 _ h0
    have hne2 := World.new_ne w1 _ h0'
    go_upto_region 6 with fail
    go_cut [6] (fun s6 wx => ∃ g : Nat, s6 = .pointer (some ⟨g, 0, none⟩) ∧ Ext w1 wx ∧ wx.cell? ⟨g, 0, none⟩ = some (.int .u64 (hi (b.n - a.n))) ∧ wx.cell? ⟨g, 1, none⟩ = some (.int .u64 (lo (b.n - a.n))))
    case first =>
      go_region_held3 (fun w' => Ext w1 w' ∧ w'.cell? ⟨p, 0, none⟩ = some (.int .u64 (hi a.n)) ∧ w'.cell? ⟨p, 1, none⟩ = some (.int .u64 (lo a.n)) ∧ w'.cell? ⟨q, 0, none⟩ = some (.int .u64 (hi b.n)) ∧ w'.cell? ⟨q, 1, none⟩ = some (.int .u64 (lo b.n)))
        (refine ⟨?_, ?_, ?_, ?_, ?_⟩ <;> first | assumption | exact Ext.alloc hE2 _ | exact Ext.set (Ext.set hE2 (Nat.le_refl _) _) (Nat.le_refl _) _ | go_keep | (refine hbb.cell ?_; go_keep))
        ((go_at_call 58; go_split_ands; have hS : Ext w1 _ := (by assumption); refine (minus_any b.n a.n _ hle b9).mono ?_; rintro e w2 ⟨rfl, hbb⟩; have hE2 := hS.trans hbb; have k0 := hE2.cell h0; have k1 := hE2.cell h1; have k2 := hE2.cell h0'; have k3 := hE2.cell h1'; obtain ⟨hcc, hff⟩ := hbb.both))
      all_goals go_wp2_with fail
      all_goals go_meet
      all_goals first
        | exact ⟨_, rfl, hE2.alloc _, new_at _ _ _ _ _ rfl, new_at _ _ _ _ _ rfl⟩
        | exact ⟨_, rfl, Ext.set (Ext.set hE2 (Nat.le_refl _) _) (Nat.le_refl _) _, by simp [go_sem, hcc], by simp [go_sem, hcc]⟩
    case rest =>
      obtain ⟨g, rfl, E2, d0, d1⟩ := hcut
      have X2 := E1.trans E2
      replace h0 := E2.cell h0
      replace h1 := E2.cell h1
      clear h0' h1' hne1 hne2
      go_wp2_with fail
      refine (halves_any a _ _ (HA.out.ext X2)).mono ?_
      rintro e w3 ⟨v3, u3, rfl, hv3, hu3, hb3⟩
      obtain ⟨pv3, rfl⟩ := hv3.ptr
      obtain ⟨pu3, rfl⟩ := hu3.ptr
      have X3 := X2.trans hb3
      replace h0 := hb3.cell h0
      replace h1 := hb3.cell h1
      replace d0 := hb3.cell d0
      replace d1 := hb3.cell d1
      go_wp2_with fail
      refine (halves_any b _ _ (HB.out.ext X3)).mono ?_
      rintro e w4 ⟨v4, u4, rfl, hv4, hu4, hb4⟩
      obtain ⟨pv4, rfl⟩ := hv4.ptr
      obtain ⟨pu4, rfl⟩ := hu4.ptr
      have X4 := X3.trans hb4
      replace h0 := hb4.cell h0
      replace h1 := hb4.cell h1
      replace d0 := hb4.cell d0
      replace d1 := hb4.cell d1
      replace hv3 := hv3.ext hb4
      replace hu3 := hu3.ext hb4
      have V3 := Lib.hid hv3
      have U3 := Lib.hid hu3
      have V4 := Lib.hid hv4
      have U4 := Lib.hid hu4
      clear hv3 hu3 hv4 hu4 hb3 hb4 E2
      go_wp2_with fail
      go_region_held3 (fun w' => Ext w w' ∧ Ext w4 w' ∧ w'.cell? ⟨p, 0, none⟩ = some (.int .u64 (hi a.n)) ∧ w'.cell? ⟨p, 1, none⟩ = some (.int .u64 (lo a.n)) ∧ w'.cell? ⟨g, 0, none⟩ = some (.int .u64 (hi (b.n - a.n))) ∧ w'.cell? ⟨g, 1, none⟩ = some (.int .u64 (lo (b.n - a.n))))
        (first
          | go_keep
          | (go_split_ands; refine ⟨Ext.trans (by assumption) hbb, Ext.trans (by assumption) hbb, hbb.cell ?_, hbb.cell ?_, hbb.cell ?_, hbb.cell ?_⟩ <;> go_keep))
        (first
          | (go_at_call_of 60 (Value.pointer (some ⟨pv4, 0, none⟩)); go_split_ands; refine (KL.out _ _ (V4.out.ext (by assumption))).mono ?_; rintro e w5 ⟨v5, rfl, hv5, hbb⟩)
          | (go_at_call_of 40 (Value.pointer (some ⟨pv3, 0, none⟩)); go_split_ands; refine (IL.out _ _ _ (V3.out.ext (by assumption)) hv5).mono ?_; rintro e w6 ⟨v6, rfl, hv6, hbb⟩)
          | (go_at_call_of 60 (Value.pointer (some ⟨pu4, 0, none⟩)); go_split_ands; refine (KR.out _ _ (U4.out.ext (by assumption))).mono ?_; rintro e w7 ⟨v7, rfl, hv7, hbb⟩; have hv6' := hv6.ext hbb)
          | (go_at_call_of 40 (Value.pointer (some ⟨pu3, 0, none⟩)); go_split_ands; refine (IR.out _ _ _ (U3.out.ext (by assumption)) hv7).mono ?_; rintro e w8 ⟨v8, rfl, hv8, hbb⟩; have hv6'' := hv6'.ext hbb)
          | (go_at_call 59; refine (KP.out _ _ _ hv6'' hv8).mono ?_; rintro e w9 ⟨v9, rfl, hv9, hbb⟩))
      go_split_ands
      have E9 : Ext w w9 := by assumption
      go_wp2_with fail
      go_ret
      exact ⟨_, rfl, hv9, E9⟩
set_option maxHeartbeats 4000000 in
theorem merge_swap (k : Nat) (a b : EvT) (va vb : Value) (w : World) (ha : EvAt w va a) (hb : EvAt w vb b) (hl : (a.isLeaf && b.isLeaf) = false) (hlt : b.n < a.n) (ht : a.top < 2 ^ 127) (ht' : b.top < 2 ^ 127) (da : a.depth ≤ k + 1) (db : b.depth ≤ k + 1)
    (ih : ∀ (a b : EvT) (va vb : Value) (w : World), EvAt w va a → EvAt w vb b → a.top < 2 ^ 127 → b.top < 2 ^ 127 → a.depth ≤ k → b.depth ≤ k → Calls Tryd.prog 40 #[va, vb] w (RetE (mergeF k a b) w)) :
    Calls Tryd.prog 40 #[va, vb] w (RetE (pairF b.n (mergeF k b.leftK (a.leftK.withN (a.leftK.n + (a.n - b.n)))) (mergeF k b.rightK (a.rightK.withN (a.rightK.n + (a.n - b.n))))) w) := by
  have LA := Lib.hid (leaf_any _ _ w ha)
  have LB := Lib.hid (leaf_any _ _ w hb)
  have HA := Lib.hid ha
  have HB := Lib.hid hb
  have hd : decide (b.n < a.n) = true := by simpa using hlt
  have hle : b.n ≤ a.n := by omega
  have ny := a.n_le_top
  have nx := b.n_le_top
  have kx := kids_top b
  have ky := kids_top a
  have l1 := a.leftK.n_le_top
  have l2 := a.rightK.n_le_top
  have wl := withN_top a.leftK (a.leftK.n + (a.n - b.n))
  have wr := withN_top a.rightK (a.rightK.n + (a.n - b.n))
  have ml := merge_top k b.leftK (a.leftK.withN (a.leftK.n + (a.n - b.n)))
  have mr := merge_top k b.rightK (a.rightK.withN (a.rightK.n + (a.n - b.n)))
  have m1 := (mergeF k b.leftK (a.leftK.withN (a.leftK.n + (a.n - b.n)))).n_le_top
  have m2 := (mergeF k b.rightK (a.rightK.withN (a.rightK.n + (a.n - b.n)))).n_le_top
  have b1 : b.leftK.top < 2 ^ 127 := by omega
  have b2 : b.rightK.top < 2 ^ 127 := by omega
  have b3 : (a.leftK.withN (a.leftK.n + (a.n - b.n))).top < 2 ^ 127 := by omega
  have b4 : (a.rightK.withN (a.rightK.n + (a.n - b.n))).top < 2 ^ 127 := by omega
  have b5 : b.n + (mergeF k b.leftK (a.leftK.withN (a.leftK.n + (a.n - b.n)))).n < 2 ^ 127 := by omega
  have b6 : b.n + (mergeF k b.rightK (a.rightK.withN (a.rightK.n + (a.n - b.n)))).n < 2 ^ 127 := by omega
  have b7 : a.leftK.n + (a.n - b.n) < 2 ^ 127 := by omega
  have b8 : a.rightK.n + (a.n - b.n) < 2 ^ 127 := by omega
  have b9 : a.n < 2 ^ 127 := by omega
  have IL := Lib.hid fun w' va vb (h1 : EvAt w' va b.leftK) (h2 : EvAt w' vb (a.leftK.withN (a.leftK.n + (a.n - b.n)))) => ih _ _ va vb w' h1 h2 b1 b3 (leftK_depth db) (by rw [withN_depth]; exact leftK_depth da)
  have IR := Lib.hid fun w' va vb (h1 : EvAt w' va b.rightK) (h2 : EvAt w' vb (a.rightK.withN (a.rightK.n + (a.n - b.n)))) => ih _ _ va vb w' h1 h2 b2 b4 (rightK_depth db) (by rw [withN_depth]; exact rightK_depth da)
  have KL := Lib.hid fun w' v (h1 : EvAt w' v a.leftK) => lift_any a.leftK v (a.n - b.n) w' h1 b7
  have KR := Lib.hid fun w' v (h1 : EvAt w' v a.rightK) => lift_any a.rightK v (a.n - b.n) w' h1 b8
  have KP := Lib.hid fun w' v u (h1 : EvAt w' v (mergeF k b.leftK (a.leftK.withN (a.leftK.n + (a.n - b.n))))) (h2 : EvAt w' u (mergeF k b.rightK (a.rightK.withN (a.rightK.n + (a.n - b.n))))) => pair_any b.n _ _ v u w' h1 h2 b5 b6
  obtain ⟨p, ql, qr, rfl, h0, h1, h2, h3, hp, hk⟩ := ha.kids
  obtain ⟨q, ql', qr', rfl, h0', h1', h2', h3', hq, hk'⟩ := hb.kids
  have hcases : (a.isLeaf = false) ∨ (a.isLeaf = true ∧ b.isLeaf = false) := by
    cases h1 : a.isLeaf <;> cases h2 : b.isLeaf <;> simp_all
  clear ih da db ha hb hk hk' hl hlt ny nx kx ky l1 l2 wl wr ml mr m1 m2 b1 b2 b3 b4 b5 b6 b7 b8 h2 h3 h2' h3'
  rcases hcases with hA | ⟨hA, hB⟩
  all_goals rw [hA] at LA
  all_goals try rw [hB] at LB
  all_goals
    go_enter Tryd.func40, Tryd.ntmps40
    go_wp2_with (first
      | (go_at_call_of 47 (Value.pointer (some ⟨p, 0, none⟩)); refine LA.out.mono ?_; rintro e w1 ⟨rfl, rfl⟩)
      | (go_at_call_of 47 (Value.pointer (some ⟨q, 0, none⟩)); refine LB.out.mono ?_; rintro e w1 ⟨rfl, rfl⟩))
    go_region_held3 (fun w' => Ext w w' ∧ w'.cell? ⟨p, 0, none⟩ = some (.int .u64 (hi a.n)) ∧ w'.cell? ⟨p, 1, none⟩ = some (.int .u64 (lo a.n)) ∧ w'.cell? ⟨q, 0, none⟩ = some (.int .u64 (hi b.n)) ∧ w'.cell? ⟨q, 1, none⟩ = some (.int .u64 (lo b.n)))
      (first
        | go_keep
        | (go_split_ands; refine ⟨Ext.trans (by assumption) hbb, hbb.cell ?_, hbb.cell ?_, hbb.cell ?_, hbb.cell ?_⟩ <;> go_keep))
      ((go_at_call 48; refine (less_any b.n a.n _).mono ?_; rintro e w1 ⟨rfl, hbb⟩))
    go_split_ands
    have E1 : Ext w w1 := by assumption
    replace h0 := E1.cell h0
    replace h1 := E1.cell h1
    replace h0' := E1.cell h0'
    replace h1' := E1.cell h1'
    clear hbb
    have hne1 := World.new_ne w1 _ h0
    have hne2 := World.new_ne w1 _ h0'
    go_upto_region 6 with fail
    go_cut [6] (fun s6 wx => ∃ g : Nat, s6 = .pointer (some ⟨g, 0, none⟩) ∧ Ext w1 wx ∧ wx.cell? ⟨g, 0, none⟩ = some (.int .u64 (hi (a.n - b.n))) ∧ wx.cell? ⟨g, 1, none⟩ = some (.int .u64 (lo (a.n - b.n))))
    case first =>
      go_region_held3 (fun w' => Ext w1 w' ∧ w'.cell? ⟨p, 0, none⟩ = some (.int .u64 (hi a.n)) ∧ w'.cell? ⟨p, 1, none⟩ = some (.int .u64 (lo a.n)) ∧ w'.cell? ⟨q, 0, none⟩ = some (.int .u64 (hi b.n)) ∧ w'.cell? ⟨q, 1, none⟩ = some (.int .u64 (lo b.n)))
        (refine ⟨?_, ?_, ?_, ?_, ?_⟩ <;> first | assumption | exact Ext.alloc hE2 _ | exact Ext.set (Ext.set hE2 (Nat.le_refl _) _) (Nat.le_refl _) _ | go_keep | (refine hbb.cell ?_; go_keep))
        ((go_at_call 58; go_split_ands; have hS : Ext w1 _ := (by assumption); refine (minus_any a.n b.n _ hle b9).mono ?_; rintro e w2 ⟨rfl, hbb⟩; have hE2 := hS.trans hbb; have k0 := hE2.cell h0; have k1 := hE2.cell h1; have k2 := hE2.cell h0'; have k3 := hE2.cell h1'; obtain ⟨hcc, hff⟩ := hbb.both))
      all_goals go_wp2_with fail
      all_goals go_meet
      all_goals first
        | exact ⟨_, rfl, hE2.alloc _, new_at _ _ _ _ _ rfl, new_at _ _ _ _ _ rfl⟩
        | exact ⟨_, rfl, Ext.set (Ext.set hE2 (Nat.le_refl _) _) (Nat.le_refl _) _, by simp [go_sem, hcc], by simp [go_sem, hcc]⟩
    case rest =>
      obtain ⟨g, rfl, E2, d0, d1⟩ := hcut
      have X2 := E1.trans E2
      replace h0' := E2.cell h0'
      replace h1' := E2.cell h1'
      clear h0 h1 hne1 hne2
      go_wp2_with fail
      refine (halves_any b _ _ (HB.out.ext X2)).mono ?_
      rintro e w3 ⟨v3, u3, rfl, hv3, hu3, hb3⟩
      obtain ⟨pv3, rfl⟩ := hv3.ptr
      obtain ⟨pu3, rfl⟩ := hu3.ptr
      have X3 := X2.trans hb3
      replace h0' := hb3.cell h0'
      replace h1' := hb3.cell h1'
      replace d0 := hb3.cell d0
      replace d1 := hb3.cell d1
      go_wp2_with fail
      refine (halves_any a _ _ (HA.out.ext X3)).mono ?_
      rintro e w4 ⟨v4, u4, rfl, hv4, hu4, hb4⟩
      obtain ⟨pv4, rfl⟩ := hv4.ptr
      obtain ⟨pu4, rfl⟩ := hu4.ptr
      have X4 := X3.trans hb4
      replace h0' := hb4.cell h0'
      replace h1' := hb4.cell h1'
      replace d0 := hb4.cell d0
      replace d1 := hb4.cell d1
      replace hv3 := hv3.ext hb4
      replace hu3 := hu3.ext hb4
      have V3 := Lib.hid hv3
      have U3 := Lib.hid hu3
      have V4 := Lib.hid hv4
      have U4 := Lib.hid hu4
      clear hv3 hu3 hv4 hu4 hb3 hb4 E2
      go_wp2_with fail
      go_region_held3 (fun w' => Ext w w' ∧ Ext w4 w' ∧ w'.cell? ⟨q, 0, none⟩ = some (.int .u64 (hi b.n)) ∧ w'.cell? ⟨q, 1, none⟩ = some (.int .u64 (lo b.n)) ∧ w'.cell? ⟨g, 0, none⟩ = some (.int .u64 (hi (a.n - b.n))) ∧ w'.cell? ⟨g, 1, none⟩ = some (.int .u64 (lo (a.n - b.n))))
        (first
          | go_keep
          | (go_split_ands; refine ⟨Ext.trans (by assumption) hbb, Ext.trans (by assumption) hbb, hbb.cell ?_, hbb.cell ?_, hbb.cell ?_, hbb.cell ?_⟩ <;> go_keep))
        (first
          | (go_at_call_of 60 (Value.pointer (some ⟨pv4, 0, none⟩)); go_split_ands; refine (KL.out _ _ (V4.out.ext (by assumption))).mono ?_; rintro e w5 ⟨v5, rfl, hv5, hbb⟩)
          | (go_at_call_of 40 (Value.pointer (some ⟨pv3, 0, none⟩)); go_split_ands; refine (IL.out _ _ _ (V3.out.ext (by assumption)) hv5).mono ?_; rintro e w6 ⟨v6, rfl, hv6, hbb⟩)
          | (go_at_call_of 60 (Value.pointer (some ⟨pu4, 0, none⟩)); go_split_ands; refine (KR.out _ _ (U4.out.ext (by assumption))).mono ?_; rintro e w7 ⟨v7, rfl, hv7, hbb⟩; have hv6' := hv6.ext hbb)
          | (go_at_call_of 40 (Value.pointer (some ⟨pu3, 0, none⟩)); go_split_ands; refine (IR.out _ _ _ (U3.out.ext (by assumption)) hv7).mono ?_; rintro e w8 ⟨v8, rfl, hv8, hbb⟩; have hv6'' := hv6'.ext hbb)
          | (go_at_call 59; refine (KP.out _ _ _ hv6'' hv8).mono ?_; rintro e w9 ⟨v9, rfl, hv9, hbb⟩))
      go_split_ands
      have E9 : Ext w w9 := by assumption
      go_wp2_with fail
      go_ret
      exact ⟨_, rfl, hv9, E9⟩
theorem merge_any (k : Nat) : ∀ (a b : EvT) (va vb : Value) (w : World), EvAt w va a → EvAt w vb b → a.top < 2 ^ 127 → b.top < 2 ^ 127 → a.depth ≤ k → b.depth ≤ k → Calls Tryd.prog 40 #[va, vb] w (RetE (mergeF k a b) w) := by
  induction k with
  | zero =>
    intro a b va vb w ha hb _ _ da db
    cases a with
    | node n l r => simp [EvT.depth] at da
    | leaf n =>
      cases b with
      | node n l r => simp [EvT.depth] at db
      | leaf m => exact merge_leaf _ _ va vb w ha hb rfl rfl
  | succ k ih =>
    intro a b va vb w ha hb ht ht' da db
    unfold mergeF
    cases hl : (a.isLeaf && b.isLeaf) with
    | true =>
      simp only [Bool.and_eq_true] at hl
      exact merge_leaf _ _ va vb w ha hb hl.1 hl.2
    | false =>
      rw [if_neg (by decide)]
      by_cases hlt : b.n < a.n
      · rw [if_pos hlt]; exact merge_swap k a b va vb w ha hb hl hlt ht ht' da db ih
      · rw [if_neg hlt]; exact merge_keep k a b va vb w ha hb hl hlt ht ht' da db ih
end Go.Proofs.YtjeclmmikjpinaaDoor.I
