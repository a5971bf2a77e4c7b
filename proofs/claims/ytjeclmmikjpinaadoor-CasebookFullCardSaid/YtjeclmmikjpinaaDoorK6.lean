/- The walks over depth, split, sum and equal of identities. -/
import Derived.Test.YtjeclmmikjpinaaDoorK5
namespace Go.Proofs.YtjeclmmikjpinaaDoor.I
open Go.RowKit
attribute [local go_sem ↓] Go.wp_at_zero Go.wp_at_succ
set_option maxHeartbeats 1000000 in
theorem depth_any (i : IdT) : ∀ (v : Value) (w : World), IdAt w v i → i.depth ≤ 1000000 → Calls Tryd.prog 32 #[v] w fun e w' => e = .returned (.int .i64 i.depth) ∧ ∃ n, w' = w.drewN n := by
  induction i with
  | zero =>
    rintro v w rfl _
    go_enter Tryd.func32, Tryd.ntmps32
    go_wp2_with fail
    go_ret
    exact ⟨rfl, 0, rfl⟩
  | node l r ihl ihr =>
    intro v w h hd
    have hw := whole_any _ v w h
    obtain ⟨b, ql, qr, rfl, h0, h1, hbs, hl, hr⟩ := h.node_parts
    cases hone : (IdT.node l r).isOne with
    | true =>
      have H : Hid ((IdT.node l r).depth = 0) := by simp [Hid, IdT.depth, hone]
      rw [hone] at hw
      clear hd h
      have HW := Lib.hid hw
      clear hw ihl ihr
      go_enter Tryd.func32, Tryd.ntmps32
      go_wp2_with (go_at_call 49; refine HW.out.mono ?_; rintro e w' ⟨rfl, rfl⟩)
      go_ret
      exact ⟨by rw [H.out]; rfl, 0, rfl⟩
    | false =>
      have H : Hid ((IdT.node l r).depth = 1 + max l.depth r.depth) := by simp [Hid, IdT.depth, hone]
      rw [hone] at hw
      rw [H.out] at hd
      have HW := Lib.hid hw
      have dl : l.depth ≤ 1000000 := by omega
      have dr : r.depth ≤ 1000000 := by omega
      have IL := Lib.hid fun w' (hx : Ext w w') => ihl _ w' (hl.ext hx) dl
      have IR := Lib.hid fun w' (hx : Ext w w') => ihr _ w' (hr.ext hx) dr
      clear hw ihl ihr h hd
      go_enter Tryd.func32, Tryd.ntmps32
      go_wp2_with (go_at_call 49; refine HW.out.mono ?_; rintro e w' ⟨rfl, rfl⟩)
      go_quiet (first
        | (go_at_call_of 32 (Value.pointer ql); exact Calls.quiet_of (IL.out _ ((Ext.refl w).drewN _)))
        | (go_at_call_of 32 (Value.pointer qr); exact Calls.quiet_of (IR.out _ ((Ext.refl w).drewN _))))
      all_goals go_wp2_with fail
      all_goals go_ret
      all_goals exact ⟨ret_intn (by rw [H.out]; omega), nq, rfl⟩
def RetII (i j : IdT) (w : World) (e : Ending) (w' : World) : Prop := ∃ v u, e = .returned (.tuple #[v, u]) ∧ IdAt w' v i ∧ IdAt w' u j ∧ Ext w w'
set_option maxHeartbeats 1000000 in
theorem split_any (i : IdT) : ∀ (v : Value) (w : World), IdAt w v i → Calls Tryd.prog 31 #[v] w (RetII i.split.1 i.split.2 w) := by
  induction i with
  | zero =>
    rintro v w rfl
    go_enter Tryd.func31, Tryd.ntmps31
    go_wp2_with fail
    go_ret2
    exact ⟨_, _, rfl, rfl, rfl, by simp⟩
  | node l r ihl ihr =>
    intro v w h
    have hw := whole_any _ v w h
    obtain ⟨b, ql, qr, rfl, h0, h1, hbs, hl, hr⟩ := h.node_parts
    have IL := Lib.hid fun w' (hx : Ext w w') => ihl _ w' (hl.ext hx)
    have IR := Lib.hid fun w' (hx : Ext w w') => ihr _ w' (hr.ext hx)
    have HL := Lib.hid hl
    have HR := Lib.hid hr
    clear ihl ihr h
    rcases hl.zero_or with ⟨rfl, hx⟩ | ⟨hz, bl, hx⟩ <;> rcases hr.zero_or with ⟨rfl, hy⟩ | ⟨hz', br, hy⟩ <;> obtain rfl := Value.pointer.inj hx <;> obtain rfl := Value.pointer.inj hy
    · clear hl hr hx hy
      have HW := Lib.hid hw
      clear hw
      go_enter Tryd.func31, Tryd.ntmps31
      go_wp2_with (go_at_call 49; refine HW.out.mono ?_; rintro e w' ⟨rfl, rfl⟩; simp only [IdT.isOne])
      go_ret2
      refine ⟨_, _, rfl, ?_, ?_, ?_⟩
      · exact (id_new_at (l := .one) (r := .zero) (by simp) (id_new (l := .zero) (r := .zero) rfl rfl) rfl).alloc _ |>.alloc _
      · exact id_new_at (l := .zero) (r := .one) (by simp) rfl (id_new_at (l := .zero) (r := .zero) (by simp) rfl rfl)
      · exact ((((Ext.refl w).alloc _).alloc _).alloc _).alloc _
    · have H : Hid ((IdT.node .zero r).split = (.node .zero r.split.1, .node .zero r.split.2)) := by cases r <;> simp_all [Hid, IdT.split, IdT.isZero]
      have e1 : (IdT.node .zero r).isOne = false := by cases r <;> simp_all [IdT.isOne, IdT.isZero]
      rw [e1] at hw
      have HW := Lib.hid hw
      clear hl hr hx hy hw e1
      go_enter Tryd.func31, Tryd.ntmps31
      go_wp2_with (first
        | (go_at_call 49; refine HW.out.mono ?_; rintro e w' ⟨rfl, rfl⟩)
        | (go_at_call 31; refine (IR.out _ (by simp)).mono ?_; rintro e w1 ⟨v1, u1, rfl, hv1, hu1, hb1⟩; obtain ⟨p1, rfl⟩ := hv1.ptr; obtain ⟨p2, rfl⟩ := hu1.ptr))
      go_ret2
      refine ⟨_, _, rfl, ?_, ?_, by simp [hb1]⟩
      · rw [H.out]; exact (id_new (l := .zero) rfl hv1).alloc _
      · rw [H.out]; exact id_new_at (l := .zero) (by simp) rfl (hu1.alloc _)
    · have H : Hid ((IdT.node l .zero).split = (.node l.split.1 .zero, .node l.split.2 .zero)) := by cases l <;> simp_all [Hid, IdT.split, IdT.isZero]
      have e1 : (IdT.node l .zero).isOne = false := by cases l <;> simp_all [IdT.isOne, IdT.isZero]
      rw [e1] at hw
      have HW := Lib.hid hw
      clear hl hr hx hy hw e1
      go_enter Tryd.func31, Tryd.ntmps31
      go_wp2_with (first
        | (go_at_call 49; refine HW.out.mono ?_; rintro e w' ⟨rfl, rfl⟩)
        | (go_at_call 31; refine (IL.out _ (by simp)).mono ?_; rintro e w1 ⟨v1, u1, rfl, hv1, hu1, hb1⟩; obtain ⟨p1, rfl⟩ := hv1.ptr; obtain ⟨p2, rfl⟩ := hu1.ptr))
      go_ret2
      refine ⟨_, _, rfl, ?_, ?_, by simp [hb1]⟩
      · rw [H.out]; exact (id_new (r := .zero) hv1 rfl).alloc _
      · rw [H.out]; exact id_new_at (r := .zero) (by simp) (hu1.alloc _) rfl
    · have H : Hid ((IdT.node l r).split = (.node l .zero, .node .zero r)) := by cases l <;> cases r <;> simp_all [Hid, IdT.split, IdT.isZero]
      have e1 : (IdT.node l r).isOne = false := by cases l <;> cases r <;> simp_all [IdT.isOne, IdT.isZero]
      rw [e1] at hw
      have HW := Lib.hid hw
      clear hl hr hx hy hw e1
      go_enter Tryd.func31, Tryd.ntmps31
      go_wp2_with (first
        | (go_at_call 49; refine HW.out.mono ?_; rintro e w' ⟨rfl, rfl⟩))
      go_region
      all_goals go_wp2
      all_goals go_ret2
      all_goals rw [H.out]
      all_goals refine ⟨_, _, rfl, ?_, ?_, ?_⟩
      · exact IdAt.ext (Ext.refl _).drew ((id_new (r := .zero) HL.out rfl).alloc _)
      · exact IdAt.ext (Ext.refl _).drew (id_new_at (l := .zero) (by simp) rfl (HR.out.alloc _))
      · exact (((Ext.refl w).alloc _).alloc _).drew
      · exact IdAt.ext (Ext.refl _).drew (id_new_at (r := .zero) (by simp) (HL.out.alloc _) rfl)
      · exact IdAt.ext (Ext.refl _).drew ((id_new (l := .zero) rfl HR.out).alloc _)
      · exact (((Ext.refl w).alloc _).alloc _).drew
set_option maxHeartbeats 1000000 in
theorem sum_zero (j : IdT) (u : Value) (w : World) (k : IdAt w u j) : Calls Tryd.prog 39 #[.pointer none, u] w fun e w' => e = .returned (.tuple #[u, .bool true]) ∧ w = w' := by
  obtain ⟨q, rfl⟩ := k.ptr
  go_enter Tryd.func39, Tryd.ntmps39
  go_wp2_with fail
  go_ret2
  exact ⟨rfl, rfl⟩
set_option maxHeartbeats 1000000 in
theorem sum_zero' (b : Nat) (w : World) : Calls Tryd.prog 39 #[.pointer (some ⟨b, 0, none⟩), .pointer none] w fun e w' => e = .returned (.tuple #[.pointer (some ⟨b, 0, none⟩), .bool true]) ∧ w = w' := by
  go_enter Tryd.func39, Tryd.ntmps39
  go_wp2_with fail
  go_ret2
  exact ⟨rfl, rfl⟩
def RetSum (s : Option IdT) (w : World) (e : Ending) (w' : World) : Prop := match s with
  | none => e = .returned (.tuple #[.pointer none, .bool false]) ∧ Ext w w'
  | some i => ∃ v, e = .returned (.tuple #[v, .bool true]) ∧ IdAt w' v i ∧ Ext w w'
set_option maxHeartbeats 2000000 in
theorem sum_any (i : IdT) : ∀ (j : IdT) (v u : Value) (w : World), IdAt w v i → IdAt w u j → Calls Tryd.prog 39 #[v, u] w (RetSum (i.sum j) w) := by
  induction i with
  | zero =>
    rintro j v u w rfl k
    refine (sum_zero j u w k).mono ?_
    rintro e w' ⟨rfl, rfl⟩
    cases j <;> exact ⟨_, rfl, k, by simp⟩
  | node l r ihl ihr =>
    intro j v u w h k
    have hwa := whole_any _ v w h
    have HI := h
    obtain ⟨b, ql, qr, rfl, h0, h1, hbs, hl, hr⟩ := h.node_parts
    cases j with
    | zero =>
      obtain rfl := k
      refine (sum_zero' b w).mono ?_
      rintro e w' ⟨rfl, rfl⟩
      exact ⟨_, rfl, HI, by simp⟩
    | node l' r' =>
      have hwb := whole_any _ u w k
      obtain ⟨b', ql', qr', rfl, h0', h1', hbs', hl', hr'⟩ := k.node_parts
      have WA := Lib.hid hwa
      have WB := Lib.hid hwb
      have IL := Lib.hid fun w' (hx : Ext w w') => ihl l' _ _ w' (hl.ext hx) (hl'.ext hx)
      have IR := Lib.hid fun w' (hx : Ext w w') => ihr r' _ _ w' (hr.ext hx) (hr'.ext hx)
      clear ihl ihr h k HI hwa hwb hl hr hl' hr'
      cases ha : (IdT.node l r).isOne with
      | true =>
        rw [ha] at WA
        have H : Hid ((IdT.node l r).sum (.node l' r') = none) := by simp [Hid, IdT.sum, ha]
        go_enter Tryd.func39, Tryd.ntmps39
        go_wp2_with (first
          | (go_at_call_of 49 (Value.pointer (some ⟨b, 0, none⟩)); refine WA.out.mono ?_; rintro e w1 ⟨rfl, rfl⟩))
        go_ret2
        rw [H.out]
        exact ⟨rfl, by simp⟩
      | false =>
        rw [ha] at WA
        cases hb : (IdT.node l' r').isOne with
        | true =>
          rw [hb] at WB
          have H : Hid ((IdT.node l r).sum (.node l' r') = none) := by simp [Hid, IdT.sum, hb]
          go_enter Tryd.func39, Tryd.ntmps39
          go_wp2_with (first
            | (go_at_call_of 49 (Value.pointer (some ⟨b, 0, none⟩)); refine WA.out.mono ?_; rintro e w1 ⟨rfl, rfl⟩)
            | (go_at_call_of 49 (Value.pointer (some ⟨b', 0, none⟩)); refine WB.out.mono ?_; rintro e w1 ⟨rfl, rfl⟩))
          go_ret2
          rw [H.out]
          exact ⟨rfl, by simp⟩
        | false =>
          rw [hb] at WB
          have H : Hid ((IdT.node l r).sum (.node l' r') = match IdT.sum l l' with
            | none => none
            | some x => match IdT.sum r r' with
              | none => none
              | some y => some (x.joinF y)) := by simp only [Hid, IdT.sum, ha, hb]; rfl
          go_enter Tryd.func39, Tryd.ntmps39
          go_wp2_with (first
            | (go_at_call_of 49 (Value.pointer (some ⟨b, 0, none⟩)); refine WA.out.mono ?_; rintro e w1 ⟨rfl, rfl⟩)
            | (go_at_call_of 49 (Value.pointer (some ⟨b', 0, none⟩)); refine WB.out.mono ?_; rintro e w1 ⟨rfl, rfl⟩))
          cases hL : l.sum l' with
          | none =>
            rw [hL] at IL H
            go_region_held3 (fun w' => Ext w w' ∧ w'.cell? ⟨b, 0, none⟩ = some (.pointer ql) ∧ w'.cell? ⟨b', 0, none⟩ = some (.pointer ql'))
              (first
                | go_keep
                | (go_split_ands; refine ⟨Ext.trans (by assumption) hbb, hbb.cell ?_, hbb.cell ?_⟩ <;> go_keep))
              ((go_at_call 39; go_split_ands; refine (IL.out _ (by assumption)).mono ?_; rintro e w1 ⟨rfl, hbb⟩))
            go_split_ands
            have E1 : Ext w w1 := by assumption
            go_wp2_with fail
            go_ret2
            rw [H.out]
            exact ⟨rfl, E1⟩
          | some x =>
            rw [hL] at IL H
            go_region_held3 (fun w' => Ext w w' ∧ w'.cell? ⟨b, 0, none⟩ = some (.pointer ql) ∧ w'.cell? ⟨b', 0, none⟩ = some (.pointer ql'))
              (first
                | go_keep
                | (go_split_ands; refine ⟨Ext.trans (by assumption) hbb, hbb.cell ?_, hbb.cell ?_⟩ <;> go_keep))
              ((go_at_call 39; go_split_ands; refine (IL.out _ (by assumption)).mono ?_; rintro e w1 ⟨v1, rfl, hv1, hbb⟩; obtain ⟨p1, rfl⟩ := hv1.ptr))
            go_split_ands
            have E1 : Ext w w1 := by assumption
            have k1 := E1.cell h1
            have k1' := E1.cell h1'
            clear hbb
            go_wp2_with fail
            cases hR : r.sum r' with
            | none =>
              rw [hR] at IR H
              go_region_held3 (fun w' => Ext w w' ∧ w'.cell? ⟨b, 1, none⟩ = some (.pointer qr) ∧ w'.cell? ⟨b', 1, none⟩ = some (.pointer qr'))
                (first
                  | go_keep
                  | (go_split_ands; refine ⟨Ext.trans (by assumption) hbb, hbb.cell ?_, hbb.cell ?_⟩ <;> go_keep))
                ((go_at_call 39; go_split_ands; refine (IR.out _ (by assumption)).mono ?_; rintro e w2 ⟨rfl, hbb⟩))
              go_split_ands
              have E2 : Ext w w2 := by assumption
              go_wp2_with fail
              go_ret2
              rw [H.out]
              exact ⟨rfl, E2⟩
            | some y =>
              rw [hR] at IR H
              go_region_held3 (fun w' => Ext w w' ∧ Ext w1 w' ∧ w'.cell? ⟨b, 1, none⟩ = some (.pointer qr) ∧ w'.cell? ⟨b', 1, none⟩ = some (.pointer qr'))
                (first
                  | go_keep
                  | (go_split_ands; refine ⟨Ext.trans (by assumption) hbb, Ext.trans (by assumption) hbb, hbb.cell ?_, hbb.cell ?_⟩ <;> go_keep))
                ((go_at_call 39; go_split_ands; refine (IR.out _ (by assumption)).mono ?_; rintro e w2 ⟨v2, rfl, hv2, hbb⟩; obtain ⟨p2, rfl⟩ := hv2.ptr))
              go_split_ands
              have E2 : Ext w w2 := by assumption
              have E12 : Ext w1 w2 := by assumption
              go_wp2_with fail
              refine (join_any x y _ _ _ (hv1.ext E12) hv2).mono ?_
              rintro e w3 ⟨v3, rfl, hv3, hb3⟩
              go_wp2_with fail
              go_ret2
              rw [H.out]
              exact ⟨_, rfl, hv3, E2.trans hb3⟩
end Go.Proofs.YtjeclmmikjpinaaDoor.I
