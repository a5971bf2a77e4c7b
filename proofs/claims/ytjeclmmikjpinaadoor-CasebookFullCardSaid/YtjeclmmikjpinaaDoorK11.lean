/- The walk over leq. -/
import Derived.Test.YtjeclmmikjpinaaDoorK2
import Derived.Test.YtjeclmmikjpinaaDoorK7
import Derived.Deep.DeepCutAuto
namespace Go.Proofs.YtjeclmmikjpinaaDoor.I
open Go.RowKit
attribute [local go_sem ↓] Go.wp_at_zero Go.wp_at_succ
set_option maxHeartbeats 8000000 in
theorem leq_step (a b : EvT) (va vb : Value) (x y : Nat) (w : World) (ha : EvAt w va a) (hb : EvAt w vb b) (hxt : x + a.top < 2 ^ 127) (hyt : y + b.top < 2 ^ 127)
    (ih : ∀ n l r, a = .node n l r → (∀ (b : EvT) (va vb : Value) (x y : Nat) (w : World), EvAt w va l → EvAt w vb b → x + l.top < 2 ^ 127 → y + b.top < 2 ^ 127 → Calls Tryd.prog 29 #[va, vb, Wd x, Wd y] w (RetB (leqF l b x y) w)) ∧
      (∀ (b : EvT) (va vb : Value) (x y : Nat) (w : World), EvAt w va r → EvAt w vb b → x + r.top < 2 ^ 127 → y + b.top < 2 ^ 127 → Calls Tryd.prog 29 #[va, vb, Wd x, Wd y] w (RetB (leqF r b x y) w))) :
    Calls Tryd.prog 29 #[va, vb, Wd x, Wd y] w (RetB (leqF a b x y) w) := by
  have LA := Lib.hid fun w' (hx : Ext w w') => leaf_any _ _ w' (ha.ext hx)
  have LB := Lib.hid fun w' (hx : Ext w w') => leaf_any _ _ w' (hb.ext hx)
  have HA := Lib.hid ha
  have HB := Lib.hid hb
  have IH := Lib.hid ih
  have na := a.n_le_top
  have nb := b.n_le_top
  have hx : x + a.n < 2 ^ 127 := by omega
  have hy : y + b.n < 2 ^ 127 := by omega
  clear ih
  obtain ⟨p, ql, qr, rfl, h0, h1, h2, h3, hp, hk⟩ := ha.kids
  obtain ⟨q, ql', qr', rfl, h0', h1', h2', h3', hq, hk'⟩ := hb.kids
  clear ha hb hk hk' h2 h3 h2' h3'
  go_enter Tryd.func29, Tryd.ntmps29
  go_upto_region 1 with fail
  generalize hW : (w.alloc (Obj.cells #[.int .u64 (hi x), .int .u64 (lo x)] 74)).alloc (Obj.cells #[.int .u64 (hi y), .int .u64 (lo y)] 74) = w0
  have E0 : Ext w w0 := by rw [← hW]; simp
  have x0 : w0.cell? ⟨w.heap.size, 0, none⟩ = some (.int .u64 (hi x)) := by rw [← hW]; simp [go_sem]
  have x1 : w0.cell? ⟨w.heap.size, 1, none⟩ = some (.int .u64 (lo x)) := by rw [← hW]; simp [go_sem]
  have y0 : w0.cell? ⟨w.heap.size + 1, 0, none⟩ = some (.int .u64 (hi y)) := by rw [← hW]; simp [go_sem]
  have y1 : w0.cell? ⟨w.heap.size + 1, 1, none⟩ = some (.int .u64 (lo y)) := by rw [← hW]; simp [go_sem]
  replace h0 := E0.cell h0
  replace h1 := E0.cell h1
  replace h0' := E0.cell h0'
  replace h1' := E0.cell h1'
  clear hW
  have n1 := World.new_ne w0 _ h0
  have n2 := World.new_ne w0 _ h0'
  have n3 := World.new_ne w0 _ x0
  have n4 := World.new_ne w0 _ y0
  go_cut [9, 10] (fun s9 s10 wx => ∃ g g' : Nat, s9 = .pointer (some ⟨g, 0, none⟩) ∧ s10 = .pointer (some ⟨g', 0, none⟩) ∧ Ext w0 wx ∧ wx.cell? ⟨g, 0, none⟩ = some (.int .u64 (hi (x + a.n))) ∧ wx.cell? ⟨g, 1, none⟩ = some (.int .u64 (lo (x + a.n))) ∧
    wx.cell? ⟨g', 0, none⟩ = some (.int .u64 (hi (y + b.n))) ∧ wx.cell? ⟨g', 1, none⟩ = some (.int .u64 (lo (y + b.n))))
  case first =>
    have hp0 : p < w0.heap.size := by have := E0.size; omega
    have hq0 : q < w0.heap.size := by have := E0.size; omega
    have hx0 := World.block_lt_of_cell? w0 _ x0
    have hy0 := World.block_lt_of_cell? w0 _ y0
    have hsucc : ∀ a b : Nat, a + 1 < b → a < b := fun _ _ h => Nat.lt_of_succ_lt h
    go_region_held3 (fun w' => Ext w0 w' ∧ ∀ b o, b < w0.heap.size → w'.cell? ⟨b, o, none⟩ = w0.cell? ⟨b, o, none⟩)
      (refine Ext.held ?_ <;> repeat (first | assumption | exact Ext.refl _ | exact Nat.le_refl _ | exact Nat.le_add_right _ _ | exact Ext.size (by assumption) | exact Nat.le_trans (Ext.size (by assumption)) (Nat.le_add_right _ _) | apply Ext.alloc | apply Ext.drew | apply Ext.drewN | apply Ext.set))
      (first
        | (go_at_call 46; ((with_reducible refine (plus_any x a.n _ hx).mono ?_); rintro e w1 ⟨rfl, hbb⟩; have hEw1 : Ext w0 w1 := Ext.trans (by (repeat (first | assumption | exact Ext.refl _ | apply Ext.alloc | apply Ext.drew | apply Ext.drewN))) hbb; obtain ⟨hccw1, hffw1⟩ := hbb.both; have hzw1 := hbb.size; (try simp [go_sem] at hzw1); (try (refine (fun (_ : w0.heap.size < w1.heap.size) => ?_) ?_; rotate_left; omega)); (try (refine (fun (_ : w0.heap.size + 1 < w1.heap.size) => ?_) ?_; rotate_left; omega))))
        | (go_at_call 46; ((with_reducible refine (plus_any y b.n _ hy).mono ?_); rintro e w2 ⟨rfl, hbb⟩; have hEw2 : Ext w0 w2 := Ext.trans (by (repeat (first | assumption | exact Ext.refl _ | apply Ext.alloc | apply Ext.drew | apply Ext.drewN))) hbb; obtain ⟨hccw2, hffw2⟩ := hbb.both; have hzw2 := hbb.size; (try simp [go_sem] at hzw2); (try (refine (fun (_ : w0.heap.size < w2.heap.size) => ?_) ?_; rotate_left; omega)); (try (refine (fun (_ : w0.heap.size + 1 < w2.heap.size) => ?_) ?_; rotate_left; omega)); (try (refine (fun (_ : w1.heap.size < w2.heap.size) => ?_) ?_; rotate_left; omega)); (try (refine (fun (_ : w1.heap.size + 1 < w2.heap.size) => ?_) ?_; rotate_left; omega)))))
    all_goals go_split_ands
    all_goals go_wp2_with fail
    all_goals go_meet
    all_goals refine ⟨_, _, rfl, rfl, by assumption, ?_⟩
    all_goals first
      | ((with_reducible refine four_sets (x0 := .int .u64 0) (x1 := .int .u64 0) (y0 := .int .u64 0) (y1 := .int .u64 0) ?_ ?_ ?_ ?_ ?_ _ _ _ _) <;> first | omega | (simp [go_sem, *]; done))
      | (refine ⟨?_, ?_, ?_, ?_⟩ <;> (simp [go_sem, *]; done))
  case rest =>
    obtain ⟨g, g', rfl, rfl, E1, u0, u1, v0, v1⟩ := hcut
    have X1 := E0.trans E1
    replace y0 := E1.cell y0
    replace y1 := E1.cell y1
    clear n1 n2 n3 n4 x0 x1 h0 h1 h0' h1'
    cases a with
    | leaf n =>
      simp only [EvT.isLeaf_leaf, EvT.n_leaf] at *
      go_wp2_with fail
      refine (LA.out _ X1).mono ?_
      rintro e w1 ⟨rfl, rfl⟩
      go_wp2_with fail
      refine (less_any (y + b.n) (x + n) _).mono ?_
      rintro e w2 ⟨rfl, hb2⟩
      by_cases hle : x + n ≤ y + b.n
      · have hd : decide (y + b.n < x + n) = false := by simp; omega
        have H : Hid (leqF (.leaf n) b x y = true) := by simp [Hid, leqF]; omega
        go_wp2_with fail
        go_ret
        exact ⟨by rw [H.out]; rfl, X1.trans hb2⟩
      · have hd : decide (y + b.n < x + n) = true := by simp; omega
        have H : Hid (leqF (.leaf n) b x y = false) := by simp [Hid, leqF]; omega
        go_wp2_with fail
        go_ret
        exact ⟨by rw [H.out]; rfl, X1.trans hb2⟩
    | node n l r =>
      obtain ⟨p', bl, br, e', -, -, t2, t3, hp', tl, tr⟩ := HA.out.node_parts
      obtain rfl : p = p' := by simpa using e'
      have IL := (IH.out n l r rfl).1
      have IR := (IH.out n l r rfl).2
      simp only [EvT.isLeaf_node, EvT.n_node, EvT.top] at *
      replace t2 := X1.cell t2
      replace t3 := X1.cell t3
      have hpw := X1.lt _ hp
      have hyw := World.block_lt_of_cell? wc _ y0
      have hgw := World.block_lt_of_cell? wc _ u0
      have hgw' := World.block_lt_of_cell? wc _ v0
      cases b with
      | leaf m =>
        simp only [EvT.isLeaf_leaf, EvT.n_leaf, EvT.top] at *
        have JL := Lib.hid fun w' (hx : Ext w w') => IL (.leaf m) _ _ (x + n) y w' (tl.ext hx) (HB.out.ext hx) (by omega) (by simp only [EvT.top]; omega)
        have JR := Lib.hid fun w' (hx : Ext w w') => IR (.leaf m) _ _ (x + n) y w' (tr.ext hx) (HB.out.ext hx) (by omega) (by simp only [EvT.top]; omega)
        clear IL IR tl tr
        have H : Hid (leqF (.node n l r) (.leaf m) x y = (leqF l (.leaf m) (x + n) y && leqF r (.leaf m) (x + n) y)) := rfl
        cases hL : leqF l (.leaf m) (x + n) y with
        | false =>
          rw [hL] at JL
          go_wp2_with (first
            | (go_at_call_of 47 (Value.pointer (some ⟨p, 0, none⟩)); refine (LA.out _ X1).mono ?_; rintro e w1 ⟨rfl, rfl⟩)
            | (go_at_call_of 47 (Value.pointer (some ⟨q, 0, none⟩)); refine (LB.out _ X1).mono ?_; rintro e w1 ⟨rfl, rfl⟩))
          refine wp_region_noPanic ?_
          refine wp_region_held_drew (S := (fun w' => Ext wc w' ∧ ∀ b o, b < wc.heap.size → w'.cell? ⟨b, o, none⟩ = wc.cell? ⟨b, o, none⟩)) (by kernel_rfl) ?_ (fun hHeld => ?_)
          · exact Ext.held (by repeat (first | assumption | exact Ext.refl _ | apply Ext.alloc | apply Ext.drew | apply Ext.drewN))
          refine wpAnyH_take (i := 0) (v := ?_) (oper_at rfl) (by kernel_rfl) (by kernel_rfl) (by kernel_rfl) (fun _ _ _ h => h) (Or.inl ⟨by rfl, ?_⟩) hHeld ?_
          rotate_left
          · (intro ww hSw; (try dsimp only at hSw); go_simp; try (with_reducible rfl))
          try simp only [Act.put, List.setIfInBounds_toArray, List.set_cons_zero, List.set_cons_succ]
          refine wpAnyH_take (i := 1) (v := ?_) (oper_at rfl) (by kernel_rfl) (by kernel_rfl) (by kernel_rfl) (fun _ _ _ h => h) (Or.inl ⟨by rfl, ?_⟩) hHeld ?_
          rotate_left
          · (intro ww hSw; (try dsimp only at hSw); go_simp; try (with_reducible rfl))
          try simp only [Act.put, List.setIfInBounds_toArray, List.set_cons_zero, List.set_cons_succ]
          refine wpAnyH_take (i := 2) (v := ?_) (oper_at rfl) (by kernel_rfl) (by kernel_rfl) (by kernel_rfl) (fun _ _ _ h => h) (Or.inl ⟨by rfl, ?_⟩) hHeld ?_
          rotate_left
          · (intro ww hSw; (try dsimp only at hSw); go_simp; try (with_reducible rfl))
          try simp only [Act.put, List.setIfInBounds_toArray, List.set_cons_zero, List.set_cons_succ]
          refine wpAnyH_take (i := 3) (v := ?_) (oper_at rfl) (by kernel_rfl) (by kernel_rfl) (by kernel_rfl) (fun _ _ _ h => h) (Or.inl ⟨by rfl, ?_⟩) hHeld ?_
          rotate_left
          · (intro ww hSw; (try dsimp only at hSw); go_simp; try (with_reducible rfl))
          try simp only [Act.put, List.setIfInBounds_toArray, List.set_cons_zero, List.set_cons_succ]
          refine wpAnyH_take (i := 4) (v := ?_) (oper_at rfl) (by kernel_rfl) (by kernel_rfl) (by kernel_rfl) (fun _ _ _ h => h) (Or.inl ⟨by rfl, ?_⟩) hHeld ?_
          rotate_left
          · (intro ww hSw; (try dsimp only at hSw); go_simp; try (with_reducible rfl))
          try simp only [Act.put, List.setIfInBounds_toArray, List.set_cons_zero, List.set_cons_succ]
          refine wpAnyH_take (i := 5) (v := ?_) (oper_at rfl) (by kernel_rfl) (by kernel_rfl) (by kernel_rfl) (fun _ _ _ h => h) (Or.inl ⟨by rfl, ?_⟩) hHeld ?_
          rotate_left
          · (intro ww hSw; (try dsimp only at hSw); go_simp; try (with_reducible rfl))
          try simp only [Act.put, List.setIfInBounds_toArray, List.set_cons_zero, List.set_cons_succ]
          refine wpAnyH_take (i := 6) (v := ?_) (oper_at rfl) (by kernel_rfl) (by kernel_rfl) (by kernel_rfl) (fun _ _ _ h => h) (Or.inl ⟨by rfl, ?_⟩) hHeld ?_
          rotate_left
          · (intro ww hSw; (try dsimp only at hSw); go_simp; try (with_reducible rfl))
          try simp only [Act.put, List.setIfInBounds_toArray, List.set_cons_zero, List.set_cons_succ]
          refine wpAnyH_ready (rs := [7]) (by kernel_rfl) (by simp) (AllReadyH.cons (oper_at rfl) (fun K hK => ?_) AllReadyH.nil)
          go_simp
          go_at_call 29
          refine (JL.out _ (X1.trans hHeld.1)).mono ?_
          rintro e w3 ⟨rfl, hbb⟩
          have hE3 : Ext wc w3 := Ext.trans hHeld.1 hbb
          try go_wp2_with fail
          refine hK.out _ _ ?_ (fun hHeld => ?_)
          · exact Ext.held (by repeat (first | assumption | exact Ext.refl _ | apply Ext.alloc | apply Ext.drew | apply Ext.drewN))
          clear hK K
          try simp only [Act.put, List.setIfInBounds_toArray, List.set_cons_zero, List.set_cons_succ]
          refine wpAnyH_take (i := 8) (v := ?_) (oper_at rfl) (by kernel_rfl) (by kernel_rfl) (by kernel_rfl) (fun _ _ _ h => h) (Or.inl ⟨by rfl, ?_⟩) hHeld ?_
          rotate_left
          · (intro ww hSw; (try dsimp only at hSw); go_simp; try (with_reducible rfl))
          try simp only [Act.put, List.setIfInBounds_toArray, List.set_cons_zero, List.set_cons_succ]
          refine wpAnyH_take (i := 9) (v := undef) (oper_at rfl) (by kernel_rfl) (by kernel_rfl) (by kernel_rfl) (fun _ _ _ h => h) (Or.inr ⟨by rfl, rfl⟩) hHeld ?_
          try simp only [Act.put, List.setIfInBounds_toArray, List.set_cons_zero, List.set_cons_succ]
          refine wpAnyH_take (i := 10) (v := undef) (oper_at rfl) (by kernel_rfl) (by kernel_rfl) (by kernel_rfl) (fun _ _ _ h => h) (Or.inr ⟨by rfl, rfl⟩) hHeld ?_
          try simp only [Act.put, List.setIfInBounds_toArray, List.set_cons_zero, List.set_cons_succ]
          refine wpAnyH_take (i := 11) (v := undef) (oper_at rfl) (by kernel_rfl) (by kernel_rfl) (by kernel_rfl) (fun _ _ _ h => h) (Or.inr ⟨by rfl, rfl⟩) hHeld ?_
          try simp only [Act.put, List.setIfInBounds_toArray, List.set_cons_zero, List.set_cons_succ]
          refine wpAnyH_take (i := 12) (v := undef) (oper_at rfl) (by kernel_rfl) (by kernel_rfl) (by kernel_rfl) (fun _ _ _ h => h) (Or.inr ⟨by rfl, rfl⟩) hHeld ?_
          try simp only [Act.put, List.setIfInBounds_toArray, List.set_cons_zero, List.set_cons_succ]
          refine wpAnyH_take (i := 13) (v := undef) (oper_at rfl) (by kernel_rfl) (by kernel_rfl) (by kernel_rfl) (fun _ _ _ h => h) (Or.inr ⟨by rfl, rfl⟩) hHeld ?_
          try simp only [Act.put, List.setIfInBounds_toArray, List.set_cons_zero, List.set_cons_succ]
          refine wpAnyH_take (i := 14) (v := undef) (oper_at rfl) (by kernel_rfl) (by kernel_rfl) (by kernel_rfl) (fun _ _ _ h => h) (Or.inr ⟨by rfl, rfl⟩) hHeld ?_
          try simp only [Act.put, List.setIfInBounds_toArray, List.set_cons_zero, List.set_cons_succ]
          refine wpAnyH_take (i := 15) (v := undef) (oper_at rfl) (by kernel_rfl) (by kernel_rfl) (by kernel_rfl) (fun _ _ _ h => h) (Or.inr ⟨by rfl, rfl⟩) hHeld ?_
          try simp only [Act.put, List.setIfInBounds_toArray, List.set_cons_zero, List.set_cons_succ]
          refine wpAnyH_take (i := 16) (v := undef) (oper_at rfl) (by kernel_rfl) (by kernel_rfl) (by kernel_rfl) (fun _ _ _ h => h) (Or.inr ⟨by rfl, rfl⟩) hHeld ?_
          try simp only [Act.put, List.setIfInBounds_toArray, List.set_cons_zero, List.set_cons_succ]
          refine wpAnyH_take (i := 17) (v := ?_) (oper_at rfl) (by kernel_rfl) (by kernel_rfl) (by kernel_rfl) (fun _ _ _ h => h) (Or.inl ⟨by rfl, ?_⟩) hHeld ?_
          rotate_left
          · (intro ww hSw; (try dsimp only at hSw); go_simp; try (with_reducible rfl))
          try simp only [Act.put, List.setIfInBounds_toArray, List.set_cons_zero, List.set_cons_succ]
          refine wpAnyH_take (i := 18) (v := ?_) (oper_at rfl) (by kernel_rfl) (by kernel_rfl) (by kernel_rfl) (fun _ _ _ h => h) (Or.inl ⟨by rfl, ?_⟩) hHeld ?_
          rotate_left
          · (intro ww hSw; (try dsimp only at hSw); go_simp; try (with_reducible rfl))
          try simp only [Act.put, List.setIfInBounds_toArray, List.set_cons_zero, List.set_cons_succ]
          refine wpAnyH_done (by kernel_rfl) ?_ _
          refine NoPanic.normal ?_
          go_wp2_with fail
          go_ret
          exact ⟨by rw [H.out, hL]; rfl, X1.trans hE3⟩
        | true =>
          rw [hL] at JL
          cases hR : leqF r (.leaf m) (x + n) y <;>
          · rw [hR] at JR
            go_wp2_with (first
              | (go_at_call_of 47 (Value.pointer (some ⟨p, 0, none⟩)); refine (LA.out _ X1).mono ?_; rintro e w1 ⟨rfl, rfl⟩)
              | (go_at_call_of 47 (Value.pointer (some ⟨q, 0, none⟩)); refine (LB.out _ X1).mono ?_; rintro e w1 ⟨rfl, rfl⟩))
            go_region_held3 (fun w' => Ext wc w' ∧ ∀ b o, b < wc.heap.size → w'.cell? ⟨b, o, none⟩ = wc.cell? ⟨b, o, none⟩)
              (refine Ext.held ?_ <;> repeat (first | assumption | exact Ext.refl _ | apply Ext.alloc | apply Ext.drew | apply Ext.drewN))
              (first
                | (go_at_call_of 29 (Value.pointer (some ⟨bl, 0, none⟩)); go_split_ands; ((with_reducible refine (JL.out _ (X1.trans (by assumption))).mono ?_); rintro e w3 ⟨rfl, hbb⟩; have hE3 : Ext wc w3 := Ext.trans (by assumption) hbb))
                | (go_at_call_of 29 (Value.pointer (some ⟨br, 0, none⟩)); go_split_ands; ((with_reducible refine (JR.out _ (X1.trans (by assumption))).mono ?_); rintro e w4 ⟨rfl, hbb⟩; have hE4 : Ext wc w4 := Ext.trans (by assumption) hbb)))
            go_wp2_with fail
            go_ret
            exact ⟨by rw [H.out, hL, hR]; rfl, X1.trans hE4⟩
      | node m l' r' =>
        obtain ⟨q', cl, cr, e'', -, -, s2, s3, hq', ul, ur⟩ := HB.out.node_parts
        obtain rfl : q = q' := by simpa using e''
        replace s2 := X1.cell s2
        replace s3 := X1.cell s3
        have hqw := X1.lt _ hq
        simp only [EvT.isLeaf_node, EvT.n_node, EvT.top] at *
        have JL := Lib.hid fun w' (hx : Ext w w') => IL l' _ _ (x + n) (y + m) w' (tl.ext hx) (ul.ext hx) (by omega) (by omega)
        have JR := Lib.hid fun w' (hx : Ext w w') => IR r' _ _ (x + n) (y + m) w' (tr.ext hx) (ur.ext hx) (by omega) (by omega)
        clear IL IR tl tr ul ur
        have H : Hid (leqF (.node n l r) (.node m l' r') x y = (leqF l l' (x + n) (y + m) && leqF r r' (x + n) (y + m))) := rfl
        cases hL : leqF l l' (x + n) (y + m) with
        | false =>
          rw [hL] at JL
          go_wp2_with (first
            | (go_at_call_of 47 (Value.pointer (some ⟨p, 0, none⟩)); refine (LA.out _ X1).mono ?_; rintro e w1 ⟨rfl, rfl⟩)
            | (go_at_call_of 47 (Value.pointer (some ⟨q, 0, none⟩)); refine (LB.out _ X1).mono ?_; rintro e w1 ⟨rfl, rfl⟩))
          refine wp_region_noPanic ?_
          refine wp_region_held_drew (S := (fun w' => Ext wc w' ∧ ∀ b o, b < wc.heap.size → w'.cell? ⟨b, o, none⟩ = wc.cell? ⟨b, o, none⟩)) (by kernel_rfl) ?_ (fun hHeld => ?_)
          · exact Ext.held (by repeat (first | assumption | exact Ext.refl _ | apply Ext.alloc | apply Ext.drew | apply Ext.drewN))
          refine wpAnyH_take (i := 0) (v := ?_) (oper_at rfl) (by kernel_rfl) (by kernel_rfl) (by kernel_rfl) (fun _ _ _ h => h) (Or.inl ⟨by rfl, ?_⟩) hHeld ?_
          rotate_left
          · (intro ww hSw; (try dsimp only at hSw); go_simp; try (with_reducible rfl))
          try simp only [Act.put, List.setIfInBounds_toArray, List.set_cons_zero, List.set_cons_succ]
          refine wpAnyH_take (i := 1) (v := ?_) (oper_at rfl) (by kernel_rfl) (by kernel_rfl) (by kernel_rfl) (fun _ _ _ h => h) (Or.inl ⟨by rfl, ?_⟩) hHeld ?_
          rotate_left
          · (intro ww hSw; (try dsimp only at hSw); go_simp; try (with_reducible rfl))
          try simp only [Act.put, List.setIfInBounds_toArray, List.set_cons_zero, List.set_cons_succ]
          refine wpAnyH_take (i := 2) (v := ?_) (oper_at rfl) (by kernel_rfl) (by kernel_rfl) (by kernel_rfl) (fun _ _ _ h => h) (Or.inl ⟨by rfl, ?_⟩) hHeld ?_
          rotate_left
          · (intro ww hSw; (try dsimp only at hSw); go_simp; try (with_reducible rfl))
          try simp only [Act.put, List.setIfInBounds_toArray, List.set_cons_zero, List.set_cons_succ]
          refine wpAnyH_take (i := 3) (v := ?_) (oper_at rfl) (by kernel_rfl) (by kernel_rfl) (by kernel_rfl) (fun _ _ _ h => h) (Or.inl ⟨by rfl, ?_⟩) hHeld ?_
          rotate_left
          · (intro ww hSw; (try dsimp only at hSw); go_simp; try (with_reducible rfl))
          try simp only [Act.put, List.setIfInBounds_toArray, List.set_cons_zero, List.set_cons_succ]
          refine wpAnyH_take (i := 4) (v := ?_) (oper_at rfl) (by kernel_rfl) (by kernel_rfl) (by kernel_rfl) (fun _ _ _ h => h) (Or.inl ⟨by rfl, ?_⟩) hHeld ?_
          rotate_left
          · (intro ww hSw; (try dsimp only at hSw); go_simp; try (with_reducible rfl))
          try simp only [Act.put, List.setIfInBounds_toArray, List.set_cons_zero, List.set_cons_succ]
          refine wpAnyH_take (i := 5) (v := ?_) (oper_at rfl) (by kernel_rfl) (by kernel_rfl) (by kernel_rfl) (fun _ _ _ h => h) (Or.inl ⟨by rfl, ?_⟩) hHeld ?_
          rotate_left
          · (intro ww hSw; (try dsimp only at hSw); go_simp; try (with_reducible rfl))
          try simp only [Act.put, List.setIfInBounds_toArray, List.set_cons_zero, List.set_cons_succ]
          refine wpAnyH_take (i := 6) (v := ?_) (oper_at rfl) (by kernel_rfl) (by kernel_rfl) (by kernel_rfl) (fun _ _ _ h => h) (Or.inl ⟨by rfl, ?_⟩) hHeld ?_
          rotate_left
          · (intro ww hSw; (try dsimp only at hSw); go_simp; try (with_reducible rfl))
          try simp only [Act.put, List.setIfInBounds_toArray, List.set_cons_zero, List.set_cons_succ]
          refine wpAnyH_take (i := 7) (v := ?_) (oper_at rfl) (by kernel_rfl) (by kernel_rfl) (by kernel_rfl) (fun _ _ _ h => h) (Or.inl ⟨by rfl, ?_⟩) hHeld ?_
          rotate_left
          · (intro ww hSw; (try dsimp only at hSw); go_simp; try (with_reducible rfl))
          try simp only [Act.put, List.setIfInBounds_toArray, List.set_cons_zero, List.set_cons_succ]
          refine wpAnyH_take (i := 8) (v := ?_) (oper_at rfl) (by kernel_rfl) (by kernel_rfl) (by kernel_rfl) (fun _ _ _ h => h) (Or.inl ⟨by rfl, ?_⟩) hHeld ?_
          rotate_left
          · (intro ww hSw; (try dsimp only at hSw); go_simp; try (with_reducible rfl))
          try simp only [Act.put, List.setIfInBounds_toArray, List.set_cons_zero, List.set_cons_succ]
          refine wpAnyH_take (i := 9) (v := ?_) (oper_at rfl) (by kernel_rfl) (by kernel_rfl) (by kernel_rfl) (fun _ _ _ h => h) (Or.inl ⟨by rfl, ?_⟩) hHeld ?_
          rotate_left
          · (intro ww hSw; (try dsimp only at hSw); go_simp; try (with_reducible rfl))
          try simp only [Act.put, List.setIfInBounds_toArray, List.set_cons_zero, List.set_cons_succ]
          refine wpAnyH_ready (rs := [10]) (by kernel_rfl) (by simp) (AllReadyH.cons (oper_at rfl) (fun K hK => ?_) AllReadyH.nil)
          go_simp
          go_at_call 29
          refine (JL.out _ (X1.trans hHeld.1)).mono ?_
          rintro e w3 ⟨rfl, hbb⟩
          have hE3 : Ext wc w3 := Ext.trans hHeld.1 hbb
          try go_wp2_with fail
          refine hK.out _ _ ?_ (fun hHeld => ?_)
          · exact Ext.held (by repeat (first | assumption | exact Ext.refl _ | apply Ext.alloc | apply Ext.drew | apply Ext.drewN))
          clear hK K
          try simp only [Act.put, List.setIfInBounds_toArray, List.set_cons_zero, List.set_cons_succ]
          refine wpAnyH_take (i := 11) (v := ?_) (oper_at rfl) (by kernel_rfl) (by kernel_rfl) (by kernel_rfl) (fun _ _ _ h => h) (Or.inl ⟨by rfl, ?_⟩) hHeld ?_
          rotate_left
          · (intro ww hSw; (try dsimp only at hSw); go_simp; try (with_reducible rfl))
          try simp only [Act.put, List.setIfInBounds_toArray, List.set_cons_zero, List.set_cons_succ]
          refine wpAnyH_take (i := 12) (v := undef) (oper_at rfl) (by kernel_rfl) (by kernel_rfl) (by kernel_rfl) (fun _ _ _ h => h) (Or.inr ⟨by rfl, rfl⟩) hHeld ?_
          try simp only [Act.put, List.setIfInBounds_toArray, List.set_cons_zero, List.set_cons_succ]
          refine wpAnyH_take (i := 13) (v := undef) (oper_at rfl) (by kernel_rfl) (by kernel_rfl) (by kernel_rfl) (fun _ _ _ h => h) (Or.inr ⟨by rfl, rfl⟩) hHeld ?_
          try simp only [Act.put, List.setIfInBounds_toArray, List.set_cons_zero, List.set_cons_succ]
          refine wpAnyH_take (i := 14) (v := undef) (oper_at rfl) (by kernel_rfl) (by kernel_rfl) (by kernel_rfl) (fun _ _ _ h => h) (Or.inr ⟨by rfl, rfl⟩) hHeld ?_
          try simp only [Act.put, List.setIfInBounds_toArray, List.set_cons_zero, List.set_cons_succ]
          refine wpAnyH_take (i := 15) (v := undef) (oper_at rfl) (by kernel_rfl) (by kernel_rfl) (by kernel_rfl) (fun _ _ _ h => h) (Or.inr ⟨by rfl, rfl⟩) hHeld ?_
          try simp only [Act.put, List.setIfInBounds_toArray, List.set_cons_zero, List.set_cons_succ]
          refine wpAnyH_take (i := 16) (v := undef) (oper_at rfl) (by kernel_rfl) (by kernel_rfl) (by kernel_rfl) (fun _ _ _ h => h) (Or.inr ⟨by rfl, rfl⟩) hHeld ?_
          try simp only [Act.put, List.setIfInBounds_toArray, List.set_cons_zero, List.set_cons_succ]
          refine wpAnyH_take (i := 17) (v := undef) (oper_at rfl) (by kernel_rfl) (by kernel_rfl) (by kernel_rfl) (fun _ _ _ h => h) (Or.inr ⟨by rfl, rfl⟩) hHeld ?_
          try simp only [Act.put, List.setIfInBounds_toArray, List.set_cons_zero, List.set_cons_succ]
          refine wpAnyH_take (i := 18) (v := undef) (oper_at rfl) (by kernel_rfl) (by kernel_rfl) (by kernel_rfl) (fun _ _ _ h => h) (Or.inr ⟨by rfl, rfl⟩) hHeld ?_
          try simp only [Act.put, List.setIfInBounds_toArray, List.set_cons_zero, List.set_cons_succ]
          refine wpAnyH_take (i := 19) (v := undef) (oper_at rfl) (by kernel_rfl) (by kernel_rfl) (by kernel_rfl) (fun _ _ _ h => h) (Or.inr ⟨by rfl, rfl⟩) hHeld ?_
          try simp only [Act.put, List.setIfInBounds_toArray, List.set_cons_zero, List.set_cons_succ]
          refine wpAnyH_take (i := 20) (v := undef) (oper_at rfl) (by kernel_rfl) (by kernel_rfl) (by kernel_rfl) (fun _ _ _ h => h) (Or.inr ⟨by rfl, rfl⟩) hHeld ?_
          try simp only [Act.put, List.setIfInBounds_toArray, List.set_cons_zero, List.set_cons_succ]
          refine wpAnyH_take (i := 21) (v := undef) (oper_at rfl) (by kernel_rfl) (by kernel_rfl) (by kernel_rfl) (fun _ _ _ h => h) (Or.inr ⟨by rfl, rfl⟩) hHeld ?_
          try simp only [Act.put, List.setIfInBounds_toArray, List.set_cons_zero, List.set_cons_succ]
          refine wpAnyH_take (i := 22) (v := undef) (oper_at rfl) (by kernel_rfl) (by kernel_rfl) (by kernel_rfl) (fun _ _ _ h => h) (Or.inr ⟨by rfl, rfl⟩) hHeld ?_
          try simp only [Act.put, List.setIfInBounds_toArray, List.set_cons_zero, List.set_cons_succ]
          refine wpAnyH_take (i := 23) (v := ?_) (oper_at rfl) (by kernel_rfl) (by kernel_rfl) (by kernel_rfl) (fun _ _ _ h => h) (Or.inl ⟨by rfl, ?_⟩) hHeld ?_
          rotate_left
          · (intro ww hSw; (try dsimp only at hSw); go_simp; try (with_reducible rfl))
          try simp only [Act.put, List.setIfInBounds_toArray, List.set_cons_zero, List.set_cons_succ]
          refine wpAnyH_take (i := 24) (v := ?_) (oper_at rfl) (by kernel_rfl) (by kernel_rfl) (by kernel_rfl) (fun _ _ _ h => h) (Or.inl ⟨by rfl, ?_⟩) hHeld ?_
          rotate_left
          · (intro ww hSw; (try dsimp only at hSw); go_simp; try (with_reducible rfl))
          try simp only [Act.put, List.setIfInBounds_toArray, List.set_cons_zero, List.set_cons_succ]
          refine wpAnyH_done (by kernel_rfl) ?_ _
          refine NoPanic.normal ?_
          go_wp2_with fail
          go_ret
          exact ⟨by rw [H.out, hL]; rfl, X1.trans hE3⟩
        | true =>
          rw [hL] at JL
          cases hR : leqF r r' (x + n) (y + m) <;>
          · rw [hR] at JR
            go_wp2_with (first
              | (go_at_call_of 47 (Value.pointer (some ⟨p, 0, none⟩)); refine (LA.out _ X1).mono ?_; rintro e w1 ⟨rfl, rfl⟩)
              | (go_at_call_of 47 (Value.pointer (some ⟨q, 0, none⟩)); refine (LB.out _ X1).mono ?_; rintro e w1 ⟨rfl, rfl⟩))
            go_region_held3 (fun w' => Ext wc w' ∧ ∀ b o, b < wc.heap.size → w'.cell? ⟨b, o, none⟩ = wc.cell? ⟨b, o, none⟩)
              (refine Ext.held ?_ <;> repeat (first | assumption | exact Ext.refl _ | apply Ext.alloc | apply Ext.drew | apply Ext.drewN))
              (first
                | (go_at_call_of 29 (Value.pointer (some ⟨bl, 0, none⟩)); go_split_ands; ((with_reducible refine (JL.out _ (X1.trans (by assumption))).mono ?_); rintro e w3 ⟨rfl, hbb⟩; have hE3 : Ext wc w3 := Ext.trans (by assumption) hbb))
                | (go_at_call_of 29 (Value.pointer (some ⟨br, 0, none⟩)); go_split_ands; ((with_reducible refine (JR.out _ (X1.trans (by assumption))).mono ?_); rintro e w4 ⟨rfl, hbb⟩; have hE4 : Ext wc w4 := Ext.trans (by assumption) hbb)))
            go_wp2_with fail
            go_ret
            exact ⟨by rw [H.out, hL, hR]; rfl, X1.trans hE4⟩
theorem leq_any (a : EvT) : ∀ (b : EvT) (va vb : Value) (x y : Nat) (w : World), EvAt w va a → EvAt w vb b → x + a.top < 2 ^ 127 → y + b.top < 2 ^ 127 → Calls Tryd.prog 29 #[va, vb, Wd x, Wd y] w (RetB (leqF a b x y) w) := by
  induction a with
  | leaf n => intro b va vb x y w ha hb hx hy; exact leq_step _ b va vb x y w ha hb hx hy (fun _ _ _ h => by cases h)
  | node n l r ihl ihr =>
    intro b va vb x y w ha hb hx hy
    refine leq_step _ b va vb x y w ha hb hx hy (fun _ _ _ h => ?_)
    cases h
    exact ⟨ihl, ihr⟩
end Go.Proofs.YtjeclmmikjpinaaDoor.I
