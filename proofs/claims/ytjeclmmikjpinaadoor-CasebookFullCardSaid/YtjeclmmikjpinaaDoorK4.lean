/- The walks over fits and equal of event trees. -/
import Derived.Test.YtjeclmmikjpinaaDoorK2
namespace Go.Proofs.YtjeclmmikjpinaaDoor.I
open Go.RowKit
attribute [local go_sem ↓] Go.wp_at_zero Go.wp_at_succ
theorem less_most (n : Nat) (w : World) : Calls Tryd.prog 48 #[.agg #[.int .u64 0, .int .u64 4611686018427387904], Wd n] w (RetB (decide (4611686018427387904 < n)) w) := less_any 4611686018427387904 n w
set_option maxHeartbeats 1000000 in
theorem fits_any (t : EvT) : ∀ (v : Value) (w : World), EvAt w v t → Calls Tryd.prog 41 #[v] w (RetB t.fits w) := by
  induction t with
  | leaf n =>
    intro v w h
    have LA := Lib.hid fun w' (hx : Ext w w') => leaf_any _ _ w' (h.ext hx)
    obtain ⟨b, ql, qr, rfl, h0, h1, h2, h3, hbs, hk⟩ := h.kids
    simp only [EvT.n, EvT.isLeaf] at *
    clear hk h
    by_cases hn : 4611686018427387904 < n
    · have hd : decide (4611686018427387904 < n) = true := by simpa using hn
      have H : Hid ((EvT.leaf n).fits = false) := by simp [Hid, EvT.fits]; omega
      clear hn
      go_enter Tryd.func41, Tryd.ntmps41
      go_wp2_with fail
      refine (less_most n _).mono ?_
      rintro e w1 ⟨rfl, hb1⟩
      rw [hd]
      go_wp2_with fail
      go_ret
      exact ⟨by rw [H.out]; rfl, hb1⟩
    · have hd : decide (4611686018427387904 < n) = false := by simpa using hn
      have H : Hid ((EvT.leaf n).fits = true) := by simp [Hid, EvT.fits]; omega
      clear hn
      go_enter Tryd.func41, Tryd.ntmps41
      go_wp2_with fail
      refine (less_most n _).mono ?_
      rintro e w1 ⟨rfl, hb1⟩
      rw [hd]
      go_wp2_with fail
      refine (LA.out _ hb1).mono ?_
      rintro e w2 ⟨rfl, rfl⟩
      go_wp2_with fail
      go_ret
      exact ⟨by rw [H.out]; rfl, hb1⟩
  | node n l r ihl ihr =>
    intro v w h
    have LA := Lib.hid fun w' (hx : Ext w w') => leaf_any _ _ w' (h.ext hx)
    obtain ⟨b, bl, br, rfl, h0, h1, h2, h3, hbs, hl, hr⟩ := h.node_parts
    simp only [EvT.isLeaf] at *
    clear h
    have IL := Lib.hid ihl
    have IR := Lib.hid ihr
    clear ihl ihr
    by_cases hn : 4611686018427387904 < n
    · have hd : decide (4611686018427387904 < n) = true := by simpa using hn
      have H : Hid ((EvT.node n l r).fits = false) := by simp [Hid, EvT.fits]; omega
      clear hn
      go_enter Tryd.func41, Tryd.ntmps41
      go_wp2_with fail
      refine (less_most n _).mono ?_
      rintro e w1 ⟨rfl, hb1⟩
      rw [hd]
      go_wp2_with fail
      go_ret
      exact ⟨by rw [H.out]; rfl, hb1⟩
    · have hd : decide (4611686018427387904 < n) = false := by simpa using hn
      have hn' : n ≤ 4611686018427387904 := by omega
      have H : Hid ((EvT.node n l r).fits = (l.fits && r.fits)) := by simp [Hid, EvT.fits, hn']
      clear hn hn'
      go_enter Tryd.func41, Tryd.ntmps41
      go_wp2_with fail
      refine (less_most n _).mono ?_
      rintro e w1 ⟨rfl, hb1⟩
      rw [hd]
      have g2 := hb1.cell h2
      have g3 := hb1.cell h3
      go_wp2_with fail
      refine (LA.out _ hb1).mono ?_
      rintro e w2 ⟨rfl, rfl⟩
      go_wp2_with fail
      refine (IL.out _ _ (hl.ext hb1)).mono ?_
      rintro e w2 ⟨rfl, hb2⟩
      have k3 := hb2.cell g3
      cases hL : l.fits with
      | false =>
        go_wp2_with fail
        go_ret
        exact ⟨by rw [H.out, hL]; rfl, hb1.trans hb2⟩
      | true =>
        go_wp2_with fail
        refine (IR.out _ _ (hr.ext (hb1.trans hb2))).mono ?_
        rintro e w3 ⟨rfl, hb3⟩
        cases hR : r.fits <;>
        · go_wp2_with fail
          go_ret
          exact ⟨by rw [H.out, hL, hR]; rfl, (hb1.trans hb2).trans hb3⟩
set_option maxHeartbeats 1000000 in
theorem same_ne (t o : EvT) (v u : Value) (w : World) (h : EvAt w v t) (k : EvAt w u o) (hc : (t.n == o.n) = false) : Calls Tryd.prog 53 #[v, u] w fun e w' => e = .returned (.bool (t.same o)) ∧ ∃ m, w' = w.drewN m := by
  obtain ⟨b, ql, qr, rfl, h0, h1, h2, h3, hbs, hk⟩ := h.kids
  obtain ⟨b', ql', qr', rfl, h0', h1', h2', h3', hbs', hk'⟩ := k.kids
  have he := run_neq_wide t.n o.n
  have H : Hid (t.same o = false) := by cases t <;> cases o <;> simp_all [Hid, EvT.same, EvT.n]
  rw [hc] at he
  clear hk hk' h k
  go_enter Tryd.func53, Tryd.ntmps53
  go_wp2_with fail
  go_quiet (fail)
  go_wp2_with fail
  go_ret
  exact ⟨by rw [H.out]; rfl, nq, rfl⟩
set_option maxHeartbeats 1000000 in
theorem same_shape (t o : EvT) (v u : Value) (w : World) (h : EvAt w v t) (k : EvAt w u o) (hc : (t.n == o.n) = true) (hs : (t.isLeaf == o.isLeaf) = false) : Calls Tryd.prog 53 #[v, u] w fun e w' => e = .returned (.bool (t.same o)) ∧ ∃ m, w' = w.drewN m := by
  have LA := Lib.hid fun w' (hx : Ext w w') => leaf_any _ _ w' (h.ext hx)
  have LB := Lib.hid fun w' (hx : Ext w w') => leaf_any _ _ w' (k.ext hx)
  obtain ⟨b, ql, qr, rfl, h0, h1, h2, h3, hbs, hk⟩ := h.kids
  obtain ⟨b', ql', qr', rfl, h0', h1', h2', h3', hbs', hk'⟩ := k.kids
  have he := run_neq_wide t.n o.n
  have H : Hid (t.same o = false) := by cases t <;> cases o <;> simp_all [Hid, EvT.same, EvT.isLeaf]
  rw [hc] at he
  clear hk hk' h k
  cases hA : t.isLeaf <;> cases hB : o.isLeaf <;> rw [hA] at LA <;> rw [hB] at LB <;> rw [hA, hB] at hs <;> first | (exact absurd hs (by decide)) | skip
  all_goals
    clear hA hB hs
    go_enter Tryd.func53, Tryd.ntmps53
    go_wp2_with fail
    go_quiet (first
      | (go_at_call_of 47 (Value.pointer (some ⟨b, 0, none⟩)); exact quietOf LA.out (Ext.refl w))
      | (go_at_call_of 47 (Value.pointer (some ⟨b', 0, none⟩)); exact quietOf LB.out (Ext.refl w)))
    go_wp2_with fail
    go_ret
    exact ⟨by rw [H.out]; rfl, nq, rfl⟩
set_option maxHeartbeats 1000000 in
theorem same_leaf (n : Nat) (v u : Value) (w : World) (h : EvAt w v (.leaf n)) (k : EvAt w u (.leaf n)) : Calls Tryd.prog 53 #[v, u] w fun e w' => e = .returned (.bool true) ∧ ∃ m, w' = w.drewN m := by
  have LA := Lib.hid fun w' (hx : Ext w w') => leaf_any _ _ w' (h.ext hx)
  have LB := Lib.hid fun w' (hx : Ext w w') => leaf_any _ _ w' (k.ext hx)
  obtain ⟨b, ql, qr, rfl, h0, h1, h2, h3, hbs, hk⟩ := h.kids
  obtain ⟨b', ql', qr', rfl, h0', h1', h2', h3', hbs', hk'⟩ := k.kids
  simp only [EvT.n_leaf, EvT.isLeaf_leaf] at *
  have he := run_neq_wide n n
  have hc : (n == n) = true := by simp
  rw [hc] at he
  clear hk hk' h k
  go_enter Tryd.func53, Tryd.ntmps53
  go_wp2_with fail
  go_quiet (first
    | (go_at_call_of 47 (Value.pointer (some ⟨b, 0, none⟩)); exact quietOf LA.out (Ext.refl w))
    | (go_at_call_of 47 (Value.pointer (some ⟨b', 0, none⟩)); exact quietOf LB.out (Ext.refl w)))
  generalize hW : w.drewN nq = w0
  obtain ⟨x0, -, HW⟩ := letter0 hW
  clear hW
  go_wp2_with fail
  go_quiet (first
    | (go_at_call_of 47 (Value.pointer (some ⟨b, 0, none⟩)); exact quietOf LA.out x0)
    | (go_at_call_of 47 (Value.pointer (some ⟨b', 0, none⟩)); exact quietOf LB.out x0))
  rename_i n1
  go_wp2_with fail
  go_ret
  exact ⟨rfl, _, by rw [HW.out, World.drewN_drewN]⟩
set_option maxHeartbeats 2000000 in
theorem same_node (n : Nat) (l r l' r' : EvT) (v u : Value) (w : World) (h : EvAt w v (.node n l r)) (k : EvAt w u (.node n l' r'))
    (ihl : ∀ (v u : Value) (w : World), EvAt w v l → EvAt w u l' → Calls Tryd.prog 53 #[v, u] w fun e w' => e = .returned (.bool (l.same l')) ∧ ∃ m, w' = w.drewN m)
    (ihr : ∀ (v u : Value) (w : World), EvAt w v r → EvAt w u r' → Calls Tryd.prog 53 #[v, u] w fun e w' => e = .returned (.bool (r.same r')) ∧ ∃ m, w' = w.drewN m) :
    Calls Tryd.prog 53 #[v, u] w fun e w' => e = .returned (.bool (l.same l' && r.same r')) ∧ ∃ m, w' = w.drewN m := by
  have LA := Lib.hid fun w' (hx : Ext w w') => leaf_any _ _ w' (h.ext hx)
  have LB := Lib.hid fun w' (hx : Ext w w') => leaf_any _ _ w' (k.ext hx)
  obtain ⟨b, bl, br, rfl, h0, h1, h2, h3, hbs, hl, hr⟩ := h.node_parts
  obtain ⟨b', bl', br', rfl, h0', h1', h2', h3', hbs', hl', hr'⟩ := k.node_parts
  simp only [EvT.isLeaf_node] at *
  have he := run_neq_wide n n
  have hc : (n == n) = true := by simp
  rw [hc] at he
  have IL := Lib.hid fun w' (hx : Ext w w') => ihl _ _ w' (hl.ext hx) (hl'.ext hx)
  have IR := Lib.hid fun w' (hx : Ext w w') => ihr _ _ w' (hr.ext hx) (hr'.ext hx)
  clear h k ihl ihr
  go_enter Tryd.func53, Tryd.ntmps53
  go_wp2_with fail
  go_quiet (first
    | (go_at_call_of 47 (Value.pointer (some ⟨b, 0, none⟩)); exact quietOf LA.out (Ext.refl w))
    | (go_at_call_of 47 (Value.pointer (some ⟨b', 0, none⟩)); exact quietOf LB.out (Ext.refl w)))
  generalize hW : w.drewN nq = w0
  obtain ⟨x0, hcc, HW⟩ := letter0 hW
  clear hW
  cases hL : l.same l' with
  | false =>
    rw [hL] at IL
    go_wp2_with fail
    go_quiet (first
      | (go_at_call_of 47 (Value.pointer (some ⟨b, 0, none⟩)); exact quietOf LA.out x0)
      | (go_at_call 53; exact Calls.quiet_of (IL.out _ (x0.drewN _))))
    go_wp2_with fail
    go_ret
    exact ⟨by rw [hL]; rfl, _, by rw [HW.out, World.drewN_drewN]⟩
  | true =>
    rw [hL] at IL
    cases hR : r.same r' <;>
    · rw [hR] at IR
      go_wp2_with fail
      go_quiet (first
        | (go_at_call_of 47 (Value.pointer (some ⟨b, 0, none⟩)); exact quietOf LA.out x0)
        | (go_at_call_of 53 (Value.pointer (some ⟨bl, 0, none⟩)); exact Calls.quiet_of (IL.out _ (x0.drewN _)))
        | (go_at_call_of 53 (Value.pointer (some ⟨br, 0, none⟩)); exact Calls.quiet_of (IR.out _ (x0.drewN _))))
      go_wp2_with fail
      go_ret
      exact ⟨by rw [hL, hR]; rfl, _, by rw [HW.out, World.drewN_drewN]⟩
theorem same_any (t : EvT) : ∀ (o : EvT) (v u : Value) (w : World), EvAt w v t → EvAt w u o → Calls Tryd.prog 53 #[v, u] w fun e w' => e = .returned (.bool (t.same o)) ∧ ∃ m, w' = w.drewN m := by
  induction t with
  | leaf n =>
    intro o v u w h k
    cases hc : ((EvT.leaf n).n == o.n) with
    | false => exact same_ne _ _ _ _ _ h k hc
    | true =>
      cases o with
      | node m l r => exact same_shape _ _ _ _ _ h k hc rfl
      | leaf m =>
        simp only [EvT.n, beq_iff_eq] at hc
        subst hc
        simpa [EvT.same] using same_leaf n v u w h k
  | node n l r ihl ihr =>
    intro o v u w h k
    cases hc : ((EvT.node n l r).n == o.n) with
    | false => exact same_ne _ _ _ _ _ h k hc
    | true =>
      cases o with
      | leaf m => exact same_shape _ _ _ _ _ h k hc rfl
      | node m l' r' =>
        simp only [EvT.n, beq_iff_eq] at hc
        subst hc
        simpa [EvT.same] using same_node n l r l' r' v u w h k (ihl l') (ihr r')
end Go.Proofs.YtjeclmmikjpinaaDoor.I
