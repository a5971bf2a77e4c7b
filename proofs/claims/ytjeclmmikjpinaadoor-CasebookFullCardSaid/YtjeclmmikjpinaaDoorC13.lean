/- List, mark, Stamp, id, Root. -/
import Derived.Test.YtjeclmmikjpinaaDoorC12
import Derived.Test.YtjeclmmikjpinaaDoorC8
namespace Go.Proofs.YtjeclmmikjpinaaDoor
open Go.RowKit
open I (IdT EvT IdAt EvAt SeenAt StAt)
attribute [local go_sem ↓] Go.wp_at_zero Go.wp_at_succ
attribute [local go_sem ↓] ld48 st48 al48 bu48
attribute [local go_sem] run_al48 run_bu48 run_st48n run_sl48 run_fld51
theorem list10_ok (g r : Nat) (i : IdT) (t : EvT) (ks : List (List UInt8)) (w : World) (h : BookAt w g r i t ks) (hl : ks.length ≤ 100000) : Calls Tryd.prog 10 #[.pointer (some ⟨g, 0, none⟩)] w (RetLs ks w) := by
  obtain ⟨qi, qs, hb, hs⟩ := h.st
  have a2 := hb.cell (k := 2) (by decide)
  simp only [bkF, if_false, Nat.reduceEqDiff] at a2
  have C1 := Lib.hid (keys24_ok r w)
  have C2 : Hid (∀ W Bm, Ext w W → W.cell? ⟨Bm, 0, none⟩ = some (.map (some r)) → Calls Tryd.prog 26 #[.func (.func 44) #[] #[.pointer (some ⟨Bm, 0, none⟩)], .func (.func 28) #[] #[]] W (RetLs ks W)) := Lib.hid (fun W Bm hW hc => sorted23_ok Bm r ks hl W hc (h.mp.ext hW))
  clear h hb hs hl
  go_enter Tryd.func10, Tryd.ntmps10
  go_wp2_with fail
  refine C1.out.mono ?_
  rintro _ w1 ⟨rfl, hc, hE⟩
  have C3 := Lib.hid (C2.out w1 _ hE hc)
  have HE := Lib.hid hE
  clear C1 C2 hc hE
  go_wp2_with fail
  refine C3.out.mono ?_
  rintro _ w2 ⟨v, ss, rfl, hr, ha, hm, hE2⟩
  have HR := Lib.hid (hr.base HE.out.size)
  have HE2 := Lib.hid (HE.out.trans hE2)
  clear hr hE2
  go_wp2_with fail
  go_ret
  exact ⟨v, ss, rfl, HR.out, ha, hm, HE2.out⟩
theorem mark31_ok (w : World) : Calls Tryd.prog 21 #[.bool false] w (RetP (.int .u8 0) w) := by
  go_enter Tryd.func21, Tryd.ntmps21
  go_wp2_with fail
  go_ret
  exact ⟨rfl, rfl⟩
/-- A digest out of a row, loaded whole. -/
theorem ids_get {l : List (List UInt8)} {j : Nat} (h : j < l.length) : (l.map idC).getD j [] = idC (l.getD j []) := by
  rw [List.getD_eq_getElem?_getD, List.getElem?_map, List.getElem?_eq_getElem h, List.getD_eq_getElem?_getD, List.getElem?_eq_getElem h]
  rfl
theorem ids_read {w : World} {B : Nat} {v : Value} {l : List (List UInt8)} (h : Row 32 w B 27 v (l.map idC)) : ∃ A c, v = .slice A l.length c ∧ ∀ j, j < l.length → ∃ b : Nat, A = some ⟨b, 0, none⟩ ∧ v.ownBlock = some b ∧ b < w.heap.size ∧ ∀ W, W.heap[b]? = w.heap[b]? → (ldS 27 (.pointer (some ⟨b, j * 32, none⟩))).run Tryd.prog W = .ok (idV (l.getD j [])) W := by
  have h' := h.2
  rcases h'.2 with ⟨rfl, h0⟩ | ⟨g, cap, cur, rfl, hb, hc, h1, h2, h3, h4⟩
  · refine ⟨none, 0, ?_, fun j hj => ?_⟩
    · rw [List.length_map] at h0
      rw [h0]
    · rw [List.length_map] at h0
      omega
  · refine ⟨some ⟨g, 0, none⟩, cap, by rw [List.length_map], fun j hj => ⟨g, rfl, rfl, (Array.getElem?_eq_some_iff.1 hc).1, fun W hW => ?_⟩⟩
    refine run_ld48 fun i hi => ?_
    have hcell : w.cell? ⟨g, j * 32 + i, none⟩ = some (idF (l.getD j []) i) := by
      have := World.ownsRow.cells h' rfl (j * 32 + i) (idF (l.getD j []) i) (by
        rw [h.1.at_ (by rw [List.length_map]; exact hj) hi, ids_get hj]
        unfold idC
        rw [Array.getElem?_toList, arV_at hi])
      rw [add0] at this
      exact this
    unfold World.cell? at hcell ⊢
    rw [hW]
    exact hcell
/-- What the root is the digest of: each digest, and 0 behind it. -/
def rtL (ss : List (List UInt8)) : List UInt8 := (ss.map (· ++ [0])).flatten
theorem rtL_snoc (ss : List (List UInt8)) (d : List UInt8) : rtL (ss ++ [d]) = rtL ss ++ (d ++ [0]) := by simp [rtL]
theorem rtL_len : ∀ (ss : List (List UInt8)), (∀ d ∈ ss, d.length = 32) → (rtL ss).length = 33 * ss.length
  | [], _ => rfl
  | d :: ss, h => by
    have e : rtL (d :: ss) = d ++ [0] ++ rtL ss := by simp [rtL]
    rw [e, List.length_append, List.length_append, rtL_len ss (fun x hx => h x (by simp [hx])), h d (by simp), List.length_cons, List.length_cons, List.length_nil]
    omega
theorem asc_ext : ∀ {xs ys : List (List UInt8)}, xs.Pairwise (· < ·) → ys.Pairwise (· < ·) → (∀ x, x ∈ xs ↔ x ∈ ys) → xs = ys
  | [], [], _, _, _ => rfl
  | [], y :: ys, _, _, h => absurd ((h y).2 (by simp)) (by simp)
  | x :: xs, [], _, _, h => absurd ((h x).1 (by simp)) (by simp)
  | x :: xs, y :: ys, h1, h2, h => by
    rw [List.pairwise_cons] at h1 h2
    have e : x = y := by
      rcases List.mem_cons.1 ((h x).1 (by simp)) with e | hx
      · exact e
      · rcases List.mem_cons.1 ((h y).2 (by simp)) with e | hy
        · exact e.symm
        · exact absurd (h2.1 x hx) (slt_asymm (h1.1 y hy))
    subst e
    rw [asc_ext h1.2 h2.2 fun z => ?_]
    have hz := h z
    constructor
    · intro hm
      rcases List.mem_cons.1 (hz.1 (by simp [hm])) with rfl | h3
      · exact absurd (h1.1 _ hm) (slt_irrefl _)
      · exact h3
    · intro hm
      rcases List.mem_cons.1 (hz.2 (by simp [hm])) with rfl | h3
      · exact absurd (h2.1 _ hm) (slt_irrefl _)
      · exact h3
theorem asc_nodup {xs : List (List UInt8)} (h : xs.Pairwise (· < ·)) : xs.Nodup := by
  rw [List.nodup_iff_pairwise_ne]
  refine h.imp ?_
  rintro a b h1 rfl
  exact slt_irrefl _ h1
/-- The root: of the digests in ascending order. -/
def RootIs (ks : List (List UInt8)) (d : List UInt8) : Prop := ∃ ss : List (List UInt8), ss.Pairwise (· < ·) ∧ (∀ x, x ∈ ss ↔ x ∈ ks) ∧ d = shaF (rtL ss)
theorem RootIs.same {ks us : List (List UInt8)} {d e : List UInt8} (h : RootIs ks d) (k : RootIs us e) (hk : ∀ x, x ∈ ks ↔ x ∈ us) : d = e := by
  obtain ⟨ss, h1, h2, rfl⟩ := h
  obtain ⟨ts, k1, k2, rfl⟩ := k
  rw [asc_ext h1 k1 fun x => (h2 x).trans ((hk x).trans (k2 x).symm)]
theorem RootIs.len {ks : List (List UInt8)} {d : List UInt8} (h : RootIs ks d) : d.length = 32 := by
  obtain ⟨ss, h1, h2, rfl⟩ := h
  exact shaF_len _
def RetRt (ks : List (List UInt8)) (w : World) (e : Ending) (w' : World) : Prop := ∃ d, RootIs ks d ∧ e = .returned (idV d) ∧ Ext w w'
set_option maxRecDepth 100000 in
set_option maxHeartbeats 2000000 in
theorem root16_ok (g r : Nat) (i : IdT) (t : EvT) (ks : List (List UInt8)) (w : World) (h : BookAt w g r i t ks) (hl : ks.length ≤ 1000) (hT : Tab w) : Calls Tryd.prog 8 #[.pointer (some ⟨g, 0, none⟩)] w (RetRt ks w) := by
  obtain ⟨qi, qs, hb, hs⟩ := h.st
  have hg := h.ty.lt
  have a2 := hb.cell (k := 2) (by decide)
  simp only [bkF, if_false, Nat.reduceEqDiff] at a2
  have HT := Lib.hid hT
  have HA := Lib.hid a2
  have HBK := Lib.hid h
  have HL := Lib.hid hl
  have HN := Lib.hid h.mp.nodup
  have HLG := Lib.hid h.mp.long
  clear h hb hs hl hT a2
  go_enter Tryd.func8, Tryd.ntmps8
  go_upto_region 1 with fail
  generalize hwB : w.alloc (.cells (idA []) 27) = wB
  have HR0 : Hid (Bk wB w.heap.size 32 (idF [])) := Lib.hid (by rw [← hwB]; exact Bk.new (by decide))
  have HE0 : Hid (Ext w wB) := Lib.hid (by rw [← hwB]; exact (Ext.refl _).alloc _)
  have C1 := Lib.hid (list10_ok g r i t ks wB (HBK.out.ext HE0.out) (by have := HL.out; omega))
  clear hwB
  go_wp2_with fail
  refine C1.out.mono ?_
  rintro _ wL ⟨v, ss, rfl, hr, ha, hm, hE⟩
  have HLE : Hid (ss.length ≤ ks.length) := Lib.hid (nodup_len _ _ (asc_nodup ha) (fun x hx => (hm x).1 hx))
  have HD : Hid (∀ d ∈ ss, d.length = 32) := Lib.hid (fun d hd => HLG.out d ((hm d).1 hd))
  have HM := Lib.hid hm
  have HAS := Lib.hid ha
  obtain ⟨A, c, rfl, hrd⟩ := ids_read hr
  have HRD := Lib.hid hrd
  have HEL := Lib.hid (HE0.out.trans hE)
  have HRL := Lib.hid (HR0.out.ext hE)
  have HBL := Lib.hid (HBK.out.ext HEL.out)
  have aL := Lib.hid (HEL.out.cell HA.out)
  clear C1 HR0 hm ha hr hrd hE HBK HA
  go_wp2_with fail
  go_loopw [3, 12] (fun p i wr => ∃ (k : Nat) (v : Value), k ≤ ss.length ∧ i = iV (k : Int) ∧ p = v ∧ Row 1 wr wL.heap.size 5 v (bv (rtL (ss.take k))) ∧ Ext wL wr) (fun _ i _ => ss.length - (intOf i).toNat)
  case atStart => exact ⟨0, nilV, by omega, rfl, rfl, Row.nil _ _ _ _, Ext.refl _⟩
  case round =>
    obtain ⟨k, v, hk, rfl, rfl, hr, hX⟩ := hrel
    obtain ⟨ps, hps⟩ : ∃ ps, rtL (ss.take k) = ps := ⟨_, rfl⟩
    rw [hps] at hr
    have HPL : Hid (ps.length ≤ 33000) := Lib.hid (by
      rw [← hps, rtL_len _ (fun d hd => HD.out d (List.mem_of_mem_take hd)), List.length_take]
      have := HLE.out
      have := HL.out
      omega)
    have HPS := Lib.hid hps
    obtain ⟨Av, cv, hv, -, -⟩ := hr.form
    rw [bv_len] at hv
    obtain ⟨m, hm⟩ : ∃ m, ps.length = m := ⟨_, rfl⟩
    rw [hm] at hv
    subst hv
    have HM2 := Lib.hid hm
    have HR := Lib.hid hr
    have HX := Lib.hid hX
    clear hr hX hps hm
    have hss : ss.length ≤ 1000 := Nat.le_trans HLE.out HL.out
    by_cases hlt : k < ss.length
    · have q1 : (k : Int) < (ss.length : Int) := by omega
      have q0 : (0 : Int) ≤ (k : Int) := by omega
      obtain ⟨b, rfl, -, hb, hld⟩ := HRD.out k hlt
      obtain ⟨d, hd⟩ : ∃ d, ss.getD k [] = d := ⟨_, rfl⟩
      have HTK : Hid (ss.take (k + 1) = ss.take k ++ [d]) := Lib.hid (by
        rw [List.take_succ_eq_append_getElem hlt, ← hd, List.getD_eq_getElem?_getD, List.getElem?_eq_getElem hlt]
        rfl)
      have HDM : Hid (d ∈ ss) := Lib.hid (by
        rw [← hd, List.getD_eq_getElem?_getD, List.getElem?_eq_getElem hlt]
        exact List.getElem_mem hlt)
      have HDL : Hid (d.length = 32) := Lib.hid (HD.out d HDM.out)
      have l1 := hld wr (HX.out.block b hb)
      rw [hd] at l1
      clear hd hld hb
      go_upto_region 7 with fail
      generalize hw3 : wr.alloc (.cells (idA d) 27) = w3
      have HB3 : Hid (Bk w3 wr.heap.size 32 (idF d)) := Lib.hid (by rw [← hw3]; exact Bk.new (by decide))
      have HT3 : Hid (TyB w3 27 wr.heap.size) := Lib.hid (by rw [← hw3]; exact TyB.new _ _ _)
      have HX3 : Hid (Ext wr w3) := Lib.hid (by rw [← hw3]; exact (Ext.refl _).alloc _)
      have HXL : Hid (Ext wL w3) := Lib.hid (HX.out.trans HX3.out)
      have HR3 := Lib.hid (HR.out.ext HX3.out)
      clear hw3
      go_upto_region 8 with (at_builtin; refine wapp el38 rfl (.tmp 16) (.tmp 17) rfl (w5 := wL) (vs := bv ps) (us := bv d) rfl HXL.out HR3.out rfl (by rw [bv_len, HDL.out]) (bv_wide d) (HB3.out.bytes HDL.out).vs (bv_one d) (by rw [bv_len, bv_len, HDL.out]; have := HPL.out; omega) (by rw [bv_len, bv_len, HDL.out]; have := HPL.out; omega) ?_; intro v4 w4 hr4 hx4 hg4 _; rw [← bv_app] at hr4)
      have HB4 := Lib.hid (HB3.out.grownTy HT3.out HR3.out (by decide) hg4).1
      have HT4 := Lib.hid (HB3.out.grownTy HT3.out HR3.out (by decide) hg4).2
      have HR4 := Lib.hid hr4
      have HX4 := Lib.hid hx4
      obtain ⟨vk, hk1, hk2⟩ := look_any HBL.out.mp d HDL.out false
      obtain ⟨ks1, kA, kl, kc, rfl⟩ := hk1
      rw [if_neg (by decide)] at hk2
      obtain ⟨A4, c4, hv4, -, -⟩ := hr4.form
      rw [bv_len] at hv4
      obtain ⟨m4, hm4⟩ : ∃ m4, (ps ++ d).length = m4 := ⟨_, rfl⟩
      rw [hm4] at hv4
      subst hv4
      have HK2 := Lib.hid hk2
      have HM4 := Lib.hid hm4
      clear hr4 hx4 hg4 hk2 hm4 l1
      have KB : Hid (∀ W, Ext wL W → Bk W wr.heap.size 32 (idF d) → (fun w' => Ext wL w' ∧ w'.cell? ⟨g, 2, none⟩ = some (.map (some r)) ∧ (ldS 27 (.pointer (some ⟨wr.heap.size, 0, none⟩))).run Tryd.prog w' = .ok (idV d) w' ∧ (Instr.lookup 46 (.map (some r)) (idV d) false).run Tryd.prog w' = .ok (.agg #[.string ks1, .slice kA kl kc, .bool false]) w') W) := Lib.hid (fun W h hb => ⟨h, h.cell aL.out, hb.run_ld48, HK2.out W (h.block r HBL.out.mp.lt)⟩)
      as_aux_lemma =>
      refine wp_region_noPanic ?_
      refine wp_region_held_drew (S := (fun w' => Ext wL w' ∧ w'.cell? ⟨g, 2, none⟩ = some (.map (some r)) ∧ (ldS 27 (.pointer (some ⟨wr.heap.size, 0, none⟩))).run Tryd.prog w' = .ok (idV d) w' ∧ (Instr.lookup 46 (.map (some r)) (idV d) false).run Tryd.prog w' = .ok (.agg #[.string ks1, .slice kA kl kc, .bool false]) w')) (by kernel_rfl) ?_ (fun hHeld => ?_)
      · first | assumption | exact KB.out _ (by first | exact HX4.out | exact HX4.out.drew | exact hX6 | exact hX6.drew | exact hX7 | exact hX7.drew) (by first | exact HB4.out | exact hB6 | exact hB7)
      refine wpAnyH_take (i := 0) (v := ?_) (oper_at rfl) (by kernel_rfl) (by kernel_rfl) (by kernel_rfl) (fun _ _ _ h => h) (Or.inl ⟨by rfl, ?_⟩) hHeld ?_
      rotate_left
      · (intro ww hSw; (try dsimp only at hSw); go_simp; try (with_reducible rfl))
      try simp only [Act.put, List.setIfInBounds_toArray, List.set_cons_zero, List.set_cons_succ]
      refine wpAnyH_take (i := 1) (v := ?_) (oper_at rfl) (by kernel_rfl) (by kernel_rfl) (by kernel_rfl) (fun _ _ _ h => h) (Or.inl ⟨by rfl, ?_⟩) hHeld ?_
      rotate_left
      · (intro ww hSw; (try dsimp only at hSw); go_simp; try (with_reducible rfl))
      try simp only [Act.put, List.setIfInBounds_toArray, List.set_cons_zero, List.set_cons_succ]
      refine wpAnyH_take (i := 2) (v := ?_) (oper_at rfl) (by kernel_rfl) (by kernel_rfl) (by kernel_rfl) (fun _ _ _ h => h) (Or.inl ⟨by rfl, ?_⟩) hHeld ?_
      rotate_left
      · (intro ww hSw; (try dsimp only at hSw); go_simp; try (with_reducible rfl))
      try simp only [Act.put, List.setIfInBounds_toArray, List.set_cons_zero, List.set_cons_succ]
      refine wpAnyH_take (i := 3) (v := ?_) (oper_at rfl) (by kernel_rfl) (by kernel_rfl) (by kernel_rfl) (fun _ _ _ h => h) (Or.inl ⟨by rfl, ?_⟩) hHeld ?_
      rotate_left
      · (intro ww hSw; (try dsimp only at hSw); go_simp; try (with_reducible rfl))
      try simp only [Act.put, List.setIfInBounds_toArray, List.set_cons_zero, List.set_cons_succ]
      refine wpAnyH_take (i := 4) (v := ?_) (oper_at rfl) (by kernel_rfl) (by kernel_rfl) (by kernel_rfl) (fun _ _ _ h => h) (Or.inl ⟨by rfl, ?_⟩) hHeld ?_
      rotate_left
      · (intro ww hSw; (try dsimp only at hSw); go_simp; try (with_reducible rfl))
      try simp only [Act.put, List.setIfInBounds_toArray, List.set_cons_zero, List.set_cons_succ]
      refine wpAnyH_take (i := 5) (v := ?_) (oper_at rfl) (by kernel_rfl) (by kernel_rfl) (by kernel_rfl) (fun _ _ _ h => h) (Or.inl ⟨by rfl, ?_⟩) hHeld ?_
      rotate_left
      · (intro ww hSw; (try dsimp only at hSw); go_simp; try (with_reducible rfl))
      try simp only [Act.put, List.setIfInBounds_toArray, List.set_cons_zero, List.set_cons_succ]
      refine wpAnyH_take (i := 6) (v := ?_) (oper_at rfl) (by kernel_rfl) (by kernel_rfl) (by kernel_rfl) (fun _ _ _ h => h) (Or.inl ⟨by rfl, ?_⟩) hHeld ?_
      rotate_left
      · (intro ww hSw; (try dsimp only at hSw); go_simp; try (with_reducible rfl))
      try simp only [Act.put, List.setIfInBounds_toArray, List.set_cons_zero, List.set_cons_succ]
      refine wpAnyH_take (i := 7) (v := ?_) (oper_at rfl) (by kernel_rfl) (by kernel_rfl) (by kernel_rfl) (fun _ _ _ h => h) (Or.inl ⟨by rfl, ?_⟩) hHeld ?_
      rotate_left
      · (intro ww hSw; (try dsimp only at hSw); go_simp; try (with_reducible rfl))
      try simp only [Act.put, List.setIfInBounds_toArray, List.set_cons_zero, List.set_cons_succ]
      refine wpAnyH_ready (rs := [8]) (by kernel_rfl) (by simp) (AllReadyH.cons (oper_at rfl) (fun K hK => ?_) AllReadyH.nil)
      go_simp
      go_at_call 21
      refine (mark31_ok _).mono ?_
      rintro _ _ ⟨rfl, rfl⟩
      refine hK.out _ _ ?_ (fun hHeld => ?_)
      · first | assumption | exact KB.out _ (by first | exact HX4.out | exact HX4.out.drew | exact hX6 | exact hX6.drew | exact hX7 | exact hX7.drew) (by first | exact HB4.out | exact hB6 | exact hB7)
      clear hK K
      try simp only [Act.put, List.setIfInBounds_toArray, List.set_cons_zero, List.set_cons_succ]
      refine wpAnyH_ready (rs := [9]) (by kernel_rfl) (by simp) (AllReadyH.cons (oper_at rfl) (fun K hK => ?_) AllReadyH.nil)
      go_simp
      generalize hw6 : World.alloc _ (.cells #[.int .u8 0] 5) = w6
      have hX46 : Ext w4 w6 := by (rw [← hw6]; exact Ext.alloc (by repeat (first | assumption | exact Ext.refl _ | apply Ext.alloc | apply Ext.drew | apply Ext.drewN)) _)
      have hX6 : Ext wL w6 := HX4.out.trans hX46
      have hB6 : Bk w6 wr.heap.size 32 (idF d) := HB4.out.ext hX46
      have hT6 : TyB w6 27 wr.heap.size := HT4.out.ext hX46
      have HV6 : Hid (VsAt w6 (some ⟨_, 0, none⟩) (bv [0]).flatten) := Lib.hid (by rw [← hw6]; exact vs1 _ _ _)
      have HR6 := Lib.hid (HR4.out.ext hX46)
      clear hw6
      refine hK.out _ _ ?_ (fun hHeld => ?_)
      · first | assumption | exact KB.out _ (by first | exact HX4.out | exact HX4.out.drew | exact hX6 | exact hX6.drew | exact hX7 | exact hX7.drew) (by first | exact HB4.out | exact hB6 | exact hB7)
      clear hK K
      try simp only [Act.put, List.setIfInBounds_toArray, List.set_cons_zero, List.set_cons_succ]
      refine wpAnyH_ready (rs := [10]) (by kernel_rfl) (by simp) (AllReadyH.cons (oper_at rfl) (fun K hK => ?_) AllReadyH.nil)
      refine sapp el38 (by rfl) (.tmp 19) (.tmp 28) (by rfl) (w5 := wL) (vs := bv (ps ++ d)) (us := bv [0]) (by rfl) hX6.drew (HR6.out.ext ((Ext.refl _).drew)) (by rfl) (by rfl) (bv_wide _) (HV6.out.ext ((Ext.refl _).drew)) (bv_one _) (by have := HPL.out; rw [bv_len, bv_len, List.length_append, HDL.out]; simp; omega) (by have := HPL.out; rw [bv_len, bv_len, List.length_append, HDL.out]; simp; omega) ?_
      intro v7 w7 hr7 hX7 hg7 _
      rw [← bv_app] at hr7
      have hB7 := ((hB6.ext ((Ext.refl _).drew)).grownTy (hT6.ext ((Ext.refl _).drew)) (HR6.out.ext ((Ext.refl _).drew)) (by decide) hg7).1
      refine hK.out _ _ ?_ (fun hHeld => ?_)
      · first | assumption | exact KB.out _ (by first | exact HX4.out | exact HX4.out.drew | exact hX6 | exact hX6.drew | exact hX7 | exact hX7.drew) (by first | exact HB4.out | exact hB6 | exact hB7)
      clear hK K
      try simp only [Act.put, List.setIfInBounds_toArray, List.set_cons_zero, List.set_cons_succ]
      refine wpAnyH_take (i := 11) (v := ?_) (oper_at rfl) (by kernel_rfl) (by kernel_rfl) (by kernel_rfl) (fun _ _ _ h => h) (Or.inl ⟨by rfl, ?_⟩) hHeld ?_
      rotate_left
      · (intro ww hSw; (try dsimp only at hSw); go_simp; try (with_reducible rfl))
      try simp only [Act.put, List.setIfInBounds_toArray, List.set_cons_zero, List.set_cons_succ]
      refine wpAnyH_done (by kernel_rfl) ?_ _
      refine NoPanic.normal ?_
      have HR7 := Lib.hid hr7
      have HX7 := Lib.hid hX7
      obtain ⟨A7, c7, hv7, -, -⟩ := hr7.form
      subst hv7
      clear hr7 hX7 hg7 hB7 hB6 hT6 hX6 hX46 hHeld
      go_wp2_with fail
      refine ⟨⟨k + 1, _, by omega, by go_num, rfl, ?_, HX7.out⟩, by simp [intOf]; omega⟩
      rw [HTK.out, rtL_snoc, HPS.out, ← List.append_assoc]
      exact HR7.out
    · obtain rfl : k = ss.length := by omega
      have HPE : Hid (ps = rtL ss) := Lib.hid (by rw [← HPS.out, List.take_length])
      have HSL : Hid (SlB wr (.slice Av m cv) ps) := Lib.hid (by rw [← HM2.out]; have := HR.out; rw [← HM2.out] at this; exact this.slB)
      go_wp2_with fail
      refine (sum39_ok ps _ wr HSL.out (HT.out.ext (HEL.out.trans HX.out))).mono ?_
      rintro _ w5 ⟨rfl, hE5⟩
      have HE5 := Lib.hid (HEL.out.trans (HX.out.trans hE5))
      have HRR := Lib.hid (HRL.out.ext (HX.out.trans hE5))
      clear hE5
      have l2 := run_st48 HRR.out (shaF ps)
      go_wp2_with fail
      exact bodyPost_ret (resBk Tryd.results8 (g := w.heap.size) rfl HRR.out.putAll Tryd.underlying27 rfl Tryd.size27) rfl ⟨shaF ps, ⟨ss, HAS.out, HM.out, by rw [HPE.out]⟩, rfl, Ext.setCells (Nat.le_refl _) _ _ HE5.out⟩
end Go.Proofs.YtjeclmmikjpinaaDoor
