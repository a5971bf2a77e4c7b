/- The walk over HittingFree. -/
import Derived.Test.YtdcbejccplonjaaDoorB32
namespace Go.Proofs.YtdcbejccplonjaaDoor
open Go.RowKit
attribute [local go_sem ↓] Go.wp_at_zero Go.wp_at_succ
set_option maxRecDepth 100000 in
set_option maxHeartbeats 8000000 in
theorem free_law (xs : List Nat) (v : Value) (at_ b : Nat) (w : World) (h : Bs w v xs) (hu : U8 xs) (ha : at_ < 256) (hb : b < 256) (hT : Tab w) : Calls Tryd.prog 8 #[v, bV at_, bV b] w (RetB true w) := by
  have HT := Lib.hid hT
  have HV := Lib.hid h
  have HU := Lib.hid hu
  have hfl := famF_len xs
  have FR := Lib.hid (fun k (hk : k < (famF xs).length) => free8 hu hk hb)
  have FG := Lib.hid (fun k (hk : k < (famF xs).length) => famF_get hk)
  have HSE := Lib.hid (sets_any xs v w h hu)
  have HSW := Lib.hid (fun W (hE : Ext w W) => sets_any xs v W (h.ext hE) hu)
  obtain ⟨X, xc, rfl, x1, x2, RX⟩ := h.read
  have HRX := Lib.hid RX
  have MF : Hid (∀ k, moreF xs k b = (famF xs).reverse ++ [(famF xs).getD k [], nI (elems (xs.getD k 0 ||| b))]) := Lib.hid (fun k => rfl)
  obtain ⟨F, hF⟩ : ∃ F, famF xs = F := ⟨_, rfl⟩
  rw [hF] at FR FG HSE HSW MF hfl
  clear h hu hT hF x1 x2 RX
  go_enter Tryd.func8, Tryd.ntmps8
  go_wp2_with fail
  refine HSE.out.mono ?_
  rintro e1 w1 ⟨v1, rfl, hr1, hE1⟩
  have HE1 := Lib.hid hE1
  have HR1 := Lib.hid hr1
  obtain ⟨A, c, rfl, a1, a2, RA⟩ := hr1.read
  have HRA := Lib.hid RA
  clear hr1 hE1 RA HSE
  by_cases h0 : F.length = 0
  · have q0 : ((F.length : Int) == 0) = true := by simpa using h0
    go_wp2_with fail
    refine (awake_any w1 (HT.out.ext HE1.out)).mono ?_
    rintro e5 w5 ⟨rfl, hE5⟩
    have HE5 := Lib.hid hE5
    clear hE5
    go_wp2_with fail
    go_ret
    exact ⟨rfl, HE1.out.trans HE5.out⟩
  · have q0 : ((F.length : Int) == 0) = false := by simpa using h0
    have hk : at_ % F.length < F.length := Nat.mod_lt _ (by omega)
    have q2 : Int.tmod (at_ : Int) (F.length : Int) = ((at_ % F.length : Nat) : Int) := by exact (Int.ofNat_tmod _ _).symm
    obtain ⟨k, hke⟩ : ∃ k, at_ % F.length = k := ⟨_, rfl⟩
    rw [hke] at hk q2
    clear hke
    go_wp2_with fail
    go_loopw [9, 32] (fun t i wq => ∃ (j : Nat) (vs : List Value), j ≤ F.length ∧ i = iV (j : Int) ∧ Outs wq w1.heap.size t vs (F.reverse.take j) ∧ Ext w1 wq) (fun _ i _ => F.length - (intOf i).toNat)
    case atStart => exact ⟨0, [], by omega, rfl, Outs.nil _ _, Ext.refl _⟩
    case round =>
      obtain ⟨j, vs, hj, rfl, hO, hE⟩ := hrel
      generalize hwq : wr = wc at *
      have HO := Lib.hid hO
      have HX := Lib.hid hE
      clear hO hE
      by_cases hlt : j < F.length
      · obtain ⟨ad, u, rfl, c1, hu⟩ := HRA.out wc HX.out (F.length - 1 - j) (by omega)
        have HTK := Lib.hid (rev_get F ([] : List Int) hlt)
        have hvl : vs.length ≤ 10 := by have := HO.out.len; rw [List.length_take, List.length_reverse] at this; omega
        have hsl : (F.getD (F.length - 1 - j) []).length ≤ 64 := by
          rw [(FG.out (F.length - 1 - j) (by omega)).2.2, nI_len]; exact card_le64 _
        obtain ⟨s, hs⟩ : ∃ s, F.getD (F.length - 1 - j) [] = s := ⟨_, rfl⟩
        rw [hs] at hu HTK hsl
        have one : Hid (∀ x ∈ s.map iV, x.oneCell' = true) := Lib.hid (fun x hx => by obtain ⟨y, _, rfl⟩ := List.mem_map.1 hx; rfl)
        obtain ⟨U, uc, rfl, -, -, hv⟩ := SlAt.at_ hu
        have HVU := Lib.hid hv
        rw [List.length_map] at c1
        have c1 := (((Ext.refl wc).alloc (.cells #[] 3)).cell c1)
        have hml : (s.map iV).length = s.length := List.length_map _
        have HML := Lib.hid hml
        clear hs hu hv hml
        go_wp2_with (first
          | (at_builtin; (refine wapp el35 rfl (.tmp 36) (.tmp 44) rfl (w5 := wc) (vs := []) (us := s.map iV) rfl ((Ext.refl _).alloc _) (row_new (Nat.le_refl _) rfl (by simp)) rfl HML.out.symm (HVU.out.ext ((Ext.refl _).alloc _)) one.out (by rw [HML.out, List.length_nil]; omega) ?_; intro v3 w3 hr3 hE3 hg3 hb3; rw [List.nil_append] at hr3; obtain ⟨V, vc, e8, -, -⟩ := hr3.form; rw [HML.out] at e8; subst e8; have HR3 := Lib.hid hr3; have HE3 := Lib.hid hE3; clear hr3 hE3 hg3 hb3))
          | (at_builtin; (refine wapp el24 rfl (.tmp 35) (.tmp 46) rfl (w5 := w1) rfl ((HX.out.trans HE3.out).alloc _) ((HO.out.row.ext HE3.out).ext ((Ext.refl _).alloc _)) rfl rfl (vs1 _ _ _) (one1 rfl) (by rw [List.length_singleton]; omega) ?_; intro v4 w4 hr4 hE4 hg4 hb4)))
        have HP := HO.out.push HE3.out HR3.out hg4 hr4 hb4
        exact ⟨⟨j + 1, _, by omega, by go_num, by rw [HTK.out]; exact HP, hE4⟩, by simp [intOf]; omega⟩
      · obtain rfl : j = F.length := by omega
        have hft : F.reverse.take F.length = F.reverse := List.take_of_length_le (by rw [List.length_reverse]; omega)
        rw [hft] at HO
        obtain ⟨ad, u1, rfl, c1, hu1⟩ := HRA.out w1 (Ext.refl _) k hk
        obtain ⟨f1, f2, f3⟩ := FG.out k hk
        obtain ⟨xd, rfl, c2⟩ := HRX.out w1 HE1.out k f1
        have hX := HX.out
        have hvl : vs.length ≤ 10 := by have := HO.out.len; rw [List.length_reverse] at this; omega
        have hx8 := U8.get HU.out k
        have HMF := Lib.hid (MF.out k)
        obtain ⟨R, d1, d2, d3, d4, d5, d6⟩ := FR.out k hk
        have hrl := Nat.le_trans (lsF_len R) (r_len d5 d6)
        have hll := Nat.le_trans (lsF_len (leastF (xs.take 10))) (least_length (xs.take 10))
        rw [List.length_take] at hll
        obtain ⟨La, hLa⟩ : ∃ La, lsF (leastF (xs.take 10)) = La := ⟨_, rfl⟩
        rw [hLa] at d3 d4 hll
        obtain ⟨Ra, hRa⟩ : ∃ Ra, lsF R = Ra := ⟨_, rfl⟩
        rw [hRa] at d1 d2 hrl
        have hML : (moreF xs k b).length ≤ 12 := by rw [HMF.out]; simp; omega
        obtain ⟨M, hM⟩ : ∃ M, moreF xs k b = M := ⟨_, rfl⟩
        rw [hM] at HMF d2 d4 hML
        have D1 := Lib.hid d1
        have D2 := Lib.hid d2
        have D3 := Lib.hid d3
        have D4 := Lib.hid d4
        clear hM d1 d2 d3 d4 d5 d6 hLa hRa
        obtain ⟨x, hx⟩ : ∃ x, xs.getD k 0 = x := ⟨_, rfl⟩
        rw [hx] at c2 hx8 HMF
        have eo := u8_or_nat x b hx8 hb
        obtain ⟨z, hz⟩ : ∃ z, F.getD k [] = z := ⟨_, rfl⟩
        obtain ⟨y, hy⟩ : ∃ y, nI (elems (x ||| b)) = y := ⟨_, rfl⟩
        rw [hz] at hu1 HMF
        rw [hy] at HMF
        have HU1 := Lib.hid hu1
        obtain ⟨U1, cu1, rfl, -, -, -⟩ := hu1.read
        have HFO : Hid (famF [x ||| b] = [y]) := by rw [famF_one, hy]; exact Lib.hid rfl
        have HU8 : Hid (U8 [x ||| b]) := Lib.hid (fun y hy => by rw [List.mem_singleton.1 hy]; exact or8 hx8 hb)
        clear hft hu1 hx f3 hy hz
        go_wp2_with fail
        refine wp_region_noPanic ?_
        refine wp_region_held_drew (S := (fun w' => Ext w1 w' ∧ w'.cell? (ad.add k) = some (.slice U1 z.length cu1) ∧ w'.cell? (xd.add k) = some (bV x))) (by kernel_rfl) ?_ (fun hHeld => ?_)
        · exact held2 (by repeat (first | assumption | exact Ext.refl _ | apply Ext.alloc | apply Ext.drew | apply Ext.drewN)) c1 c2
        refine wpAnyH_take (i := 0) (v := ?_) (oper_at rfl) (by kernel_rfl) (by kernel_rfl) (by kernel_rfl) (fun _ _ _ h => h) (Or.inl ⟨by rfl, ?_⟩) hHeld ?_
        rotate_left
        · (intro ww hSw; (try dsimp only at hSw); go_simp; try (with_reducible rfl))
        try simp only [Act.put, List.setIfInBounds_toArray, List.set_cons_zero, List.set_cons_succ]
        refine wpAnyH_take (i := 1) (v := ?_) (oper_at rfl) (by kernel_rfl) (by kernel_rfl) (by kernel_rfl) (fun _ _ _ h => h) (Or.inl ⟨by rfl, ?_⟩) hHeld ?_
        rotate_left
        · (intro ww hSw; (try dsimp only at hSw); go_simp; try (with_reducible rfl))
        try simp only [Act.put, List.setIfInBounds_toArray, List.set_cons_zero, List.set_cons_succ]
        refine wpAnyH_take (i := 2) (v := ?_) (oper_at rfl) (by kernel_rfl) (by kernel_rfl) (by kernel_rfl) (fun _ _ _ h => h) (Or.inl ⟨by rfl, ?_⟩) hHeld ?_
        rotate_left
        · (intro ww hSw; (try dsimp only at hSw); go_simp; try (with_reducible rfl))
        try simp only [Act.put, List.setIfInBounds_toArray, List.set_cons_zero, List.set_cons_succ]
        refine wpAnyH_take (i := 3) (v := ?_) (oper_at rfl) (by kernel_rfl) (by kernel_rfl) (by kernel_rfl) (fun _ _ _ h => h) (Or.inl ⟨by rfl, ?_⟩) hHeld ?_
        rotate_left
        · (intro ww hSw; (try dsimp only at hSw); go_simp; try (with_reducible rfl))
        try simp only [Act.put, List.setIfInBounds_toArray, List.set_cons_zero, List.set_cons_succ]
        refine wpAnyH_take (i := 4) (v := ?_) (oper_at rfl) (by kernel_rfl) (by kernel_rfl) (by kernel_rfl) (fun _ _ _ h => h) (Or.inl ⟨by rfl, ?_⟩) hHeld ?_
        rotate_left
        · (intro ww hSw; (try dsimp only at hSw); go_simp; try (with_reducible rfl))
        try simp only [Act.put, List.setIfInBounds_toArray, List.set_cons_zero, List.set_cons_succ]
        refine wpAnyH_take (i := 5) (v := ?_) (oper_at rfl) (by kernel_rfl) (by kernel_rfl) (by kernel_rfl) (fun _ _ _ h => h) (Or.inl ⟨by rfl, ?_⟩) hHeld ?_
        rotate_left
        · (intro ww hSw; (try dsimp only at hSw); go_simp; try (with_reducible rfl))
        try simp only [Act.put, List.setIfInBounds_toArray, List.set_cons_zero, List.set_cons_succ]
        refine wpAnyH_take (i := 6) (v := ?_) (oper_at rfl) (by kernel_rfl) (by kernel_rfl) (by kernel_rfl) (fun _ _ _ h => h) (Or.inl ⟨by rfl, ?_⟩) hHeld ?_
        rotate_left
        · (intro ww hSw; (try dsimp only at hSw); go_simp; try (with_reducible rfl))
        try simp only [Act.put, List.setIfInBounds_toArray, List.set_cons_zero, List.set_cons_succ]
        refine wpAnyH_take (i := 7) (v := ?_) (oper_at rfl) (by kernel_rfl) (by kernel_rfl) (by kernel_rfl) (fun _ _ _ h => h) (Or.inl ⟨by rfl, ?_⟩) hHeld ?_
        rotate_left
        · (intro ww hSw; (try dsimp only at hSw); go_simp; try (with_reducible rfl))
        try simp only [Act.put, List.setIfInBounds_toArray, List.set_cons_zero, List.set_cons_succ]
        refine wpAnyH_take (i := 8) (v := ?_) (oper_at rfl) (by kernel_rfl) (by kernel_rfl) (by kernel_rfl) (fun _ _ _ h => h) (Or.inl ⟨by rfl, ?_⟩) hHeld ?_
        rotate_left
        · (intro ww hSw; (try dsimp only at hSw); go_simp; try (with_reducible rfl))
        try simp only [Act.put, List.setIfInBounds_toArray, List.set_cons_zero, List.set_cons_succ]
        refine wpAnyH_take (i := 9) (v := ?_) (oper_at rfl) (by kernel_rfl) (by kernel_rfl) (by kernel_rfl) (fun _ _ _ h => h) (Or.inl ⟨by rfl, ?_⟩) hHeld ?_
        rotate_left
        · (intro ww hSw; (try dsimp only at hSw); go_simp; try (with_reducible rfl))
        try simp only [Act.put, List.setIfInBounds_toArray, List.set_cons_zero, List.set_cons_succ]
        refine wpAnyH_take (i := 10) (v := ?_) (oper_at rfl) (by kernel_rfl) (by kernel_rfl) (by kernel_rfl) (fun _ _ _ h => h) (Or.inl ⟨by rfl, ?_⟩) hHeld ?_
        rotate_left
        · (intro ww hSw; (try dsimp only at hSw); go_simp; try (with_reducible rfl))
        try simp only [Act.put, List.setIfInBounds_toArray, List.set_cons_zero, List.set_cons_succ]
        refine wpAnyH_ready (rs := [11]) (by kernel_rfl) (by simp) (AllReadyH.cons (oper_at rfl) (fun K hK => ?_) AllReadyH.nil)
        go_simp
        refine hK.out _ _ ?_ (fun hHeld => ?_)
        · exact held2 (by repeat (first | assumption | exact Ext.refl _ | apply Ext.alloc | apply Ext.drew | apply Ext.drewN)) c1 c2
        clear hK K
        try simp only [Act.put, List.setIfInBounds_toArray, List.set_cons_zero, List.set_cons_succ]
        refine wpAnyH_ready (rs := [12]) (by kernel_rfl) (by simp) (AllReadyH.cons (oper_at rfl) (fun K hK => ?_) AllReadyH.nil)
        go_simp
        go_at_call 12
        refine (sets_lo [x ||| b] _ _ (Bs.ext (fam1_at (w := wc) (b := x ||| b) rfl) ((Ext.refl _).drew)) HU8.out).mono ?_
        rintro e5 w5 ⟨t5, vs5, rfl, hO5, hL5, hE5⟩
        rw [HFO.out] at hO5
        obtain ⟨g5, c5, u2, rfl, hc5, hu2, hlo⟩ := lo_one hO5 hL5
        obtain ⟨U2, cu2, rfl, -, -, -⟩ := hu2.read
        have HE5 : Ext wc w5 := Ext.trans (((Ext.refl _).alloc _).drew) hE5
        have HE15 : Ext w1 w5 := hX.trans HE5
        have hlo2 : ∀ k, (Value.slice U2 y.length cu2).ownBlock = some k → wc.heap.size ≤ k := fun k hk => Nat.le_trans (((Ext.refl wc).alloc (.cells #[bV (x ||| b)] 5)).drew).size (hlo k hk)
        clear hO5 hL5 hE5 hlo
        try go_wp2_with fail
        refine hK.out _ _ ?_ (fun hHeld => ?_)
        · exact held2 (by repeat (first | assumption | exact Ext.refl _ | apply Ext.alloc | apply Ext.drew | apply Ext.drewN)) c1 c2
        clear hK K
        try simp only [Act.put, List.setIfInBounds_toArray, List.set_cons_zero, List.set_cons_succ]
        refine wpAnyH_take (i := 13) (v := ?_) (oper_at rfl) (by kernel_rfl) (by kernel_rfl) (by kernel_rfl) (fun _ _ _ h => h) (Or.inl ⟨by rfl, ?_⟩) hHeld ?_
        rotate_left
        · (intro ww hSw; (try dsimp only at hSw); go_simp; try (with_reducible rfl))
        try simp only [Act.put, List.setIfInBounds_toArray, List.set_cons_zero, List.set_cons_succ]
        refine wpAnyH_ready (rs := [14]) (by kernel_rfl) (by simp) (AllReadyH.cons (oper_at rfl) (fun K hK => ?_) AllReadyH.nil)
        go_simp
        refine hK.out _ _ ?_ (fun hHeld => ?_)
        · exact held2 (by repeat (first | assumption | exact Ext.refl _ | apply Ext.alloc | apply Ext.drew | apply Ext.drewN)) c1 c2
        clear hK K
        try simp only [Act.put, List.setIfInBounds_toArray, List.set_cons_zero, List.set_cons_succ]
        refine wpAnyH_ready (rs := [15]) (by kernel_rfl) (by simp) (AllReadyH.cons (oper_at rfl) (fun K hK => ?_) AllReadyH.nil)
        go_simp
        refine hK.out _ _ ?_ (fun hHeld => ?_)
        · exact held2 (by repeat (first | assumption | exact Ext.refl _ | apply Ext.alloc | apply Ext.drew | apply Ext.drewN)) c1 c2
        clear hK K
        try simp only [Act.put, List.setIfInBounds_toArray, List.set_cons_zero, List.set_cons_succ]
        refine wpAnyH_ready (rs := [16]) (by kernel_rfl) (by simp) (AllReadyH.cons (oper_at rfl) (fun K hK => ?_) AllReadyH.nil)
        refine sapp el24 (by rfl) (.tmp 49) (.tmp 64) (by rfl) (w5 := w1) (us := [.slice U1 z.length cu1, .slice U2 y.length cu2]) (by rfl) ((HX.out.trans HE5).alloc _) ((HO.out.row.ext HE5).ext ((Ext.refl _).alloc _)) (by rfl) (by rfl) (vs2 _ _ _ _) (one2 rfl rfl) (by simp only [List.length_cons, List.length_nil]; omega) ?_
        intro t6 w6 hr6 hE6 hg6 hb6
        refine hK.out _ _ ?_ (fun hHeld => ?_)
        · exact held2 (by repeat (first | assumption | exact Ext.refl _ | apply Ext.alloc | apply Ext.drew | apply Ext.drewN)) c1 c2
        clear hK K
        try simp only [Act.put, List.setIfInBounds_toArray, List.set_cons_zero, List.set_cons_succ]
        refine wpAnyH_take (i := 17) (v := ?_) (oper_at rfl) (by kernel_rfl) (by kernel_rfl) (by kernel_rfl) (fun _ _ _ h => h) (Or.inl ⟨by rfl, ?_⟩) hHeld ?_
        rotate_left
        · (intro ww hSw; (try dsimp only at hSw); go_simp; try (with_reducible rfl))
        try simp only [Act.put, List.setIfInBounds_toArray, List.set_cons_zero, List.set_cons_succ]
        refine wpAnyH_done (by kernel_rfl) ?_ _
        refine NoPanic.normal ?_
        have HPU := Lib.hid (HO.out.push2 (HE5.alloc _) ((HU1.out.ext HE15).ext ((Ext.refl _).alloc _)) (hu2.ext ((Ext.refl _).alloc _)) (fun k hk h0 e => by have e1 := is_lt HU1.out k hk h0; have e2 := (HO.out.row.lt k e).1; omega) (fun k hk h0 e => by have e1 := hlo2 k hk; have e2 := (HO.out.row.lt k e).2; omega) hg6 hr6)
        rw [← HMF.out] at HPU
        have HE6 := Lib.hid (HE1.out.trans hE6)
        have HE16 := Lib.hid hE6
        have HR6 := Lib.hid (HR1.out.ext hE6)
        clear hr6 hE6 hg6 hb6 HMF hu2 hc5 hlo2 HE5 HE15 hHeld c1 c2 hX
        have M7 := Lib.hid (minimal_any F _ 8 w6 HR6.out (by omega) (by omega) (HT.out.ext HE6.out))
        rw [D1.out] at M7
        go_wp2_with fail
        refine M7.out.mono ?_
        rintro e7 w7 ⟨v7, rfl, hr7, hE7⟩
        have HR7 : Hid (Rs w7 v7 Ra) := Lib.hid hr7
        have HE7 := Lib.hid hE7
        have M8 := Lib.hid (minimal_any M _ 8 w7 (HPU.out.ext hE7) (by omega) (by omega) (HT.out.ext (HE6.out.trans hE7)))
        rw [D2.out] at M8
        clear hr7 hE7 M7
        go_wp2_with fail
        refine M8.out.mono ?_
        rintro e8 w8 ⟨v8, rfl, hr8, hE8⟩
        have HR8 : Hid (Rs w8 v8 Ra) := Lib.hid hr8
        have HE68 := Lib.hid (HE7.out.trans hE8)
        have HE8 := Lib.hid hE8
        have M9 := Lib.hid (reduce_any F _ w8 (HR6.out.ext HE68.out) (by omega) (HT.out.ext (HE6.out.trans HE68.out)))
        rw [D3.out] at M9
        clear hr8 hE8 M8
        go_wp2_with fail
        refine M9.out.mono ?_
        rintro e9 w9 ⟨v9, rfl, hr9, hE9⟩
        have HR9 : Hid (Rs w9 v9 La) := Lib.hid hr9
        have HE69 := Lib.hid (HE68.out.trans hE9)
        have HE9 := Lib.hid hE9
        have M10 := Lib.hid (reduce_any M _ w9 (HPU.out.ext HE69.out) (by omega) (HT.out.ext (HE6.out.trans HE69.out)))
        rw [D4.out] at M10
        clear hr9 hE9 M9
        go_wp2_with fail
        refine M10.out.mono ?_
        rintro e10 w10 ⟨v10, rfl, hr10, hE10⟩
        have HR10 : Hid (Rs w10 v10 La) := Lib.hid hr10
        have HE610 := Lib.hid (HE69.out.trans hE10)
        have HE10 := Lib.hid hE10
        obtain ⟨A8, c8, e8, -, -, -⟩ := HR8.out.read
        subst e8
        obtain ⟨A10, c10, e10, -, -, -⟩ := HR10.out.read
        subst e10
        clear hr10 hE10 M10
        go_wp2_with fail
        refine (awake_any _ (HT.out.ext (HE6.out.trans HE610.out))).mono ?_
        rintro e11 w11 ⟨rfl, hE11⟩
        have HE11 := Lib.hid hE11
        have R7 := Lib.hid (HR7.out.ext (HE8.out.trans (HE9.out.trans (HE10.out.trans hE11))))
        have R8 := Lib.hid (HR8.out.ext (HE9.out.trans (HE10.out.trans hE11)))
        have R9 := Lib.hid (HR9.out.ext (HE10.out.trans hE11))
        have R10 := Lib.hid (HR10.out.ext hE11)
        have HX11 := Lib.hid (HE610.out.trans hE11)
        clear hE11
        go_wp2_with fail
        refine (same_any _ _ _ _ _ (R7.out.ext ((Ext.refl _).alloc _)) (rss1 (x := Ra) rfl rfl R8.out) (by simp; omega) (by simp)).mono ?_
        rintro e12 w12 ⟨rfl, hE12⟩
        have HE12 : Hid (Ext w11 w12) := Lib.hid (((Ext.refl w11).alloc _).trans hE12)
        rw [show decide (Ra = [Ra].flatten) = true by simp]
        clear hE12
        go_wp2_with fail
        refine (same_any _ _ _ _ _ ((R9.out.ext HE12.out).ext ((Ext.refl _).alloc _)) (rss1 (x := La) rfl rfl (R10.out.ext HE12.out)) (by simp; omega) (by simp)).mono ?_
        rintro e13 w13 ⟨rfl, hE13⟩
        have HE13 : Hid (Ext w11 w13) := Lib.hid (HE12.out.trans (((Ext.refl w12).alloc _).trans hE13))
        rw [show decide (La = [La].flatten) = true by simp]
        clear hE13
        have HX13 := Lib.hid (HX11.out.trans HE13.out)
        have SE := Lib.hid (HSW.out w13 (HE6.out.trans HX13.out))
        go_wp2_with fail
        refine SE.out.mono ?_
        rintro e14 w14 ⟨v14, rfl, hr14, hE14⟩
        have HR14 := Lib.hid hr14
        have HE14 := Lib.hid hE14
        obtain ⟨A14, c14, e14, -, -, -⟩ := HR14.out.read
        subst e14
        clear hr14 hE14 SE
        go_wp2_with fail
        refine (same_any _ _ _ _ _ ((HR6.out.ext (HX13.out.trans HE14.out)).ext ((Ext.refl _).alloc _)) (rss1 (x := F) rfl rfl HR14.out) (by simp; omega) (by simp)).mono ?_
        rintro e15 w15 ⟨rfl, hE15⟩
        have HE15 : Hid (Ext w14 w15) := Lib.hid (((Ext.refl w14).alloc _).trans hE15)
        rw [show decide (F = [F].flatten) = true by simp]
        clear hE15
        go_wp2_with fail
        go_ret
        exact ⟨rfl, ((HE6.out.trans HX13.out).trans HE14.out).trans HE15.out⟩
end Go.Proofs.YtdcbejccplonjaaDoor
