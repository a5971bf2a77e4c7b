/- The walk over play. -/
import Derived.Test.YtehmpbaiefbemaaGreatN41
namespace Go.Proofs.YtehmpbaiefbemaaGreat
open Go.RowKit
attribute [local go_sem ↓] Go.wp_at_zero Go.wp_at_succ
attribute [local go_sem ↓] eq73 ld32 st32 al32
attribute [local go_sem] run_eq73 run_ld32 run_st32n run_al32 blkOf_drew blkOf_setRow_same blkOf_setRow_other NV_size blkOf_alloc blkOf_new
theorem blkOf_newF {w : World} {cs : Array Value} {T n : Nat} (h : n = w.heap.size) : blkOf (w.alloc (.cells cs T)) n = cs := by
  subst h
  exact blkOf_new
set_option maxRecDepth 100000 in
set_option maxHeartbeats 8000000 in
theorem play20_any (g r B : Nat) (cv hv lv kh kv lV : Value) (cp cs : List Ch) (os hs : List Jh) (x : St) (n0 : Nat) (al : List (Ac × Value)) (w : World) (H : Both w g r B cv hv lv kh kv cp cs os hs x) (S : Sta cp cs) (hi : Inv cs x n0) (hn0 : n0 ≤ 40000) (hA : Stay g r (fun W => AsAt W lV al) w)
    (hag : ∀ i, i < al.length → i < 30 → agrF cp os cs hs (al.getD i Ac0).1 (stF cs hs al x i)) :
    Calls Tryz.prog 7 #[.pointer (some ⟨g, 0, none⟩), .agg (NV lv kh x.s x.t x.d kv), lV] w (RetDo g r B cv hv lv kh cp cs os hs (stF cs hs al x (min al.length 30)) w) := by
  have hgB := H.gB
  have hrB := H.rB
  have hBw := H.Bw
  have HH := Lib.hid H
  have HS := Lib.hid S
  have HI := Lib.hid (fun i (h : i ≤ al.length) => stF_inv (hs := hs) (al := al) hi i h)
  have HAS := Lib.hid hA
  have HAG := Lib.hid hag
  have hgl := H.net.lt
  have hrl := H.net.rlt
  obtain ⟨Aa, ca, rfl, -, haM, -⟩ := hA.now.sl.read
  have hal : al.length ≤ 9223372036854775807 := by
    have := hA.now.sl.at_
    obtain ⟨A', c', e1, e2, e3, -⟩ := this
    rw [List.length_map] at e2
    unfold maxLen at e3
    omega
  rw [List.length_map] at *
  have CD := Lib.hid (fun i kv2 W (hB2 : Both W g r B cv hv lv kh kv2 cp cs os hs (stF cs hs al x i)) (hW : Exc g r w W) (h1 : i < al.length) (h2 : i < 30) => do48_any g r B cv hv lv kh kv2 cp cs os hs (stF cs hs al x i) (al.getD i Ac0).1 (al.getD i Ac0).2 W hB2 (S.good (stF_inv (hs := hs) (al := al) hi i (by omega)) (by omega)) (fun W2 hW2 => (hA W2 (hW.trans hW2)).args _ (getD_memA h1)) (hag i h1 h2))
  obtain ⟨Al, cl, rfl, -, -, -⟩ := H.rc.now.read
  obtain ⟨Ah, ch, rfl, -, -, -⟩ := H.rh.now.sl.read
  obtain ⟨Ak, ck, rfl, -, -, -⟩ := H.rk.sl.read
  rw [List.length_map, List.length_map, List.length_map] at *
  have ng0 : w.heap.size ≠ g := by omega
  have nr0 : w.heap.size ≠ r := by omega
  have ng1 : w.heap.size + 1 ≠ g := by omega
  have nr1 : w.heap.size + 1 ≠ r := by omega
  clear H S hi hA hag
  go_enter Tryz.func7, Tryz.ntmps7
  go_upto_region 1 with fail
  generalize hwB : (w.alloc _).alloc _ = wB
  obtain ⟨hE, b0, b1, hsB⟩ := letter2 hwB
  have HE := Lib.hid hE
  have B0 := Lib.hid b0
  have B1 := Lib.hid b1
  clear hwB hE b0 b1 hsB
  go_wp2_with fail
  go_loopw [8] (fun i wr => ∃ (j : Nat) (A : Option Addr) (nn c2 : Nat), j ≤ al.length ∧ j ≤ 30 ∧ i = iV (j : Int) ∧ blkOf wr w.heap.size = NV (.slice Al cs.length cl) (.slice Ah hs.length ch) (stF cs hs al x j).s (stF cs hs al x j).t (stF cs hs al x j).d (.slice A nn c2) ∧ blkOf wr (w.heap.size + 1) = NV0 ∧
    Both wr g r B cv hv (.slice Al cs.length cl) (.slice Ah hs.length ch) (.slice A nn c2) cp cs os hs (stF cs hs al x j) ∧ Exc g r w wr) (fun i _ => al.length - (intOf i).toNat)
  case atStart => exact ⟨0, Ak, x.ks.length, ck, by omega, by omega, rfl, B0.out, B1.out, HH.out.ext HE.out, HE.out.exc g r⟩
  case round =>
    obtain ⟨j, A, nn, c2, hj, hj30, rfl, b0, b1, hBo, hX⟩ := hrel
    have HBo := Lib.hid hBo
    have HX := Lib.hid hX
    have hz : w.heap.size + 1 < wr.heap.size := blkOf_lt (by rw [b1, NV_size]; omega)
    clear hBo hX
    by_cases hlt : j < al.length
    · by_cases hlt3 : j < 30
      · have h3 : (j : Int) < 30 := by omega
        have hlI : (j : Int) < (al.length : Int) := by omega
        have CDJ := Lib.hid (fun W (hB2 : Both W g r B cv hv (.slice Al cs.length cl) (.slice Ah hs.length ch) (.slice A nn c2) cp cs os hs (stF cs hs al x j)) (hW : Exc g r wr W) => CD.out j (.slice A nn c2) W hB2 (HX.out.trans hW) hlt hlt3)
        have HST := Lib.hid (stF_succ (cs := cs) (hs := hs) (x := x) hlt)
        have HIJ := Lib.hid (HI.out (j + 1) (by omega))
        have HAJ := Lib.hid (fun W (hW : Exc g r wr W) => (HAS.out W (HX.out.trans hW)).sl)
        obtain ⟨ac, hac⟩ : ∃ ac, al.getD j Ac0 = ac := ⟨_, rfl⟩
        have HEA : Hid ((al.map encA).getD j [] = encA ac) := Lib.hid (encA_at hlt ac hac)
        have AC := (HAS.out wr HX.out).args _ (getD_memA hlt)
        rw [hac] at AC
        obtain ⟨Av, cva, eva, -, -, -⟩ := AC.at_
        rw [List.length_map] at eva
        rw [hac] at CDJ HST
        obtain ⟨⟨kd, aa, ab, an, act, args⟩, av⟩ := ac
        simp only [] at eva CDJ HST
        subst eva
        obtain ⟨Aq, cq, eq, -, -, RQ⟩ := (HAJ.out wr (Exc.refl _ _ _)).read
        rw [List.length_map] at eq RQ
        simp only [Value.slice.injEq] at eq
        obtain ⟨rfl, -, rfl⟩ := eq
        obtain ⟨ba, oa, rfl, hba, cA⟩ := RQ wr (Ext.refl _) j hlt (by omega)
        have HCA : Hid (∀ W, Exc g r wr W → ∀ i u, i < 6 → (encA (⟨kd, aa, ab, an, act, args⟩, .slice Av args.length cva))[i]? = some u → W.cell? ⟨ba, oa + j * 6 + i, none⟩ = some u) := Lib.hid (fun W hW i u h6 hu => by
          obtain ⟨A', c', e', -, -, R'⟩ := (HAJ.out W hW).read
          rw [List.length_map] at e' R'
          simp only [Value.slice.injEq] at e'
          obtain ⟨rfl, -, rfl⟩ := e'
          obtain ⟨b', o', e2, -, c'⟩ := R' W (Ext.refl _) j hlt (by omega)
          simp only [Option.some.injEq, Addr.mk.injEq] at e2
          obtain ⟨rfl, rfl, -⟩ := e2
          rw [HEA.out] at c'
          exact c' i u h6 hu)
        clear cA RQ AC hac
        generalize hst1 : doF cs hs ⟨kd, aa, ab, an, act, args⟩ (stF cs hs al x j) = y at *
        go_upto_region 4 with fail
        go_cut [9, 10] (fun s9 s10 wx => ∃ b A3 n3 c3, s9 = .pointer (some ⟨b, 0, none⟩) ∧ s10 = .bool true ∧ wr.heap.size ≤ b ∧ blkOf wx b = NV (.slice Al cs.length cl) (.slice Ah hs.length ch) y.s y.t y.d (.slice A3 n3 c3) ∧ (blkOf wx w.heap.size).size = 83 ∧ blkOf wx (w.heap.size + 1) = NV0 ∧
          Both wx g r B cv hv (.slice Al cs.length cl) (.slice Ah hs.length ch) (.slice A3 n3 c3) cp cs os hs y ∧ Exc g r w wx)
        case first =>
          as_aux_lemma =>
          have KB : Hid (∀ W, Exc g r wr W → (fun w' => blkOf w' w.heap.size = NV (.slice Al cs.length cl) (.slice Ah hs.length ch) (stF cs hs al x j).s (stF cs hs al x j).t (stF cs hs al x j).d (.slice A nn c2) ∧ w'.cell? ⟨ba, oa + j * 6, none⟩ = some (iV kd) ∧ w'.cell? ⟨ba, oa + j * 6 + 1, none⟩ = some (iV aa) ∧ w'.cell? ⟨ba, oa + j * 6 + 2, none⟩ = some (iV ab) ∧ w'.cell? ⟨ba, oa + j * 6 + 3, none⟩ = some (iV an) ∧ w'.cell? ⟨ba, oa + j * 6 + 4, none⟩ = some (iV act) ∧ w'.cell? ⟨ba, oa + j * 6 + 5, none⟩ = some (.slice Av args.length cva)) W) := Lib.hid (fun W h => ⟨(h.blk (by omega) ng0 nr0).trans b0, HCA.out W h 0 _ (by omega) rfl, HCA.out W h 1 _ (by omega) rfl, HCA.out W h 2 _ (by omega) rfl, HCA.out W h 3 _ (by omega) rfl, HCA.out W h 4 _ (by omega) rfl, HCA.out W h 5 _ (by omega) rfl⟩)
          refine wp_region_noPanic ?_
          refine wp_region_held_drew (S := (fun w' => blkOf w' w.heap.size = NV (.slice Al cs.length cl) (.slice Ah hs.length ch) (stF cs hs al x j).s (stF cs hs al x j).t (stF cs hs al x j).d (.slice A nn c2) ∧ w'.cell? ⟨ba, oa + j * 6, none⟩ = some (iV kd) ∧ w'.cell? ⟨ba, oa + j * 6 + 1, none⟩ = some (iV aa) ∧ w'.cell? ⟨ba, oa + j * 6 + 2, none⟩ = some (iV ab) ∧ w'.cell? ⟨ba, oa + j * 6 + 3, none⟩ = some (iV an) ∧ w'.cell? ⟨ba, oa + j * 6 + 4, none⟩ = some (iV act) ∧ w'.cell? ⟨ba, oa + j * 6 + 5, none⟩ = some (.slice Av args.length cva))) (by kernel_rfl) ?_ (fun hHeld => ?_)
          · exact KB.out _ (Ext.exc (by (repeat (first | with_reducible assumption | with_reducible exact Ext.refl _ | with_reducible apply Ext.alloc | with_reducible apply Ext.drew)); first | done | fail) g r)
          refine wpAnyH_take (i := 0) (v := ?_) (oper_at rfl) (by kernel_rfl) (by kernel_rfl) (by kernel_rfl) (fun _ _ _ h => h) (Or.inl ⟨by rfl, ?_⟩) hHeld ?_
          rotate_left
          · (intro ww hSw; (try dsimp only at hSw); go_simp; try (with_reducible rfl))
          try simp only [Act.put, List.setIfInBounds_toArray, List.set_cons_zero, List.set_cons_succ]
          refine wpAnyH_take (i := 1) (v := ?_) (oper_at rfl) (by kernel_rfl) (by kernel_rfl) (by kernel_rfl) (fun _ _ _ h => h) (Or.inl ⟨by rfl, ?_⟩) hHeld ?_
          rotate_left
          · (intro ww hSw; (try dsimp only at hSw); go_simp; try (with_reducible rfl))
          try simp only [Act.put, List.setIfInBounds_toArray, List.set_cons_zero, List.set_cons_succ]
          refine wpAnyH_take (i := 2) (v := ?_) (oper_at rfl) (by kernel_rfl) (by kernel_rfl) (by kernel_rfl) (fun _ _ _ h => h) (Or.inl ⟨by rfl, ?_⟩) hHeld ?_
          rotate_left
          · (intro ww hSw; (try dsimp only at hSw); go_simp; try (with_reducible rfl))
          try simp only [Act.put, List.setIfInBounds_toArray, List.set_cons_zero, List.set_cons_succ]
          refine wpAnyH_take (i := 3) (v := ?_) (oper_at rfl) (by kernel_rfl) (by kernel_rfl) (by kernel_rfl) (fun _ _ _ h => h) (Or.inl ⟨by rfl, ?_⟩) hHeld ?_
          rotate_left
          · (intro ww hSw; (try dsimp only at hSw); go_simp; try (with_reducible rfl))
          try simp only [Act.put, List.setIfInBounds_toArray, List.set_cons_zero, List.set_cons_succ]
          refine wpAnyH_take (i := 4) (v := ?_) (oper_at rfl) (by kernel_rfl) (by kernel_rfl) (by kernel_rfl) (fun _ _ _ h => h) (Or.inl ⟨by rfl, ?_⟩) hHeld ?_
          rotate_left
          · (intro ww hSw; (try dsimp only at hSw); go_simp; try (with_reducible rfl))
          try simp only [Act.put, List.setIfInBounds_toArray, List.set_cons_zero, List.set_cons_succ]
          refine wpAnyH_take (i := 5) (v := ?_) (oper_at rfl) (by kernel_rfl) (by kernel_rfl) (by kernel_rfl) (fun _ _ _ h => h) (Or.inl ⟨by rfl, ?_⟩) hHeld ?_
          rotate_left
          · (intro ww hSw; (try dsimp only at hSw); go_simp; try (with_reducible rfl))
          try simp only [Act.put, List.setIfInBounds_toArray, List.set_cons_zero, List.set_cons_succ]
          refine wpAnyH_ready (rs := [6, 10]) (by kernel_rfl) (by simp) (AllReadyH.cons (oper_at rfl) (fun K hK => ?_) (AllReadyH.cons (oper_at rfl) (fun K hK => ?_) AllReadyH.nil))
          · go_simp
            go_at_call 20
            refine (CDJ.out _ (HBo.out.ext (by (repeat (first | with_reducible assumption | with_reducible exact Ext.refl _ | with_reducible apply Ext.alloc | with_reducible apply Ext.drew)); first | done | fail)) (Ext.exc (by (repeat (first | with_reducible assumption | with_reducible exact Ext.refl _ | with_reducible apply Ext.alloc | with_reducible apply Ext.drew)); first | done | fail) g r)).mono ?_
            rintro e2 w2 ⟨kv2, rfl, hB2, hE2⟩
            have hX2 : Exc g r wr w2 := Exc.trans (Ext.exc (by (repeat (first | with_reducible assumption | with_reducible exact Ext.refl _ | with_reducible apply Ext.alloc | with_reducible apply Ext.drew)); first | done | fail) g r) hE2
            obtain ⟨A2, c3, e2, -, -⟩ := hB2.rk.form
            rw [List.length_map] at e2
            subst e2
            have HXX := Lib.hid hX2
            have HB2 := Lib.hid hB2
            have d0 := (hX2.blk (by omega) ng0 nr0).trans b0
            have d1 : blkOf w2 (w.heap.size + 1) = NV0 := (hX2.blk hz ng1 nr1).trans b1
            have hz2 := hX2.size
            clear hB2
            refine hK.out _ _ ?_ (fun hHeld => ?_)
            · first | exact KB.out _ (Ext.exc (by (repeat (first | with_reducible assumption | with_reducible exact Ext.refl _ | with_reducible apply Ext.alloc | with_reducible apply Ext.drew)); first | done | fail) g r) | exact KB.out _ HXX.out | exact KB.out _ (HXX.out.trans (Ext.exc (by (repeat (first | with_reducible assumption | with_reducible exact Ext.refl _ | with_reducible apply Ext.alloc | with_reducible apply Ext.drew)); first | done | fail) g r)) | exact KS.out
            clear hK K
            try simp only [Act.put, List.setIfInBounds_toArray, List.set_cons_zero, List.set_cons_succ]
            refine wpAnyH_take (i := 7) (v := ?_) (oper_at rfl) (by kernel_rfl) (by kernel_rfl) (by kernel_rfl) (fun _ _ _ h => h) (Or.inl ⟨by rfl, ?_⟩) hHeld ?_
            rotate_left
            · (intro ww hSw; (try dsimp only at hSw); go_simp; try (with_reducible rfl))
            try simp only [Act.put, List.setIfInBounds_toArray, List.set_cons_zero, List.set_cons_succ]
            refine wpAnyH_take (i := 8) (v := ?_) (oper_at rfl) (by kernel_rfl) (by kernel_rfl) (by kernel_rfl) (fun _ _ _ h => h) (Or.inl ⟨by rfl, ?_⟩) hHeld ?_
            rotate_left
            · (intro ww hSw; (try dsimp only at hSw); go_simp; try (with_reducible rfl))
            try simp only [Act.put, List.setIfInBounds_toArray, List.set_cons_zero, List.set_cons_succ]
            refine wpAnyH_take (i := 9) (v := ?_) (oper_at rfl) (by kernel_rfl) (by kernel_rfl) (by kernel_rfl) (fun _ _ _ h => h) (Or.inl ⟨by rfl, ?_⟩) hHeld ?_
            rotate_left
            · (intro ww hSw; (try dsimp only at hSw); go_simp; try (with_reducible rfl))
            try simp only [Act.put, List.setIfInBounds_toArray, List.set_cons_zero, List.set_cons_succ]
            refine wpAnyH_ready (rs := [10]) (by kernel_rfl) (by simp) (AllReadyH.cons (oper_at rfl) (fun K hK => ?_) AllReadyH.nil)
            go_simp
            refine hK.out _ _ ?_ (fun hHeld => ?_)
            · first | exact KB.out _ (Ext.exc (by (repeat (first | with_reducible assumption | with_reducible exact Ext.refl _ | with_reducible apply Ext.alloc | with_reducible apply Ext.drew)); first | done | fail) g r) | exact KB.out _ HXX.out | exact KB.out _ (HXX.out.trans (Ext.exc (by (repeat (first | with_reducible assumption | with_reducible exact Ext.refl _ | with_reducible apply Ext.alloc | with_reducible apply Ext.drew)); first | done | fail) g r)) | exact KS.out
            clear hK K
            try simp only [Act.put, List.setIfInBounds_toArray, List.set_cons_zero, List.set_cons_succ]
            have KS := Lib.hid (KB.out _ (HXX.out.trans (((Ext.refl w2).alloc (.cells NV0 32)).exc g r)))
            have hba2 : ba < w2.heap.size := Nat.lt_of_lt_of_le hba hz2
            refine wpAnyH_ready (rs := [11]) (by kernel_rfl) (by simp) (AllReadyH.cons (oper_at rfl) (fun K hK => ?_) AllReadyH.nil)
            go_simp
            refine hK.out _ _ ?_ (fun hHeld => ?_)
            · (obtain ⟨g0, g1, g2, g3, g4, g5, g6⟩ := KS.out; refine ⟨(blkOf_setRow_other (by omega)).trans g0, ?_, ?_, ?_, ?_, ?_, ?_⟩ <;> (refine (cell_kept (setRow_other _ _ _ _ (by omega))).trans ?_; assumption))
            clear hK K
            try simp only [Act.put, List.setIfInBounds_toArray, List.set_cons_zero, List.set_cons_succ]
            refine wpAnyH_take (i := 12) (v := ?_) (oper_at rfl) (by kernel_rfl) (by kernel_rfl) (by kernel_rfl) (fun _ _ _ h => h) (Or.inl ⟨by rfl, ?_⟩) hHeld ?_
            rotate_left
            · (intro ww hSw; (try dsimp only at hSw); go_simp; try (with_reducible rfl))
            try simp only [Act.put, List.setIfInBounds_toArray, List.set_cons_zero, List.set_cons_succ]
            refine wpAnyH_done (by kernel_rfl) ?_ _
            refine NoPanic.normal ?_
            go_wp2_with fail
            go_meet
            have hsb : blkOf (w2.alloc (.cells NV0 32)) w2.heap.size = NV0 := blkOf_new
            have hE3 : Exc g r w ((w2.alloc (.cells NV0 32)).setRow w2.heap.size (NV (.slice Al cs.length cl) (.slice Ah hs.length ch) y.s y.t y.d (.slice A2 y.ks.length c3))) := ((HX.out.trans HXX.out).alloc _).setRow (by omega) _
            have E2 : Ext w2 ((w2.alloc (.cells NV0 32)).setRow w2.heap.size (NV (.slice Al cs.length cl) (.slice Ah hs.length ch) y.s y.t y.d (.slice A2 y.ks.length c3))) := ((Ext.refl _).alloc _).setRow (Nat.le_refl _) _
            exact ⟨w2.heap.size, A2, _, c3, rfl, rfl, hz2, blkOf_setRow_same (by rw [hsb, NV_size]), by rw [blkOf_ext E2 (by omega), d0, NV_size], (blkOf_ext E2 (by omega)).trans d1, HB2.out.ext E2, hE3⟩
          · go_simp
            refine hK.out _ _ ?_ (fun hHeld => ?_)
            · first | exact KB.out _ (Ext.exc (by (repeat (first | with_reducible assumption | with_reducible exact Ext.refl _ | with_reducible apply Ext.alloc | with_reducible apply Ext.drew)); first | done | fail) g r) | exact KB.out _ HXX.out | exact KB.out _ (HXX.out.trans (Ext.exc (by (repeat (first | with_reducible assumption | with_reducible exact Ext.refl _ | with_reducible apply Ext.alloc | with_reducible apply Ext.drew)); first | done | fail) g r)) | exact KS.out
            clear hK K
            try simp only [Act.put, List.setIfInBounds_toArray, List.set_cons_zero, List.set_cons_succ]
            refine wpAnyH_ready (rs := [6]) (by kernel_rfl) (by simp) (AllReadyH.cons (oper_at rfl) (fun K hK => ?_) AllReadyH.nil)
            go_simp
            go_at_call 20
            refine (CDJ.out _ (HBo.out.ext (by (repeat (first | with_reducible assumption | with_reducible exact Ext.refl _ | with_reducible apply Ext.alloc | with_reducible apply Ext.drew)); first | done | fail)) (Ext.exc (by (repeat (first | with_reducible assumption | with_reducible exact Ext.refl _ | with_reducible apply Ext.alloc | with_reducible apply Ext.drew)); first | done | fail) g r)).mono ?_
            rintro e2 w2 ⟨kv2, rfl, hB2, hE2⟩
            have hX2 : Exc g r wr w2 := Exc.trans (Ext.exc (by (repeat (first | with_reducible assumption | with_reducible exact Ext.refl _ | with_reducible apply Ext.alloc | with_reducible apply Ext.drew)); first | done | fail) g r) hE2
            obtain ⟨A2, c3, e2, -, -⟩ := hB2.rk.form
            rw [List.length_map] at e2
            subst e2
            have HXX := Lib.hid hX2
            have HB2 := Lib.hid hB2
            have d0 := (hX2.blk (by omega) ng0 nr0).trans b0
            have d1 : blkOf w2 (w.heap.size + 1) = NV0 := (hX2.blk hz ng1 nr1).trans b1
            have hz2 := hX2.size
            clear hB2
            have d3 : blkOf w2 wr.heap.size = NV0 := (hE2.blk (by simp) (by omega) (by omega)).trans (blkOf_newF (by simp))
            refine hK.out _ _ ?_ (fun hHeld => ?_)
            · first | exact KB.out _ (Ext.exc (by (repeat (first | with_reducible assumption | with_reducible exact Ext.refl _ | with_reducible apply Ext.alloc | with_reducible apply Ext.drew)); first | done | fail) g r) | exact KB.out _ HXX.out | exact KB.out _ (HXX.out.trans (Ext.exc (by (repeat (first | with_reducible assumption | with_reducible exact Ext.refl _ | with_reducible apply Ext.alloc | with_reducible apply Ext.drew)); first | done | fail) g r)) | exact KS.out
            clear hK K
            try simp only [Act.put, List.setIfInBounds_toArray, List.set_cons_zero, List.set_cons_succ]
            refine wpAnyH_take (i := 7) (v := ?_) (oper_at rfl) (by kernel_rfl) (by kernel_rfl) (by kernel_rfl) (fun _ _ _ h => h) (Or.inl ⟨by rfl, ?_⟩) hHeld ?_
            rotate_left
            · (intro ww hSw; (try dsimp only at hSw); go_simp; try (with_reducible rfl))
            try simp only [Act.put, List.setIfInBounds_toArray, List.set_cons_zero, List.set_cons_succ]
            refine wpAnyH_take (i := 8) (v := ?_) (oper_at rfl) (by kernel_rfl) (by kernel_rfl) (by kernel_rfl) (fun _ _ _ h => h) (Or.inl ⟨by rfl, ?_⟩) hHeld ?_
            rotate_left
            · (intro ww hSw; (try dsimp only at hSw); go_simp; try (with_reducible rfl))
            try simp only [Act.put, List.setIfInBounds_toArray, List.set_cons_zero, List.set_cons_succ]
            refine wpAnyH_take (i := 9) (v := ?_) (oper_at rfl) (by kernel_rfl) (by kernel_rfl) (by kernel_rfl) (fun _ _ _ h => h) (Or.inl ⟨by rfl, ?_⟩) hHeld ?_
            rotate_left
            · (intro ww hSw; (try dsimp only at hSw); go_simp; try (with_reducible rfl))
            try simp only [Act.put, List.setIfInBounds_toArray, List.set_cons_zero, List.set_cons_succ]
            have KS := Lib.hid (KB.out _ HXX.out)
            refine wpAnyH_ready (rs := [11]) (by kernel_rfl) (by simp) (AllReadyH.cons (oper_at rfl) (fun K hK => ?_) AllReadyH.nil)
            go_simp
            refine hK.out _ _ ?_ (fun hHeld => ?_)
            · (obtain ⟨g0, g1, g2, g3, g4, g5, g6⟩ := KS.out; refine ⟨(blkOf_setRow_other (by omega)).trans g0, ?_, ?_, ?_, ?_, ?_, ?_⟩ <;> (refine (cell_kept (setRow_other _ _ _ _ (by omega))).trans ?_; assumption))
            clear hK K
            try simp only [Act.put, List.setIfInBounds_toArray, List.set_cons_zero, List.set_cons_succ]
            refine wpAnyH_take (i := 12) (v := ?_) (oper_at rfl) (by kernel_rfl) (by kernel_rfl) (by kernel_rfl) (fun _ _ _ h => h) (Or.inl ⟨by rfl, ?_⟩) hHeld ?_
            rotate_left
            · (intro ww hSw; (try dsimp only at hSw); go_simp; try (with_reducible rfl))
            try simp only [Act.put, List.setIfInBounds_toArray, List.set_cons_zero, List.set_cons_succ]
            refine wpAnyH_done (by kernel_rfl) ?_ _
            refine NoPanic.normal ?_
            go_wp2_with fail
            go_meet
            have hE3 : Exc g r w (w2.setRow wr.heap.size (NV (.slice Al cs.length cl) (.slice Ah hs.length ch) y.s y.t y.d (.slice A2 y.ks.length c3))) := (HX.out.trans HXX.out).setRow (by omega) _
            exact ⟨wr.heap.size, A2, _, c3, rfl, rfl, Nat.le_refl _, blkOf_setRow_same (by rw [d3, NV_size]), by rw [blkOf_setRow_other (by omega), d0, NV_size], (blkOf_setRow_other (by omega)).trans d1, HH.out.to HB2.out hE3 (setRow_other _ _ _ _ (by omega)) (setRow_other _ _ _ _ (by omega)) (HB2.out.rk.setFar (by rw [d3, NV_size]) _), hE3⟩
        case rest =>
          obtain ⟨w3, rfl⟩ : ∃ w3, w3 = wc := ⟨_, rfl⟩
          obtain ⟨b, A3, n3, c3, rfl, rfl, hbw, d0, z0, d1, hB3, hX3⟩ := hcut
          have hbz : b ≠ w.heap.size := by omega
          have hbz1 : b ≠ w.heap.size + 1 := by omega
          have HB3 := Lib.hid hB3
          have HX3 := Lib.hid hX3
          clear hB3 hX3 b0 b1
          go_upto_region 6 with fail
          generalize hw4 : w3.setRow w.heap.size _ = w4
          have hh4 : ∀ i, i ≠ w.heap.size → w4.heap[i]? = w3.heap[i]? := fun i hi => by rw [← hw4]; exact setRow_other _ _ _ _ hi
          have c0 : blkOf w4 w.heap.size = NV (.slice Al cs.length cl) (.slice Ah hs.length ch) y.s y.t y.d (.slice A3 n3 c3) := by rw [← hw4]; exact blkOf_setRow_same z0
          have c1 : blkOf w4 (w.heap.size + 1) = NV0 := (blkOf_kept (hh4 _ (by omega))).trans d1
          have hX4 : Exc g r w w4 := by rw [← hw4]; exact HX3.out.setRow (Nat.le_refl _) _
          have hB4 : Both w4 g r B cv hv (.slice Al cs.length cl) (.slice Ah hs.length ch) (.slice A3 n3 c3) cp cs os hs y := HH.out.to HB3.out hX4 (hh4 g (Ne.symm ng0)) (hh4 r (Ne.symm nr0)) (by rw [← hw4]; exact HB3.out.rk.setFar z0 _)
          have n82 : w4.cell? ⟨w.heap.size, 82, none⟩ = some (.slice A3 n3 c3) := blkOf_cell (by rw [c0]; exact NV_82)
          have hz4 : w.heap.size + 1 < w4.heap.size := blkOf_lt (by rw [c1, NV_size]; omega)
          rw [HST.out] at HIJ
          have HKL : Hid (y.ks.length ≤ 50) := Lib.hid (Nat.le_trans HIJ.out.len HS.out.lenR)
          have CC := Lib.hid (fun W (hW : Ext w4 W) => consumed19_any g r cv hv cp os y W (hB4.net.ext hW) HIJ.out.asc (by have := HKL.out; omega))
          have CK := Lib.hid (fun t W (hW : Ext w4 W) (ht : KsAt W t y.ks) => sameKeys_ok y.ks t (.slice A3 n3 c3) W ht (hB4.rk.sl.ext hW) (by have := HKL.out; omega))
          have HB4 := Lib.hid hB4
          have HX4 := Lib.hid hX4
          clear hw4 hX4 hB4 hh4 HB3 HX3 d0 d1 z0 CDJ HCA HAJ
          have KB : Hid (∀ W, Ext w4 W → (fun w' => w'.cell? ⟨w.heap.size, 82, none⟩ = some (.slice A3 n3 c3)) W) := Lib.hid (fun W h => h.cell n82)
          refine wp_region_noPanic ?_
          refine wp_region_held_drew (S := (fun w' => w'.cell? ⟨w.heap.size, 82, none⟩ = some (.slice A3 n3 c3))) (by kernel_rfl) ?_ (fun hHeld => ?_)
          · exact KB.out _ (by (repeat (first | with_reducible assumption | with_reducible exact Ext.refl _ | with_reducible apply Ext.alloc | with_reducible apply Ext.drew)); first | done | fail)
          refine wpAnyH_take (i := 0) (v := ?_) (oper_at rfl) (by kernel_rfl) (by kernel_rfl) (by kernel_rfl) (fun _ _ _ h => h) (Or.inl ⟨by rfl, ?_⟩) hHeld ?_
          rotate_left
          · (intro ww hSw; (try dsimp only at hSw); go_simp; try (with_reducible rfl))
          try simp only [Act.put, List.setIfInBounds_toArray, List.set_cons_zero, List.set_cons_succ]
          refine wpAnyH_take (i := 1) (v := .bool false) (oper_at rfl) (by kernel_rfl) (by kernel_rfl) (by kernel_rfl) (fun _ _ _ h => h) (Or.inl ⟨by rfl, ?_⟩) hHeld ?_
          · (intro ww hSw; (try dsimp only at hSw); go_simp; try (with_reducible rfl))
          try simp only [Act.put, List.setIfInBounds_toArray, List.set_cons_zero, List.set_cons_succ]
          refine wpAnyH_take (i := 2) (v := .bool false) (oper_at rfl) (by kernel_rfl) (by kernel_rfl) (by kernel_rfl) (fun _ _ _ h => h) (Or.inl ⟨by rfl, ?_⟩) hHeld ?_
          · (intro ww hSw; (try dsimp only at hSw); go_simp; try (with_reducible rfl))
          try simp only [Act.put, List.setIfInBounds_toArray, List.set_cons_zero, List.set_cons_succ]
          refine wpAnyH_take (i := 3) (v := ?_) (oper_at rfl) (by kernel_rfl) (by kernel_rfl) (by kernel_rfl) (fun _ _ _ h => h) (Or.inl ⟨by rfl, ?_⟩) hHeld ?_
          rotate_left
          · (intro ww hSw; (try dsimp only at hSw); go_simp; try (with_reducible rfl))
          try simp only [Act.put, List.setIfInBounds_toArray, List.set_cons_zero, List.set_cons_succ]
          refine wpAnyH_take (i := 5) (v := ?_) (oper_at rfl) (by kernel_rfl) (by kernel_rfl) (by kernel_rfl) (fun _ _ _ h => h) (Or.inl ⟨by rfl, ?_⟩) hHeld ?_
          rotate_left
          · (intro ww hSw; (try dsimp only at hSw); go_simp; try (with_reducible rfl))
          try simp only [Act.put, List.setIfInBounds_toArray, List.set_cons_zero, List.set_cons_succ]
          refine wpAnyH_take (i := 6) (v := ?_) (oper_at rfl) (by kernel_rfl) (by kernel_rfl) (by kernel_rfl) (fun _ _ _ h => h) (Or.inl ⟨by rfl, ?_⟩) hHeld ?_
          rotate_left
          · (intro ww hSw; (try dsimp only at hSw); go_simp; try (with_reducible rfl))
          try simp only [Act.put, List.setIfInBounds_toArray, List.set_cons_zero, List.set_cons_succ]
          refine wpAnyH_ready (rs := [4]) (by kernel_rfl) (by simp) (AllReadyH.cons (oper_at rfl) (fun K hK => ?_) AllReadyH.nil)
          go_simp
          go_at_call 11
          refine (CC.out _ (by (repeat (first | with_reducible assumption | with_reducible exact Ext.refl _ | with_reducible apply Ext.alloc | with_reducible apply Ext.drew)); first | done | fail)).mono ?_
          rintro e5 w5 ⟨t5, rfl, hr5, hE5⟩
          have hX5 : Ext w4 w5 := Ext.trans (by (repeat (first | with_reducible assumption | with_reducible exact Ext.refl _ | with_reducible apply Ext.alloc | with_reducible apply Ext.drew)); first | done | fail) hE5
          obtain ⟨A5, c5, e5, -, -⟩ := hr5.form
          rw [List.length_map] at e5
          subst e5
          have HT5 := Lib.hid hr5.sl
          clear hr5 hE5
          refine hK.out _ _ ?_ (fun hHeld => ?_)
          · exact KB.out _ (by (repeat (first | with_reducible assumption | with_reducible exact Ext.refl _ | with_reducible apply Ext.alloc | with_reducible apply Ext.drew)); first | done | fail)
          clear hK K
          try simp only [Act.put, List.setIfInBounds_toArray, List.set_cons_zero, List.set_cons_succ]
          refine wpAnyH_ready (rs := [7]) (by kernel_rfl) (by simp) (AllReadyH.cons (oper_at rfl) (fun K hK => ?_) AllReadyH.nil)
          go_simp
          go_at_call 10
          refine (CK.out _ _ hX5 HT5.out).mono ?_
          rintro e6 w6 ⟨rfl, hE6⟩
          have hX6 : Ext w4 w6 := hX5.trans hE6
          have HX6 := Lib.hid hX6
          clear hE6
          refine hK.out _ _ ?_ (fun hHeld => ?_)
          · exact KB.out _ (by (repeat (first | with_reducible assumption | with_reducible exact Ext.refl _ | with_reducible apply Ext.alloc | with_reducible apply Ext.drew)); first | done | fail)
          clear hK K
          try simp only [Act.put, List.setIfInBounds_toArray, List.set_cons_zero, List.set_cons_succ]
          refine wpAnyH_take (i := 8) (v := .bool false) (oper_at rfl) (by kernel_rfl) (by kernel_rfl) (by kernel_rfl) (fun _ _ _ h => h) (Or.inl ⟨by rfl, ?_⟩) hHeld ?_
          · (intro ww hSw; (try dsimp only at hSw); go_simp; try (with_reducible rfl))
          try simp only [Act.put, List.setIfInBounds_toArray, List.set_cons_zero, List.set_cons_succ]
          refine wpAnyH_take (i := 9) (v := .bool false) (oper_at rfl) (by kernel_rfl) (by kernel_rfl) (by kernel_rfl) (fun _ _ _ h => h) (Or.inl ⟨by rfl, ?_⟩) hHeld ?_
          · (intro ww hSw; (try dsimp only at hSw); go_simp; try (with_reducible rfl))
          try simp only [Act.put, List.setIfInBounds_toArray, List.set_cons_zero, List.set_cons_succ]
          refine wpAnyH_done (by kernel_rfl) ?_ _
          refine NoPanic.normal ?_
          have d0 := (blkOf_ext HX6.out (by omega)).trans c0
          have d1 : blkOf w6 (w.heap.size + 1) = NV0 := (blkOf_ext HX6.out hz4).trans c1
          have D0 := Lib.hid d0
          have D1 := Lib.hid d1
          clear hHeld KB n82 c0 c1 d0 d1
          go_wp2_with fail
          refine ⟨⟨j + 1, A3, n3, c3, by omega, by omega, by go_num, ?_, D1.out, ?_, HX4.out.trans (HX6.out.exc g r)⟩, by simp [intOf]; omega⟩
          · rw [HST.out]; exact D0.out
          · rw [HST.out]; exact HB4.out.ext HX6.out
      · have h3 : ¬ (j : Int) < 30 := by omega
        have hje : min al.length 30 = j := by omega
        have B1 := Lib.hid b1
        go_wp2_with fail
        generalize hwz : wr.setRow (w.heap.size + 1) _ = wz
        have hhz : ∀ i, i ≠ w.heap.size + 1 → wz.heap[i]? = wr.heap[i]? := fun i hi => by rw [← hwz]; exact setRow_other _ _ _ _ hi
        have bz : blkOf wz (w.heap.size + 1) = NV (.slice Al cs.length cl) (.slice Ah hs.length ch) (stF cs hs al x j).s (stF cs hs al x j).t (stF cs hs al x j).d (.slice A nn c2) := by rw [← hwz]; exact blkOf_setRow_same (by rw [B1.out, NV_size])
        have hEz : Exc g r w wz := by rw [← hwz]; exact HX.out.setRow (Nat.le_add_right _ 1) _
        refine bodyPost_ret (res32b Tryz.results7 (g := w.heap.size + 1) rfl rfl bz NV_size) rfl ?_
        try rw [hje]
        exact ⟨_, rfl, HH.out.to HBo.out hEz (hhz g (Ne.symm ng1)) (hhz r (Ne.symm nr1)) (by rw [← hwz]; exact HBo.out.rk.setFar (by rw [B1.out, NV_size]) _), hEz⟩
    · have hje : min al.length 30 = j := by omega
      obtain rfl : j = al.length := by omega
      have B1 := Lib.hid b1
      go_wp2_with fail
      generalize hwz : wr.setRow (w.heap.size + 1) _ = wz
      have hhz : ∀ i, i ≠ w.heap.size + 1 → wz.heap[i]? = wr.heap[i]? := fun i hi => by rw [← hwz]; exact setRow_other _ _ _ _ hi
      have bz : blkOf wz (w.heap.size + 1) = NV (.slice Al cs.length cl) (.slice Ah hs.length ch) (stF cs hs al x al.length).s (stF cs hs al x al.length).t (stF cs hs al x al.length).d (.slice A nn c2) := by rw [← hwz]; exact blkOf_setRow_same (by rw [B1.out, NV_size])
      have hEz : Exc g r w wz := by rw [← hwz]; exact HX.out.setRow (Nat.le_add_right _ 1) _
      refine bodyPost_ret (res32b Tryz.results7 (g := w.heap.size + 1) rfl rfl bz NV_size) rfl ?_
      try rw [hje]
      exact ⟨_, rfl, HH.out.to HBo.out hEz (hhz g (Ne.symm ng1)) (hhz r (Ne.symm nr1)) (by rw [← hwz]; exact HBo.out.rk.setFar (by rw [B1.out, NV_size]) _), hEz⟩
end Go.Proofs.YtehmpbaiefbemaaGreat
