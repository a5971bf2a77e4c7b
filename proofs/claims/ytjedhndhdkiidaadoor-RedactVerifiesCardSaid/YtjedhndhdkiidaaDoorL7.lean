/- The walk over RedactVerifies. -/
import Derived.Test.YtjedhndhdkiidaaDoorH2
namespace Go.Proofs.YtjedhndhdkiidaaDoor
open Go.RowKit
attribute [local go_sem ↓] Go.wp_at_zero Go.wp_at_succ
attribute [local go_sem] baSize baList
attribute [local go_sem ↓] ld75 ld48 ld73 st75 st48 al75 al48 bu75 bu48 eq48 ne48
attribute [local go_sem] run_al75 run_al48 run_bu48 run_bu75n run_bu75c run_bu75o run_st75n run_st48n run_eqD run_neD
set_option maxRecDepth 100000 in
set_option maxHeartbeats 1000000 in
theorem verifies_law (rs : List Rw) (v : Value) (b t : Nat) (w : World) (h : RsAt w v rs) (hb : b < 65536) (ht : t < 256) (hT : Tab w) : Calls Tryd.prog 7 #[v, .int .u16 (b : Int), .int .u8 (t : Int)] w (RetB true w) := by
  have CV := Lib.hid (valid10_ok rs v w h)
  have HT := Lib.hid hT
  have HB := Lib.hid hb
  have HTT := Lib.hid ht
  obtain ⟨fs, hfs⟩ : ∃ fs, vfF rs = fs := ⟨_, rfl⟩
  have HOK : Hid (DocOk fs) := Lib.hid (by rw [← hfs]; exact vf_ok rs)
  rw [hfs] at CV
  obtain ⟨A, c, rfl, -, -, -⟩ := h.read
  clear hfs h hT hb ht
  go_enter Tryd.func7, Tryd.ntmps7
  go_wp2_with fail
  refine CV.out.mono ?_
  rintro _ w1 ⟨v1, v2, rfl, hf1, hf2, hE1⟩
  have HF1 := Lib.hid hf1
  have HF2 := Lib.hid hf2
  have HE1 := Lib.hid hE1
  obtain ⟨A1, c1, rfl, -, -, -⟩ := hf1.read
  obtain ⟨A2, c2, rfl, -, -, -⟩ := hf2.read
  obtain ⟨nn, hnn⟩ : ∃ nn, nmK fs b fs.length = nn := ⟨_, rfl⟩
  obtain ⟨dd, hdd⟩ : ∃ dd, (docF fs).map (keepF nn) = dd := ⟨_, rfl⟩
  obtain ⟨D, hD⟩ : ∃ D, rootF dd = D := ⟨_, rfl⟩
  obtain ⟨gs, hgs⟩ : ∃ gs, opF dd = gs := ⟨_, rfl⟩
  obtain ⟨ys, hys⟩ : ∃ ys, srtF fs = ys := ⟨_, rfl⟩
  have hle : fs.length ≤ 64 := HOK.out.le
  have hyl : ys.length = fs.length := by rw [← hys, srtF_len]
  have hdl : dd.length = fs.length := by rw [← hdd, List.length_map, docF_len]
  have hroot : topF (((srtF fs).map itOf).map nodF) = D := by rw [← hD, ← hdd, rootF_keep, srtF_doc HOK.out.names]; rfl
  have HD32 : Hid (D.length = 32) := Lib.hid (by rw [← hD]; exact rootF_len (by have := HOK.out.pos; omega))
  have HGS : Hid (gs = ys.filter (fun f => decide (f.nm ∈ nn))) := Lib.hid (by rw [← hgs, ← hdd, ← hys]; exact opF_doc HOK.out.names nn)
  have HGL : Hid (gs.length ≤ 64) := Lib.hid (by rw [HGS.out]; exact Nat.le_trans (List.length_filter_le _ _) (by omega))
  have HYL := Lib.hid hyl
  have HLE := Lib.hid hle
  have HDL : Hid (dd.length ≤ 100) := Lib.hid (by omega)
  have HDK : Hid (∀ x ∈ dd, ItOk x) := Lib.hid (fun x hx => by rw [← hdd] at hx; obtain ⟨y, hy, rfl⟩ := List.mem_map.1 hx; exact keepF_ok (docF_ok HOK.out y hy))
  have HDN : Hid (∀ x ∈ dd, x.nm.length ≤ 1000) := Lib.hid (fun x hx => by rw [← hdd] at hx; obtain ⟨y, hy, rfl⟩ := List.mem_map.1 hx; rw [keepF_nm]; exact docF_nm HOK.out y hy)
  have HV1 : Hid (verF D dd = (gs, 0)) := Lib.hid (by unfold verF; rw [if_neg (by have := HOK.out.pos; omega), if_pos hD, hgs])
  have HV2 : Hid (verF (flipF D t) dd = ([], 7)) := Lib.hid (by unfold verF; rw [if_neg (by have := HOK.out.pos; omega), if_neg (by rw [hD]; exact flipF_ne HD32.out HTT.out)])
  have C20 : Hid (Calls Tryd.prog 20 #[.slice A2 fs.length c2] w1 (fun e w' => ∃ va, e = .returned (.tuple #[idV D, va]) ∧ Ext w1 w')) := Lib.hid (by
    have hd := HOK.out
    refine (root20_ok fs _ w1 HF2.out (by have := hd.le; omega) hd.pos (fun f hf => by have := hd.each f hf; have h2 := okN_len this.1; exact ⟨by omega, by omega, by omega⟩) (HT.out.ext HE1.out)).mono ?_
    rintro e w' ⟨va, rfl, -, h3⟩
    exact ⟨va, by rw [hroot], h3⟩)
  have C11 : Hid (∀ W, Ext w1 W → Calls Tryd.prog 11 #[.slice A1 fs.length c1, .int .u16 (b : Int)] W (RetSs nn W)) := Lib.hid (fun W hW => by rw [← hnn]; exact names11_ok fs _ b W (HF1.out.ext hW) HB.out (by omega))
  have C12 : Hid (∀ W T, Ext w1 W → SsAt W T nn → Calls Tryd.prog 12 #[.slice A1 fs.length c1, T] W (RetDr dd 0 W)) := Lib.hid (fun W T hW ht => by
    have := disclose12_row fs _ nn T W (HF1.out.ext hW) ht (HT.out.ext (HE1.out.trans hW))
    rw [discF_ok HOK.out (by rw [← hnn]; exact nmK_sub (Nat.le_refl _)), hdd] at this
    exact this)
  have C22 : Hid (∀ W, Ext w1 W → Calls Tryd.prog 22 #[.slice A2 fs.length c2] W (RetSr ys W)) := Lib.hid (fun W hW => by rw [← hys]; exact sorted22_ok fs _ W (HF2.out.ext hW) (by omega))
  have C13 : Hid (∀ W, Ext w1 W → Calls Tryd.prog 13 #[] W (RetB true W)) := Lib.hid (fun W hW => awake13_ok W (HT.out.ext (HE1.out.trans hW)))
  clear hf1 hf2 hE1 hnn hdd hgs hys hle hyl hdl hroot hD CV
  go_upto_region 3 with (go_at_call 20; refine C20.out.mono ?_; rintro _ w2 ⟨va, rfl, hE2⟩; have HE2 := Lib.hid hE2; clear hE2)
  generalize hw3 : w2.alloc _ = w3
  have HB3 : Hid (Bk w3 w2.heap.size 32 (idF D)) := Lib.hid (by rw [← hw3]; exact Bk.new (by decide))
  have HE3 : Hid (Ext w1 w3) := Lib.hid (by rw [← hw3]; exact HE2.out.alloc _)
  have z2 : w1.heap.size ≤ w2.heap.size := HE2.out.size
  have Z2 := Lib.hid z2
  clear hw3 z2 C20
  go_upto_region 4 with (first
    | (go_at_call 11; refine (C11.out _ (HE3.out.trans (by repeat (first | assumption | exact Ext.refl _ | apply Ext.drew | apply Ext.drewN)))).mono ?_; rintro _ w4 ⟨vn, rfl, hs4, hE4⟩; have HS4 := Lib.hid hs4; have hX4 : Ext w3 w4 := Ext.trans (by repeat (first | assumption | exact Ext.refl _ | apply Ext.drew | apply Ext.drewN)) hE4; clear hs4 hE4)
    | (go_at_call 12; refine (C12.out _ _ (HE3.out.trans hX4) HS4.out).mono ?_; rintro _ w5 ⟨ps, vd, rfl, hrx, hpx, hix, hE5⟩; obtain ⟨Ad, cd, ex, -, -⟩ := hrx.form; rw [List.length_map, show ps.length = dd.length by rw [← hix, List.length_map]] at ex; subst ex; have HRX := Lib.hid hrx; have HPX := Lib.hid hpx; have HIX := Lib.hid hix; have HDS : Hid (DsAt w5 (.slice Ad dd.length cd) dd) := Lib.hid (by have := DsAt.of_row hrx hpx; rw [hix] at this; exact this); have HX34 := Lib.hid hX4; have HX5 := Lib.hid (hX4.trans hE5); clear hrx hpx hix hE5 hX4))
  generalize hw6 : w5.alloc _ = w6
  have HB6 : Hid (Bk w6 w5.heap.size 1 (fun _ => .slice Ad dd.length cd)) := Lib.hid (by rw [← hw6]; exact Bk.new1 _ _ _)
  have HE56 : Hid (Ext w5 w6) := Lib.hid (by rw [← hw6]; exact (Ext.refl _).alloc _)
  clear hw6
  have HX36 := Lib.hid (HX5.out.trans HE56.out)
  have HX16 := Lib.hid (HE3.out.trans HX36.out)
  have HD6 := Lib.hid (HDS.out.ext HE56.out)
  have C21 : Hid (∀ W, Ext w6 W → Calls Tryd.prog 21 #[idV D, dsV (.slice Ad dd.length cd)] W (RetVr (gs, 0) W)) := Lib.hid (fun W hW => by
    have := verify21_ok D dd _ W HD32.out (HD6.out.ext hW) HDK.out HDN.out HDL.out (HT.out.ext (HE1.out.trans (HX16.out.trans hW)))
    rw [HV1.out] at this
    exact this)
  clear C12 HS4 HDS
  have l1 := (HB3.out.ext HX36.out).run_ld48
  have t6 := HB6.out.cell (k := 0) (by decide)
  go_upto_region 8 with (first
    | (go_at_call 21; refine (C21.out _ (by repeat (first | assumption | exact Ext.refl _ | apply Ext.drew | apply Ext.drewN))).mono ?_; rintro _ w7 ⟨vg, rfl, hfg, hE7⟩; have HFG := Lib.hid hfg; have hX7 : Ext w6 w7 := Ext.trans (by repeat (first | assumption | exact Ext.refl _ | apply Ext.drew | apply Ext.drewN)) hE7; obtain ⟨Ag, cg, rfl, -, -, -⟩ := hfg.read; clear hE7 hfg)
    | (go_at_call 13; refine (C13.out _ (HX16.out.trans hX7)).mono ?_; rintro _ w8 ⟨rfl, hE8⟩; have HX8 := Lib.hid (hX7.trans hE8); have HX78 := Lib.hid hE8; clear hE8 hX7))
  clear l1 t6 C13 C21
  have HX18 := Lib.hid (HX16.out.trans HX8.out)
  go_wp2_with fail
  refine (C22.out _ HX18.out).mono ?_
  rintro _ w9 ⟨vy, rfl, hfy, hE9⟩
  have HFY := Lib.hid hfy
  have HX9 := Lib.hid (HX8.out.trans hE9)
  have HX19 := Lib.hid (HX18.out.trans hE9)
  have HFG9 := Lib.hid (HFG.out.ext (HX78.out.trans hE9))
  obtain ⟨Ay, cy, rfl, -, -, hry⟩ := hfy.read
  have HRY := Lib.hid hry
  have hg := HFG9.out.read
  obtain ⟨Ag', cg', eg, -, -, hrg⟩ := hg
  obtain ⟨rfl, -, rfl⟩ := Value.slice.inj eg
  have HRG := Lib.hid hrg
  clear hfy hE9 hry hrg eg C22
  go_wp2_with fail
  go_loopw [15, 59] (fun s i wr => ∃ (k n : Nat), k ≤ ys.length ∧ i = iV (k : Int) ∧ s = iV (n : Int) ∧ n = ((ys.take k).filter (fun f => decide (f.nm ∈ nn))).length ∧ Ext w9 wr) (fun _ i _ => ys.length - (intOf i).toNat)
  case atStart => exact ⟨0, 0, by omega, rfl, rfl, rfl, Ext.refl _⟩
  case round =>
    obtain ⟨k, n, hk, rfl, rfl, hn, hX⟩ := hrel
    have HN := Lib.hid hn
    have HX := Lib.hid hX
    have HX1r := Lib.hid (HX19.out.trans hX)
    clear hn hX
    by_cases hlt : k < ys.length
    · have q1 : (k : Int) < (ys.length : Int) := by omega
      have q0 : (0 : Int) ≤ (k : Int) := by omega
      have q2 : (k : Int) < 100 := by have := HLE.out; have := HYL.out; omega
      obtain ⟨bb, o, B1, d1, B2, d2, rfl, hbb, n0, n1, n2, l1, m1, b1, l2, m2, b2⟩ := HRY.out wr HX.out k hlt
      obtain ⟨f, hf⟩ : ∃ f, ys.getD k Fd0 = f := ⟨_, rfl⟩
      rw [hf] at n0 n1 n2 l1 b1 l2 b2
      have HS1 : Hid (SlB wr (.slice B1 f.vl.length d1) f.vl) := Lib.hid ⟨B1, d1, rfl, l1, m1, b1⟩
      have HS2 : Hid (SlB wr (.slice B2 f.sl.length d2) f.sl) := Lib.hid ⟨B2, d2, rfl, l2, m2, b2⟩
      have HTK : Hid ((ys.take (k + 1)).filter (fun f => decide (f.nm ∈ nn)) = (ys.take k).filter (fun f => decide (f.nm ∈ nn)) ++ [f].filter (fun f => decide (f.nm ∈ nn))) := Lib.hid (by
        rw [List.take_succ_eq_append_getElem hlt, List.filter_append, ← hf, List.getD_eq_getElem?_getD, List.getElem?_eq_getElem hlt]
        rfl)
      have HF0 := Lib.hid hf
      clear l1 m1 b1 l2 m2 b2 hf
      go_upto_region 11 with fail
      generalize hw4 : World.alloc _ _ = wa
      have p0 : wa.cell? ⟨wr.heap.size, 0, none⟩ = some (sV f.nm) := by rw [← hw4]; exact new_at _ _ _ 0 _ rfl
      have p1 : wa.cell? ⟨wr.heap.size, 1, none⟩ = some (.slice B1 f.vl.length d1) := by rw [← hw4]; exact new_at _ _ _ 1 _ rfl
      have p2 : wa.cell? ⟨wr.heap.size, 2, none⟩ = some (.slice B2 f.sl.length d2) := by rw [← hw4]; exact new_at _ _ _ 2 _ rfl
      have HEa : Hid (Ext wr wa) := Lib.hid (by rw [← hw4]; exact (Ext.refl _).alloc _)
      clear hw4 n0 n1 n2
      have HP := Lib.hid (And.intro p0 (And.intro p1 p2))
      have HXa := Lib.hid (HX.out.trans HEa.out)
      have HX1a := Lib.hid (HX1r.out.trans HEa.out)
      have KB : Hid (∀ W, Ext wa W → (fun w' => Ext wa w' ∧ w'.cell? ⟨wr.heap.size, 0, none⟩ = some (sV f.nm)) W) := Lib.hid (fun W h => ⟨h, h.cell HP.out.1⟩)
      refine wp_region_noPanic ?_
      refine wp_region_held_drew (S := (fun w' => Ext wa w' ∧ w'.cell? ⟨wr.heap.size, 0, none⟩ = some (sV f.nm))) (by kernel_rfl) ?_ (fun hHeld => ?_)
      · first | assumption | exact KB.out _ (by repeat (first | assumption | exact Ext.refl _ | apply Ext.alloc | apply Ext.drew | apply Ext.drewN))
      refine wpAnyH_take (i := 0) (v := ?_) (oper_at rfl) (by kernel_rfl) (by kernel_rfl) (by kernel_rfl) (fun _ _ _ h => h) (Or.inl ⟨by rfl, ?_⟩) hHeld ?_
      rotate_left
      · (intro ww hSw; (try dsimp only at hSw); go_simp; try (with_reducible rfl))
      try simp only [Act.put, List.setIfInBounds_toArray, List.set_cons_zero, List.set_cons_succ]
      refine wpAnyH_take (i := 1) (v := ?_) (oper_at rfl) (by kernel_rfl) (by kernel_rfl) (by kernel_rfl) (fun _ _ _ h => h) (Or.inl ⟨by rfl, ?_⟩) hHeld ?_
      rotate_left
      · (intro ww hSw; (try dsimp only at hSw); go_simp; try (with_reducible rfl))
      try simp only [Act.put, List.setIfInBounds_toArray, List.set_cons_zero, List.set_cons_succ]
      refine wpAnyH_take (i := 3) (v := ?_) (oper_at rfl) (by kernel_rfl) (by kernel_rfl) (by kernel_rfl) (fun _ _ _ h => h) (Or.inl ⟨by rfl, ?_⟩) hHeld ?_
      rotate_left
      · (intro ww hSw; (try dsimp only at hSw); go_simp; try (with_reducible rfl))
      try simp only [Act.put, List.setIfInBounds_toArray, List.set_cons_zero, List.set_cons_succ]
      refine wpAnyH_take (i := 4) (v := ?_) (oper_at rfl) (by kernel_rfl) (by kernel_rfl) (by kernel_rfl) (fun _ _ _ h => h) (Or.inl ⟨by rfl, ?_⟩) hHeld ?_
      rotate_left
      · (intro ww hSw; (try dsimp only at hSw); go_simp; try (with_reducible rfl))
      try simp only [Act.put, List.setIfInBounds_toArray, List.set_cons_zero, List.set_cons_succ]
      refine wpAnyH_ready (rs := [2]) (by kernel_rfl) (by simp) (AllReadyH.cons (oper_at rfl) (fun K hK => ?_) AllReadyH.nil)
      go_simp
      go_at_call 11
      refine (C11.out _ (HX1a.out.trans (by repeat (first | assumption | exact Ext.refl _ | apply Ext.alloc | apply Ext.drew | apply Ext.drewN)))).mono ?_
      rintro _ wb ⟨vn, rfl, hsb, hE⟩
      have hXb : Ext wa wb := Ext.trans (by repeat (first | assumption | exact Ext.refl _ | apply Ext.alloc | apply Ext.drew | apply Ext.drewN)) hE
      have HSB := Lib.hid hsb
      clear hE hsb
      refine hK.out _ _ ?_ (fun hHeld => ?_)
      · first | assumption | exact KB.out _ (by repeat (first | assumption | exact Ext.refl _ | apply Ext.alloc | apply Ext.drew | apply Ext.drewN))
      clear hK K
      try simp only [Act.put, List.setIfInBounds_toArray, List.set_cons_zero, List.set_cons_succ]
      refine wpAnyH_ready (rs := [5]) (by kernel_rfl) (by simp) (AllReadyH.cons (oper_at rfl) (fun K hK => ?_) AllReadyH.nil)
      go_simp
      go_at_call 23
      refine (has23_ok f.nm nn _ _ (HSB.out.ext (by repeat (first | assumption | exact Ext.refl _ | apply Ext.alloc | apply Ext.drew | apply Ext.drewN)))).mono ?_
      rintro _ _ ⟨rfl, rfl⟩
      refine hK.out _ _ ?_ (fun hHeld => ?_)
      · first | assumption | exact KB.out _ (by repeat (first | assumption | exact Ext.refl _ | apply Ext.alloc | apply Ext.drew | apply Ext.drewN))
      clear hK K
      try simp only [Act.put, List.setIfInBounds_toArray, List.set_cons_zero, List.set_cons_succ]
      refine wpAnyH_take (i := 6) (v := ?_) (oper_at rfl) (by kernel_rfl) (by kernel_rfl) (by kernel_rfl) (fun _ _ _ h => h) (Or.inl ⟨by rfl, ?_⟩) hHeld ?_
      rotate_left
      · (intro ww hSw; (try dsimp only at hSw); go_simp; try (with_reducible rfl))
      try simp only [Act.put, List.setIfInBounds_toArray, List.set_cons_zero, List.set_cons_succ]
      refine wpAnyH_done (by kernel_rfl) ?_ _
      refine NoPanic.normal ?_
      have HXb := Lib.hid hXb
      clear KB p0 p1 p2 hXb
      by_cases hm : f.nm ∈ nn
      · have hdm : decide (f.nm ∈ nn) = true := by simp [hm]
        rw [hdm]
        have hg2 := filt_get (fun f => decide (f.nm ∈ nn)) ys Fd0 hlt (by rw [HF0.out]; exact hdm)
        rw [← HGS.out, ← HN.out, HF0.out] at hg2
        have hnl := hg2.2
        have q3 : ¬ (gs.length : Int) ≤ (n : Int) := by omega
        have q4 : (n : Int) < (gs.length : Int) := by omega
        have q5 : (0 : Int) ≤ (n : Int) := by omega
        have q6 : (n : Int) < 100 := by have := HGL.out; omega
        obtain ⟨bg, og, G1, e1, G2, e2, rfl, hbg, g0, g1, g2, k1, k2, k3, k4, k5, k6⟩ := HRG.out wb (HXa.out.trans HXb.out) n hnl
        rw [hg2.1] at g0 g1 g2 k1 k3 k4 k6
        have HS3 : Hid (SlB wb (.slice G1 f.vl.length e1) f.vl) := Lib.hid ⟨G1, e1, rfl, k1, k2, k3⟩
        have HS4 : Hid (SlB wb (.slice G2 f.sl.length e2) f.sl) := Lib.hid ⟨G2, e2, rfl, k4, k5, k6⟩
        have HG := Lib.hid (And.intro g0 (And.intro g1 g2))
        have HK1 : Hid (n + 1 = ((ys.take (k + 1)).filter (fun f => decide (f.nm ∈ nn))).length) := Lib.hid (by rw [HTK.out, List.length_append, ← HN.out, List.filter_cons_of_pos (by exact hdm)]; rfl)
        clear hg2 hnl k1 k2 k3 k4 k5 k6 hm hdm g0 g1 g2
        go_upto_region 12 with fail
        have KB : Hid (∀ W, Ext wb W → (fun w' => Ext wb w' ∧ (w'.cell? ⟨wr.heap.size, 0, none⟩ = some (sV f.nm) ∧ w'.cell? ⟨wr.heap.size, 1, none⟩ = some (.slice B1 f.vl.length d1) ∧ w'.cell? ⟨wr.heap.size, 2, none⟩ = some (.slice B2 f.sl.length d2)) ∧ w'.cell? ⟨bg, og + n * 3, none⟩ = some (sV f.nm) ∧ w'.cell? ⟨bg, og + n * 3 + 1, none⟩ = some (.slice G1 f.vl.length e1) ∧ w'.cell? ⟨bg, og + n * 3 + 2, none⟩ = some (.slice G2 f.sl.length e2)) W) := Lib.hid (fun W h => ⟨h, ⟨(HXb.out.trans h).cell HP.out.1, (HXb.out.trans h).cell HP.out.2.1, (HXb.out.trans h).cell HP.out.2.2⟩, h.cell HG.out.1, h.cell HG.out.2.1, h.cell HG.out.2.2⟩)
        refine wp_region_noPanic ?_
        refine wp_region_held_drew (S := (fun w' => Ext wb w' ∧ (w'.cell? ⟨wr.heap.size, 0, none⟩ = some (sV f.nm) ∧ w'.cell? ⟨wr.heap.size, 1, none⟩ = some (.slice B1 f.vl.length d1) ∧ w'.cell? ⟨wr.heap.size, 2, none⟩ = some (.slice B2 f.sl.length d2)) ∧ w'.cell? ⟨bg, og + n * 3, none⟩ = some (sV f.nm) ∧ w'.cell? ⟨bg, og + n * 3 + 1, none⟩ = some (.slice G1 f.vl.length e1) ∧ w'.cell? ⟨bg, og + n * 3 + 2, none⟩ = some (.slice G2 f.sl.length e2))) (by kernel_rfl) ?_ (fun hHeld => ?_)
        · first | assumption | exact KB.out _ (by repeat (first | assumption | exact Ext.refl _ | apply Ext.alloc | apply Ext.drew | apply Ext.drewN))
        refine wpAnyH_take (i := 0) (v := ?_) (oper_at rfl) (by kernel_rfl) (by kernel_rfl) (by kernel_rfl) (fun _ _ _ h => h) (Or.inl ⟨by rfl, ?_⟩) hHeld ?_
        rotate_left
        · (intro ww hSw; (try dsimp only at hSw); go_simp; try (with_reducible rfl))
        try simp only [Act.put, List.setIfInBounds_toArray, List.set_cons_zero, List.set_cons_succ]
        refine wpAnyH_take (i := 1) (v := ?_) (oper_at rfl) (by kernel_rfl) (by kernel_rfl) (by kernel_rfl) (fun _ _ _ h => h) (Or.inl ⟨by rfl, ?_⟩) hHeld ?_
        rotate_left
        · (intro ww hSw; (try dsimp only at hSw); go_simp; try (with_reducible rfl))
        try simp only [Act.put, List.setIfInBounds_toArray, List.set_cons_zero, List.set_cons_succ]
        refine wpAnyH_take (i := 2) (v := ?_) (oper_at rfl) (by kernel_rfl) (by kernel_rfl) (by kernel_rfl) (fun _ _ _ h => h) (Or.inl ⟨by rfl, ?_⟩) hHeld ?_
        rotate_left
        · (intro ww hSw; (try dsimp only at hSw); go_simp; try (with_reducible rfl))
        try simp only [Act.put, List.setIfInBounds_toArray, List.set_cons_zero, List.set_cons_succ]
        refine wpAnyH_take (i := 3) (v := ?_) (oper_at rfl) (by kernel_rfl) (by kernel_rfl) (by kernel_rfl) (fun _ _ _ h => h) (Or.inl ⟨by rfl, ?_⟩) hHeld ?_
        rotate_left
        · (intro ww hSw; (try dsimp only at hSw); go_simp; try (with_reducible rfl))
        try simp only [Act.put, List.setIfInBounds_toArray, List.set_cons_zero, List.set_cons_succ]
        refine wpAnyH_take (i := 4) (v := ?_) (oper_at rfl) (by kernel_rfl) (by kernel_rfl) (by kernel_rfl) (fun _ _ _ h => h) (Or.inl ⟨by rfl, ?_⟩) hHeld ?_
        rotate_left
        · (intro ww hSw; (try dsimp only at hSw); go_simp; try (with_reducible rfl))
        try simp only [Act.put, List.setIfInBounds_toArray, List.set_cons_zero, List.set_cons_succ]
        refine wpAnyH_take (i := 5) (v := ?_) (oper_at rfl) (by kernel_rfl) (by kernel_rfl) (by kernel_rfl) (fun _ _ _ h => h) (Or.inl ⟨by rfl, ?_⟩) hHeld ?_
        rotate_left
        · (intro ww hSw; (try dsimp only at hSw); go_simp; try (with_reducible rfl))
        try simp only [Act.put, List.setIfInBounds_toArray, List.set_cons_zero, List.set_cons_succ]
        refine wpAnyH_take (i := 6) (v := ?_) (oper_at rfl) (by kernel_rfl) (by kernel_rfl) (by kernel_rfl) (fun _ _ _ h => h) (Or.inl ⟨by rfl, ?_⟩) hHeld ?_
        rotate_left
        · (intro ww hSw; (try dsimp only at hSw); go_simp; try (with_reducible rfl))
        try simp only [Act.put, List.setIfInBounds_toArray, List.set_cons_zero, List.set_cons_succ]
        refine wpAnyH_take (i := 7) (v := ?_) (oper_at rfl) (by kernel_rfl) (by kernel_rfl) (by kernel_rfl) (fun _ _ _ h => h) (Or.inl ⟨by rfl, ?_⟩) hHeld ?_
        rotate_left
        · (intro ww hSw; (try dsimp only at hSw); go_simp; try (with_reducible rfl))
        try simp only [Act.put, List.setIfInBounds_toArray, List.set_cons_zero, List.set_cons_succ]
        refine wpAnyH_take (i := 8) (v := ?_) (oper_at rfl) (by kernel_rfl) (by kernel_rfl) (by kernel_rfl) (fun _ _ _ h => h) (Or.inl ⟨by rfl, ?_⟩) hHeld ?_
        rotate_left
        · (intro ww hSw; (try dsimp only at hSw); go_simp; try (with_reducible rfl))
        try simp only [Act.put, List.setIfInBounds_toArray, List.set_cons_zero, List.set_cons_succ]
        refine wpAnyH_take (i := 9) (v := ?_) (oper_at rfl) (by kernel_rfl) (by kernel_rfl) (by kernel_rfl) (fun _ _ _ h => h) (Or.inl ⟨by rfl, ?_⟩) hHeld ?_
        rotate_left
        · (intro ww hSw; (try dsimp only at hSw); go_simp; try (with_reducible rfl))
        try simp only [Act.put, List.setIfInBounds_toArray, List.set_cons_zero, List.set_cons_succ]
        refine wpAnyH_ready (rs := [10]) (by kernel_rfl) (by simp) (AllReadyH.cons (oper_at rfl) (fun K hK => ?_) AllReadyH.nil)
        go_simp
        go_at_call 24
        refine (same24_ok f _ _ _ _ _ (HS3.out.ext (by repeat (first | assumption | exact Ext.refl _ | apply Ext.alloc | apply Ext.drew | apply Ext.drewN))) (HS4.out.ext (by repeat (first | assumption | exact Ext.refl _ | apply Ext.alloc | apply Ext.drew | apply Ext.drewN))) (HS1.out.ext (HEa.out.trans (HXb.out.trans (by repeat (first | assumption | exact Ext.refl _ | apply Ext.alloc | apply Ext.drew | apply Ext.drewN))))) (HS2.out.ext (HEa.out.trans (HXb.out.trans (by repeat (first | assumption | exact Ext.refl _ | apply Ext.alloc | apply Ext.drew | apply Ext.drewN)))))).mono ?_
        rintro _ wc ⟨rfl, hE⟩
        have hXc : Ext wb wc := Ext.trans (by repeat (first | assumption | exact Ext.refl _ | apply Ext.alloc | apply Ext.drew | apply Ext.drewN)) hE
        clear hE
        refine hK.out _ _ ?_ (fun hHeld => ?_)
        · first | assumption | exact KB.out _ (by repeat (first | assumption | exact Ext.refl _ | apply Ext.alloc | apply Ext.drew | apply Ext.drewN))
        clear hK K
        try simp only [Act.put, List.setIfInBounds_toArray, List.set_cons_zero, List.set_cons_succ]
        refine wpAnyH_take (i := 11) (v := ?_) (oper_at rfl) (by kernel_rfl) (by kernel_rfl) (by kernel_rfl) (fun _ _ _ h => h) (Or.inl ⟨by rfl, ?_⟩) hHeld ?_
        rotate_left
        · (intro ww hSw; (try dsimp only at hSw); go_simp; try (with_reducible rfl))
        try simp only [Act.put, List.setIfInBounds_toArray, List.set_cons_zero, List.set_cons_succ]
        refine wpAnyH_take (i := 12) (v := ?_) (oper_at rfl) (by kernel_rfl) (by kernel_rfl) (by kernel_rfl) (fun _ _ _ h => h) (Or.inl ⟨by rfl, ?_⟩) hHeld ?_
        rotate_left
        · (intro ww hSw; (try dsimp only at hSw); go_simp; try (with_reducible rfl))
        try simp only [Act.put, List.setIfInBounds_toArray, List.set_cons_zero, List.set_cons_succ]
        refine wpAnyH_done (by kernel_rfl) ?_ _
        refine NoPanic.normal ?_
        have HXc := Lib.hid hXc
        clear KB hXc
        go_wp2_with fail
        exact ⟨⟨k + 1, n + 1, by omega, by go_num, by go_num, HK1.out, HXa.out.trans (HXb.out.trans HXc.out)⟩, by simp [intOf]; omega⟩
      · have hdm : decide (f.nm ∈ nn) = false := by simp [hm]
        rw [hdm]
        have HK1 : Hid (n = ((ys.take (k + 1)).filter (fun f => decide (f.nm ∈ nn))).length) := Lib.hid (by rw [HTK.out, List.length_append, ← HN.out, List.filter_cons_of_neg (by simp [hm])]; rfl)
        clear hm hdm
        go_wp2_with fail
        exact ⟨⟨k + 1, n, by omega, by go_num, rfl, HK1.out, HXa.out.trans HXb.out⟩, by simp [intOf]; omega⟩
    · obtain rfl : k = ys.length := by omega
      rw [List.take_length, ← HGS.out] at HN
      have hn := HN.out
      subst hn
      have HX3r := Lib.hid (HX36.out.trans (HX9.out.trans HX.out))
      have hqb : t / 8 < 32 := by have := HTT.out; omega
      have lb : wr.cell? ⟨w2.heap.size, t / 8, none⟩ = some (vU8 (((D.getD (t / 8) 0).toNat : Nat) : Int)) := (HB3.out.ext HX3r.out).cell hqb
      have fb := (HB3.out.ext HX3r.out).frozen (t / 8)
      go_upto_region 17 with fail
      rw [flip_val]
      generalize hwm : wr.setCell _ _ = wm
      have HBm : Hid (Bk wm w2.heap.size 32 (idF (flipF D t))) := Lib.hid (by rw [← hwm]; exact ((HB3.out.ext HX3r.out).set (t / 8) _).congr (flip_fun HD32.out HTT.out))
      have HX1m : Hid (Ext w1 wm) := Lib.hid (by rw [← hwm]; exact Ext.set HX1r.out Z2.out _)
      have hfar : ∀ x, x ≠ w2.heap.size → wm.heap[x]? = wr.heap[x]? := fun x hx => by rw [← hwm]; exact Below.heap_setCell wr _ _ x hx
      have h23 : w2.heap.size < w3.heap.size := HB3.out.lt
      have h34 : w3.heap.size ≤ w4.heap.size := HX34.out.size
      have h35 : w3.heap.size ≤ w5.heap.size := HX5.out.size
      have hE5r : Ext w5 wr := HE56.out.trans (HX9.out.trans HX.out)
      have hrx := (HRX.out.ext hE5r)
      have hrm := hrx.kept (w' := wm) (fun kk e => hfar kk (by have := (hrx.lt kk e).1; omega))
      have hpm : PsAt wm w4.heap.size ps := fun p hp => ((HPX.out p hp).ext hE5r).kept fun x hx _ => hfar x (by omega)
      have HDm : Hid (DsAt wm (.slice Ad dd.length cd) dd) := Lib.hid (by have := DsAt.of_row hrm hpm; rw [HIX.out] at this; exact this)
      have HB6m : Hid (Bk wm w5.heap.size 1 (fun _ => .slice Ad dd.length cd)) := Lib.hid ((HB6.out.ext (HX9.out.trans HX.out)).kept (hfar _ (by omega)))
      clear hwm hfar h23 h34 h35 hE5r hrx hrm hpm lb fb hqb
      have C21m : Hid (∀ W, Ext wm W → Calls Tryd.prog 21 #[idV (flipF D t), dsV (.slice Ad dd.length cd)] W (RetVr ([], 7) W)) := Lib.hid (fun W hW => by
        have := verify21_ok (flipF D t) dd _ W (by rw [flipF_len]; exact HD32.out) (HDm.out.ext hW) HDK.out HDN.out HDL.out (HT.out.ext (HE1.out.trans (HX1m.out.trans hW)))
        rw [HV2.out] at this
        exact this)
      have C21e : Hid (∀ W, Ext wm W → Calls Tryd.prog 21 #[idV (flipF D t), dsV nilV] W (RetVr ([], 1) W)) := Lib.hid (fun W hW => verify21_ok (flipF D t) [] _ W (by rw [flipF_len]; exact HD32.out) (DsAt.nil _) (fun x hx => by cases hx) (fun x hx => by cases hx) (by decide) (HT.out.ext (HE1.out.trans (HX1m.out.trans hW))))
      obtain ⟨D', hD'⟩ : ∃ D', flipF D t = D' := ⟨_, rfl⟩
      rw [hD'] at HBm C21m C21e
      clear hD'
      have lm := HBm.out.run_ld48
      have tm := HB6m.out.cell (k := 0) (by decide)
      go_upto_region 18 with (go_at_call 21; refine (C21m.out _ (by repeat (first | assumption | exact Ext.refl _ | apply Ext.drew | apply Ext.drewN))).mono ?_; rintro _ wn ⟨vq, rfl, hfq, hEn⟩; have hXn : Ext wm wn := Ext.trans (by repeat (first | assumption | exact Ext.refl _ | apply Ext.drew | apply Ext.drewN)) hEn; obtain ⟨Aq, cq, rfl, -, -, -⟩ := hfq.read; clear hEn hfq)
      clear lm tm
      have HXn := Lib.hid hXn
      have ln := (HBm.out.ext hXn).run_ld48
      clear hXn
      go_upto_region 19 with (go_at_call 21; refine (C21e.out _ (HXn.out.trans (by repeat (first | assumption | exact Ext.refl _ | apply Ext.drew | apply Ext.drewN)))).mono ?_; rintro _ wp ⟨vp, rfl, hfp, hEp⟩; have HXp : Hid (Ext wm wp) := Lib.hid (HXn.out.trans (Ext.trans (by repeat (first | assumption | exact Ext.refl _ | apply Ext.drew | apply Ext.drewN)) hEp)); clear hEp hfp)
      clear ln
      go_wp2_with fail
      go_ret
      exact ⟨rfl, HE1.out.trans (HX1m.out.trans HXp.out)⟩
end Go.Proofs.YtjedhndhdkiidaaDoor
