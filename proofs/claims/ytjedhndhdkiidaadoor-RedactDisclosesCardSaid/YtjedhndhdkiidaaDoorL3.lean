/- The walk over RedactDiscloses. -/
import Derived.Test.YtjedhndhdkiidaaDoorV31
import Derived.Test.YtjedhndhdkiidaaDoorV26
namespace Go.Proofs.YtjedhndhdkiidaaDoor
open Go.RowKit
attribute [local go_sem ↓] Go.wp_at_zero Go.wp_at_succ
attribute [local go_sem] baSize baList baGet
abbrev encS (s : List UInt8) : List Value := [sV s]
theorem encS_wide (l : List (List UInt8)) : Wide 1 (l.map encS) := Wide.map (f := encS) (s := 1) (fun _ => rfl) l
theorem encS_one (l : List (List UInt8)) : ∀ u ∈ (l.map encS).flatten, u.oneCell' = true := by
  intro u hu
  obtain ⟨x, hx, hu2⟩ := List.mem_flatten.1 hu
  obtain ⟨s, -, rfl⟩ := List.mem_map.1 hx
  rw [List.mem_singleton.1 hu2]
  rfl
theorem keepF_dup (l : List (List UInt8)) (x : It) : keepF (l ++ l) x = keepF l x := by
  unfold keepF
  by_cases h : x.nm ∈ l
  · rw [if_pos h, if_pos (List.mem_append.2 (.inl h))]
  · rw [if_neg h, if_neg (fun h' => h ((List.mem_append.1 h').elim id id))]
/-- Whether a name is a field's. -/
def knF (fs : List Fd) (s : List UInt8) : Bool := fs.any fun f => f.nm == s
theorem knF_mem {fs : List Fd} {s : List UInt8} : knF fs s = true ↔ s ∈ fs.map (·.nm) := by
  unfold knF
  rw [List.any_eq_true, List.mem_map]
  exact ⟨fun ⟨f, hf, e⟩ => ⟨f, hf, by simpa using e⟩, fun ⟨f, hf, e⟩ => ⟨f, hf, by simpa using e⟩⟩
theorem discF_more {fs : List Fd} (hd : DocOk fs) {l : List (List UInt8)} (hl : ∀ s ∈ l, s ∈ fs.map (·.nm)) (m : List UInt8) : discF fs (l ++ [m]) = if knF fs m = true then ((docF fs).map (keepF (l ++ [m])), 0) else ([], 4) := by
  by_cases h : knF fs m = true
  · rw [if_pos h]
    exact discF_ok hd fun s hs => (List.mem_append.1 hs).elim (hl s) fun h' => by rw [List.mem_singleton.1 h']; exact knF_mem.1 h
  · rw [if_neg h]
    unfold discF
    rw [if_neg (by rw [chk_of_ok hd]; decide), if_neg]
    intro ha
    rw [List.all_eq_true] at ha
    have := of_decide_eq_true (ha m (by simp))
    refine h (knF_mem.2 ?_)
    have hp : ((docF fs).map (·.nm)).Perm (fs.map (·.nm)) := by
      have := (docF_perm fs).map (·.nm)
      rw [List.map_map] at this
      exact this
    exact hp.mem_iff.1 this
set_option maxRecDepth 100000 in
set_option maxHeartbeats 1000000 in
theorem discloses_law (rs : List Rw) (v : Value) (b : Nat) (more : List UInt8) (w : World) (h : RsAt w v rs) (hb : b < 65536) (hT : Tab w) : Calls Tryd.prog 3 #[v, .int .u16 (b : Int), sV more] w (RetB true w) := by
  have CV := Lib.hid (valid10_ok rs v w h)
  have HT := Lib.hid hT
  have HB := Lib.hid hb
  obtain ⟨fs, hfs⟩ : ∃ fs, vfF rs = fs := ⟨_, rfl⟩
  have HOK : Hid (DocOk fs) := Lib.hid (by rw [← hfs]; exact vf_ok rs)
  rw [hfs] at CV
  obtain ⟨A, c, rfl, -, -, -⟩ := h.read
  clear hfs h hT hb
  go_enter Tryd.func3, Tryd.ntmps3
  go_wp2_with fail
  refine CV.out.mono ?_
  rintro _ w1 ⟨v1, v2, rfl, hf1, hf2, hE1⟩
  have HF1 := Lib.hid hf1
  have HF2 := Lib.hid hf2
  have HE1 := Lib.hid hE1
  obtain ⟨A1, c1, rfl, -, -, h1⟩ := hf1.read
  have HR1 := Lib.hid h1
  obtain ⟨A2, c2, rfl, -, -, -⟩ := hf2.read
  obtain ⟨nn, hnn⟩ : ∃ nn, nmK fs b fs.length = nn := ⟨_, rfl⟩
  obtain ⟨dd, hdd⟩ : ∃ dd, (docF fs).map (keepF nn) = dd := ⟨_, rfl⟩
  obtain ⟨kn, hkn⟩ : ∃ kn, knF fs more = kn := ⟨_, rfl⟩
  have HKN := Lib.hid hkn
  have HDD := Lib.hid hdd
  have hle : fs.length ≤ 64 := HOK.out.le
  have HLE := Lib.hid hle
  have HSUB : Hid (∀ s ∈ nn, s ∈ fs.map (·.nm)) := Lib.hid (by rw [← hnn]; exact nmK_sub (Nat.le_refl _))
  have HNL : Hid (nn.length ≤ 64) := Lib.hid (by rw [← hnn]; exact Nat.le_trans (nmK_len _ _ _) hle)
  have C11 : Hid (∀ W, Ext w1 W → Calls Tryd.prog 11 #[.slice A1 fs.length c1, .int .u16 (b : Int)] W (RetSr1 nn W)) := Lib.hid (fun W hW => by rw [← hnn]; exact names11_row fs _ b W (HF1.out.ext hW) HB.out (by omega))
  have C12 : Hid (∀ W T, Ext w1 W → SsAt W T (nn ++ nn) → Calls Tryd.prog 12 #[.slice A1 fs.length c1, T] W (RetD dd 0 W)) := Lib.hid (fun W T hW ht => by
    have := disclose12_ok fs _ (nn ++ nn) T W (HF1.out.ext hW) ht (HT.out.ext (HE1.out.trans hW))
    rw [discF_ok HOK.out (fun s hs => HSUB.out s ((List.mem_append.1 hs).elim id id)), show (docF fs).map (keepF (nn ++ nn)) = (docF fs).map (keepF nn) from List.map_congr_left fun x _ => keepF_dup nn x, hdd] at this
    exact this)
  have C12m : Hid (∀ W T, Ext w1 W → SsAt W T (nn ++ [more]) → Calls Tryd.prog 12 #[.slice A1 fs.length c1, T] W (RetDr (discF fs (nn ++ [more])).1 (discF fs (nn ++ [more])).2 W)) := Lib.hid (fun W T hW ht => disclose12_row fs _ (nn ++ [more]) T W (HF1.out.ext hW) ht (HT.out.ext (HE1.out.trans hW)))
  have C13 : Hid (∀ W, Ext w1 W → Calls Tryd.prog 13 #[] W (RetB true W)) := Lib.hid (fun W hW => awake13_ok W (HT.out.ext (HE1.out.trans hW)))
  clear hf1 hf2 hE1 hnn hdd hkn hle h1
  go_wp2_with fail
  refine (C11.out _ (Ext.refl _)).mono ?_
  rintro _ w2 ⟨v9, rfl, hr9, hE2⟩
  have HR9 := Lib.hid hr9
  have HE2 := Lib.hid hE2
  obtain ⟨A9, c9, e9, -, -⟩ := hr9.form
  rw [List.length_map] at e9
  subst e9
  have HV9 : Hid (VsAt w2 A9 (nn.map encS).flatten) := Lib.hid (by
    obtain ⟨A', c', e', -, -, hv⟩ := hr9.sl.at_
    obtain ⟨rfl, -, -⟩ := Value.slice.inj e'
    exact hv)
  clear hr9 hE2
  go_upto_region 4 with (first
    | (at_builtin; refine wapp el28 rfl (.tmp 26) (.tmp 27) rfl (w5 := w2) (vs := []) (us := nn.map encS) rfl ((Ext.refl _).alloc _) (row_new (Nat.le_refl _) (Wide.nil 1) rfl (by simp)) rfl (by rw [List.length_map]) (encS_wide _) (HV9.out.ext ((Ext.refl _).alloc _)) (encS_one _) (by have := HNL.out; rw [List.length_map]; simp; omega) (by have := HNL.out; rw [List.length_map]; simp; omega) ?_; intro v3 w3 hr3 hE3 hg3 hb3; rw [List.nil_append] at hr3; have HR3 := Lib.hid hr3; have HE3 := Lib.hid hE3; clear hr3 hE3 hg3 hb3)
    | (at_builtin; refine wapp el28 rfl (.tmp 28) (.tmp 29) rfl (w5 := w2) (vs := nn.map encS) (us := nn.map encS) rfl HE3.out HR3.out rfl (by rw [List.length_map]) (encS_wide _) (HV9.out.ext HE3.out) (encS_one _) (by have := HNL.out; rw [List.length_map]; omega) (by have := HNL.out; rw [List.length_map]; omega) ?_; intro v4 w4 hr4 hE4 hg4 hb4; rw [← List.map_append] at hr4; have HR4 := Lib.hid hr4; have HE4 := Lib.hid hE4; clear hr4 hE4 hg4 hb4)
    | (go_at_call 12; refine (C12.out _ _ (HE2.out.trans HE4.out) HR4.out.sl).mono ?_; rintro _ w5 ⟨vd, rfl, hds, hE5⟩; have HDS := Lib.hid hds; have HE5 := Lib.hid (HE4.out.trans hE5); obtain ⟨Ad, cd, rfl, -, -, -⟩ := hds.read; clear hds hE5))
  generalize hw6 : w5.alloc _ = w6
  have HB6 : Hid (Bk w6 w5.heap.size 1 (fun _ => .slice Ad dd.length cd)) := Lib.hid (by rw [← hw6]; exact Bk.new1 _ _ _)
  have HE56 : Hid (Ext w5 w6) := Lib.hid (by rw [← hw6]; exact (Ext.refl _).alloc _)
  clear hw6
  have HE26 := Lib.hid (HE5.out.trans HE56.out)
  have HE16 := Lib.hid (HE2.out.trans HE26.out)
  have HD6 := Lib.hid (HDS.out.ext HE56.out)
  have C14 : Hid (∀ W, Ext w6 W → Calls Tryd.prog 14 #[dsV (.slice Ad dd.length cd), .slice A2 fs.length c2, .slice A9 nn.length c9] W (RetB true W)) := Lib.hid (fun W hW => by
    refine shows14_ok fs _ _ _ nn W HOK.out (noName_not HOK.out) ?_ (HF2.out.ext (HE16.out.trans hW)) (HR9.out.sl.ext (HE26.out.trans hW)) (HT.out.ext (HE1.out.trans (HE16.out.trans hW)))
    rw [HDD.out]
    exact HD6.out.ext hW)
  clear C11 C12 HR3 HE3 HR4 HE4
  go_wp2_with (first
    | (go_at_call 13; refine (C13.out _ (HE16.out.trans (by repeat (first | assumption | exact Ext.refl _ | apply Ext.drew | apply Ext.drewN)))).mono ?_; rintro _ w7 ⟨rfl, hE7⟩; have hX7 : Ext w6 w7 := Ext.trans (by repeat (first | assumption | exact Ext.refl _ | apply Ext.drew | apply Ext.drewN)) hE7; have t7 := (HB6.out.ext hX7).cell (k := 0) (by decide); clear hE7)
    | (go_at_call 14; refine (C14.out _ hX7).mono ?_; rintro _ w8 ⟨rfl, hE8⟩; have HX8 := Lib.hid (hX7.trans hE8); clear hE8 hX7 t7))
  go_loopw [12, 49] (fun t i wr => ∃ (k : Nat) (kb : Bool), k ≤ fs.length ∧ i = iV (k : Int) ∧ t = .bool kb ∧ kb = knF (fs.take k) more ∧ Ext w8 wr) (fun _ i _ => fs.length - (intOf i).toNat)
  case atStart => exact ⟨0, false, by omega, rfl, rfl, rfl, Ext.refl _⟩
  case round =>
    obtain ⟨k, kb, hk, rfl, rfl, hkb, hX⟩ := hrel
    have HKB := Lib.hid hkb
    have HX := Lib.hid hX
    have HXR := Lib.hid (HE16.out.trans (HX8.out.trans hX))
    clear hkb hX
    by_cases hlt : k < fs.length
    · have q1 : (k : Int) < (fs.length : Int) := by omega
      have q0 : (0 : Int) ≤ (k : Int) := by omega
      have q2 : (k : Int) < 100 := by have := HLE.out; omega
      obtain ⟨bb, o, B1, d1, B2, d2, rfl, hbb, n0, n1, n2, -, -, -, -, -, -⟩ := HR1.out wr HXR.out k hlt
      obtain ⟨f, hf⟩ : ∃ f, fs.getD k Fd0 = f := ⟨_, rfl⟩
      rw [hf] at n0 n1 n2
      have HKS : Hid (knF (fs.take (k + 1)) more = (kb || f.nm == more)) := Lib.hid (by
        rw [HKB.out, List.take_succ_eq_append_getElem hlt]
        unfold knF
        rw [List.any_append, ← hf, List.getD_eq_getElem?_getD, List.getElem?_eq_getElem hlt]
        simp)
      clear hf
      cases kb with
      | true =>
        go_wp2_with fail
        exact ⟨⟨k + 1, true, by omega, by go_num, rfl, by rw [HKS.out]; rfl, HX.out.alloc _⟩, by simp [intOf]; omega⟩
      | false =>
        cases q3 : (f.nm == more) with
        | true =>
          go_wp2_with fail
          exact ⟨⟨k + 1, true, by omega, by go_num, rfl, by rw [HKS.out, q3]; rfl, HX.out.alloc _⟩, by simp [intOf]; omega⟩
        | false =>
          go_wp2_with fail
          exact ⟨⟨k + 1, false, by omega, by go_num, rfl, by rw [HKS.out, q3]; rfl, HX.out.alloc _⟩, by simp [intOf]; omega⟩
    · obtain rfl : k = fs.length := by omega
      rw [List.take_length, HKN.out] at HKB
      have hkb := HKB.out
      subst hkb
      have HEM : Hid (Ext w2 wr) := Lib.hid (HE26.out.trans (HX8.out.trans HX.out))
      clear HKB HX8 HX HB6 HD6 HDS C14
      go_upto_region 13 with (first
        | (at_builtin; refine wapp el28 rfl (.tmp 63) (.tmp 64) rfl (w5 := wr) (vs := []) (us := nn.map encS) rfl ((Ext.refl _).alloc _) (row_new (Nat.le_refl _) (Wide.nil 1) rfl (by simp)) rfl (by rw [List.length_map]) (encS_wide _) (HV9.out.ext (HEM.out.alloc _)) (encS_one _) (by have := HNL.out; rw [List.length_map]; simp; omega) (by have := HNL.out; rw [List.length_map]; simp; omega) ?_; intro va wa hra hEa hga hba; rw [List.nil_append] at hra; have HRa := Lib.hid hra; have HEa := Lib.hid hEa; clear hra hEa hga hba)
        | (at_builtin; refine wapp el28 rfl (.tmp 65) (.tmp 67) rfl (w5 := wr) (vs := nn.map encS) (us := [more].map encS) rfl (HEa.out.alloc _) (HRa.out.ext ((Ext.refl _).alloc _)) rfl rfl (encS_wide _) (vs1 _ _ _) (encS_one _) (by have := HNL.out; rw [List.length_map]; simp; omega) (by have := HNL.out; rw [List.length_map]; simp; omega) ?_; intro vb wb hrb hEb hgb hbb; rw [← List.map_append] at hrb; have HRb := Lib.hid hrb; have HEb := Lib.hid hEb; clear hrb hEb hgb hbb)
        | (go_at_call 12; refine (C12m.out _ _ (HXR.out.trans HEb.out) HRb.out.sl).mono ?_; rintro _ wc ⟨ps, vx, rfl, hrx, hpx, hix, hEc⟩; have HRX := Lib.hid hrx; have HPX := Lib.hid hpx; have HIX := Lib.hid hix; have HEc := Lib.hid (HEb.out.trans hEc); have HEbc := Lib.hid hEc; obtain ⟨Ax, cx, ex, -, -⟩ := hrx.form; rw [List.length_map] at ex; subst ex; clear hrx hpx hix hEc))
      generalize hwd : wc.alloc _ = wd
      have HBd : Hid (Bk wd wc.heap.size 1 (fun _ => .slice Ax ps.length cx)) := Lib.hid (by rw [← hwd]; exact Bk.new1 _ _ _)
      have HEcd : Hid (Ext wc wd) := Lib.hid (by rw [← hwd]; exact (Ext.refl _).alloc _)
      clear hwd
      have HDX : Hid (DsAt wd (.slice Ax ps.length cx) (discF fs (nn ++ [more])).1) := Lib.hid (by rw [← HIX.out]; exact (DsAt.of_row HRX.out HPX.out).ext HEcd.out)
      have HEWd := Lib.hid (HEM.out.trans (HEc.out.trans HEcd.out))
      have td := HBd.out.cell (k := 0) (by decide)
      have hdm := discF_more HOK.out HSUB.out more
      rw [HKN.out] at hdm
      cases kb with
      | false =>
        as_aux_lemma =>
        rw [if_neg (by decide)] at hdm
        have e1 : (discF fs (nn ++ [more])).2 = 4 := by rw [hdm]
        have HX0 : Hid (ps.length = 0) := Lib.hid (by
          have e2 : (discF fs (nn ++ [more])).1 = [] := by rw [hdm]
          rw [e2] at HIX
          have := congrArg List.length HIX.out
          simpa using this)
        have C15 : Hid (∀ W, Ext wd W → Calls Tryd.prog 15 #[dsV (.slice Ax ps.length cx)] W (RetSs (([] : List It).map (·.nm)) W)) := Lib.hid (fun W hW => names15_ok [] _ W (by
          have := HDX.out.ext hW
          rw [show (discF fs (nn ++ [more])).1 = [] by rw [hdm]] at this
          exact this) (by simp))
        rw [e1]
        clear hdm
        go_wp2_with (go_at_call 15; refine (C15.out _ (by repeat (first | assumption | exact Ext.refl _ | apply Ext.drew | apply Ext.drewN))).mono ?_; rintro _ we ⟨vs, rfl, hse, hEe⟩; have HEe := Lib.hid hEe; obtain ⟨Ae, ce, rfl, -, -, -⟩ := SsAt.read hse; clear hEe hse)
        go_ret
        exact ⟨rfl, HE1.out.trans (HE2.out.trans (HEWd.out.trans HEe.out))⟩
      | true =>
        as_aux_lemma =>
        rw [if_pos rfl] at hdm
        have e1 : (discF fs (nn ++ [more])).2 = 0 := by rw [hdm]
        rw [e1]
        have HDX1 : Hid ((discF fs (nn ++ [more])).1 = (docF fs).map (keepF (nn ++ [more]))) := Lib.hid (by rw [hdm])
        clear hdm td e1
        go_upto_region 15 with fail
        have HR9d := Lib.hid (HR9.out.ext HEWd.out)
        have HE1d := Lib.hid (HE2.out.trans HEWd.out)
        have KB : Hid (∀ W, Ext wd W → (fun w' => Ext w1 w' ∧ w'.cell? ⟨wc.heap.size, 0, none⟩ = some (.slice Ax ps.length cx)) W) := Lib.hid (fun W h => ⟨HE1d.out.trans h, (HBd.out.ext h).cell (k := 0) (by decide)⟩)
        refine wp_region_noPanic ?_
        refine wp_region_held_drew (S := (fun w' => Ext w1 w' ∧ w'.cell? ⟨wc.heap.size, 0, none⟩ = some (.slice Ax ps.length cx))) (by kernel_rfl) ?_ (fun hHeld => ?_)
        · first | assumption | exact KB.out _ (by repeat (first | assumption | exact Ext.refl _ | apply Ext.alloc | apply Ext.drew | apply Ext.drewN))
        refine wpAnyH_take (i := 0) (v := ?_) (oper_at rfl) (by kernel_rfl) (by kernel_rfl) (by kernel_rfl) (fun _ _ _ h => h) (Or.inl ⟨by rfl, ?_⟩) hHeld ?_
        rotate_left
        · (intro ww hSw; (try dsimp only at hSw); go_simp; try (with_reducible rfl))
        try simp only [Act.put, List.setIfInBounds_toArray, List.set_cons_zero, List.set_cons_succ]
        refine wpAnyH_take (i := 1) (v := ?_) (oper_at rfl) (by kernel_rfl) (by kernel_rfl) (by kernel_rfl) (fun _ _ _ h => h) (Or.inl ⟨by rfl, ?_⟩) hHeld ?_
        rotate_left
        · (intro ww hSw; (try dsimp only at hSw); go_simp; try (with_reducible rfl))
        try simp only [Act.put, List.setIfInBounds_toArray, List.set_cons_zero, List.set_cons_succ]
        refine wpAnyH_take (i := 2) (v := ?_) (oper_at rfl) (by kernel_rfl) (by kernel_rfl) (by kernel_rfl) (fun _ _ _ h => h) (Or.inl ⟨by rfl, ?_⟩) hHeld ?_
        rotate_left
        · (intro ww hSw; (try dsimp only at hSw); go_simp; try (with_reducible rfl))
        try simp only [Act.put, List.setIfInBounds_toArray, List.set_cons_zero, List.set_cons_succ]
        refine wpAnyH_take (i := 3) (v := ?_) (oper_at rfl) (by kernel_rfl) (by kernel_rfl) (by kernel_rfl) (fun _ _ _ h => h) (Or.inl ⟨by rfl, ?_⟩) hHeld ?_
        rotate_left
        · (intro ww hSw; (try dsimp only at hSw); go_simp; try (with_reducible rfl))
        try simp only [Act.put, List.setIfInBounds_toArray, List.set_cons_zero, List.set_cons_succ]
        refine wpAnyH_take (i := 4) (v := ?_) (oper_at rfl) (by kernel_rfl) (by kernel_rfl) (by kernel_rfl) (fun _ _ _ h => h) (Or.inl ⟨by rfl, ?_⟩) hHeld ?_
        rotate_left
        · (intro ww hSw; (try dsimp only at hSw); go_simp; try (with_reducible rfl))
        try simp only [Act.put, List.setIfInBounds_toArray, List.set_cons_zero, List.set_cons_succ]
        refine wpAnyH_take (i := 5) (v := ?_) (oper_at rfl) (by kernel_rfl) (by kernel_rfl) (by kernel_rfl) (fun _ _ _ h => h) (Or.inl ⟨by rfl, ?_⟩) hHeld ?_
        rotate_left
        · (intro ww hSw; (try dsimp only at hSw); go_simp; try (with_reducible rfl))
        try simp only [Act.put, List.setIfInBounds_toArray, List.set_cons_zero, List.set_cons_succ]
        refine wpAnyH_take (i := 6) (v := ?_) (oper_at rfl) (by kernel_rfl) (by kernel_rfl) (by kernel_rfl) (fun _ _ _ h => h) (Or.inl ⟨by rfl, ?_⟩) hHeld ?_
        rotate_left
        · (intro ww hSw; (try dsimp only at hSw); go_simp; try (with_reducible rfl))
        try simp only [Act.put, List.setIfInBounds_toArray, List.set_cons_zero, List.set_cons_succ]
        refine wpAnyH_ready (rs := [7]) (by kernel_rfl) (by simp) (AllReadyH.cons (oper_at rfl) (fun K hK => ?_) AllReadyH.nil)
        go_simp
        generalize hwe : World.alloc _ (.cells #[sV more] 9) = we
        have hXe : Ext wd we := by (rw [← hwe]; exact Ext.alloc (by repeat (first | assumption | exact Ext.refl _ | apply Ext.alloc | apply Ext.drew | apply Ext.drewN)) _)
        have HVe : Hid (VsAt we (some ⟨_, 0, none⟩) ([more].map encS).flatten) := Lib.hid (by rw [← hwe]; exact vs1 _ _ _)
        clear hwe
        refine hK.out _ _ ?_ (fun hHeld => ?_)
        · first | assumption | exact KB.out _ (by repeat (first | assumption | exact Ext.refl _ | apply Ext.alloc | apply Ext.drew | apply Ext.drewN))
        clear hK K
        try simp only [Act.put, List.setIfInBounds_toArray, List.set_cons_zero, List.set_cons_succ]
        refine wpAnyH_ready (rs := [8]) (by kernel_rfl) (by simp) (AllReadyH.cons (oper_at rfl) (fun K hK => ?_) AllReadyH.nil)
        refine gapp el28 (by rfl) (.tmp 87) (.tmp 89) (by rfl) (w5 := w1) (vs := nn.map encS) (us := [more].map encS) (by rfl) (HE1d.out.trans (by repeat (first | assumption | exact Ext.refl _ | apply Ext.alloc | apply Ext.drew | apply Ext.drewN))) (HR9d.out.ext (by repeat (first | assumption | exact Ext.refl _ | apply Ext.alloc | apply Ext.drew | apply Ext.drewN))) (by rfl) (by rfl) (encS_wide _) (HVe.out.ext (by repeat (first | assumption | exact Ext.refl _ | apply Ext.alloc | apply Ext.drew | apply Ext.drewN))) (encS_one _) (by have := HNL.out; rw [List.length_map]; simp; omega) (by have := HNL.out; rw [List.length_map]; simp; omega) ?_
        intro vf wf hrf hEf hgf hbf
        rw [← List.map_append] at hrf
        have hk9 : ∀ kk, (Value.slice A9 nn.length c9).ownBlock = some kk → kk < w2.heap.size := fun kk e => (HR9.out.lt kk e).2
        have hz : w2.heap.size ≤ wb.heap.size := Nat.le_trans HEM.out.size HEb.out.size
        have hz2 : wb.heap.size ≤ wc.heap.size := HEbc.out.size
        have hz3 : wc.heap.size ≤ wd.heap.size := HEcd.out.size
        have hfar : ∀ x, w2.heap.size ≤ x → x < we.heap.size → wf.heap[x]? = we.heap[x]? := fun x h1 h2 => hgf.block x h2 fun e => Nat.lt_irrefl _ (Nat.lt_of_lt_of_le (hk9 x e.symm) h1)
        have hRXe := HRX.out.ext (HEcd.out.trans hXe)
        have hPXe : PsAt we wb.heap.size ps := fun p hp => ((HPX.out p hp).ext (HEcd.out.trans hXe))
        have HRXf := hRXe.kept (w' := wf) (fun kk e => hfar kk (Nat.le_trans hz (hRXe.lt kk e).1) (hRXe.lt kk e).2)
        have HPXf : PsAt wf wb.heap.size ps := fun p hp => (hPXe p hp).kept fun x hx ht => hfar x (Nat.le_trans hz hx) ht.lt
        have HDf : Hid (DsAt wf (.slice Ax ps.length cx) ((docF fs).map (keepF (nn ++ [more])))) := Lib.hid (by rw [← HDX1.out, ← HIX.out]; exact DsAt.of_row HRXf HPXf)
        have HBf : Bk wf wc.heap.size 1 (fun _ => .slice Ax ps.length cx) := (HBd.out.ext hXe).kept (hfar _ (Nat.le_trans hz hz2) (HBd.out.ext hXe).lt)
        have HSf := Lib.hid hrf.sl
        have hXf : Ext w1 wf := hEf
        have hcf := HBf.cell (k := 0) (by decide)
        clear hrf hEf hgf hbf hk9 hz hz2 hz3 hfar hRXe hPXe HRXf HPXf HBf
        refine hK.out _ _ ?_ (fun hHeld => ?_)
        · exact ⟨hXf, hcf⟩
        clear hK K
        try simp only [Act.put, List.setIfInBounds_toArray, List.set_cons_zero, List.set_cons_succ]
        refine wpAnyH_ready (rs := [9]) (by kernel_rfl) (by simp) (AllReadyH.cons (oper_at rfl) (fun K hK => ?_) AllReadyH.nil)
        go_simp
        go_at_call 14
        refine (shows14_ok fs _ _ _ (nn ++ [more]) _ HOK.out (noName_not HOK.out) (HDf.out.ext (by repeat (first | assumption | exact Ext.refl _ | apply Ext.alloc | apply Ext.drew | apply Ext.drewN))) (HF2.out.ext (Ext.trans hXf (by repeat (first | assumption | exact Ext.refl _ | apply Ext.alloc | apply Ext.drew | apply Ext.drewN)))) (HSf.out.ext (by repeat (first | assumption | exact Ext.refl _ | apply Ext.alloc | apply Ext.drew | apply Ext.drewN))) (HT.out.ext (HE1.out.trans (Ext.trans hXf (by repeat (first | assumption | exact Ext.refl _ | apply Ext.alloc | apply Ext.drew | apply Ext.drewN)))))).mono ?_
        rintro _ wg ⟨rfl, hE⟩
        have hFg : Ext wf wg := Ext.trans (by repeat (first | assumption | exact Ext.refl _ | apply Ext.alloc | apply Ext.drew | apply Ext.drewN)) hE
        have hXg : Ext w1 wg := hXf.trans hFg
        have hcg := hFg.cell hcf
        clear hE
        refine hK.out _ _ ?_ (fun hHeld => ?_)
        · exact ⟨hXg, hcg⟩
        clear hK K
        try simp only [Act.put, List.setIfInBounds_toArray, List.set_cons_zero, List.set_cons_succ]
        refine wpAnyH_take (i := 10) (v := ?_) (oper_at rfl) (by kernel_rfl) (by kernel_rfl) (by kernel_rfl) (fun _ _ _ h => h) (Or.inl ⟨by rfl, ?_⟩) hHeld ?_
        rotate_left
        · (intro ww hSw; (try dsimp only at hSw); go_simp; try (with_reducible rfl))
        try simp only [Act.put, List.setIfInBounds_toArray, List.set_cons_zero, List.set_cons_succ]
        refine wpAnyH_take (i := 11) (v := ?_) (oper_at rfl) (by kernel_rfl) (by kernel_rfl) (by kernel_rfl) (fun _ _ _ h => h) (Or.inl ⟨by rfl, ?_⟩) hHeld ?_
        rotate_left
        · (intro ww hSw; (try dsimp only at hSw); go_simp; try (with_reducible rfl))
        try simp only [Act.put, List.setIfInBounds_toArray]
        refine wpAnyH_done (by kernel_rfl) ?_ _
        refine NoPanic.normal ?_
        go_wp2_with fail
        go_ret
        exact ⟨rfl, HE1.out.trans hXg⟩
end Go.Proofs.YtjedhndhdkiidaaDoor
