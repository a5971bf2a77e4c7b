/- The reference's bytes of a disclosure. -/
import Derived.Test.YtjedhndhdkiidaaDoorV32
namespace Go.Proofs.YtjedhndhdkiidaaDoor
open Go.RowKit
attribute [local go_sem ↓] Go.wp_at_zero Go.wp_at_succ
attribute [local go_sem] baSize baList
/-- Byte strings behind a slice. -/
def CsAt (w : World) (v : Value) (ds : List (List UInt8)) : Prop := ∃ us, SlAt 1 w v us ∧ us.length = ds.length ∧ ∀ j, j < ds.length → ∃ u, us.getD j [] = [u] ∧ SlB w u (ds.getD j [])
theorem CsAt.ext {w w' : World} {v : Value} {ds : List (List UInt8)} (h : CsAt w v ds) (k : Ext w w') : CsAt w' v ds := by
  obtain ⟨us, h1, h2, h3⟩ := h
  exact ⟨us, h1.ext k, h2, fun j hj => by obtain ⟨u, e, hs⟩ := h3 j hj; exact ⟨u, e, hs.ext k⟩⟩
theorem CsAt.read {w : World} {v : Value} {ds : List (List UInt8)} (h : CsAt w v ds) : ∃ A c, v = .slice A ds.length c ∧ ∀ j, j < ds.length → ∃ (b o : Nat) (A1 : Option Addr) (c1 : Nat), A = some ⟨b, o, none⟩ ∧ (∀ W, Ext w W → W.cell? ⟨b, o + j, none⟩ = some (.slice A1 (ds.getD j []).length c1)) ∧ SlB w (.slice A1 (ds.getD j []).length c1) (ds.getD j []) := by
  obtain ⟨us, h1, h2, h3⟩ := h
  obtain ⟨A, c, e, -, -, k3⟩ := h1.read
  refine ⟨A, c, by rw [e, h2], fun j hj => ?_⟩
  obtain ⟨b, o, e2, hb, hc⟩ := k3 w (Ext.refl _) j (by omega) (by decide)
  obtain ⟨u, e3, ⟨A1, c1, rfl, a1, a2, a3⟩⟩ := h3 j hj
  rw [e3] at hc
  have := hc 0 _ (by decide) rfl
  rw [Nat.mul_one, Nat.add_zero] at this
  exact ⟨b, o, A1, c1, e2, fun W hW => hW.cell this, ⟨A1, c1, rfl, a1, a2, a3⟩⟩
/-- A field as the reference writes it. -/
def refB (ss : List (List UInt8)) (f : Fd) (d : List UInt8) : List UInt8 := putU f.nm.length ++ f.nm ++ (if f.nm ∈ ss then 1 :: (f.sl ++ (putU f.vl.length ++ f.vl)) else 0 :: d)
/-- The first fields as the reference writes them. -/
def refK (fs : List Fd) (ds : List (List UInt8)) (ss : List (List UInt8)) (k : Nat) : List UInt8 := putU fs.length ++ ((List.range k).map fun j => refB ss (fs.getD j Fd0) (ds.getD j [])).flatten
theorem refK_succ (fs : List Fd) (ds ss : List (List UInt8)) (k : Nat) : refK fs ds ss (k + 1) = refK fs ds ss k ++ refB ss (fs.getD k Fd0) (ds.getD k []) := by
  unfold refK
  rw [List.range_succ, List.map_append, List.flatten_append, ← List.append_assoc]
  simp
theorem refK_len {fs : List Fd} {ds ss : List (List UInt8)} (hl : fs.length ≤ 100) (hf : ∀ f ∈ fs, f.nm.length ≤ 1000 ∧ f.vl.length ≤ 4000 ∧ f.sl.length ≤ 16) (hd : ∀ d ∈ ds, d.length ≤ 32) : ∀ k, k ≤ fs.length → (refK fs ds ss k).length ≤ 10 + k * 5100
  | 0, _ => by
    have := putU_len (k := 3) (v := fs.length) (by omega)
    unfold refK
    simp
    omega
  | k + 1, hk => by
    have ih := refK_len (ss := ss) hl hf hd k (by omega)
    have h1 := hf (fs.getD k Fd0) (mem_getD (by omega))
    have h2 : (ds.getD k []).length ≤ 32 := by
      rcases Nat.lt_or_ge k ds.length with h | h
      · exact hd _ (mem_getD h)
      · rw [List.getD_eq_getElem?_getD, List.getElem?_eq_none h]; simp
    have h3 := putU_len (k := 3) (v := (fs.getD k Fd0).nm.length) (by omega)
    have h4 := putU_len (k := 3) (v := (fs.getD k Fd0).vl.length) (by omega)
    rw [refK_succ, List.length_append, Nat.succ_mul]
    have : (refB ss (fs.getD k Fd0) (ds.getD k [])).length ≤ 5100 := by
      unfold refB
      split
      · simp only [List.length_append, List.length_cons]; omega
      · simp only [List.length_append, List.length_cons]; omega
    omega
/-- A block of another type is left alone by a row that grows. -/
theorem Bk.grownTy {w w' : World} {g n T B e : Nat} {f : Nat → Value} {v : Value} {s : Nat} {us : List (List Value)} (h : Bk w g n f) (ht : TyB w T g) (hr : Row s w B e v us) (he : e ≠ T) (hg : w.grownBy w' v.ownBlock) : Bk w' g n f ∧ TyB w' T g := by
  have hb : w'.heap[g]? = w.heap[g]? := hg.block _ h.lt fun e' => (hr.ty g e'.symm).ne ht he rfl
  exact ⟨h.kept hb, ht.kept hb⟩
theorem TyB.ext {w w' : World} {T g : Nat} (h : TyB w T g) (k : Ext w w') : TyB w' T g := h.kept (k.block g h.lt)
theorem TyB.new (w : World) (cs : Array Value) (T : Nat) : TyB (w.alloc (.cells cs T)) T w.heap.size := ⟨cs, _, heap_alloc_new w _⟩
theorem boxE {w w1 w' : World} {g n B s : Nat} {f : Nat → Value} {v : Value} {us : List (List Value)} (hg : w1.grownBy w' v.ownBlock) (h : Bk w g n f ∧ TyB w 58 g) (hE : Ext w w1) (hr : Row s w1 B 5 v us) : Bk w' g n f ∧ TyB w' 58 g := (h.1.ext hE).grownTy (h.2.ext hE) hr (by decide) hg
theorem Row.vsb {w : World} {B : Nat} {A : Option Addr} {n c : Nat} {xs : List UInt8} (h : Row 1 w B 5 (.slice A n c) (bv xs)) : VsAt w A (bv xs).flatten := by
  obtain ⟨A', c', e, hb, -, -, -⟩ := h.bytes
  obtain ⟨rfl, -, -⟩ := Value.slice.inj e
  exact hb.vs
set_option maxRecDepth 100000 in
set_option maxHeartbeats 1000000 in
theorem rbytes26_ok (fs : List Fd) (v : Value) (ds : List (List UInt8)) (vd : Value) (ss : List (List UInt8)) (vs : Value) (w : World) (h : FsAt w v fs) (hc : CsAt w vd ds) (hs : SsAt w vs ss) (hdl : ds.length = fs.length) (hl : fs.length ≤ 100) (hf : ∀ f ∈ fs, f.nm.length ≤ 1000 ∧ f.vl.length ≤ 4000 ∧ f.sl.length ≤ 16) (hd : ∀ d ∈ ds, d.length ≤ 32) : Calls Tryd.prog 26 #[v, vd, vs] w (RetBy (refK fs ds ss fs.length) w) := by
  obtain ⟨A, c, rfl, -, -, h3⟩ := h.read
  obtain ⟨Ac, cc, rfl, hcr⟩ := hc.read
  have HR := Lib.hid h3
  have HCR := Lib.hid hcr
  have HS := Lib.hid hs
  have HFF := Lib.hid hf
  have HDD := Lib.hid hd
  have HDL := Lib.hid hdl
  have HEL := Lib.hid (fun k hk => refK_len (ss := ss) hl hf hd k hk)
  rw [hdl]
  clear h h3 hc hcr hs hf hd hdl
  go_enter Tryd.func26, Tryd.ntmps26
  go_upto_region 2 with (go_at_call 44; refine (uint44_ok fs.length w (by omega)).mono ?_; rintro _ w1 ⟨v1, rfl, hr1, hE1⟩; have HR1 := Lib.hid hr1; have HE1 := Lib.hid hE1; clear hr1 hE1)
  go_wp2_with fail
  go_loopw [7, 15] (fun t i wr => ∃ (k : Nat) (v : Value), k ≤ fs.length ∧ i = iV (k : Int) ∧ t = v ∧ Row 1 wr w.heap.size 5 v (bv (refK fs ds ss k)) ∧ Ext w wr) (fun _ i _ => fs.length - (intOf i).toNat)
  case atStart => exact ⟨0, v1, by omega, rfl, rfl, by unfold refK; rw [List.range_zero, List.map_nil, List.flatten_nil, List.append_nil]; exact HR1.out, HE1.out⟩
  case round =>
    obtain ⟨k, v, hk, rfl, rfl, hr, hX⟩ := hrel
    obtain ⟨zs, hzs⟩ : ∃ zs, refK fs ds ss k = zs := ⟨_, rfl⟩
    have hzl := HEL.out k hk
    rw [hzs] at hr hzl
    have HZ := Lib.hid hzs
    have HRW := Lib.hid hr
    have HX := Lib.hid hX
    obtain ⟨Av, cv, hv, -, -⟩ := hr.form
    rw [bv_len] at hv
    subst hv
    have HZL : Hid (zs.length ≤ 520000) := Lib.hid (by omega)
    clear hzs hr hX hzl
    by_cases hlt : k < fs.length
    · have q1 : (k : Int) < (fs.length : Int) := by omega
      have q0 : (0 : Int) ≤ (k : Int) := by omega
      have q2 : (k : Int) < 200 := by omega
      obtain ⟨bb, o, A1, c1, A2, c2, rfl, hbb, n0, n1, n2, l1, m1, b1, l2, m2, b2⟩ := HR.out w (Ext.refl w) k hlt
      obtain ⟨bc, oc, A3, c3, rfl, nc, hsd⟩ := HCR.out k (by rw [HDL.out]; exact hlt)
      obtain ⟨f, hf⟩ : ∃ f, fs.getD k Fd0 = f := ⟨_, rfl⟩
      obtain ⟨d, hd⟩ : ∃ d, ds.getD k [] = d := ⟨_, rfl⟩
      rw [hf] at n0 n1 n2 l1 b1 l2 b2
      rw [hd] at nc hsd
      have HS1 : Hid (SlB w (.slice A1 f.vl.length c1) f.vl) := Lib.hid ⟨A1, c1, rfl, l1, m1, b1⟩
      have HS2 : Hid (VsAt w A2 (bv f.sl).flatten) := Lib.hid b2.vs
      have HSD : Hid (VsAt w A3 (bv d).flatten) := Lib.hid (by obtain ⟨A', c', e, -, -, hb⟩ := hsd; obtain ⟨rfl, -, -⟩ := Value.slice.inj e; exact hb.vs)
      have HNC := Lib.hid nc
      have HFB := Lib.hid (HFF.out f (by rw [← hf]; exact mem_getD hlt))
      have HDB : Hid (d.length ≤ 32) := Lib.hid (by rw [← hd]; exact HDD.out _ (mem_getD (by rw [HDL.out]; exact hlt)))
      have HF : Hid (refK fs ds ss (k + 1) = zs ++ refB ss f d) := Lib.hid (by rw [refK_succ, HZ.out, hf, hd])
      have r0 := HX.out.cell n0
      have r1 := HX.out.cell n1
      have r2 := HX.out.cell n2
      clear hf hd n0 n1 n2 l1 m1 b1 l2 m2 b2 nc hsd hbb
      go_upto_region 5 with fail
      clear r0 r1 r2
      generalize hw4 : wr.alloc _ = w4
      have HB4 : Hid (Bk w4 wr.heap.size 3 (f3 (sV f.nm) (.slice A1 f.vl.length c1) (.slice A2 f.sl.length c2)) ∧ TyB w4 58 wr.heap.size) := Lib.hid (by rw [← hw4]; exact ⟨⟨by decide, by rw [blkOf_new]; exact arV_ext rfl (fun i hi => by match i, hi with | 0, _ => rfl | 1, _ => rfl | 2, _ => rfl)⟩, TyB.new _ _ _⟩)
      have HE4 : Hid (Ext wr w4) := Lib.hid (by rw [← hw4]; exact (Ext.refl _).alloc _)
      clear hw4
      have p0 : w4.cell? ⟨wr.heap.size, 0, none⟩ = some (sV f.nm) := HB4.out.1.cell (by decide)
      obtain ⟨c5, w5, hcv, hE5, hS5⟩ := conv938 w4 f.nm (by have := HFB.out; omega)
      have HS5 := Lib.hid hS5
      have HE5 := Lib.hid hE5
      clear hE5 hS5
      obtain ⟨ns, hns⟩ : ∃ ns, putU f.nm.length ++ f.nm = ns := ⟨_, rfl⟩
      have HNS := Lib.hid hns
      have HNL : Hid (ns.length ≤ 1010) := Lib.hid (by
        have h1 := putU_len (k := 3) (v := f.nm.length) (by have := HFB.out; omega)
        have := HFB.out
        rw [← hns, List.length_append]
        omega)
      have C45 : Hid (Calls Tryd.prog 45 #[.slice (some ⟨w4.heap.size, 0, none⟩) f.nm.length c5] w5 (RetBy ns w5)) := Lib.hid (by rw [← hns]; exact put45_ok _ f.nm w5 HS5.out (by have := HFB.out; omega))
      clear hns
      go_upto_region 6 with (first
        | (go_at_call 45; refine C45.out.mono ?_; rintro _ w6 ⟨v6, rfl, hr6, hE6⟩; obtain ⟨A6, c6, e6, -, -⟩ := hr6.form; rw [bv_len] at e6; subst e6; have HR6 := Lib.hid hr6; have HE6 := Lib.hid (HE5.out.trans hE6); clear hr6 hE6 hcv p0)
        | (at_builtin; go_loud (refine wapp el38 rfl (.tmp 20) (.tmp 24) rfl (w5 := w) (vs := bv zs) (us := bv ns) rfl (HX.out.trans (HE4.out.trans HE6.out)) (HRW.out.ext (HE4.out.trans HE6.out)) rfl (by rw [bv_len]) (bv_wide _) (HR6.out.vsb) (bv_one _) (by have := HZL.out; have := HNL.out; rw [bv_len, bv_len]; omega) (by have := HZL.out; have := HNL.out; rw [bv_len, bv_len]; omega) ?_; intro v7 w7 hr hE hg hb; rw [← bv_app] at hr; have HR7 := Lib.hid hr; have HE7 := Lib.hid hE; have HB7 := Lib.hid (boxE hg HB4.out HE6.out (HRW.out.ext (HE4.out.trans HE6.out))); clear hr hE hg hb)))
      obtain ⟨us, hus⟩ : ∃ us, zs ++ ns = us := ⟨_, rfl⟩
      rw [hus] at HR7
      have HUS := Lib.hid hus
      have HUL : Hid (us.length ≤ 530000) := Lib.hid (by have := HZL.out; have := HNL.out; rw [← hus, List.length_append]; omega)
      obtain ⟨A7, c7, e7, -, -⟩ := HR7.out.form
      rw [bv_len] at e7
      subst e7
      clear hus
      have p0 : w7.cell? ⟨wr.heap.size, 0, none⟩ = some (sV f.nm) := HB7.out.1.cell (by decide)
      by_cases hm : f.nm ∈ ss
      · as_aux_lemma =>
        have hdm : decide (f.nm ∈ ss) = true := by simp [hm]
        have HEB : Hid (refB ss f d = ns ++ 1 :: (f.sl ++ (putU f.vl.length ++ f.vl))) := Lib.hid (by unfold refB; rw [if_pos hm, HNS.out])
        have HMD := Lib.hid hdm
        clear hm hdm
        go_upto_region 10 with (first
          | (go_at_call 23; refine (has23_ok f.nm ss _ w7 (HS.out.ext HE7.out)).mono ?_; rintro _ _ ⟨rfl, rfl⟩; rw [HMD.out])
          | (at_builtin; go_loud (refine wapp el38 rfl (.tmp 40) (.tmp 41) rfl (w5 := w) (vs := bv us) (us := bv [1]) rfl (HE7.out.alloc _) (HR7.out.ext ((Ext.refl _).alloc _)) rfl (by rw [bv_len]; rfl) (bv_wide _) (vs1 _ _ _) (bv_one _) (by have := HUL.out; rw [bv_len, bv_len]; simp; omega) (by have := HUL.out; rw [bv_len, bv_len]; simp; omega) ?_; intro v8 w8 hr hE hg hb; rw [← bv_app] at hr; have HR8 := Lib.hid hr; have HE8 := Lib.hid hE; have HB8 := Lib.hid (boxE hg HB7.out ((Ext.refl _).alloc _) (HR7.out.ext ((Ext.refl _).alloc _))); clear hr hE hg hb)))
        have p2 : w8.cell? ⟨wr.heap.size, 2, none⟩ = some (.slice A2 f.sl.length c2) := HB8.out.1.cell (by decide)
        go_upto_region 11 with (at_builtin; go_loud (refine wapp el38 rfl (.tmp 43) (.tmp 45) rfl (w5 := w) (vs := bv (us ++ [1])) (us := bv f.sl) rfl HE8.out HR8.out rfl (by rw [bv_len]) (bv_wide _) (HS2.out.ext HE8.out) (bv_one _) (by have := HUL.out; have := HFB.out; rw [bv_len, bv_len]; simp; omega) (by have := HUL.out; have := HFB.out; rw [bv_len, bv_len]; simp; omega) ?_; intro v9 w9 hr hE hg hb; rw [← bv_app] at hr; have HR9 := Lib.hid hr; have HE9 := Lib.hid hE; have HB9 := Lib.hid (boxE hg HB8.out (Ext.refl _) HR8.out); clear hr hE hg hb))
        have p1 : w9.cell? ⟨wr.heap.size, 1, none⟩ = some (.slice A1 f.vl.length c1) := HB9.out.1.cell (by decide)
        obtain ⟨ms, hms⟩ : ∃ ms, putU f.vl.length ++ f.vl = ms := ⟨_, rfl⟩
        have HMS := Lib.hid hms
        have HML : Hid (ms.length ≤ 4010) := Lib.hid (by
          have h1 := putU_len (k := 3) (v := f.vl.length) (by have := HFB.out; omega)
          have := HFB.out
          rw [← hms, List.length_append]
          omega)
        have C45' : Hid (Calls Tryd.prog 45 #[.slice A1 f.vl.length c1] w9 (RetBy ms w9)) := Lib.hid (by rw [← hms]; exact put45_ok _ f.vl w9 (HS1.out.ext HE9.out) (by have := HFB.out; omega))
        clear hms p0 p2
        go_wp2_with (first
          | (go_at_call 45; refine C45'.out.mono ?_; rintro _ wa ⟨va, rfl, hra, hEa⟩; obtain ⟨Aa, ca, ea, -, -⟩ := hra.form; rw [bv_len] at ea; subst ea; have HRa := Lib.hid hra; have HEa := Lib.hid hEa; clear hra hEa p1)
          | (at_builtin; go_loud (refine wapp el38 rfl (.tmp 47) (.tmp 50) rfl (w5 := w) (vs := bv (us ++ [1] ++ f.sl)) (us := bv ms) rfl (HE9.out.trans HEa.out) (HR9.out.ext HEa.out) rfl (by rw [bv_len]) (bv_wide _) HRa.out.vsb (bv_one _) (by have := HUL.out; have := HFB.out; have := HML.out; rw [bv_len, bv_len]; simp; omega) (by have := HUL.out; have := HFB.out; have := HML.out; rw [bv_len, bv_len]; simp; omega) ?_; intro vb wb hr hE hg hb; rw [← bv_app] at hr; have HRb := Lib.hid hr; have HEb := Lib.hid hE; have HBb := Lib.hid (boxE hg HB9.out HEa.out (HR9.out.ext HEa.out)); clear hr hE hg hb)))
        refine ⟨⟨k + 1, _, by omega, by go_num, rfl, ?_, HEb.out⟩, by simp [intOf]; omega⟩
        rw [HF.out, HEB.out]
        have e : zs ++ (ns ++ 1 :: (f.sl ++ (putU f.vl.length ++ f.vl))) = us ++ [1] ++ f.sl ++ ms := by rw [← HUS.out, ← HMS.out]; simp
        rw [e]
        exact HRb.out
      · as_aux_lemma =>
        have hdm : decide (f.nm ∈ ss) = false := by simp [hm]
        have HEB : Hid (refB ss f d = ns ++ 0 :: d) := Lib.hid (by unfold refB; rw [if_neg hm, HNS.out])
        have HMD := Lib.hid hdm
        clear hm hdm
        go_upto_region 8 with (first
          | (go_at_call 23; refine (has23_ok f.nm ss _ w7 (HS.out.ext HE7.out)).mono ?_; rintro _ _ ⟨rfl, rfl⟩; rw [HMD.out])
          | (at_builtin; go_loud (refine wapp el38 rfl (.tmp 31) (.tmp 32) rfl (w5 := w) (vs := bv us) (us := bv [0]) rfl (HE7.out.alloc _) (HR7.out.ext ((Ext.refl _).alloc _)) rfl (by rw [bv_len]; rfl) (bv_wide _) (vs1 _ _ _) (bv_one _) (by have := HUL.out; rw [bv_len, bv_len]; simp; omega) (by have := HUL.out; rw [bv_len, bv_len]; simp; omega) ?_; intro v8 w8 hr hE hg hb; rw [← bv_app] at hr; have HR8 := Lib.hid hr; have HE8 := Lib.hid hE; have HB8 := Lib.hid (boxE hg HB7.out ((Ext.refl _).alloc _) (HR7.out.ext ((Ext.refl _).alloc _))); clear hr hE hg hb)))
        have pc := HNC.out w8 HE8.out
        clear p0
        go_wp2_with (at_builtin; go_loud (refine wapp el38 rfl (.tmp 34) (.tmp 38) rfl (w5 := w) (vs := bv (us ++ [0])) (us := bv d) rfl HE8.out HR8.out rfl (by rw [bv_len]) (bv_wide _) (HSD.out.ext HE8.out) (bv_one _) (by have := HUL.out; have := HDB.out; rw [bv_len, bv_len]; simp; omega) (by have := HUL.out; have := HDB.out; rw [bv_len, bv_len]; simp; omega) ?_; intro v9 w9 hr hE hg hb; rw [← bv_app] at hr; have HR9 := Lib.hid hr; have HE9 := Lib.hid hE; have HB9 := Lib.hid (boxE hg HB8.out (Ext.refl _) HR8.out); clear hr hE hg hb))
        refine ⟨⟨k + 1, _, by omega, by go_num, rfl, ?_, HE9.out⟩, by simp [intOf]; omega⟩
        rw [HF.out, HEB.out]
        have e : zs ++ (ns ++ 0 :: d) = us ++ [0] ++ d := by rw [← HUS.out]; simp
        rw [e]
        exact HR9.out
    · obtain rfl : k = fs.length := by omega
      go_wp2_with fail
      go_ret
      exact ⟨_, rfl, by rw [HZ.out]; exact HRW.out, HX.out⟩
end Go.Proofs.YtjedhndhdkiidaaDoor
