/- The walk over RedactBytes. -/
import Derived.Test.YtjedhndhdkiidaaDoorV37
import Derived.Test.YtjedhndhdkiidaaDoorV26
namespace Go.Proofs.YtjedhndhdkiidaaDoor
open Go.RowKit
attribute [local go_sem ↓] Go.wp_at_zero Go.wp_at_succ
attribute [local go_sem] baSize baList
theorem wpAnyH_weaken {P : Program} {md : Region.Mode} {ops : Array Oper} {Q : Exit → Act → World → Prop} {S S' : World → Prop} (h : ∀ w, S' w → S w) : ∀ (fuel : Nat) (listed : Array Bool) (a : Act) (w : World), wpAnyH P md ops Q S' fuel listed a w → wpAnyH P md ops Q S fuel listed a w
  | 0, _, _, _, H => H
  | fuel + 1, _, _, _, H => ⟨H.1, fun i hi => wpOp_mono (fun a' w' h' => ⟨h _ h'.1, wpAnyH_weaken h fuel _ a' w' h'.2⟩) (H.2 i hi)⟩
theorem rd_dd {fs : List Fd} (hd : DocOk fs) (nn : List (List UInt8)) : ∀ x ∈ (docF fs).map (keepF nn), RdOk x := fun x hx => by
  obtain ⟨y, hy, rfl⟩ := List.mem_map.1 hx
  obtain ⟨f, hf, rfl⟩ := List.mem_map.1 ((docF_perm fs).mem_iff.1 hy)
  have h := hd.each f hf
  refine ⟨by rw [keepF_nm]; exact h.1, ?_, keepF_ok (docF_ok hd _ hy), ?_⟩
  · unfold keepF
    split
    · exact h.2.1
    · exact Nat.zero_le _
  · unfold keepF
    split
    · exact fun _ => rfl
    · exact fun h' => by cases h'
theorem rdP_dd {fs : List Fd} (hd : DocOk fs) (nn : List (List UInt8)) : rdP (encD ((docF fs).map (keepF nn))) = ((docF fs).map (keepF nn), 0) := by
  unfold rdP
  rw [rdF_enc (rd_dd hd nn) (keep_asc (docF_asc hd.names) _) (by rw [List.length_map, docF_len]; exact hd.le)]
set_option maxRecDepth 100000 in
set_option maxHeartbeats 1000000 in
theorem bytes_law (rs : List Rw) (v : Value) (b : Nat) (p : List UInt8) (vp : Value) (w : World) (h : RsAt w v rs) (hb : b < 65536) (hp : SlB w vp p) (hT : Tab w) : Calls Tryd.prog 9 #[v, .int .u16 (b : Int), vp] w (RetB true w) := by
  have CV := Lib.hid (valid10_ok rs v w h)
  have HT := Lib.hid hT
  have HB := Lib.hid hb
  obtain ⟨fs, hfs⟩ : ∃ fs, vfF rs = fs := ⟨_, rfl⟩
  have HOK : Hid (DocOk fs) := Lib.hid (by rw [← hfs]; exact vf_ok rs)
  rw [hfs] at CV
  obtain ⟨A, c, rfl, -, -, -⟩ := h.read
  obtain ⟨Ap, cp, rfl, hpc, hpm, hpb⟩ := hp
  have HPB := Lib.hid hpb
  have HPC := Lib.hid (And.intro hpc hpm)
  clear hfs h hT hb hpc hpm hpb
  go_enter Tryd.func9, Tryd.ntmps9
  go_wp2_with fail
  refine CV.out.mono ?_
  rintro _ w1 ⟨v1, v2, rfl, hf1, hf2, hE1⟩
  have HF1 := Lib.hid hf1
  have HF2 := Lib.hid hf2
  have HE1 := Lib.hid hE1
  obtain ⟨A1, c1, rfl, -, -, -⟩ := hf1.read
  obtain ⟨A2, c2, rfl, -, -, -⟩ := hf2.read
  obtain ⟨nn, hnn⟩ : ∃ nn, nmK fs b fs.length = nn := ⟨_, rfl⟩
  obtain ⟨dd, hdd⟩ : ∃ dd, (docF fs).map (keepF nn) = dd := ⟨_, rfl⟩
  have HDD := Lib.hid hdd
  have hle : fs.length ≤ 64 := HOK.out.le
  have hdl : dd.length = fs.length := by rw [← hdd, List.length_map, docF_len]
  have HDL : Hid (dd.length ≤ 100) := Lib.hid (by omega)
  have HRD : Hid (∀ x ∈ dd, RdOk x) := Lib.hid (by rw [← hdd]; exact rd_dd HOK.out nn)
  have hbp : rdP (encD dd) = (dd, 0) := by rw [← hdd]; exact rdP_dd HOK.out nn
  have hbl : (encD dd).length ≤ 520000 := encK_len (fun x hx => (HRD.out x hx).2.2.1) (fun x hx => by have h1 := HRD.out x hx; have := okN_len h1.1; exact ⟨by omega, h1.2.1⟩) HDL.out _
  obtain ⟨bs, hbs⟩ : ∃ bs, encD dd = bs := ⟨_, rfl⟩
  rw [hbs] at hbp hbl
  have HBP := Lib.hid hbp
  have HBL := Lib.hid hbl
  have C11 : Hid (∀ W, Ext w1 W → Calls Tryd.prog 11 #[.slice A1 fs.length c1, .int .u16 (b : Int)] W (RetSs nn W)) := Lib.hid (fun W hW => by rw [← hnn]; exact names11_ok fs _ b W (HF1.out.ext hW) HB.out (by omega))
  have C12 : Hid (∀ W T, Ext w1 W → SsAt W T nn → Calls Tryd.prog 12 #[.slice A1 fs.length c1, T] W (RetD dd 0 W)) := Lib.hid (fun W T hW ht => by
    have := disclose12_ok fs _ nn T W (HF1.out.ext hW) ht (HT.out.ext (HE1.out.trans hW))
    rw [discF_ok HOK.out (by rw [← hnn]; exact nmK_sub (Nat.le_refl _)), hdd] at this
    exact this)
  have C13 : Hid (∀ W, Ext w1 W → Calls Tryd.prog 13 #[] W (RetB true W)) := Lib.hid (fun W hW => awake13_ok W (HT.out.ext (HE1.out.trans hW)))
  have C25 : Hid (∀ W v, DsAt W v dd → Calls Tryd.prog 25 #[dsV v] W (RetBy bs W)) := Lib.hid (fun W v hv => by
    have := bytes25_ok dd v W hv (fun x hx => (HRD.out x hx).2.2.1) (fun x hx => by have h1 := HRD.out x hx; have := okN_len h1.1; exact ⟨by omega, h1.2.1⟩) HDL.out
    rw [hbs] at this
    exact this)
  have C27 : Hid (∀ W v, SlB W v bs → Calls Tryd.prog 27 #[v] W (RetD dd 0 W)) := Lib.hid (fun W v hv => by
    have := read27_ok bs v W hv (by have := HBL.out; omega)
    rw [HBP.out] at this
    exact this)
  clear hf1 hf2 hE1 hnn hdd hle hdl hbs hbp hbl CV
  go_upto_region 3 with (first
    | (go_at_call 11; refine (C11.out _ (by repeat (first | assumption | exact Ext.refl _ | apply Ext.drew | apply Ext.drewN))).mono ?_; rintro _ w2 ⟨vn, rfl, hs2, hE2⟩; have HS2 := Lib.hid hs2; have HE2 : Hid (Ext w1 w2) := Lib.hid (Ext.trans (by repeat (first | assumption | exact Ext.refl _ | apply Ext.drew | apply Ext.drewN)) hE2); clear hs2 hE2)
    | (go_at_call 12; refine (C12.out _ _ HE2.out HS2.out).mono ?_; rintro _ w3 ⟨vd, rfl, hds, hE3⟩; have HDS := Lib.hid hds; have HE3 := Lib.hid (HE2.out.trans hE3); obtain ⟨Ad, cd, rfl, -, -, -⟩ := hds.read; clear hds hE3))
  generalize hw4 : w3.alloc _ = w4
  have HB4 : Hid (Bk w4 w3.heap.size 1 (fun _ => .slice Ad dd.length cd)) := Lib.hid (by rw [← hw4]; exact Bk.new1 _ _ _)
  have HE34 : Hid (Ext w3 w4) := Lib.hid (by rw [← hw4]; exact (Ext.refl _).alloc _)
  clear hw4
  have HE4 := Lib.hid (HE3.out.trans HE34.out)
  have HD4 := Lib.hid (HDS.out.ext HE34.out)
  have t4 := HB4.out.cell (k := 0) (by decide)
  clear C12 HS2 HDS
  go_upto_region 4 with (first
    | (go_at_call 25; refine (C25.out _ _ HD4.out).mono ?_; rintro _ w5 ⟨v5, rfl, hr5, hE5⟩; have HS5 := Lib.hid hr5.slB; have HE5 := Lib.hid hE5; clear hr5 hE5)
    | (go_at_call 27; refine (C27.out _ _ HS5.out).mono ?_; rintro _ w6 ⟨vb, rfl, hdb, hE6⟩; have HDB := Lib.hid hdb; have HE6 := Lib.hid (HE5.out.trans hE6); obtain ⟨Ab, cb, rfl, -, -, -⟩ := hdb.read; clear hdb hE6 t4))
  generalize hw7 : w6.alloc _ = w7
  have HB7 : Hid (Bk w7 w6.heap.size 1 (fun _ => .slice Ab dd.length cb)) := Lib.hid (by rw [← hw7]; exact Bk.new1 _ _ _)
  have HE67 : Hid (Ext w6 w7) := Lib.hid (by rw [← hw7]; exact (Ext.refl _).alloc _)
  clear hw7
  have HE17 := Lib.hid (HE4.out.trans (HE6.out.trans HE67.out))
  have HD7 := Lib.hid (HDB.out.ext HE67.out)
  have C14 : Hid (∀ W T, Ext w7 W → SsAt W T nn → Calls Tryd.prog 14 #[dsV (.slice Ab dd.length cb), .slice A2 fs.length c2, T] W (RetB true W)) := Lib.hid (fun W T hW hs => by
    refine shows14_ok fs _ _ T nn W HOK.out (noName_not HOK.out) ?_ (HF2.out.ext (HE17.out.trans hW)) hs (HT.out.ext (HE1.out.trans (HE17.out.trans hW)))
    rw [HDD.out]
    exact HD7.out.ext hW)
  clear C25 C27
  have KB : Hid (∀ W, Ext w7 W → (fun w' => Ext w7 w' ∧ w'.cell? ⟨w6.heap.size, 0, none⟩ = some (.slice Ab dd.length cb)) W) := Lib.hid (fun W h => ⟨h, (HB7.out.ext h).cell (k := 0) (by decide)⟩)
  refine wp_region_noPanic ?_
  refine wp_region_held_drew (S := (fun w' => Ext w7 w' ∧ w'.cell? ⟨w6.heap.size, 0, none⟩ = some (.slice Ab dd.length cb))) (by kernel_rfl) ?_ (fun hHeld => ?_)
  · first | assumption | exact KB.out _ (by repeat (first | assumption | exact Ext.refl _ | apply Ext.alloc | apply Ext.drew | apply Ext.drewN))
  refine wpAnyH_ready (rs := [0]) (by kernel_rfl) (by simp) (AllReadyH.cons (oper_at rfl) (fun K hK => ?_) AllReadyH.nil)
  go_simp
  go_at_call 13
  refine (C13.out _ (HE17.out.trans (by repeat (first | assumption | exact Ext.refl _ | apply Ext.alloc | apply Ext.drew | apply Ext.drewN)))).mono ?_
  rintro _ w8 ⟨rfl, hE⟩
  have hX8 : Ext w7 w8 := Ext.trans (by repeat (first | assumption | exact Ext.refl _ | apply Ext.alloc | apply Ext.drew | apply Ext.drewN)) hE
  clear hE
  refine hK.out _ _ ?_ (fun hHeld => ?_)
  · first | assumption | exact KB.out _ (by repeat (first | assumption | exact Ext.refl _ | apply Ext.alloc | apply Ext.drew | apply Ext.drewN))
  clear hK K
  try simp only [Act.put, List.setIfInBounds_toArray, List.set_cons_zero, List.set_cons_succ]
  refine wpAnyH_take (i := 1) (v := ?_) (oper_at rfl) (by kernel_rfl) (by kernel_rfl) (by kernel_rfl) (fun _ _ _ h => h) (Or.inl ⟨by rfl, ?_⟩) hHeld ?_
  rotate_left
  · (intro ww hSw; (try dsimp only at hSw); go_simp; try (with_reducible rfl))
  try simp only [Act.put, List.setIfInBounds_toArray, List.set_cons_zero, List.set_cons_succ]
  refine wpAnyH_take (i := 2) (v := ?_) (oper_at rfl) (by kernel_rfl) (by kernel_rfl) (by kernel_rfl) (fun _ _ _ h => h) (Or.inl ⟨by rfl, ?_⟩) hHeld ?_
  rotate_left
  · (intro ww hSw; (try dsimp only at hSw); go_simp; try (with_reducible rfl))
  try simp only [Act.put, List.setIfInBounds_toArray, List.set_cons_zero, List.set_cons_succ]
  refine wpAnyH_take (i := 3) (v := ?_) (oper_at rfl) (by kernel_rfl) (by kernel_rfl) (by kernel_rfl) (fun _ _ _ h => h) (Or.inl ⟨by rfl, ?_⟩) hHeld ?_
  rotate_left
  · (intro ww hSw; (try dsimp only at hSw); go_simp; try (with_reducible rfl))
  try simp only [Act.put, List.setIfInBounds_toArray, List.set_cons_zero, List.set_cons_succ]
  refine wpAnyH_take (i := 4) (v := ?_) (oper_at rfl) (by kernel_rfl) (by kernel_rfl) (by kernel_rfl) (fun _ _ _ h => h) (Or.inl ⟨by rfl, ?_⟩) hHeld ?_
  rotate_left
  · (intro ww hSw; (try dsimp only at hSw); go_simp; try (with_reducible rfl))
  try simp only [Act.put, List.setIfInBounds_toArray, List.set_cons_zero, List.set_cons_succ]
  refine wpAnyH_take (i := 5) (v := ?_) (oper_at rfl) (by kernel_rfl) (by kernel_rfl) (by kernel_rfl) (fun _ _ _ h => h) (Or.inl ⟨by rfl, ?_⟩) hHeld ?_
  rotate_left
  · (intro ww hSw; (try dsimp only at hSw); go_simp; try (with_reducible rfl))
  try simp only [Act.put, List.setIfInBounds_toArray, List.set_cons_zero, List.set_cons_succ]
  refine wpAnyH_take (i := 6) (v := ?_) (oper_at rfl) (by kernel_rfl) (by kernel_rfl) (by kernel_rfl) (fun _ _ _ h => h) (Or.inl ⟨by rfl, ?_⟩) hHeld ?_
  rotate_left
  · (intro ww hSw; (try dsimp only at hSw); go_simp; try (with_reducible rfl))
  try simp only [Act.put, List.setIfInBounds_toArray, List.set_cons_zero, List.set_cons_succ]
  refine wpAnyH_take (i := 7) (v := ?_) (oper_at rfl) (by kernel_rfl) (by kernel_rfl) (by kernel_rfl) (fun _ _ _ h => h) (Or.inl ⟨by rfl, ?_⟩) hHeld ?_
  rotate_left
  · (intro ww hSw; (try dsimp only at hSw); go_simp; try (with_reducible rfl))
  try simp only [Act.put, List.setIfInBounds_toArray, List.set_cons_zero, List.set_cons_succ]
  refine wpAnyH_take (i := 8) (v := ?_) (oper_at rfl) (by kernel_rfl) (by kernel_rfl) (by kernel_rfl) (fun _ _ _ h => h) (Or.inl ⟨by rfl, ?_⟩) hHeld ?_
  rotate_left
  · (intro ww hSw; (try dsimp only at hSw); go_simp; try (with_reducible rfl))
  try simp only [Act.put, List.setIfInBounds_toArray, List.set_cons_zero, List.set_cons_succ]
  refine wpAnyH_take (i := 9) (v := ?_) (oper_at rfl) (by kernel_rfl) (by kernel_rfl) (by kernel_rfl) (fun _ _ _ h => h) (Or.inl ⟨by rfl, ?_⟩) hHeld ?_
  rotate_left
  · (intro ww hSw; (try dsimp only at hSw); go_simp; try (with_reducible rfl))
  try simp only [Act.put, List.setIfInBounds_toArray, List.set_cons_zero, List.set_cons_succ]
  refine wpAnyH_take (i := 10) (v := ?_) (oper_at rfl) (by kernel_rfl) (by kernel_rfl) (by kernel_rfl) (fun _ _ _ h => h) (Or.inl ⟨by rfl, ?_⟩) hHeld ?_
  rotate_left
  · (intro ww hSw; (try dsimp only at hSw); go_simp; try (with_reducible rfl))
  try simp only [Act.put, List.setIfInBounds_toArray, List.set_cons_zero, List.set_cons_succ]
  refine wpAnyH_take (i := 11) (v := ?_) (oper_at rfl) (by kernel_rfl) (by kernel_rfl) (by kernel_rfl) (fun _ _ _ h => h) (Or.inl ⟨by rfl, ?_⟩) hHeld ?_
  rotate_left
  · (intro ww hSw; (try dsimp only at hSw); go_simp; try (with_reducible rfl))
  try simp only [Act.put, List.setIfInBounds_toArray, List.set_cons_zero, List.set_cons_succ]
  refine wpAnyH_take (i := 12) (v := ?_) (oper_at rfl) (by kernel_rfl) (by kernel_rfl) (by kernel_rfl) (fun _ _ _ h => h) (Or.inl ⟨by rfl, ?_⟩) hHeld ?_
  rotate_left
  · (intro ww hSw; (try dsimp only at hSw); go_simp; try (with_reducible rfl))
  try simp only [Act.put, List.setIfInBounds_toArray, List.set_cons_zero, List.set_cons_succ]
  refine wpAnyH_take (i := 13) (v := ?_) (oper_at rfl) (by kernel_rfl) (by kernel_rfl) (by kernel_rfl) (fun _ _ _ h => h) (Or.inl ⟨by rfl, ?_⟩) hHeld ?_
  rotate_left
  · (intro ww hSw; (try dsimp only at hSw); go_simp; try (with_reducible rfl))
  try simp only [Act.put, List.setIfInBounds_toArray, List.set_cons_zero, List.set_cons_succ]
  refine wpAnyH_take (i := 14) (v := ?_) (oper_at rfl) (by kernel_rfl) (by kernel_rfl) (by kernel_rfl) (fun _ _ _ h => h) (Or.inl ⟨by rfl, ?_⟩) hHeld ?_
  rotate_left
  · (intro ww hSw; (try dsimp only at hSw); go_simp; try (with_reducible rfl))
  try simp only [Act.put, List.setIfInBounds_toArray, List.set_cons_zero, List.set_cons_succ]
  refine wpAnyH_ready (rs := [15]) (by kernel_rfl) (by simp) (AllReadyH.cons (oper_at rfl) (fun K hK => ?_) AllReadyH.nil)
  go_simp
  go_at_call 11
  refine (C11.out _ (HE17.out.trans (by repeat (first | assumption | exact Ext.refl _ | apply Ext.alloc | apply Ext.drew | apply Ext.drewN)))).mono ?_
  rintro _ w9 ⟨vm, rfl, hsm, hE⟩
  have hX9 : Ext w7 w9 := Ext.trans (by repeat (first | assumption | exact Ext.refl _ | apply Ext.alloc | apply Ext.drew | apply Ext.drewN)) hE
  have HSM := Lib.hid hsm
  clear hE hsm
  refine hK.out _ _ ?_ (fun hHeld => ?_)
  · first | assumption | exact KB.out _ (by repeat (first | assumption | exact Ext.refl _ | apply Ext.alloc | apply Ext.drew | apply Ext.drewN))
  clear hK K
  try simp only [Act.put, List.setIfInBounds_toArray, List.set_cons_zero, List.set_cons_succ]
  refine wpAnyH_ready (rs := [16]) (by kernel_rfl) (by simp) (AllReadyH.cons (oper_at rfl) (fun K hK => ?_) AllReadyH.nil)
  go_simp
  go_at_call 14
  refine (C14.out _ _ (by repeat (first | assumption | exact Ext.refl _ | apply Ext.alloc | apply Ext.drew | apply Ext.drewN)) (HSM.out.ext (by repeat (first | assumption | exact Ext.refl _ | apply Ext.alloc | apply Ext.drew | apply Ext.drewN)))).mono ?_
  rintro _ wa ⟨rfl, hE⟩
  have hXa : Ext w7 wa := Ext.trans (by repeat (first | assumption | exact Ext.refl _ | apply Ext.alloc | apply Ext.drew | apply Ext.drewN)) hE
  clear hE
  refine hK.out _ _ ?_ (fun hHeld => ?_)
  · first | assumption | exact KB.out _ (by repeat (first | assumption | exact Ext.refl _ | apply Ext.alloc | apply Ext.drew | apply Ext.drewN))
  clear hK K
  try simp only [Act.put, List.setIfInBounds_toArray, List.set_cons_zero, List.set_cons_succ]
  refine wpAnyH_take (i := 17) (v := ?_) (oper_at rfl) (by kernel_rfl) (by kernel_rfl) (by kernel_rfl) (fun _ _ _ h => h) (Or.inl ⟨by rfl, ?_⟩) hHeld ?_
  rotate_left
  · (intro ww hSw; (try dsimp only at hSw); go_simp; try (with_reducible rfl))
  try simp only [Act.put, List.setIfInBounds_toArray, List.set_cons_zero, List.set_cons_succ]
  refine wpAnyH_take (i := 18) (v := ?_) (oper_at rfl) (by kernel_rfl) (by kernel_rfl) (by kernel_rfl) (fun _ _ _ h => h) (Or.inl ⟨by rfl, ?_⟩) hHeld ?_
  rotate_left
  · (intro ww hSw; (try dsimp only at hSw); go_simp; try (with_reducible rfl))
  try simp only [Act.put, List.setIfInBounds_toArray, List.set_cons_zero, List.set_cons_succ]
  refine wpAnyH_done (by kernel_rfl) ?_ _
  refine NoPanic.normal ?_
  have HXa := Lib.hid (HE17.out.trans hXa)
  have HEa := Lib.hid (HE1.out.trans HXa.out)
  clear KB hX8 hX9 hXa
  obtain ⟨q, hq⟩ : ∃ q, p.take 300 = q := ⟨_, rfl⟩
  have HQL : Hid (q.length ≤ 300) := Lib.hid (by rw [← hq, List.length_take]; omega)
  have C27 : Hid (∀ W v, SlB W v q → Calls Tryd.prog 27 #[v] W (RetD (rdP q).1 (rdP q).2 W)) := Lib.hid (fun W v hv => read27_ok q v W hv (by have := HQL.out; omega))
  have HQS : Hid (∀ n : Nat, n = q.length → SlB wa (.slice Ap n cp) q) := Lib.hid (fun n hn => ⟨Ap, cp, by rw [hn], by have := HPC.out.1; have : q.length ≤ p.length := (by rw [← hq, List.length_take]; omega); omega, HPC.out.2, by rw [← hq]; exact (HPB.out.take 300).ext HEa.out⟩)
  by_cases hlen : 300 < p.length
  · have q1 : (300 : Int) < (p.length : Int) := by omega
    have HN : Hid (300 = q.length) := Lib.hid (by rw [← hq, List.length_take]; omega)
    have q2 : (300 : Int) ≤ (cp : Int) := by have := HPC.out.1; omega
    clear hq hlen
    go_upto_region 9 with (go_at_call 27; refine (C27.out _ _ (HQS.out _ HN.out)).mono ?_; rintro _ wb ⟨vx, rfl, hdx, hE⟩; have HDX := Lib.hid hdx; have hXb : Ext wa wb := Ext.trans (by repeat (first | assumption | exact Ext.refl _ | apply Ext.drew | apply Ext.drewN)) hE; obtain ⟨Ax, cx, rfl, -, -, -⟩ := hdx.read; clear hdx hE)
    generalize hwc : wb.alloc _ = wc
    have HBc : Hid (Bk wc wb.heap.size 1 (fun _ => .slice Ax (rdP q).1.length cx)) := Lib.hid (by rw [← hwc]; exact Bk.new1 _ _ _)
    have HEc : Hid (Ext wb wc) := Lib.hid (by rw [← hwc]; exact (Ext.refl _).alloc _)
    clear hwc
    have HXc := Lib.hid (HEa.out.trans (hXb.trans HEc.out))
    have HDc := Lib.hid (HDX.out.ext HEc.out)
    have HSc := Lib.hid ((HQS.out _ HN.out).ext (hXb.trans HEc.out))
    clear hXb
    cases hr : rdF q with
    | none =>
      as_aux_lemma =>
      have e1 : rdP q = ([], 6) := by unfold rdP; rw [hr]
      rw [e1] at HDc HBc
      rw [e1]
      have tc := HBc.out.cell (k := 0) (by decide)
      have C15 : Hid (∀ W, Ext wc W → Calls Tryd.prog 15 #[dsV (.slice Ax ([] : List It).length cx)] W (RetSs (([] : List It).map (·.nm)) W)) := Lib.hid (fun W hW => names15_ok [] _ W (HDc.out.ext hW) (by simp))
      clear hr e1
      go_wp2_with (go_at_call 15; refine (C15.out _ (by repeat (first | assumption | exact Ext.refl _ | apply Ext.drew | apply Ext.drewN))).mono ?_; rintro _ we ⟨vs, rfl, hse, hEe⟩; have HEe := Lib.hid hEe; obtain ⟨Ae, ce, rfl, -, -, -⟩ := SsAt.read hse; clear hEe hse)
      go_ret
      exact ⟨rfl, HXc.out.trans HEe.out⟩
    | some xs =>
      have e1 : rdP q = (xs, 0) := by unfold rdP; rw [hr]
      have hs := rdF_some hr
      rw [e1] at HDc HBc
      rw [e1]
      have C25 : Hid (∀ W, Ext wc W → Calls Tryd.prog 25 #[dsV (.slice Ax xs.length cx)] W (RetBy q W)) := Lib.hid (fun W hW => by
        have := bytes25_ok xs _ W (HDc.out.ext hW) (fun x hx => (hs.2.2 x hx).2.2.1) (fun x hx => by have h1 := hs.2.2 x hx; have := okN_len h1.1; exact ⟨by omega, h1.2.1⟩) (by omega)
        rw [hs.1] at this
        exact this)
      clear hr e1 hs
      go_upto_region 11 with fail
      have KB : Hid (∀ W, Ext wc W → (fun w' => Ext wc w' ∧ w'.cell? ⟨wb.heap.size, 0, none⟩ = some (.slice Ax xs.length cx) ∧ (convert 38 9 (.slice Ap 300 cp)).run Tryd.prog w' = .ok (sV q) w') W) := Lib.hid (fun W h => ⟨h, (HBc.out.ext h).cell (k := 0) (by decide), conv389 (HSc.out.ext h)⟩)
      refine wp_region_noPanic ?_
      refine wp_region_held_drew (S := (fun w' => Ext wc w' ∧ w'.cell? ⟨wb.heap.size, 0, none⟩ = some (.slice Ax xs.length cx) ∧ (convert 38 9 (.slice Ap 300 cp)).run Tryd.prog w' = .ok (sV q) w')) (by kernel_rfl) ?_ (fun hHeld => ?_)
      · first | assumption | exact KB.out _ (by repeat (first | assumption | exact Ext.refl _ | apply Ext.alloc | apply Ext.drew | apply Ext.drewN))
      refine wpAnyH_take (i := 0) (v := ?_) (oper_at rfl) (by kernel_rfl) (by kernel_rfl) (by kernel_rfl) (fun _ _ _ h => h) (Or.inl ⟨by rfl, ?_⟩) hHeld ?_
      rotate_left
      · (intro ww hSw; (try dsimp only at hSw); go_simp; try (with_reducible rfl))
      try simp only [Act.put, List.setIfInBounds_toArray, List.set_cons_zero, List.set_cons_succ]
      refine wpAnyH_take (i := 3) (v := ?_) (oper_at rfl) (by kernel_rfl) (by kernel_rfl) (by kernel_rfl) (fun _ _ _ h => h) (Or.inl ⟨by rfl, ?_⟩) hHeld ?_
      rotate_left
      · (intro ww hSw; (try dsimp only at hSw); go_simp; try (with_reducible rfl))
      try simp only [Act.put, List.setIfInBounds_toArray, List.set_cons_zero, List.set_cons_succ]
      refine wpAnyH_take (i := 4) (v := ?_) (oper_at rfl) (by kernel_rfl) (by kernel_rfl) (by kernel_rfl) (fun _ _ _ h => h) (Or.inl ⟨by rfl, ?_⟩) hHeld ?_
      rotate_left
      · (intro ww hSw; (try dsimp only at hSw); go_simp; try (with_reducible rfl))
      try simp only [Act.put, List.setIfInBounds_toArray, List.set_cons_zero, List.set_cons_succ]
      refine wpAnyH_ready (rs := [1]) (by kernel_rfl) (by simp) (AllReadyH.cons (oper_at rfl) (fun K hK => ?_) AllReadyH.nil)
      go_simp
      go_at_call 25
      refine (C25.out _ (by repeat (first | assumption | exact Ext.refl _ | apply Ext.alloc | apply Ext.drew | apply Ext.drewN))).mono ?_
      rintro _ wf ⟨vf, rfl, hrf, hE⟩
      have hXf : Ext wc wf := Ext.trans (by repeat (first | assumption | exact Ext.refl _ | apply Ext.alloc | apply Ext.drew | apply Ext.drewN)) hE
      have HSf := Lib.hid hrf.slB
      clear hE hrf
      refine hK.out _ _ ?_ (fun hHeld => ?_)
      · first | assumption | exact KB.out _ (by repeat (first | assumption | exact Ext.refl _ | apply Ext.alloc | apply Ext.drew | apply Ext.drewN))
      clear hK K
      try simp only [Act.put, List.setIfInBounds_toArray, List.set_cons_zero, List.set_cons_succ]
      have KC : Hid (∀ W, Ext wf W → (fun w' => Ext wf w' ∧ (convert 38 9 vf).run Tryd.prog w' = .ok (sV q) w') W) := Lib.hid (fun W h => ⟨h, conv389 (HSf.out.ext h)⟩)
      refine wpAnyH_weaken (S' := (fun w' => Ext wf w' ∧ (convert 38 9 vf).run Tryd.prog w' = .ok (sV q) w')) (fun W h => KB.out W (hXf.trans h.1)) _ _ _ _ ?_
      replace hHeld := KC.out _ (by repeat (first | assumption | exact Ext.refl _ | apply Ext.alloc | apply Ext.drew | apply Ext.drewN))
      refine wpAnyH_take (i := 2) (v := ?_) (oper_at rfl) (by kernel_rfl) (by kernel_rfl) (by kernel_rfl) (fun _ _ _ h => h) (Or.inl ⟨by rfl, ?_⟩) hHeld ?_
      rotate_left
      · (intro ww hSw; (try dsimp only at hSw); go_simp; try (with_reducible rfl))
      try simp only [Act.put, List.setIfInBounds_toArray, List.set_cons_zero, List.set_cons_succ]
      refine wpAnyH_take (i := 5) (v := ?_) (oper_at rfl) (by kernel_rfl) (by kernel_rfl) (by kernel_rfl) (fun _ _ _ h => h) (Or.inl ⟨by rfl, ?_⟩) hHeld ?_
      rotate_left
      · (intro ww hSw; (try dsimp only at hSw); go_simp; try (with_reducible rfl))
      try simp only [Act.put, List.setIfInBounds_toArray, List.set_cons_zero, List.set_cons_succ]
      refine wpAnyH_take (i := 6) (v := ?_) (oper_at rfl) (by kernel_rfl) (by kernel_rfl) (by kernel_rfl) (fun _ _ _ h => h) (Or.inl ⟨by rfl, ?_⟩) hHeld ?_
      rotate_left
      · (intro ww hSw; (try dsimp only at hSw); go_simp; try (with_reducible rfl))
      try simp only [Act.put, List.setIfInBounds_toArray, List.set_cons_zero, List.set_cons_succ]
      refine wpAnyH_done (by kernel_rfl) ?_ _
      refine NoPanic.normal ?_
      go_wp2_with fail
      go_ret
      exact ⟨ret_bool (by simp), HXc.out.trans hXf⟩
  · have q1 : ¬ (300 : Int) < (p.length : Int) := by omega
    have HN : Hid (p.length = q.length) := Lib.hid (by rw [← hq, List.length_take]; omega)
    clear hq hlen
    go_upto_region 9 with (go_at_call 27; refine (C27.out _ _ (HQS.out _ HN.out)).mono ?_; rintro _ wb ⟨vx, rfl, hdx, hE⟩; have HDX := Lib.hid hdx; have hXb : Ext wa wb := Ext.trans (by repeat (first | assumption | exact Ext.refl _ | apply Ext.drew | apply Ext.drewN)) hE; obtain ⟨Ax, cx, rfl, -, -, -⟩ := hdx.read; clear hdx hE)
    generalize hwc : wb.alloc _ = wc
    have HBc : Hid (Bk wc wb.heap.size 1 (fun _ => .slice Ax (rdP q).1.length cx)) := Lib.hid (by rw [← hwc]; exact Bk.new1 _ _ _)
    have HEc : Hid (Ext wb wc) := Lib.hid (by rw [← hwc]; exact (Ext.refl _).alloc _)
    clear hwc
    have HXc := Lib.hid (HEa.out.trans (hXb.trans HEc.out))
    have HDc := Lib.hid (HDX.out.ext HEc.out)
    have HSc := Lib.hid ((HQS.out _ HN.out).ext (hXb.trans HEc.out))
    clear hXb
    cases hr : rdF q with
    | none =>
      as_aux_lemma =>
      have e1 : rdP q = ([], 6) := by unfold rdP; rw [hr]
      rw [e1] at HDc HBc
      rw [e1]
      have tc := HBc.out.cell (k := 0) (by decide)
      have C15 : Hid (∀ W, Ext wc W → Calls Tryd.prog 15 #[dsV (.slice Ax ([] : List It).length cx)] W (RetSs (([] : List It).map (·.nm)) W)) := Lib.hid (fun W hW => names15_ok [] _ W (HDc.out.ext hW) (by simp))
      clear hr e1
      go_wp2_with (go_at_call 15; refine (C15.out _ (by repeat (first | assumption | exact Ext.refl _ | apply Ext.drew | apply Ext.drewN))).mono ?_; rintro _ we ⟨vs, rfl, hse, hEe⟩; have HEe := Lib.hid hEe; obtain ⟨Ae, ce, rfl, -, -, -⟩ := SsAt.read hse; clear hEe hse)
      go_ret
      exact ⟨rfl, HXc.out.trans HEe.out⟩
    | some xs =>
      have e1 : rdP q = (xs, 0) := by unfold rdP; rw [hr]
      have hs := rdF_some hr
      rw [e1] at HDc HBc
      rw [e1]
      have C25 : Hid (∀ W, Ext wc W → Calls Tryd.prog 25 #[dsV (.slice Ax xs.length cx)] W (RetBy q W)) := Lib.hid (fun W hW => by
        have := bytes25_ok xs _ W (HDc.out.ext hW) (fun x hx => (hs.2.2 x hx).2.2.1) (fun x hx => by have h1 := hs.2.2 x hx; have := okN_len h1.1; exact ⟨by omega, h1.2.1⟩) (by omega)
        rw [hs.1] at this
        exact this)
      clear hr e1 hs
      go_upto_region 11 with fail
      have KB : Hid (∀ W, Ext wc W → (fun w' => Ext wc w' ∧ w'.cell? ⟨wb.heap.size, 0, none⟩ = some (.slice Ax xs.length cx) ∧ (convert 38 9 (.slice Ap p.length cp)).run Tryd.prog w' = .ok (sV q) w') W) := Lib.hid (fun W h => ⟨h, (HBc.out.ext h).cell (k := 0) (by decide), conv389 (HSc.out.ext h)⟩)
      refine wp_region_noPanic ?_
      refine wp_region_held_drew (S := (fun w' => Ext wc w' ∧ w'.cell? ⟨wb.heap.size, 0, none⟩ = some (.slice Ax xs.length cx) ∧ (convert 38 9 (.slice Ap p.length cp)).run Tryd.prog w' = .ok (sV q) w')) (by kernel_rfl) ?_ (fun hHeld => ?_)
      · first | assumption | exact KB.out _ (by repeat (first | assumption | exact Ext.refl _ | apply Ext.alloc | apply Ext.drew | apply Ext.drewN))
      refine wpAnyH_take (i := 0) (v := ?_) (oper_at rfl) (by kernel_rfl) (by kernel_rfl) (by kernel_rfl) (fun _ _ _ h => h) (Or.inl ⟨by rfl, ?_⟩) hHeld ?_
      rotate_left
      · (intro ww hSw; (try dsimp only at hSw); go_simp; try (with_reducible rfl))
      try simp only [Act.put, List.setIfInBounds_toArray, List.set_cons_zero, List.set_cons_succ]
      refine wpAnyH_take (i := 3) (v := ?_) (oper_at rfl) (by kernel_rfl) (by kernel_rfl) (by kernel_rfl) (fun _ _ _ h => h) (Or.inl ⟨by rfl, ?_⟩) hHeld ?_
      rotate_left
      · (intro ww hSw; (try dsimp only at hSw); go_simp; try (with_reducible rfl))
      try simp only [Act.put, List.setIfInBounds_toArray, List.set_cons_zero, List.set_cons_succ]
      refine wpAnyH_take (i := 4) (v := ?_) (oper_at rfl) (by kernel_rfl) (by kernel_rfl) (by kernel_rfl) (fun _ _ _ h => h) (Or.inl ⟨by rfl, ?_⟩) hHeld ?_
      rotate_left
      · (intro ww hSw; (try dsimp only at hSw); go_simp; try (with_reducible rfl))
      try simp only [Act.put, List.setIfInBounds_toArray, List.set_cons_zero, List.set_cons_succ]
      refine wpAnyH_ready (rs := [1]) (by kernel_rfl) (by simp) (AllReadyH.cons (oper_at rfl) (fun K hK => ?_) AllReadyH.nil)
      go_simp
      go_at_call 25
      refine (C25.out _ (by repeat (first | assumption | exact Ext.refl _ | apply Ext.alloc | apply Ext.drew | apply Ext.drewN))).mono ?_
      rintro _ wf ⟨vf, rfl, hrf, hE⟩
      have hXf : Ext wc wf := Ext.trans (by repeat (first | assumption | exact Ext.refl _ | apply Ext.alloc | apply Ext.drew | apply Ext.drewN)) hE
      have HSf := Lib.hid hrf.slB
      clear hE hrf
      refine hK.out _ _ ?_ (fun hHeld => ?_)
      · first | assumption | exact KB.out _ (by repeat (first | assumption | exact Ext.refl _ | apply Ext.alloc | apply Ext.drew | apply Ext.drewN))
      clear hK K
      try simp only [Act.put, List.setIfInBounds_toArray, List.set_cons_zero, List.set_cons_succ]
      have KC : Hid (∀ W, Ext wf W → (fun w' => Ext wf w' ∧ (convert 38 9 vf).run Tryd.prog w' = .ok (sV q) w') W) := Lib.hid (fun W h => ⟨h, conv389 (HSf.out.ext h)⟩)
      refine wpAnyH_weaken (S' := (fun w' => Ext wf w' ∧ (convert 38 9 vf).run Tryd.prog w' = .ok (sV q) w')) (fun W h => KB.out W (hXf.trans h.1)) _ _ _ _ ?_
      replace hHeld := KC.out _ (by repeat (first | assumption | exact Ext.refl _ | apply Ext.alloc | apply Ext.drew | apply Ext.drewN))
      refine wpAnyH_take (i := 2) (v := ?_) (oper_at rfl) (by kernel_rfl) (by kernel_rfl) (by kernel_rfl) (fun _ _ _ h => h) (Or.inl ⟨by rfl, ?_⟩) hHeld ?_
      rotate_left
      · (intro ww hSw; (try dsimp only at hSw); go_simp; try (with_reducible rfl))
      try simp only [Act.put, List.setIfInBounds_toArray, List.set_cons_zero, List.set_cons_succ]
      refine wpAnyH_take (i := 5) (v := ?_) (oper_at rfl) (by kernel_rfl) (by kernel_rfl) (by kernel_rfl) (fun _ _ _ h => h) (Or.inl ⟨by rfl, ?_⟩) hHeld ?_
      rotate_left
      · (intro ww hSw; (try dsimp only at hSw); go_simp; try (with_reducible rfl))
      try simp only [Act.put, List.setIfInBounds_toArray, List.set_cons_zero, List.set_cons_succ]
      refine wpAnyH_take (i := 6) (v := ?_) (oper_at rfl) (by kernel_rfl) (by kernel_rfl) (by kernel_rfl) (fun _ _ _ h => h) (Or.inl ⟨by rfl, ?_⟩) hHeld ?_
      rotate_left
      · (intro ww hSw; (try dsimp only at hSw); go_simp; try (with_reducible rfl))
      try simp only [Act.put, List.setIfInBounds_toArray, List.set_cons_zero, List.set_cons_succ]
      refine wpAnyH_done (by kernel_rfl) ?_ _
      refine NoPanic.normal ?_
      go_wp2_with fail
      go_ret
      exact ⟨ret_bool (by simp), HXc.out.trans hXf⟩
end Go.Proofs.YtjedhndhdkiidaaDoor
