/- The law's own tree of a document. -/
import Derived.Test.YtjedhndhdkiidaaDoorV14
namespace Go.Proofs.YtjedhndhdkiidaaDoor
open Go.RowKit
attribute [local go_sem ↓] Go.wp_at_zero Go.wp_at_succ
attribute [local go_sem] baSize baList
attribute [local go_sem ↓] ld75 ld48 ld73 st75 st48 al75 al48 bu75 bu48
attribute [local go_sem] run_al75 run_al48 run_bu48 run_bu75n run_bu75c run_bu75o run_st75n run_st48n
attribute [local go_sem ↓] bs51
attribute [local go_sem] run_bs51
theorem res48t {fn : Func} {p u : Tmp} {tmps : Array Value} {w : World} {g : Nat} {f : Nat → Value} {x : Value} (h : fn.results = #[.cell p 48, .tmp u]) (hb : Bk w g 32 f) (hp : tmps.getD p undef = .pointer (some ⟨g, 0, none⟩)) (hx : tmps.getD u undef = x) : (results fn tmps).run Tryd.prog w = .ok (.tuple #[.agg (arV f 32), x]) w := by
  have hl := run_loadVar_mid (P := Tryd.prog) w g 0 48 (arV f 32).toList _ hb.range Tryd.underlying48 rfl (by rw [Tryd.size48, Array.length_toList, arV_size])
  rw [results_cell_tmp h, hp, hx]
  simp only [asAddr, Sem.run_pure, Result.andThen_ok, hl]
/-- The commitment of a field. -/
def comD (f : Fd) : List UInt8 := leafF (f.sl ++ putU f.vl.length ++ f.vl)
theorem comD_it (f : Fd) : comD f = comF (itOf f) := rfl
theorem comD_len (f : Fd) : (comD f).length = 32 := leafF_len _
/-- The law's root and commitments. -/
def RetRoot (fs : List Fd) (w : World) (e : Ending) (w' : World) : Prop := ∃ va, e = .returned (.tuple #[idV (topF (((srtF fs).map itOf).map nodF)), va]) ∧ SlAt 32 w' va (((srtF fs).map comD).map idC) ∧ Ext w w'

set_option maxRecDepth 100000 in
set_option maxHeartbeats 4000000 in
theorem root20_ok (fs : List Fd) (v : Value) (w : World) (h : FsAt w v fs) (hl : fs.length ≤ 100) (h0 : 0 < fs.length) (hz : ∀ f ∈ fs, f.nm.length ≤ 1000 ∧ f.vl.length ≤ 100000 ∧ f.sl.length ≤ 1000) (hT : Tab w) : Calls Tryd.prog 20 #[v] w (RetRoot fs w) := by
  have CS := Lib.hid (fun W (hW : Ext w W) => sorted22_ok fs v W (h.ext hW) hl)
  obtain ⟨A, c, rfl, -, -, -⟩ := h.read
  have HT := Lib.hid hT
  have HZ : Hid (∀ f ∈ srtF fs, f.nm.length ≤ 1000 ∧ f.vl.length ≤ 100000 ∧ f.sl.length ≤ 1000) := Lib.hid (fun f hf => hz f ((srtF_perm fs).mem_iff.1 hf))
  have HSL : Hid ((srtF fs).length = fs.length) := Lib.hid (srtF_len fs)
  obtain ⟨xs, hxs⟩ : ∃ xs, srtF fs = xs := ⟨_, rfl⟩
  unfold RetRoot
  rw [hxs] at CS HZ HSL ⊢
  have hxl : xs.length ≤ 100 := by rw [HSL.out]; exact hl
  have hx0 : 0 < xs.length := by rw [HSL.out]; exact h0
  clear h hT hz hxs hl h0
  go_enter Tryd.func20, Tryd.ntmps20
  go_upto_region 2 with fail
  generalize hwB : w.alloc (.cells (idA []) 48) = wB
  have HB0 : Hid (Bk wB w.heap.size 32 (idF [])) := Lib.hid (by rw [← hwB]; exact Bk.new (by decide))
  have HE0 : Hid (Ext w wB) := Lib.hid (by rw [← hwB]; exact (Ext.refl _).alloc _)
  have hz0 : w.heap.size + 1 ≤ wB.heap.size := by rw [← hwB]; simp
  clear hwB
  go_wp2_with fail
  refine (CS.out wB HE0.out).mono ?_
  rintro _ wS ⟨vs, rfl, hfs, hES⟩
  obtain ⟨Ax, cx, rfl, -, -, h3⟩ := hfs.read
  have HR := Lib.hid h3
  have HES := Lib.hid (HE0.out.trans hES)
  have HBS := Lib.hid (HB0.out.ext hES)
  have hzS : w.heap.size + 1 ≤ wS.heap.size := Nat.le_trans hz0 hES.size
  clear hfs h3 hES CS
  go_wp2_with fail
  go_loopw [4, 5, 14] (fun ta t i wr => ∃ (k : Nat) (la l : Ids) (va v : Value), k ≤ xs.length ∧ i = iV (k : Int) ∧ ta = va ∧ t = v ∧ la = (xs.take k).map comD ∧ l = ((xs.take k).map itOf).map nodF ∧ Row 32 wr wS.heap.size 48 va (la.map idC) ∧ Row 32 wr wS.heap.size 48 v (l.map idC) ∧ (∀ kk, va.ownBlock = some kk → v.ownBlock ≠ some kk) ∧ Ext wS wr) (fun _ _ i _ => xs.length - (intOf i).toNat)
  case atStart => exact ⟨0, [], [], nilV, nilV, by omega, rfl, rfl, rfl, rfl, rfl, Row.nil _ _ _ _, Row.nil _ _ _ _, (fun kk e => by cases e), Ext.refl _⟩
  case round =>
    obtain ⟨k, la, l, va, v, hk, rfl, rfl, rfl, hpa, hp, hra, hr, hdis, hX⟩ := hrel
    have HPA := Lib.hid hpa
    have HP := Lib.hid hp
    have HLA : Hid (la.length = k) := Lib.hid (by rw [hpa, List.length_map, List.length_take]; omega)
    have HPL : Hid (l.length = k) := Lib.hid (by rw [hp, List.length_map, List.length_map, List.length_take]; omega)
    have HRA := Lib.hid hra
    have HRW := Lib.hid hr
    have HDI := Lib.hid hdis
    have HX := Lib.hid hX
    obtain ⟨Aa, ca, hva, -, -⟩ := hra.form
    obtain ⟨Av, cv, hv, -, -⟩ := hr.form
    rw [List.length_map, HLA.out] at hva
    rw [List.length_map, HPL.out] at hv
    subst hva
    subst hv
    clear hpa hp hra hr hdis hX
    by_cases hlt : k < xs.length
    · have q1 : (k : Int) < (xs.length : Int) := by omega
      have q0 : (0 : Int) ≤ (k : Int) := by omega
      obtain ⟨bb, o, A1, c1, A2, c2, rfl, hb, e0, e1, e2, v1, v2, v3, s1, s2, s3⟩ := HR.out wr HX.out k hlt
      obtain ⟨f, hf⟩ : ∃ f, xs.getD k Fd0 = f := ⟨_, rfl⟩
      rw [hf] at e0 e1 e2 v1 v3 s1 s3
      have HF : Hid (xs.take (k + 1) = xs.take k ++ [f]) := Lib.hid (by
        rw [List.take_succ_eq_append_getElem hlt, ← hf, List.getD_eq_getElem?_getD, List.getElem?_eq_getElem hlt]
        rfl)
      have HFZ := Lib.hid (HZ.out f (by rw [← hf]; exact mem_getD hlt))
      have HSV : Hid (SlB wr (.slice A1 f.vl.length c1) f.vl) := Lib.hid ⟨A1, c1, rfl, v1, v2, v3⟩
      have HSS : Hid (SlB wr (.slice A2 f.sl.length c2) f.sl) := Lib.hid ⟨A2, c2, rfl, s1, s2, s3⟩
      clear hf v1 v2 v3 s1 s2 s3
      go_upto_region 5 with fail
      generalize hw4 : wr.alloc (.cells #[.string ⟨f.nm.toArray⟩, .slice A1 f.vl.length c1, .slice A2 f.sl.length c2] 58) = w4
      have p0 : w4.cell? ⟨wr.heap.size, 0, none⟩ = some (sV f.nm) := by rw [← hw4]; exact new_at _ _ _ 0 _ rfl
      have p1 : w4.cell? ⟨wr.heap.size, 1, none⟩ = some (.slice A1 f.vl.length c1) := by rw [← hw4]; exact new_at _ _ _ 1 _ rfl
      have p2 : w4.cell? ⟨wr.heap.size, 2, none⟩ = some (.slice A2 f.sl.length c2) := by rw [← hw4]; exact new_at _ _ _ 2 _ rfl
      have HE4 : Hid (Ext wr w4) := Lib.hid (by rw [← hw4]; exact (Ext.refl _).alloc _)
      have HP0 := Lib.hid p0
      obtain ⟨zs, hzs⟩ : ∃ zs, f.sl ++ putU f.vl.length ++ f.vl = zs := ⟨_, rfl⟩
      have CC : Hid (∀ W, Ext w4 W → Calls Tryd.prog 39 #[.agg #[sV f.nm, .slice A1 f.vl.length c1, .slice A2 f.sl.length c2]] W (RetSl zs W)) := Lib.hid (fun W hW => by
        have := committed39_ok f.nm _ _ f.vl f.sl W (HSV.out.ext (HE4.out.trans hW)) (HSS.out.ext (HE4.out.trans hW)) (by have := HFZ.out; omega) (by have := HFZ.out; omega)
        rw [hzs] at this
        exact this.mono fun _ _ h => h.sl)
      have HCD : Hid (comD f = leafF zs) := Lib.hid (by unfold comD; rw [hzs])
      clear hw4 e0 e1 e2 hzs
      go_wp2_with fail
      refine (CC.out w4 (Ext.refl _)).mono ?_
      rintro _ w5 ⟨v5, rfl, hs5, hE5⟩
      have HS5 := Lib.hid hs5
      have HE5 := Lib.hid hE5
      obtain ⟨A5, c5, rfl, -, -, -⟩ := hs5
      clear hE5 p0 p1 p2
      go_wp2_with fail
      refine (leaf38_ok zs _ w5 HS5.out (HT.out.ext (HES.out.trans (HX.out.trans (HE4.out.trans HE5.out))))).mono ?_
      rintro _ w7 ⟨rfl, hE7⟩
      rw [← HCD.out]
      have HE7 : Hid (Ext w4 w7) := Lib.hid (HE5.out.trans hE7)
      clear hE7
      go_upto_region 6 with fail
      generalize hw8 : w7.alloc (.cells (idA (comD f)) 48) = w8
      have HB8 : Hid (Bk w8 w7.heap.size 32 (idF (comD f))) := Lib.hid (by rw [← hw8]; exact Bk.new (by decide))
      have HE8 : Hid (Ext wr w8) := Lib.hid (HE4.out.trans (HE7.out.trans (by rw [← hw8]; exact (Ext.refl _).alloc _)))
      have HP8 : Hid (w8.cell? ⟨wr.heap.size, 0, none⟩ = some (sV f.nm)) := Lib.hid ((HE7.out.trans (by rw [← hw8]; exact (Ext.refl _).alloc _)).cell HP0.out)
      have hlt8 : wr.heap.size ≤ w7.heap.size := (HE4.out.trans HE7.out).size
      clear hw8
      have l8 := HB8.out.run_ld48
      go_upto_region 7 with (at_builtin; go_loud (refine wapp el51 rfl (.tmp 21) (.tmp 23) rfl (w5 := wS) (vs := la.map idC) (us := [idC (comD f)]) rfl (HX.out.trans (HE8.out.alloc _)) (HRA.out.ext (HE8.out.alloc _)) rfl rfl (Wide.one (idC_len _)) (by simp only [List.flatten_cons, List.flatten_nil, List.append_nil]; exact vs1 _ _ _) (one_idC _) (by rw [List.length_map, HLA.out]; simp; omega) (by rw [List.length_map, HLA.out]; simp; omega) ?_; intro v9 w9 hr9 hE9 hg9 hb9))
      have hE8a : Ext wr (w8.alloc (.cells (arV (idF (comD f)) 32) 48)) := HE8.out.alloc _
      have hE8b : Ext w8 (w8.alloc (.cells (arV (idF (comD f)) 32) 48)) := (Ext.refl _).alloc _
      have hown : ∀ kk, (Value.slice Aa k ca).ownBlock = some kk → wS.heap.size ≤ kk ∧ kk < wr.heap.size := fun kk e => HRA.out.lt kk e
      have HRW9 := Lib.hid ((HRW.out.ext hE8a).kept (fun kk e => hg9.block kk (Nat.lt_of_lt_of_le (HRW.out.lt kk e).2 hE8a.size) (fun e2 => HDI.out kk e2.symm e)))
      have HDI9 : Hid (∀ kk, v9.ownBlock = some kk → (Value.slice Av k cv).ownBlock ≠ some kk) := Lib.hid (fun kk e e2 => by
        rcases hb9 with h1 | h1
        · exact HDI.out kk (h1 ▸ e) e2
        · rw [h1] at e
          have h2 := (HRW.out.lt kk e2).2
          have h3 := hE8a.size
          cases e
          omega)
      have HB9 := Lib.hid ((HB8.out.ext hE8b).kept (hg9.block _ ((HB8.out.ext hE8b).lt) (fun e => by have := (hown _ e.symm).2; omega)))
      have HP9 : Hid (w9.cell? ⟨wr.heap.size, 0, none⟩ = some (sV f.nm)) := Lib.hid ((World.cell?_of_block (a := ⟨wr.heap.size, 0, none⟩) (hg9.block wr.heap.size (Nat.lt_of_lt_of_le (World.block_lt_of_cell? w8 _ HP8.out) hE8b.size) (fun e => by have := (hown _ e.symm).2; omega))).trans (hE8b.cell HP8.out))
      have HR9 : Hid (Row 32 w9 wS.heap.size 48 v9 ((la ++ [comD f]).map idC)) := Lib.hid (by rw [List.map_append]; exact hr9)
      have HE9 := Lib.hid hE9
      obtain ⟨A9, c9, e9, -, -⟩ := hr9.form
      rw [show (la.map idC ++ [idC (comD f)]).length = k + 1 by rw [List.length_append, List.length_map, HLA.out]; rfl] at e9
      subst e9
      have hl9 : wr.heap.size < w9.heap.size := World.block_lt_of_cell? w9 _ HP9.out
      clear hr9 hE9 hg9 hb9 hown hE8a hE8b l8
      obtain ⟨c3, w3, hcv, hE3, hS3⟩ := conv938 w9.drew f.nm (by have := HFZ.out; omega)
      have hX3 : Ext w9 w3 := ((Ext.refl _).drew).trans hE3
      have HS3 := Lib.hid hS3
      clear hE3 hS3
      have KB : Hid (∀ W, Ext w9 W → (fun w' => w'.cell? ⟨wr.heap.size, 0, none⟩ = some (sV f.nm) ∧ (ldS 48 (.pointer (some ⟨w7.heap.size, 0, none⟩))).run Tryd.prog w' = .ok (idV (comD f)) w') W) := Lib.hid (fun W h => ⟨h.cell HP9.out, (HB9.out.ext h).run_ld48⟩)
      refine wp_region_noPanic ?_
      refine wp_region_X (S := (fun w' => w'.cell? ⟨wr.heap.size, 0, none⟩ = some (sV f.nm) ∧ (ldS 48 (.pointer (some ⟨w7.heap.size, 0, none⟩))).run Tryd.prog w' = .ok (idV (comD f)) w')) (z := 9) (by kernel_rfl) ?_ (fun hHeld => ?_)
      · first | assumption | exact KB.out _ (by repeat (first | assumption | exact Ext.refl _ | apply Ext.alloc | apply Ext.drew | apply Ext.drewN))
      refine wpAnyX_take (i := 0) (v := ?_) (oper_at rfl) (by kernel_rfl) (by kernel_rfl) (by kernel_rfl) (by kernel_rfl) (fun _ _ _ h => h) (Or.inl ⟨by rfl, ?_⟩) hHeld ?_
      rotate_left
      · (intro ww hSw; (try dsimp only at hSw); go_simp; try (with_reducible rfl))
      try simp only [Act.put, List.setIfInBounds_toArray, List.set_cons_zero, List.set_cons_succ]
      refine wpAnyX_take (i := 1) (v := ?_) (oper_at rfl) (by kernel_rfl) (by kernel_rfl) (by kernel_rfl) (by kernel_rfl) (fun _ _ _ h => h) (Or.inl ⟨by rfl, ?_⟩) hHeld ?_
      rotate_left
      · (intro ww hSw; (try dsimp only at hSw); go_simp; try (with_reducible rfl))
      try simp only [Act.put, List.setIfInBounds_toArray, List.set_cons_zero, List.set_cons_succ]
      refine wpAnyX_take (i := 2) (v := ?_) (oper_at rfl) (by kernel_rfl) (by kernel_rfl) (by kernel_rfl) (by kernel_rfl) (fun _ _ _ h => h) (Or.inl ⟨by rfl, ?_⟩) hHeld ?_
      rotate_left
      · (intro ww hSw; (try dsimp only at hSw); go_simp; try (with_reducible rfl))
      try simp only [Act.put, List.setIfInBounds_toArray, List.set_cons_zero, List.set_cons_succ]
      refine wpAnyX_take (i := 5) (v := ?_) (oper_at rfl) (by kernel_rfl) (by kernel_rfl) (by kernel_rfl) (by kernel_rfl) (fun _ _ _ h => h) (Or.inl ⟨by rfl, ?_⟩) hHeld ?_
      rotate_left
      · (intro ww hSw; (try dsimp only at hSw); go_simp; try (with_reducible rfl))
      try simp only [Act.put, List.setIfInBounds_toArray, List.set_cons_zero, List.set_cons_succ]
      refine wpAnyX_ready (rs := [3]) (by kernel_rfl) (by simp) (AllReadyX.cons (by decide) (oper_at rfl) (fun K hK => ?_) AllReadyX.nil)
      go_simp
      refine hK.out _ _ ?_ (fun hHeld => ?_)
      · first | assumption | exact KB.out _ (by repeat (first | assumption | exact Ext.refl _ | apply Ext.alloc | apply Ext.drew | apply Ext.drewN))
      clear hK K
      try simp only [Act.put, List.setIfInBounds_toArray, List.set_cons_zero, List.set_cons_succ]
      refine wpAnyX_ready (rs := [4]) (by kernel_rfl) (by simp) (AllReadyX.cons (by decide) (oper_at rfl) (fun K hK => ?_) AllReadyX.nil)
      go_simp
      go_at_call 38
      refine (leaf38_ok _ _ w3 HS3.out (HT.out.ext (HES.out.trans (HE9.out.trans hX3)))).mono ?_
      rintro _ w5 ⟨rfl, hE5⟩
      have hX5 : Ext w9 w5 := hX3.trans hE5
      clear hE5
      try go_wp2_with fail
      refine hK.out _ _ ?_ (fun hHeld => ?_)
      · first | assumption | exact KB.out _ (by repeat (first | assumption | exact Ext.refl _ | apply Ext.alloc | apply Ext.drew | apply Ext.drewN))
      clear hK K
      try simp only [Act.put, List.setIfInBounds_toArray, List.set_cons_zero, List.set_cons_succ]
      refine wpAnyX_ready (rs := [6]) (by kernel_rfl) (by simp) (AllReadyX.cons (by decide) (oper_at rfl) (fun K hK => ?_) AllReadyX.nil)
      go_simp
      go_at_call 40
      refine (pair40_ok _ _ (leafF_len _) (comD_len _) w5 (HT.out.ext (HES.out.trans (HE9.out.trans hX5)))).mono ?_
      rintro _ w7' ⟨rfl, hE7⟩
      have hX7 : Ext w9 w7' := hX5.trans hE7
      clear hE7
      try go_wp2_with fail
      refine hK.out _ _ ?_ (fun hHeld => ?_)
      · first | assumption | exact KB.out _ (by repeat (first | assumption | exact Ext.refl _ | apply Ext.alloc | apply Ext.drew | apply Ext.drewN))
      clear hK K
      try simp only [Act.put, List.setIfInBounds_toArray, List.set_cons_zero, List.set_cons_succ]
      refine wpAnyX_ready (rs := [7]) (by kernel_rfl) (by simp) (AllReadyX.cons (by decide) (oper_at rfl) (fun K hK => ?_) AllReadyX.nil)
      go_simp
      refine hK.out _ _ ?_ (fun hHeld => ?_)
      · first | assumption | exact KB.out _ (by repeat (first | assumption | exact Ext.refl _ | apply Ext.alloc | apply Ext.drew | apply Ext.drewN))
      clear hK K
      try simp only [Act.put, List.setIfInBounds_toArray, List.set_cons_zero, List.set_cons_succ]
      refine wpAnyX_ready (rs := [8]) (by kernel_rfl) (by simp) (AllReadyX.cons (by decide) (oper_at rfl) (fun K hK => ?_) AllReadyX.nil)
      refine sapp el51 (by rfl) (.tmp 25) (.tmp 32) (by rfl) (w5 := wS) (vs := l.map idC) (us := [idC (nodF (itOf f))]) (by rfl) (HE9.out.trans (hX7.alloc _)) (HRW9.out.ext (hX7.alloc _)) (by rfl) rfl (Wide.one (idC_len _)) (by simp only [List.flatten_cons, List.flatten_nil, List.append_nil]; exact vs1 _ _ _) (one_idC _) (by rw [List.length_map, HPL.out]; simp; omega) (by rw [List.length_map, HPL.out]; simp; omega) ?_
      intro v8 w8' hr8 hE8' hg8 hb8
      have hX8 : Ext w9 (w7'.alloc (.cells (idA (pairF (leafF f.nm) (comD f))) 48)) := hX7.alloc _
      have hown : ∀ kk, (Value.slice Av k cv).ownBlock = some kk → wS.heap.size ≤ kk ∧ kk < wr.heap.size := fun kk e => HRW.out.lt kk e
      have HRA8 := Lib.hid ((HR9.out.ext hX8).kept (fun kk e => hg8.block kk (Nat.lt_of_lt_of_le (HR9.out.lt kk e).2 hX8.size) (fun e2 => HDI9.out kk e e2.symm)))
      have HDI8 : Hid (∀ kk, (Value.slice A9 (k + 1) c9).ownBlock = some kk → v8.ownBlock ≠ some kk) := Lib.hid (fun kk e e2 => by
          rcases hb8 with h1 | h1
          · exact HDI9.out kk e (h1 ▸ e2)
          · rw [h1] at e2
            have h2 := (HR9.out.lt kk e).2
            cases e2
            exact absurd (Nat.lt_of_lt_of_le h2 hX8.size) (Nat.lt_irrefl _))
      have HR8 : Hid (Row 32 w8' wS.heap.size 48 v8 ((l ++ [nodF (itOf f)]).map idC)) := Lib.hid (by rw [List.map_append]; exact hr8)
      have HE8' := Lib.hid hE8'
      have hbx := (HB9.out.ext hX8).kept (hg8.block _ ((HB9.out.ext hX8).lt) (fun e => by have := (hown _ e.symm).2; omega))
      have y0 := (World.cell?_of_block (a := ⟨wr.heap.size, 0, none⟩) (hg8.block wr.heap.size (Nat.lt_of_lt_of_le hl9 hX8.size) (fun e => by have := (hown _ e.symm).2; omega))).trans (hX8.cell HP9.out)
      have y1 := hbx.run_ld48
      clear hr8 hE8' hg8 hb8 hown hX8 hbx
      refine hK.out _ _ ?_ (fun hHeld => ?_)
      · exact ⟨y0, y1⟩
      clear hK K
      try simp only [Act.put, List.setIfInBounds_toArray, List.set_cons_zero, List.set_cons_succ]
      refine wpAnyX_ready (rs := [9]) (by kernel_rfl) (by simp) (AllReadyX.last rfl (oper_at rfl) (fun K hK => ?_))
      go_simp
      refine hK.out _ _ ?_
      clear hK K
      try simp only [Act.put, List.setIfInBounds_toArray, List.set_cons_zero, List.set_cons_succ]
      refine wpAnyX_done (by kernel_rfl) ?_ _
      refine NoPanic.normal ?_
      go_wp2_with fail
      exact ⟨⟨k + 1, la ++ [comD f], l ++ [nodF (itOf f)], _, _, by omega, by go_num, rfl, rfl, by rw [HF.out, List.map_append, HPA.out]; rfl, by rw [HF.out, List.map_append, List.map_append, HP.out]; rfl, HRA8.out, HR8.out, HDI8.out, HE8'.out⟩, by simp [intOf]; omega⟩
    · obtain rfl : k = xs.length := by omega
      rw [List.take_length] at HP HPA
      obtain ⟨wT, rfl⟩ : ∃ wT, wT = wr := ⟨_, rfl⟩
      have HI : Hid (Id32 l) := Lib.hid (fun d hd => by
        rw [HP.out] at hd
        obtain ⟨x, hx, rfl⟩ := List.mem_map.1 hd
        exact pairF_len _ _)
      have HWT : Hid (Ext w wT) := Lib.hid (HES.out.trans HX.out)
      have HBT : Hid (Bk wT w.heap.size 32 (idF [])) := Lib.hid (HBS.out.ext HX.out)
      have hST : wS.heap.size ≤ wT.heap.size := HX.out.size
      go_wp2_with fail
      go_loopw [5] (fun t wr => ∃ (m : Ids) (v : Value), t = v ∧ Row 32 wr wS.heap.size 48 v (m.map idC) ∧ Id32 m ∧ topF m = topF l ∧ 0 < m.length ∧ m.length ≤ 100 ∧ Ext wT wr) (fun t _ => sLen t)
      case atStart => exact ⟨l, _, rfl, HRW.out, HI.out, rfl, by rw [HPL.out]; omega, by rw [HPL.out]; omega, Ext.refl _⟩
      case round =>
        obtain ⟨m, v, rfl, hr, hi, ht, hm0, hm1, hX⟩ := hrel
        obtain ⟨wn, rfl⟩ : ∃ wn, wn = wr := ⟨_, rfl⟩
        obtain ⟨A', c', hv, HRD⟩ := ids_read hr
        subst hv
        have HRD := Lib.hid HRD
        have HRN := Lib.hid hr
        have HIN := Lib.hid hi
        have HTN := Lib.hid ht
        have HXN := Lib.hid hX
        have hSN : wS.heap.size ≤ wn.heap.size := Nat.le_trans hST hX.size
        clear hr hi ht hX HI
        by_cases h1 : m.length ≤ 1
        · have q1 : ¬ (1 : Int) < (m.length : Int) := by omega
          obtain ⟨b, rfl, -, hbl, hld⟩ := HRD.out 0 (by omega)
          have l1 := hld wn rfl
          obtain ⟨d0, hd0⟩ : ∃ d, m.getD 0 [] = d := ⟨_, rfl⟩
          rw [hd0] at l1
          have HBN := Lib.hid (HBT.out.ext HXN.out)
          have l2 := run_st48 HBN.out d0
          have HD0 := Lib.hid hd0
          clear hd0 hld
          have q2 : (0 : Int) < (m.length : Int) := by omega
          rw [Nat.zero_mul] at l1
          go_wp2_with fail
          refine bodyPost_ret (res48t Tryd.results20 HBN.out.putAll rfl rfl) rfl ?_
          refine ⟨.slice Aa xs.length ca, ?_, by rw [← List.map_map, ← HPA.out]; exact ((HRA.out.ext HXN.out).kept (fun kk e => setCells_far (by have := (HRA.out.lt kk e).1; omega) _ _ _)).sl, Ext.setCells (Nat.le_refl _) _ _ (HWT.out.trans HXN.out)⟩
          first | rw [← HP.out, ← HTN.out, topF_small h1, HD0.out] | rw [← List.map_map, ← HP.out, ← HTN.out, topF_small h1, HD0.out]
          rfl
        · have q1 : (1 : Int) < (m.length : Int) := by omega
          go_wp2_with fail
          go_loopw [9, 10] (fun t i wr => ∃ (j p : Nat) (v : Value), 2 * j = p ∧ p ≤ m.length ∧ i = iV (p : Int) ∧ t = v ∧ Row 32 wr wn.heap.size 48 v ((lvlF (m.take p)).map idC) ∧ Ext wn wr) (fun _ i _ => m.length - (intOf i).toNat)
          case atStart => exact ⟨0, 0, nilV, rfl, by omega, rfl, rfl, by simpa [lvlF] using Row.nil 32 wn wn.heap.size 48, Ext.refl _⟩
          case round =>
            obtain ⟨j, p, v, hj, hpm, rfl, rfl, hr, hX⟩ := hrel
            have HJ := Lib.hid hj
            have HRI := Lib.hid hr
            have HXI := Lib.hid hX
            have HLL : Hid ((lvlF (m.take p)).length ≤ 100) := Lib.hid (by rw [lvlF_len, List.length_take]; omega)
            obtain ⟨Av, cv, hv, -, -⟩ := HRI.out.form
            obtain ⟨nl, hnl⟩ : ∃ nl, ((lvlF (m.take p)).map idC).length = nl := ⟨_, rfl⟩
            rw [hnl] at hv
            subst hv
            have HNL := Lib.hid hnl
            clear hj hr hX hnl
            by_cases hlt : p + 1 < m.length
            · obtain ⟨b, hb1, hb2, hbl, ld1⟩ := HRD.out p (by omega)
              obtain ⟨b', hb1', -, -, ld2⟩ := HRD.out (p + 1) hlt
              subst hb1
              obtain rfl : b = b' := by simpa using hb1'
              obtain ⟨da, hda⟩ : ∃ d, m.getD p [] = d := ⟨_, rfl⟩
              obtain ⟨db, hdb⟩ : ∃ d, m.getD (p + 1) [] = d := ⟨_, rfl⟩
              have HDA : Hid (da.length = 32 ∧ db.length = 32) := Lib.hid ⟨by rw [← hda]; exact HIN.out _ (mem_getD (by omega)), by rw [← hdb]; exact HIN.out _ (mem_getD hlt)⟩
              have HST : Hid (lvlF (m.take (p + 2)) = lvlF (m.take p) ++ [pairF da db]) := Lib.hid (by
                have := lvlF_step m j (by have := HJ.out; omega)
                rw [HJ.out, hda, hdb] at this
                exact this)
              rw [hda] at ld1
              rw [hdb] at ld2
              have q2 : (p : Int) + 1 < (m.length : Int) := by omega
              have q3 : (0 : Int) ≤ (p : Int) := by omega
              have q4 : (p : Int) < (m.length : Int) := by omega
              have q5 : (p : Int) ≤ 100 := by omega
              have LD := Lib.hid (And.intro ld1 ld2)
              have HBL := Lib.hid hbl
              have e2 : IntKind.i64.wrap ((p : Int) + 1) = (p : Int) + 1 := IntWalk.i64_in _ (by omega)
              have q6 : (0 : Int) ≤ (p : Int) + 1 := by omega
              clear hda hdb ld1 ld2 hb1' hbl
              go_upto_region 14 with fail
              have KB : Hid (∀ W, Ext wn W → (fun w' => Ext wn w' ∧ (ldS 48 (.pointer (some ⟨b, p * 32, none⟩))).run Tryd.prog w' = .ok (idV da) w' ∧ (ldS 48 (.pointer (some ⟨b, (p + 1) * 32, none⟩))).run Tryd.prog w' = .ok (idV db) w') W) := Lib.hid (fun W h => ⟨h, LD.out.1 W (h.block _ HBL.out), LD.out.2 W (h.block _ HBL.out)⟩)
              have hXI := HXI.out
              refine wp_region_noPanic ?_
              refine wp_region_X (S := (fun w' => Ext wn w' ∧ (ldS 48 (.pointer (some ⟨b, p * 32, none⟩))).run Tryd.prog w' = .ok (idV da) w' ∧ (ldS 48 (.pointer (some ⟨b, (p + 1) * 32, none⟩))).run Tryd.prog w' = .ok (idV db) w')) (z := 13) (by kernel_rfl) ?_ (fun hHeld => ?_)
              · first | assumption | exact KB.out _ (by repeat (first | assumption | exact Ext.refl _ | apply Ext.alloc | apply Ext.drew | apply Ext.drewN))
              refine wpAnyX_take (i := 0) (v := ?_) (oper_at rfl) (by kernel_rfl) (by kernel_rfl) (by kernel_rfl) (by kernel_rfl) (fun _ _ _ h => h) (Or.inl ⟨by rfl, ?_⟩) hHeld ?_
              rotate_left
              · (intro ww hSw; (try dsimp only at hSw); go_simp; try (with_reducible rfl))
              try simp only [Act.put, List.setIfInBounds_toArray, List.set_cons_zero, List.set_cons_succ]
              refine wpAnyX_take (i := 1) (v := ?_) (oper_at rfl) (by kernel_rfl) (by kernel_rfl) (by kernel_rfl) (by kernel_rfl) (fun _ _ _ h => h) (Or.inl ⟨by rfl, ?_⟩) hHeld ?_
              rotate_left
              · (intro ww hSw; (try dsimp only at hSw); go_simp; try (with_reducible rfl))
              try simp only [Act.put, List.setIfInBounds_toArray, List.set_cons_zero, List.set_cons_succ]
              refine wpAnyX_take (i := 2) (v := ?_) (oper_at rfl) (by kernel_rfl) (by kernel_rfl) (by kernel_rfl) (by kernel_rfl) (fun _ _ _ h => h) (Or.inl ⟨by rfl, ?_⟩) hHeld ?_
              rotate_left
              · (intro ww hSw; (try dsimp only at hSw); go_simp; try (with_reducible rfl))
              try simp only [Act.put, List.setIfInBounds_toArray, List.set_cons_zero, List.set_cons_succ]
              refine wpAnyX_take (i := 3) (v := ?_) (oper_at rfl) (by kernel_rfl) (by kernel_rfl) (by kernel_rfl) (by kernel_rfl) (fun _ _ _ h => h) (Or.inl ⟨by rfl, ?_⟩) hHeld ?_
              rotate_left
              · (intro ww hSw; (try dsimp only at hSw); go_simp; try (with_reducible rfl))
              try simp only [Act.put, List.setIfInBounds_toArray, List.set_cons_zero, List.set_cons_succ]
              refine wpAnyX_take (i := 4) (v := ?_) (oper_at rfl) (by kernel_rfl) (by kernel_rfl) (by kernel_rfl) (by kernel_rfl) (fun _ _ _ h => h) (Or.inl ⟨by rfl, ?_⟩) hHeld ?_
              rotate_left
              · (intro ww hSw; (try dsimp only at hSw); go_simp; try (with_reducible rfl))
              try simp only [Act.put, List.setIfInBounds_toArray, List.set_cons_zero, List.set_cons_succ]
              refine wpAnyX_take (i := 5) (v := ?_) (oper_at rfl) (by kernel_rfl) (by kernel_rfl) (by kernel_rfl) (by kernel_rfl) (fun _ _ _ h => h) (Or.inl ⟨by rfl, ?_⟩) hHeld ?_
              rotate_left
              · (intro ww hSw; (try dsimp only at hSw); go_simp; try (with_reducible rfl))
              try simp only [Act.put, List.setIfInBounds_toArray, List.set_cons_zero, List.set_cons_succ]
              refine wpAnyX_take (i := 6) (v := ?_) (oper_at rfl) (by kernel_rfl) (by kernel_rfl) (by kernel_rfl) (by kernel_rfl) (fun _ _ _ h => h) (Or.inl ⟨by rfl, ?_⟩) hHeld ?_
              rotate_left
              · (intro ww hSw; (try dsimp only at hSw); go_simp; try (with_reducible rfl))
              try simp only [Act.put, List.setIfInBounds_toArray, List.set_cons_zero, List.set_cons_succ]
              refine wpAnyX_take (i := 7) (v := ?_) (oper_at rfl) (by kernel_rfl) (by kernel_rfl) (by kernel_rfl) (by kernel_rfl) (fun _ _ _ h => h) (Or.inl ⟨by rfl, ?_⟩) hHeld ?_
              rotate_left
              · (intro ww hSw; (try dsimp only at hSw); go_simp; try (with_reducible rfl))
              try simp only [Act.put, List.setIfInBounds_toArray, List.set_cons_zero, List.set_cons_succ]
              refine wpAnyX_take (i := 8) (v := ?_) (oper_at rfl) (by kernel_rfl) (by kernel_rfl) (by kernel_rfl) (by kernel_rfl) (fun _ _ _ h => h) (Or.inl ⟨by rfl, ?_⟩) hHeld ?_
              rotate_left
              · (intro ww hSw; (try dsimp only at hSw); go_simp; try (with_reducible rfl))
              try simp only [Act.put, List.setIfInBounds_toArray, List.set_cons_zero, List.set_cons_succ]
              refine wpAnyX_take (i := 9) (v := ?_) (oper_at rfl) (by kernel_rfl) (by kernel_rfl) (by kernel_rfl) (by kernel_rfl) (fun _ _ _ h => h) (Or.inl ⟨by rfl, ?_⟩) hHeld ?_
              rotate_left
              · (intro ww hSw; (try dsimp only at hSw); go_simp; try (with_reducible rfl))
              try simp only [Act.put, List.setIfInBounds_toArray, List.set_cons_zero, List.set_cons_succ]
              refine wpAnyX_ready (rs := [10]) (by kernel_rfl) (by simp) (AllReadyX.cons (by decide) (oper_at rfl) (fun K hK => ?_) AllReadyX.nil)
              go_simp
              go_at_call 40
              refine (pair40_ok _ _ HDA.out.1 HDA.out.2 _ (HT.out.ext (HWT.out.trans (HXN.out.trans (by repeat (first | assumption | exact Ext.refl _ | apply Ext.alloc | apply Ext.drew | apply Ext.drewN)))))).mono ?_
              rintro _ w7 ⟨rfl, hE7⟩
              have hX7 : Ext wn w7 := Ext.trans (by repeat (first | assumption | exact Ext.refl _ | apply Ext.alloc | apply Ext.drew | apply Ext.drewN)) hE7
              have hI7 : Ext wr w7 := Ext.trans (by repeat (first | assumption | exact Ext.refl _ | apply Ext.alloc | apply Ext.drew | apply Ext.drewN)) hE7
              clear hE7
              try go_wp2_with fail
              refine hK.out _ _ ?_ (fun hHeld => ?_)
              · first | assumption | exact KB.out _ (by repeat (first | assumption | exact Ext.refl _ | apply Ext.alloc | apply Ext.drew | apply Ext.drewN))
              clear hK K
              try simp only [Act.put, List.setIfInBounds_toArray, List.set_cons_zero, List.set_cons_succ]
              refine wpAnyX_ready (rs := [11]) (by kernel_rfl) (by simp) (AllReadyX.cons (by decide) (oper_at rfl) (fun K hK => ?_) AllReadyX.nil)
              go_simp
              refine hK.out _ _ ?_ (fun hHeld => ?_)
              · first | assumption | exact KB.out _ (by repeat (first | assumption | exact Ext.refl _ | apply Ext.alloc | apply Ext.drew | apply Ext.drewN))
              clear hK K
              try simp only [Act.put, List.setIfInBounds_toArray, List.set_cons_zero, List.set_cons_succ]
              refine wpAnyX_ready (rs := [12]) (by kernel_rfl) (by simp) (AllReadyX.cons (by decide) (oper_at rfl) (fun K hK => ?_) AllReadyX.nil)
              refine sapp el51 (by rfl) (.tmp 45) (.tmp 56) (by rfl) (w5 := wn) (vs := (lvlF (m.take p)).map idC) (us := [idC (pairF da db)]) (by rfl) (hX7.alloc _) (HRI.out.ext (hI7.alloc _)) (by rfl) rfl (Wide.one (idC_len _)) (by simp only [List.flatten_cons, List.flatten_nil, List.append_nil]; exact vs1 _ _ _) (one_idC _) (by rw [List.length_map]; have := HLL.out; simp; omega) (by rw [List.length_map]; have := HLL.out; simp; omega) ?_
              intro v9 w9 hr9 hE9 hg9 hb9
              have HR9 : Hid (Row 32 w9 wn.heap.size 48 v9 ((lvlF (m.take (p + 2))).map idC)) := Lib.hid (by rw [HST.out, List.map_append]; exact hr9)
              clear hr9 hg9 hb9
              refine hK.out _ _ ?_ (fun hHeld => ?_)
              · first | assumption | exact KB.out _ (by repeat (first | assumption | exact Ext.refl _ | apply Ext.alloc | apply Ext.drew | apply Ext.drewN))
              clear hK K
              try simp only [Act.put, List.setIfInBounds_toArray, List.set_cons_zero, List.set_cons_succ]
              refine wpAnyX_ready (rs := [13]) (by kernel_rfl) (by simp) (AllReadyX.last rfl (oper_at rfl) (fun K hK => ?_))
              go_simp
              refine hK.out _ _ ?_
              clear hK K
              try simp only [Act.put, List.setIfInBounds_toArray, List.set_cons_zero, List.set_cons_succ]
              refine wpAnyX_done (by kernel_rfl) ?_ _
              refine NoPanic.normal ?_
              go_wp2_with fail
              exact ⟨⟨j + 1, p + 2, _, by have := HJ.out; omega, by omega, by go_num, rfl, HR9.out, hE9⟩, by simp [intOf]; omega⟩
            · have hpe : p = m.length ∨ p + 1 = m.length := by omega
              have HML : Hid ((lvlF m).length = (m.length + 1) / 2) := Lib.hid (lvlF_len m)
              have HM32 := Lib.hid (lvlF_32 m HIN.out)
              have HTM : Hid (topF (lvlF m) = topF l) := Lib.hid (by rw [← topF_large h1]; exact HTN.out)
              have q2 : ¬ (p : Int) + 1 < (m.length : Int) := by omega
              have q5 : (p : Int) ≤ 100 := by omega
              rcases hpe with hpe | hpe
              · have q6 : ((m.length : Int) % 2 == 1) = false := by rw [beq_eq_false_iff_ne]; have := HJ.out; omega
                have HR2 : Hid (Row 32 wr wn.heap.size 48 (.slice Av nl cv) ((lvlF m).map idC)) := Lib.hid (by
                  have := HRI.out
                  rw [hpe, List.take_length] at this
                  exact this)
                have hnl2 : nl = (m.length + 1) / 2 := by
                  rw [← HNL.out, List.length_map, hpe, List.take_length, HML.out]
                have HNE := Lib.hid hnl2
                clear hpe hnl2
                go_wp2_with fail
                refine ⟨⟨lvlF m, _, rfl, HR2.out.base hSN, HM32.out, HTM.out, by rw [HML.out]; omega, by rw [HML.out]; omega, HXN.out.trans HXI.out⟩, ?_⟩
                show nl < m.length
                rw [HNE.out]
                omega
              · have q6 : ((m.length : Int) % 2 == 1) = true := by rw [beq_iff_eq]; have := HJ.out; omega
                obtain ⟨b, hb1, hb2, hbl, ld1⟩ := HRD.out p (by omega)
                subst hb1
                obtain ⟨da, hda⟩ : ∃ d, m.getD p [] = d := ⟨_, rfl⟩
                have HLM : Hid (lvlF m = lvlF (m.take p) ++ [da]) := Lib.hid (by
                  have := lvlF_odd m j (by have := HJ.out; omega)
                  rw [HJ.out, hda] at this
                  exact this)
                rw [hda] at ld1
                have l1 := ld1 wr (HXI.out.block _ hbl)
                have q7 : IntKind.i64.wrap ((m.length : Int) - 1) = (p : Int) := by rw [IntWalk.i64_in _ (by omega)]; omega
                have q8 : (m.length : Int) - 1 = (p : Int) := by omega
                have q9 : (p : Int) < (m.length : Int) := by omega
                have q10 : (0 : Int) ≤ (p : Int) := by omega
                have HPE := Lib.hid hpe
                clear hpe hda ld1 hbl
                go_wp2_with (at_builtin; go_loud (refine wapp el51 rfl (.tmp 62) (.tmp 69) rfl (w5 := wn) (vs := (lvlF (m.take p)).map idC) (us := [idC da]) rfl (HXI.out.alloc _) (HRI.out.ext ((Ext.refl _).alloc _)) rfl rfl (Wide.one (idC_len _)) (by simp only [List.flatten_cons, List.flatten_nil, List.append_nil]; exact vs1 _ _ _) (one_idC _) (by rw [List.length_map]; have := HLL.out; simp; omega) (by rw [List.length_map]; have := HLL.out; simp; omega) ?_; intro v9 w9 hr9 hE9 hg9 hb9; have HR9 := Lib.hid hr9; have HE9 := Lib.hid hE9; clear hr9 hE9 hg9 hb9))
                have hr : Row 32 w9 wn.heap.size 48 v9 ((lvlF m).map idC) := by rw [HLM.out, List.map_append]; exact HR9.out
                obtain ⟨A9, c9, e9, -, -⟩ := hr.form
                refine ⟨⟨lvlF m, _, rfl, hr.base hSN, HM32.out, HTM.out, by rw [HML.out]; omega, by rw [HML.out]; omega, HXN.out.trans HE9.out⟩, ?_⟩
                rw [e9]
                show ((lvlF m).map idC).length < m.length
                rw [List.length_map, HML.out]
                omega
end Go.Proofs.YtjedhndhdkiidaaDoor
