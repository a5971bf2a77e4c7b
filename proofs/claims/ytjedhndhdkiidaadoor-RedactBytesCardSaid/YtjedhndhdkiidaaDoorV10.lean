/- All: a document's items, all open, in the order of their names. -/
import Derived.Test.YtjedhndhdkiidaaDoorV9
import Derived.Test.YtjedhndhdkiidaaDoorNB
import Derived.Test.YtjedhndhdkiidaaDoorN4
import Derived.Test.YtjedhndhdkiidaaDoorShelf
namespace Go.Proofs.YtjedhndhdkiidaaDoor
open Go.RowKit Go.Shelf Go.Sort
attribute [local go_sem ↓] Go.wp_at_zero Go.wp_at_succ
attribute [local go_sem] baSize baList
attribute [local go_sem ↓] ld75 ld48 ld73 st75 st48 al75 al48 bu75 bu48
attribute [local go_sem] run_al75 run_al48 run_bu48 run_bu75n run_bu75c run_bu75o run_st75n run_st48n
instance : Inhabited It := ⟨It0⟩
/-- An item and where its value lies. -/
abbrev PI := It × Option Addr × Nat
def encI (p : PI) : List Value := (itA p.1.nm p.1.op p.1.cm (.slice p.2.1 p.1.vl.length p.2.2) p.1.sl).toList
theorem encI_len (p : PI) : (encI p).length = 51 := by unfold encI; rw [Array.length_toList, arV_size]
theorem encI_one (p : PI) : ∀ v ∈ encI p, v.oneCell' = true := one_arV fun i _ => itF_one rfl i
def PsAt (w : World) (B : Nat) (ps : List PI) : Prop := ∀ p ∈ ps, SlN w B (.slice p.2.1 p.1.vl.length p.2.2) p.1.vl
theorem PsAt.ext {w w' : World} {B : Nat} {ps : List PI} (h : PsAt w B ps) (k : Ext w w') : PsAt w' B ps := fun p hp => (h p hp).ext k
theorem PsAt.grown {w w' : World} {B T : Nat} {t : Value} {ps : List PI} (h : PsAt w B ps) (hg : w.grownBy w' t.ownBlock) (ht : ∀ k, t.ownBlock = some k → TyB w T k) (hT : T ≠ 5) : PsAt w' B ps := fun p hp => (h p hp).grown hg ht hT
theorem PsAt.far {w w' : World} {B g : Nat} {ps : List PI} (h : PsAt w B ps) (k : Exg g w w') (hg : g < B) : PsAt w' B ps := fun p hp => (h p hp).far k hg
/-- A field as an open item. -/
def itOf (f : Fd) : It := ⟨f.nm, true, [], f.vl, f.sl⟩
@[irreducible] def bsS (t : TypeId) (n : Nat) (ps : Array (Nat × Value)) : Sem Value := Instr.buildSlice t n ps
theorem bs30 (n : Nat) (ps : Array (Nat × Value)) : Instr.buildSlice 30 n ps = bsS 30 n ps := by unfold bsS; rfl
theorem run_bs (t e m : Nat) (z : Array Value) (hu : Tryd.prog.underlying t = some (.slice e)) (hi : (Tryd.prog.info? e).map (fun i => (i.zero, i.size)) = some (some (.agg z), m)) (h0 : 0 < m) (hm : m ≤ 1000) (w : World) (f : Nat → Value) : (bsS t 1 #[(0, .agg (arV f m))]).run Tryd.prog w = .ok (.slice (some ⟨w.heap.size, 0, none⟩) 1 1) (w.alloc (.cells (arV f m) e)) := by
  obtain ⟨hz, hs⟩ := zero_of_info hi
  have hs' : ∀ w, (sizeOf e).run Tryd.prog w = .ok m w := fun w => by
    cases hq : Tryd.prog.info? e with
    | none => simp [hq] at hs
    | some i => simp [hq] at hs; simp [sizeOf, typeInfo, hq, hs]
  have hzc : (Value.agg z).cells = z := rfl
  have e1 : (Array.range (1 * m)).map (fun x => z[x % z.size]!) = arV (fun x => z[x % z.size]!) m := arV_ext (by simp) fun i hi => by simp [hi]
  have e2 : Instr.fill (fun i => some (i * m, m)) (arV (fun x => z[x % z.size]!) m) [(0, .agg (arV f m))] = some (arV f m) := by
    rw [fill_arr (off := 0) (m := m) (by simp) (by omega), Instr.fill]
    exact congrArg some (arV_congr fun i hi => by rw [if_pos (by omega), Nat.sub_zero])
  unfold bsS Instr.buildSlice
  have n1 : ¬ (1 * m > 2 ^ 24) := by omega
  have n2 : ¬ (1 * m = 0) := by omega
  simp only [Sem.run_bind, run_underlying hu, Result.andThen_ok, hs', n1, n2, if_false, hz, hzc, e1, e2, Sem.run_pure, newRow, run_newObj_alloc]
theorem run_bs30 (w : World) (f : Nat → Value) : (bsS 30 1 #[(0, .agg (arV f 51))]).run Tryd.prog w = .ok (.slice (some ⟨w.heap.size, 0, none⟩) 1 1) (w.alloc (.cells (arV f 51) 75)) :=
  run_bs 30 75 51 itZ Tryd.underlying30 (by unfold itZ itA arV itF idF; kernel_rfl) (by decide) (by decide) w f
attribute [local go_sem ↓] bs30
attribute [local go_sem] run_bs30
theorem run_aa73 (w : World) (ad : Addr) (c : Nat) : (Instr.arrayAt 73 (.slice (some ad) 16 c)).run Tryd.prog w = .ok (.pointer (some ad)) w := by
  unfold Instr.arrayAt
  simp [Sem.run_bind, run_underlying Tryd.underlying73, Result.andThen]
attribute [local go_sem] run_aa73
theorem el30 : El 30 75 (.agg itZ) 51 96 := ⟨Tryd.underlying30, by unfold itZ itA arV itF idF; kernel_rfl, by show (itZ).size = 51; exact arV_size, by decide, by decide⟩
theorem Bk.new1 (w : World) (v : Value) (T : TypeId) : Bk (w.alloc (.cells #[v] T)) w.heap.size 1 (fun _ => v) := ⟨by decide, by
  rw [blkOf_new]
  exact arV_ext rfl fun i hi => by
    have : i = 0 := by omega
    subst this
    rfl⟩
theorem Tryd.isAgg75 (w : World) : (isAgg 75).run Tryd.prog w = .ok true w := by go_simp
theorem Tryd.sizeOf75 (w : World) : (Go.sizeOf 75).run Tryd.prog w = .ok 51 w := by kernel_rfl
def cfI (p q : PI) : Int := cmpS p.1.nm q.1.nm
theorem cfI_lt {p q : PI} : ltOf cfI p q = true ↔ p.1.nm < q.1.nm := by
  unfold ltOf cfI
  rw [decide_eq_true_iff]
  exact cmpS_neg
theorem cfI_swo : SWO (ltOf cfI) where
  irrefl x := by rw [Bool.eq_false_iff, ne_eq, cfI_lt]; exact slt_irrefl _
  trans x y z h k := by rw [cfI_lt] at *; exact slt_trans h k
  ntrans x y z h k := by
    rw [Bool.eq_false_iff, ne_eq, cfI_lt] at *
    intro hxz
    rcases slt_tri x.1.nm y.1.nm with h1 | h1 | h1
    · exact h h1
    · exact k (h1 ▸ hxz)
    · exact k (slt_trans h1 hxz)
theorem cmp57_enc (p q : PI) (w : World) : Calls Tryd.prog 57 #[.agg (encI p).toArray, .agg (encI q).toArray] w (RetG (cfI p q) w) := cmp57_ok _ _ _ _ _ _ _ _ _ _ w
/-- The items of a document, sorted. -/
def RetAll (fs : List Fd) (w : World) (e : Ending) (w' : World) : Prop := ∃ (ps : List PI) (v : Value), e = .returned (dsV v) ∧ Row 51 w' (w.heap.size + 2) 75 v (ps.map encI) ∧ PsAt w' (w.heap.size + 2) ps ∧ (ps.map (·.1)).Perm (fs.map itOf) ∧ (ps.map (·.1)).Pairwise (fun a b => ¬ b.nm < a.nm) ∧ Ext w w'
theorem arV1 {f : Nat → Value} {a : Value} (h0 : f 0 = a) : arV f 1 = #[a] := by
  subst h0
  exact (arV_ext (a := #[f 0]) (n := 1) rfl (fun i hi => by
    have : i = 0 := by omega
    subst this
    rfl)).symm
theorem res32 {fn : Func} {p : Tmp} {tmps : Array Value} {w : World} {g : Nat} {f : Nat → Value} (h : fn.results = #[.cell p 32]) (hb : Bk w g 1 f) (v : Value) (hv : f 0 = v) (hp : tmps.getD p undef = .pointer (some ⟨g, 0, none⟩)) : (results fn tmps).run Tryd.prog w = .ok (dsV v) w := by
  rw [resBk h hp hb Tryd.underlying32 rfl (by kernel_rfl), arV1 hv]
theorem one_encI (p : PI) : ∀ u ∈ [encI p].flatten, u.oneCell' = true := by
  intro u hu
  simp at hu
  exact encI_one p u hu
set_option maxRecDepth 100000 in
set_option maxHeartbeats 4000000 in
theorem all29_ok (fs : List Fd) (v : Value) (w : World) (h : FsAt w v fs) (hl : fs.length ≤ 64) (hs : ∀ f ∈ fs, f.sl.length = 16 ∧ f.vl.length ≤ 4000) : Calls Tryd.prog 29 #[v] w (RetAll fs w) := by
  obtain ⟨A, c, rfl, h1, h2, h3⟩ := h.read
  have HR := Lib.hid h3
  have HS := Lib.hid hs
  clear h h3 h2 h1 hs
  go_enter Tryd.func29, Tryd.ntmps29
  go_upto_region 2 with fail
  generalize hwB : (w.alloc (.cells #[.slice none 0 0] 32)).alloc (.cells #[.slice none 0 0] 32) = wB
  have HB0 : Hid (Bk wB w.heap.size 1 (fun _ => nilV)) := Lib.hid (by rw [← hwB]; exact (Bk.new1 _ _ _).ext ((Ext.refl _).alloc _))
  have HB1 : Hid (Bk wB (w.heap.size + 1) 1 (fun _ => nilV)) := Lib.hid (by
    have e : (w.alloc (.cells #[nilV] 32)).heap.size = w.heap.size + 1 := by simp
    rw [← hwB, ← e]
    exact Bk.new1 _ _ _)
  have HE0 : Hid (Ext w wB) := Lib.hid (by rw [← hwB]; exact ((Ext.refl _).alloc _).alloc _)
  have hz0 : w.heap.size + 2 ≤ wB.heap.size := by rw [← hwB]; simp
  clear hwB
  go_wp2_with fail
  go_loopw [8] (fun i wr => ∃ (k : Nat) (ps : List PI) (v : Value), k ≤ fs.length ∧ i = iV (k : Int) ∧ ps.map (·.1) = (fs.take k).map itOf ∧ Bk wr w.heap.size 1 (fun _ => nilV) ∧ Bk wr (w.heap.size + 1) 1 (fun _ => v) ∧ Row 51 wr (w.heap.size + 2) 75 v (ps.map encI) ∧ PsAt wr (w.heap.size + 2) ps ∧ Ext w wr ∧ w.heap.size + 2 ≤ wr.heap.size) (fun i _ => fs.length - (intOf i).toNat)
  case atStart => exact ⟨0, [], nilV, by omega, rfl, rfl, HB0.out, HB1.out, Row.nil _ _ _ _, (fun p hp => by cases hp), HE0.out, hz0⟩
  case round =>
    obtain ⟨k, ps, v, hk, rfl, hp, hb0, hb1, hr, hpa, hX, hz1⟩ := hrel
    have HP := Lib.hid hp
    have HPL : Hid (ps.length = k) := Lib.hid (by
      have := congrArg List.length hp
      rw [List.length_map, List.length_map, List.length_take] at this
      omega)
    have HB0 := Lib.hid hb0
    have HB1 := Lib.hid hb1
    have HRW := Lib.hid hr
    have HPA := Lib.hid hpa
    have HX := Lib.hid hX
    clear hp hb0 hb1 hr hpa hX
    by_cases hlt : k < fs.length
    · have q1 : (k : Int) < (fs.length : Int) := by omega
      have q0 : (0 : Int) ≤ (k : Int) := by omega
      obtain ⟨bb, o, A1, c1, A2, c2, rfl, hb, e0, e1, e2, v1, v2, v3, s1, s2, s3⟩ := HR.out w (Ext.refl _) k hlt
      obtain ⟨f, hf⟩ : ∃ f, fs.getD k Fd0 = f := ⟨_, rfl⟩
      rw [hf] at e0 e1 e2 v1 v3 s1 s3
      have HF : Hid (fs.take (k + 1) = fs.take k ++ [f]) := Lib.hid (by
        rw [List.take_succ_eq_append_getElem hlt, ← hf, List.getD_eq_getElem?_getD, List.getElem?_eq_getElem hlt]
        rfl)
      have HFS : Hid (f.sl.length = 16 ∧ f.vl.length ≤ 4000) := Lib.hid (HS.out f (by
        rw [← hf, List.getD_eq_getElem?_getD, List.getElem?_eq_getElem hlt]
        exact List.getElem_mem hlt))
      have HSV : Hid (SlB wr (.slice A1 f.vl.length c1) f.vl) := Lib.hid (SlB.ext ⟨A1, c1, rfl, v1, v2, v3⟩ HX.out)
      obtain ⟨gs, os, rfl, hgs, hcs⟩ := cells_of_bytes s3 (by rw [HFS.out.1]; decide)
      have HSC : Hid (∀ W, W.heap[gs]? = w.heap[gs]? → (ldS 73 (.pointer (some ⟨gs, os, none⟩))).run Tryd.prog W = .ok (saV f.sl) W) := Lib.hid (fun W hW => run_ld73 fun i hi => by
        have := hcs i (by rw [HFS.out.1]; exact hi)
        unfold World.cell? at this ⊢
        rw [hW]
        exact this)
      have HGS := Lib.hid hgs
      have HC2 := Lib.hid (And.intro s1 s2)
      have e1' := HFS.out.1
      rw [e1'] at e2
      have e0 := HX.out.cell e0
      have e1 := HX.out.cell e1
      have e2 := HX.out.cell e2
      clear hf v1 v2 v3 s1 s2 s3 hgs hcs e1'
      go_upto_region 5 with fail
      generalize hw4 : wr.alloc (.cells #[.string ⟨f.nm.toArray⟩, .slice A1 f.vl.length c1, .slice (some ⟨gs, os, none⟩) 16 c2] 40) = w4
      have p0 : w4.cell? ⟨wr.heap.size, 0, none⟩ = some (sV f.nm) := by rw [← hw4]; exact new_at _ _ _ 0 _ rfl
      have p1 : w4.cell? ⟨wr.heap.size, 1, none⟩ = some (.slice A1 f.vl.length c1) := by rw [← hw4]; exact new_at _ _ _ 1 _ rfl
      have p2 : w4.cell? ⟨wr.heap.size, 2, none⟩ = some (.slice (some ⟨gs, os, none⟩) 16 c2) := by rw [← hw4]; exact new_at _ _ _ 2 _ rfl
      have HE4 : Hid (Ext wr w4) := Lib.hid (by rw [← hw4]; exact (Ext.refl _).alloc _)
      clear hw4 e0 e1 e2
      obtain ⟨Av, cv, hv, hv2, -⟩ := HRW.out.form
      rw [List.length_map, HPL.out] at hv
      subst hv
      have p3 : w4.cell? ⟨w.heap.size + 1, 0, none⟩ = some (.slice Av k cv) := (HB1.out.ext HE4.out).cell (by decide)
      have CC : Hid (∀ W, Ext w4 W → Calls Tryd.prog 55 #[.slice A1 f.vl.length c1] W (RetSn f.vl W)) := Lib.hid (fun W hW => clone55_new f.vl _ W (HSV.out.ext (HE4.out.trans hW)) (by have := HFS.out.2; omega))
      have KB : Hid (∀ W, Ext w4 W → (fun w' => w'.cell? ⟨w.heap.size + 1, 0, none⟩ = some (.slice Av k cv) ∧ w'.cell? ⟨wr.heap.size, 0, none⟩ = some (sV f.nm) ∧ w'.cell? ⟨wr.heap.size, 1, none⟩ = some (.slice A1 f.vl.length c1) ∧ w'.cell? ⟨wr.heap.size, 2, none⟩ = some (.slice (some ⟨gs, os, none⟩) 16 c2) ∧ (ldS 73 (.pointer (some ⟨gs, os, none⟩))).run Tryd.prog w' = .ok (saV f.sl) w') W) := Lib.hid (fun W h => ⟨h.cell p3, h.cell p0, h.cell p1, h.cell p2, HSC.out _ ((HX.out.trans (HE4.out.trans h)).block _ HGS.out)⟩)
      refine wp_region_noPanic ?_
      refine wp_region_X (S := (fun w' => w'.cell? ⟨w.heap.size + 1, 0, none⟩ = some (.slice Av k cv) ∧ w'.cell? ⟨wr.heap.size, 0, none⟩ = some (sV f.nm) ∧ w'.cell? ⟨wr.heap.size, 1, none⟩ = some (.slice A1 f.vl.length c1) ∧ w'.cell? ⟨wr.heap.size, 2, none⟩ = some (.slice (some ⟨gs, os, none⟩) 16 c2) ∧ (ldS 73 (.pointer (some ⟨gs, os, none⟩))).run Tryd.prog w' = .ok (saV f.sl) w')) (z := 15) (by kernel_rfl) ?_ (fun hHeld => ?_)
      · first | assumption | exact KB.out _ (by repeat (first | assumption | exact Ext.refl _ | apply Ext.alloc | apply Ext.drew | apply Ext.drewN))
      refine wpAnyX_take (i := 0) (v := ?_) (oper_at rfl) (by kernel_rfl) (by kernel_rfl) (by kernel_rfl) (by kernel_rfl) (fun _ _ _ h => h) (Or.inl ⟨by rfl, ?_⟩) hHeld ?_
      rotate_left
      · (intro ww hSw; (try dsimp only at hSw); go_simp; try (with_reducible rfl))
      try simp only [Act.put, List.setIfInBounds_toArray, List.set_cons_zero, List.set_cons_succ]
      refine wpAnyX_take (i := 1) (v := ?_) (oper_at rfl) (by kernel_rfl) (by kernel_rfl) (by kernel_rfl) (by kernel_rfl) (fun _ _ _ h => h) (Or.inl ⟨by rfl, ?_⟩) hHeld ?_
      rotate_left
      · (intro ww hSw; (try dsimp only at hSw); go_simp; try (with_reducible rfl))
      try simp only [Act.put, List.setIfInBounds_toArray, List.set_cons_zero, List.set_cons_succ]
      refine wpAnyX_take (i := 2) (v := ?_) (oper_at rfl) (by kernel_rfl) (by kernel_rfl) (by kernel_rfl) (by kernel_rfl) (fun _ _ _ h => h) (Or.inl ⟨by rfl, ?_⟩) hHeld ?_
      rotate_left
      · (intro ww hSw; (try dsimp only at hSw); go_simp; try (with_reducible rfl))
      try simp only [Act.put, List.setIfInBounds_toArray, List.set_cons_zero, List.set_cons_succ]
      refine wpAnyX_take (i := 3) (v := ?_) (oper_at rfl) (by kernel_rfl) (by kernel_rfl) (by kernel_rfl) (by kernel_rfl) (fun _ _ _ h => h) (Or.inl ⟨by rfl, ?_⟩) hHeld ?_
      rotate_left
      · (intro ww hSw; (try dsimp only at hSw); go_simp; try (with_reducible rfl))
      try simp only [Act.put, List.setIfInBounds_toArray, List.set_cons_zero, List.set_cons_succ]
      refine wpAnyX_take (i := 4) (v := ?_) (oper_at rfl) (by kernel_rfl) (by kernel_rfl) (by kernel_rfl) (by kernel_rfl) (fun _ _ _ h => h) (Or.inl ⟨by rfl, ?_⟩) hHeld ?_
      rotate_left
      · (intro ww hSw; (try dsimp only at hSw); go_simp; try (with_reducible rfl))
      try simp only [Act.put, List.setIfInBounds_toArray, List.set_cons_zero, List.set_cons_succ]
      refine wpAnyX_take (i := 5) (v := ?_) (oper_at rfl) (by kernel_rfl) (by kernel_rfl) (by kernel_rfl) (by kernel_rfl) (fun _ _ _ h => h) (Or.inl ⟨by rfl, ?_⟩) hHeld ?_
      rotate_left
      · (intro ww hSw; (try dsimp only at hSw); go_simp; try (with_reducible rfl))
      try simp only [Act.put, List.setIfInBounds_toArray, List.set_cons_zero, List.set_cons_succ]
      refine wpAnyX_take (i := 7) (v := ?_) (oper_at rfl) (by kernel_rfl) (by kernel_rfl) (by kernel_rfl) (by kernel_rfl) (fun _ _ _ h => h) (Or.inl ⟨by rfl, ?_⟩) hHeld ?_
      rotate_left
      · (intro ww hSw; (try dsimp only at hSw); go_simp; try (with_reducible rfl))
      try simp only [Act.put, List.setIfInBounds_toArray, List.set_cons_zero, List.set_cons_succ]
      refine wpAnyX_take (i := 8) (v := ?_) (oper_at rfl) (by kernel_rfl) (by kernel_rfl) (by kernel_rfl) (by kernel_rfl) (fun _ _ _ h => h) (Or.inl ⟨by rfl, ?_⟩) hHeld ?_
      rotate_left
      · (intro ww hSw; (try dsimp only at hSw); go_simp; try (with_reducible rfl))
      try simp only [Act.put, List.setIfInBounds_toArray, List.set_cons_zero, List.set_cons_succ]
      refine wpAnyX_take (i := 9) (v := ?_) (oper_at rfl) (by kernel_rfl) (by kernel_rfl) (by kernel_rfl) (by kernel_rfl) (fun _ _ _ h => h) (Or.inl ⟨by rfl, ?_⟩) hHeld ?_
      rotate_left
      · (intro ww hSw; (try dsimp only at hSw); go_simp; try (with_reducible rfl))
      try simp only [Act.put, List.setIfInBounds_toArray, List.set_cons_zero, List.set_cons_succ]
      refine wpAnyX_take (i := 10) (v := ?_) (oper_at rfl) (by kernel_rfl) (by kernel_rfl) (by kernel_rfl) (by kernel_rfl) (fun _ _ _ h => h) (Or.inl ⟨by rfl, ?_⟩) hHeld ?_
      rotate_left
      · (intro ww hSw; (try dsimp only at hSw); go_simp; try (with_reducible rfl))
      try simp only [Act.put, List.setIfInBounds_toArray, List.set_cons_zero, List.set_cons_succ]
      refine wpAnyX_ready (rs := [6]) (by kernel_rfl) (by simp) (AllReadyX.cons (by decide) (oper_at rfl) (fun K hK => ?_) AllReadyX.nil)
      go_simp
      go_at_call 55
      refine (CC.out _ (by repeat (first | assumption | exact Ext.refl _ | apply Ext.alloc | apply Ext.drew | apply Ext.drewN))).mono ?_
      rintro _ w5 ⟨v5, rfl, hs5, hE5⟩
      have hX5 : Ext w4 w5 := Ext.trans (by repeat (first | assumption | exact Ext.refl _ | apply Ext.alloc | apply Ext.drew | apply Ext.drewN)) hE5
      have HS5 := Lib.hid hs5
      obtain ⟨A5, c5, rfl, -, -, -, -⟩ := hs5
      clear hE5
      try go_wp2_with fail
      refine hK.out _ _ ?_ (fun hHeld => ?_)
      · first | assumption | exact KB.out _ (by repeat (first | assumption | exact Ext.refl _ | apply Ext.alloc | apply Ext.drew | apply Ext.drewN))
      clear hK K
      try simp only [Act.put, List.setIfInBounds_toArray, List.set_cons_zero, List.set_cons_succ]
      refine wpAnyX_ready (rs := [11]) (by kernel_rfl) (by simp) (AllReadyX.cons (by decide) (oper_at rfl) (fun K hK => ?_) AllReadyX.nil)
      go_simp
      refine hK.out _ _ ?_ (fun hHeld => ?_)
      · first | assumption | exact KB.out _ (by repeat (first | assumption | exact Ext.refl _ | apply Ext.alloc | apply Ext.drew | apply Ext.drewN))
      clear hK K
      try simp only [Act.put, List.setIfInBounds_toArray, List.set_cons_zero, List.set_cons_succ]
      refine wpAnyX_ready (rs := [12]) (by kernel_rfl) (by simp) (AllReadyX.cons (by decide) (oper_at rfl) (fun K hK => ?_) AllReadyX.nil)
      go_simp
      refine hK.out _ _ ?_ (fun hHeld => ?_)
      · first | assumption | exact KB.out _ (by repeat (first | assumption | exact Ext.refl _ | apply Ext.alloc | apply Ext.drew | apply Ext.drewN))
      clear hK K
      try simp only [Act.put, List.setIfInBounds_toArray, List.set_cons_zero, List.set_cons_succ]
      refine wpAnyX_ready (rs := [13]) (by kernel_rfl) (by simp) (AllReadyX.cons (by decide) (oper_at rfl) (fun K hK => ?_) AllReadyX.nil)
      refine sappB el30 (by rfl) (.tmp 13) (.tmp 24) (by rfl) (B := w.heap.size + 2) (vs := ps.map encI) (us := [encI (itOf f, A5, c5)]) (by rfl) (by have := hX5.size; have := HE4.out.size; simp; omega) (HRW.out.ext (HE4.out.trans (hX5.alloc _))) (by rfl) rfl (Wide.one (encI_len _)) (by simp only [List.flatten_cons, List.flatten_nil, List.append_nil]; exact vs1 _ _ _) (one_encI _) (by rw [List.length_map, HPL.out]; simp; omega) (by rw [List.length_map, HPL.out]; simp; omega) ?_
      intro v7 w7 hr7 hg7 hb7
      have hX6 : Ext w4 (w5.alloc (.cells (arV (itF f.nm true [] (.slice A5 f.vl.length c5) f.sl) 51) 75)) := hX5.alloc _
      have hown : ∀ kk, (Value.slice Av k cv).ownBlock = some kk → w.heap.size + 2 ≤ kk := fun kk e => (HRW.out.lt kk e).1
      have hty := ((HRW.out.ext (HE4.out.trans hX6)).ty)
      have hbg0 := (HB0.out.ext (HE4.out.trans hX6)).kept (hg7.block _ ((HB0.out.ext (HE4.out.trans hX6)).lt) (fun e => by have := hown _ e.symm; omega))
      have hbg1 := (HB1.out.ext (HE4.out.trans hX6)).kept (hg7.block _ ((HB1.out.ext (HE4.out.trans hX6)).lt) (fun e => by have := hown _ e.symm; omega))
      have HB07 := Lib.hid hbg0
      have HB17 := Lib.hid hbg1
      have HX7 : Hid (Ext w w7) := Lib.hid (ext_grow (HX.out.trans (HE4.out.trans hX6)) hg7 (fun kk e => by have := hown kk e; omega))
      have HPA7 : Hid (PsAt w7 (w.heap.size + 2) (ps ++ [(itOf f, A5, c5)])) := Lib.hid (fun p hp => by
        rcases List.mem_append.1 hp with h1 | h1
        · exact ((HPA.out p h1).ext (HE4.out.trans hX6)).grown hg7 hty (by decide)
        · obtain rfl := List.mem_singleton.1 h1
          exact ((HS5.out.base (by have := HE4.out.size; have := (World.drew w4).heap.size; show w.heap.size + 2 ≤ w4.heap.size; omega)).ext ((Ext.refl _).alloc _)).grown hg7 hty (by decide))
      have HOW7 : Hid (∀ kk, v7.ownBlock = some kk → w.heap.size + 2 ≤ kk) := Lib.hid (fun kk e => (hr7.lt kk e).1)
      have HR7 : Hid (Row 51 w7 (w.heap.size + 2) 75 v7 ((ps ++ [(itOf f, A5, c5)]).map encI)) := Lib.hid (by rw [List.map_append]; exact hr7)
      have hz7 : w.heap.size + 2 ≤ w7.heap.size := Nat.le_trans (by have := hX6.size; have := HE4.out.size; omega) hg7.size
      have hbw := hg7.block wr.heap.size (Nat.lt_of_lt_of_le (World.block_lt_of_cell? w4 _ p0) hX6.size) (fun e => by have := (HRW.out.lt _ e.symm).2; omega)
      have y0 := (World.cell?_of_block (a := ⟨wr.heap.size, 0, none⟩) hbw).trans (hX6.cell p0)
      have y1 := (World.cell?_of_block (a := ⟨wr.heap.size, 1, none⟩) hbw).trans (hX6.cell p1)
      have y2 := (World.cell?_of_block (a := ⟨wr.heap.size, 2, none⟩) hbw).trans (hX6.cell p2)
      have hE6w := HX.out.trans (HE4.out.trans hX6)
      have y3 := HSC.out w7 ((hg7.block gs (Nat.lt_of_lt_of_le HGS.out hE6w.size) (fun e => by have := hown _ e.symm; have := HGS.out; omega)).trans (hE6w.block _ HGS.out))
      have z0 := hbg1.cell (k := 0) (by decide)
      have zf := hbg1.frozen 0
      obtain ⟨A7, c7, e7, -, -⟩ := hr7.form
      have hl7 : (ps.map encI ++ [encI (itOf f, A5, c5)]).length = k + 1 := by rw [List.length_append, List.length_map, HPL.out]; rfl
      rw [hl7] at e7
      subst e7
      clear hr7 hg7 hb7 hown hty hbw hE6w hbg0 hbg1 hl7 HB0 HB1
      refine hK.out _ _ ?_ (fun hHeld => ?_)
      · exact ⟨z0, y0, y1, y2, y3⟩
      clear hK K
      try simp only [Act.put, List.setIfInBounds_toArray, List.set_cons_zero, List.set_cons_succ]
      refine wpAnyX_ready (rs := [14]) (by kernel_rfl) (by simp) (AllReadyX.cons (by decide) (oper_at rfl) (fun K hK => ?_) AllReadyX.nil)
      go_simp
      refine hK.out _ _ ?_ (fun hHeld => ?_)
      · first | assumption | exact KB.out _ (by repeat (first | assumption | exact Ext.refl _ | apply Ext.alloc | apply Ext.drew | apply Ext.drewN))
      clear hK K
      try simp only [Act.put, List.setIfInBounds_toArray, List.set_cons_zero, List.set_cons_succ]
      refine wpAnyX_ready (rs := [15]) (by kernel_rfl) (by simp) (AllReadyX.last rfl (oper_at rfl) (fun K hK => ?_))
      go_simp
      refine hK.out _ _ ?_
      clear hK K
      try simp only [Act.put, List.setIfInBounds_toArray, List.set_cons_zero, List.set_cons_succ]
      refine wpAnyX_done (by kernel_rfl) ?_ _
      refine NoPanic.normal ?_
      go_wp2_with fail
      have HG7 : Exg (w.heap.size + 1) w7 (w7.setCell ⟨w.heap.size + 1, 0, none⟩ (.slice A7 (k + 1) c7)) := (Exg.refl _ _).set (Or.inl rfl) _
      exact ⟨⟨k + 1, ps ++ [(itOf f, A5, c5)], _, by omega, by go_num, by rw [List.map_append, HP.out, HF.out, List.map_append]; rfl, HB07.out.far (by show w.heap.size + 1 ≠ w.heap.size; omega) _, (HB17.out.set 0 _).congr (fun i hi => by unfold upd; rw [if_pos (by omega)]), HR7.out.kept (fun kk e => HG7.2.2.2.2 kk (HR7.out.lt kk e).2 (by have := (HR7.out.lt kk e).1; omega)), HPA7.out.far HG7 (by omega), HG7.ext HX7.out (by omega), Nat.le_trans hz7 HG7.size⟩, by simp [intOf]; omega⟩
    · obtain rfl : k = fs.length := by omega
      rw [List.take_length] at HP
      obtain ⟨Av, cv, hv, -, -⟩ := HRW.out.form
      rw [List.length_map, HPL.out] at hv
      subst hv
      have p3 := HB1.out.cell (k := 0) (by decide)
      have eg : ∀ args W, (callFunc 57 args).run Tryd.prog W = .ok (.enter 57 args) W := enters_of Tryd.func57 (by kernel_rfl) rfl
      have SO := Lib.hid (sort_row Tryd.laysIt 51 (by omega) Tryd.isAgg75 Tryd.sizeOf75 encI encI_len encI_one cfI cfI_swo 57 eg ps wr w (w.heap.size + 2) 75 _ HRW.out HX.out (by omega) (fun W x y _ _ => cmp57_enc x y W) (by rw [HPL.out]; omega))
      clear eg
      go_wp2_with fail
      refine SO.out.mono ?_
      rintro _ w5 ⟨rfl, hE5, hk5, qs, hperm, hsort, hr5⟩
      have HE5 := Lib.hid hE5
      have hown : ∀ kk, (Value.slice Av fs.length cv).ownBlock = some kk → w.heap.size + 2 ≤ kk := fun kk e => (HRW.out.lt kk e).1
      have HB05 := Lib.hid (HB0.out.kept (hk5 _ HB0.out.lt (fun e => by have := hown _ e; omega)))
      have HB15 := Lib.hid (HB1.out.kept (hk5 _ HB1.out.lt (fun e => by have := hown _ e; omega)))
      have HR5 := Lib.hid hr5
      have HPQ := Lib.hid (And.intro hperm hsort)
      have HPA5 : Hid (PsAt w5 (w.heap.size + 2) qs) := Lib.hid (fun p hp => (HPA.out p (hperm.mem_iff.1 hp)).kept (fun b _ ht => hk5 b ht.lt (fun e => (ht.ne ((HRW.out.ty) b e) (by decide)) rfl)))
      have c5 := HB15.out.cell (k := 0) (by decide)
      have c0 := HB05.out.cell (k := 0) (by decide)
      have f0 := HB05.out.frozen 0
      clear hE5 hk5 hperm hsort hr5 hown SO
      go_wp2_with fail
      refine bodyPost_ret (res32 Tryd.results29 (HB05.out.set 0 (.slice Av fs.length cv)) (.slice Av fs.length cv) rfl rfl) rfl ?_
      have HGZ : Exg w.heap.size w5 (w5.setCell ⟨w.heap.size, 0, none⟩ (.slice Av fs.length cv)) := (Exg.refl _ _).set (Or.inl rfl) _
      refine ⟨qs, _, rfl, HR5.out.kept (fun kk e => HGZ.2.2.2.2 kk (HR5.out.lt kk e).2 (by have := (HR5.out.lt kk e).1; omega)), HPA5.out.far HGZ (by omega), ?_, ?_, HGZ.ext HE5.out (Nat.le_refl _)⟩
      · rw [← HP.out]
        exact HPQ.out.1.map _
      · rw [List.pairwise_map]
        exact HPQ.out.2.imp fun {a b} hab => by
          rw [Bool.eq_false_iff, ne_eq, cfI_lt] at hab
          exact hab
end Go.Proofs.YtjedhndhdkiidaaDoor
