/- Items: closed, as fields. -/
import Derived.Test.YtjedhndhdkiidaaDoorV8
namespace Go.Proofs.YtjedhndhdkiidaaDoor
open Go.RowKit
attribute [local go_sem ↓] Go.wp_at_zero Go.wp_at_succ
attribute [local go_sem] baSize baList run_eqnil38n
attribute [local go_sem ↓] ld75 ld48 ld73 st75 st48 al75 al48 bu75 bu48
attribute [local go_sem] run_al75 run_al48 run_bu48 run_bu75n run_bu75c run_bu75o run_st75n run_st48n run_sl73
/-- An item without its value and salt. -/
def cloF (x : It) : It := ⟨x.nm, false, comF x, [], []⟩
theorem Bk.range {w : World} {g n : Nat} {f : Nat → Value} (hb : Bk w g n f) : w.rangeAt g 0 (arV f n).toList := fun j v hj => by
  have hl : j < n := by
    rcases Nat.lt_or_ge j n with h | h
    · exact h
    · rw [List.getElem?_eq_none (by rw [Array.length_toList, arV_size]; exact h)] at hj; cases hj
  rw [Array.getElem?_toList, arV_at hl] at hj
  cases hj
  rw [Nat.zero_add]
  exact hb.cell hl
theorem size_it (f : Nat → Value) : Option.map (fun x => x.size) (Tryd.prog.info? 75) = some (arV f 51).toList.length := by
  rw [Array.length_toList, arV_size]
  exact Tryd.size75
theorem comF_len {x : It} (h : ItOk x) : (comF x).length = 32 := by
  unfold comF
  split
  · exact leafF_len _
  · rename_i ho
    exact (h.2 (by simpa using ho)).1
theorem cloF_ok {x : It} (h : ItOk x) : ItOk (cloF x) := ⟨fun e => (by cases e), fun _ => ⟨comF_len h, rfl, rfl⟩⟩
theorem cloF_clo {x : It} : cloF (cloF x) = cloF x := rfl
def RetIt (x : It) (v : Value) (w : World) (e : Ending) (w' : World) : Prop := e = .returned (itV x.nm x.op x.cm v x.sl) ∧ Ext w w'
set_option maxRecDepth 100000 in
set_option maxHeartbeats 1000000 in
theorem closed32_ok (x : It) (v : Value) (w : World) (hv : SlB w v x.vl) (hT : Tab w) (hx : ItOk x) : Calls Tryd.prog 32 #[itV x.nm x.op x.cm v x.sl] w (RetIt (cloF x) nilV w) := by
  have CC := Lib.hid (fun W (hW : Ext w W) => commit60_ok x v W (hv.ext hW) (hT.ext hW) hx)
  obtain ⟨A, c, rfl, -, -, -⟩ := hv
  show Calls Tryd.prog 32 #[.agg (itA x.nm x.op x.cm (.slice A x.vl.length c) x.sl)] w _
  go_enter Tryd.func32, Tryd.ntmps32
  go_upto_region 1 with fail
  generalize hw1 : w.alloc (.cells (itA x.nm x.op x.cm (.slice A x.vl.length c) x.sl) 75) = w1
  have HB1 : Hid (Bk w1 w.heap.size 51 (itF x.nm x.op x.cm (.slice A x.vl.length c) x.sl)) := Lib.hid (by rw [← hw1]; exact Bk.new (by decide))
  have HE1 : Hid (Ext w w1) := Lib.hid (by rw [← hw1]; exact (Ext.refl _).alloc _)
  have s1 : w1.heap.size = w.heap.size + 1 := by rw [← hw1]; simp
  clear hw1
  generalize hwB : w1.alloc (.cells itZ 75) = wB
  have HR0 : Hid (Bk wB (w.heap.size + 1) 51 (itF [] false [] nilV [])) := Lib.hid (by rw [← hwB, ← s1]; exact Bk.new (by decide))
  have HE0 : Hid (Ext w1 wB) := Lib.hid (by rw [← hwB]; exact (Ext.refl _).alloc _)
  have hz0 : w.heap.size + 1 < wB.heap.size := by rw [← hwB, ← s1]; simp
  clear hwB s1
  have HEW : Hid (Ext w wB) := Lib.hid (HE1.out.trans HE0.out)
  have HBX := Lib.hid (HB1.out.ext HE0.out)
  clear HB1 HE1 HE0
  have t0 : wB.cell? ⟨w.heap.size, 0, none⟩ = some (sV x.nm) := HBX.out.cell (by decide)
  have r0 := HBX.out.run_ld75
  have t0d : wB.drew.cell? ⟨w.heap.size, 0, none⟩ = some (sV x.nm) := t0
  have r0d := (HBX.out.drew).run_ld75
  go_region_held3 (fun w' => w'.cell? ⟨w.heap.size, 0, none⟩ = some (sV x.nm) ∧ (ldS 75 (.pointer (some ⟨w.heap.size, 0, none⟩))).run Tryd.prog w' = .ok (.agg (itA x.nm x.op x.cm (.slice A x.vl.length c) x.sl)) w')
    (first
      | with_reducible exact ⟨t0, r0⟩
      | with_reducible exact ⟨t0d, r0d⟩
      | with_reducible exact ⟨t5, r5⟩
      | with_reducible exact ⟨t6, r6⟩)
    (first
      | (go_at_call 60; refine (CC.out _ (HEW.out.trans (by repeat (first | assumption | exact Ext.refl _ | apply Ext.drew | apply Ext.drewN)))).mono ?_; rintro _ w5 ⟨rfl, hE5⟩; have hX5 : Ext wB w5 := Ext.trans (by repeat (first | assumption | exact Ext.refl _ | apply Ext.drew | apply Ext.drewN)) hE5; have t5 := hX5.cell t0; have r5 := (HBX.out.ext hX5).run_ld75; have l2 := run_st75 (HR0.out.ext hX5) x.nm false (comF x) none 0 0 []; have t6 := cell_far (b := w.heap.size + 1) (o := 0) (vs := (itA x.nm false (comF x) nilV []).toList) (by omega) t5; have r6 := Bk.run_ld75 ((HBX.out.ext hX5).kept (setCells_far (b := w.heap.size + 1) (by omega) (itA x.nm false (comF x) nilV []).toList 0 w5)); clear hE5))
  go_wp2_with fail
  exact bodyPost_ret (resBk Tryd.results32 (g := w.heap.size + 1) rfl (HR0.out.ext hX5).putAll Tryd.underlying75 rfl Tryd.size75) rfl ⟨rfl, Ext.setCells (by omega) _ _ (HEW.out.trans hX5)⟩
/-- The block's elements have type T. -/
def TyB (w : World) (T b : Nat) : Prop := ∃ cs fr, w.heap[b]? = some (.cells cs T fr)
theorem TyB.kept {w w' : World} {T b : Nat} (h : TyB w T b) (k : w'.heap[b]? = w.heap[b]?) : TyB w' T b := by
  obtain ⟨cs, fr, e⟩ := h
  exact ⟨cs, fr, by rw [k, e]⟩
theorem TyB.ne {w : World} {T T' b b' : Nat} (h : TyB w T b) (k : TyB w T' b') (ht : T ≠ T') : b ≠ b' := by
  rintro rfl
  obtain ⟨cs, fr, e⟩ := h
  obtain ⟨cs', fr', e'⟩ := k
  rw [e] at e'
  cases e'
  exact ht rfl
theorem Row.ty {s : Nat} {w : World} {B e : Nat} {v : Value} {vs : List (List Value)} (h : Row s w B e v vs) : ∀ k, v.ownBlock = some k → TyB w e k := fun k hk => by
  rcases h.2.2 with ⟨rfl, _⟩ | ⟨g, cap, cur, rfl, hB, hg, _⟩
  · cases hk
  · cases hk
    exact ⟨cur, _, hg⟩
/-- Bytes in blocks of bytes from B on. -/
def SlN (w : World) (B : Nat) (v : Value) (xs : List UInt8) : Prop := ∃ A c, v = .slice A xs.length c ∧ xs.length ≤ c ∧ c ≤ maxLen ∧ BytesAt w A xs ∧ ∀ ad, A = some ad → B ≤ ad.block ∧ TyB w 5 ad.block
theorem SlN.sl {w : World} {B : Nat} {v : Value} {xs : List UInt8} (h : SlN w B v xs) : SlB w v xs := by
  obtain ⟨A, c, e, h1, h2, h3, -⟩ := h
  exact ⟨A, c, e, h1, h2, h3⟩
theorem TyB.lt {w : World} {T b : Nat} (h : TyB w T b) : b < w.heap.size := by
  obtain ⟨cs, fr, e⟩ := h
  exact (Array.getElem?_eq_some_iff.1 e).1
theorem SlN.ext {w w' : World} {B : Nat} {v : Value} {xs : List UInt8} (h : SlN w B v xs) (k : Ext w w') : SlN w' B v xs := by
  obtain ⟨A, c, e, h1, h2, h3, h4⟩ := h
  exact ⟨A, c, e, h1, h2, h3.ext k, fun ad ha => ⟨(h4 ad ha).1, (h4 ad ha).2.kept (k.block _ (h4 ad ha).2.lt)⟩⟩
theorem SlN.base {w : World} {B B' : Nat} {v : Value} {xs : List UInt8} (h : SlN w B v xs) (k : B' ≤ B) : SlN w B' v xs := by
  obtain ⟨A, c, e, h1, h2, h3, h4⟩ := h
  exact ⟨A, c, e, h1, h2, h3, fun ad ha => ⟨Nat.le_trans k (h4 ad ha).1, (h4 ad ha).2⟩⟩
/-- A change of other blocks. -/
theorem SlN.kept {w w' : World} {B : Nat} {v : Value} {xs : List UInt8} (h : SlN w B v xs) (k : ∀ b, B ≤ b → TyB w 5 b → w'.heap[b]? = w.heap[b]?) : SlN w' B v xs := by
  obtain ⟨A, c, e, h1, h2, h3, h4⟩ := h
  refine ⟨A, c, e, h1, h2, fun h0 => ?_, fun ad ha => ⟨(h4 ad ha).1, (h4 ad ha).2.kept (k _ (h4 ad ha).1 (h4 ad ha).2)⟩⟩
  obtain ⟨ad, ha, hb, hc⟩ := h3 h0
  refine ⟨ad, ha, ((h4 ad ha).2.kept (k _ (h4 ad ha).1 (h4 ad ha).2)).lt, fun j b hj => ?_⟩
  have := hc j b hj
  unfold World.cell? at this ⊢
  rw [block_of_add, k _ (h4 ad ha).1 (h4 ad ha).2]
  rw [block_of_add] at this
  exact this
/-- A change of a block ahead of B. -/
theorem SlN.far {w w' : World} {B g : Nat} {v : Value} {xs : List UInt8} (h : SlN w B v xs) (k : Exg g w w') (hg : g < B) : SlN w' B v xs := h.kept fun b hb ht => k.2.2.2.2 b ht.lt (by omega)
/-- A row of other elements that grows. -/
theorem SlN.grown {w w' : World} {B T : Nat} {v t : Value} {xs : List UInt8} (h : SlN w B v xs) (hg : w.grownBy w' t.ownBlock) (ht : ∀ k, t.ownBlock = some k → TyB w T k) (hT : T ≠ 5) : SlN w' B v xs := h.kept fun b _ hb => hg.block b hb.lt fun e => (hb.ne (ht b e.symm) (Ne.symm hT)) rfl
def RetSn (xs : List UInt8) (w : World) (e : Ending) (w' : World) : Prop := ∃ v, e = .returned v ∧ SlN w' w.heap.size v xs ∧ Ext w w'
theorem clone55_new (xs : List UInt8) (v : Value) (w : World) (h : SlB w v xs) (hl : xs.length ≤ 1000000) : Calls Tryd.prog 55 #[v] w (RetSn xs w) := by
  obtain ⟨A, c, rfl, h1, h2, hb⟩ := h
  cases A with
  | some ad =>
    refine (clone55_ok xs ad c w hb hl).mono ?_
    rintro e w' ⟨v, rfl, hr, hE⟩
    obtain ⟨A, c, e, k1, k2, k3, k4⟩ := hr.bytes
    exact ⟨v, rfl, ⟨A, c, e, k2, k3, k1, fun ad ha => ⟨(k4 ad ha).1, hr.ty _ (k4 ad ha).2.2⟩⟩, hE⟩
  | none =>
    have hx : xs = [] := by
      rcases Nat.eq_zero_or_pos xs.length with h0 | h0
      · exact List.eq_nil_of_length_eq_zero h0
      · obtain ⟨ad, e, -⟩ := hb h0
        cases e
    subst hx
    clear hb h1 h2
    go_enter Tryd.func55, Tryd.ntmps55
    go_wp2_with fail
    go_ret
    exact ⟨nilV, rfl, ⟨none, 0, rfl, by simp, by unfold maxLen; omega, BytesAt.nil_ _ _, fun ad h => by cases h⟩, Ext.refl _⟩
theorem arV3 {f : Nat → Value} {a b c : Value} (h0 : f 0 = a) (h1 : f 1 = b) (h2 : f 2 = c) : arV f 3 = #[a, b, c] := by
  subst h0 h1 h2
  exact (arV_ext (a := #[f 0, f 1, f 2]) (n := 3) rfl (fun i hi => by match i, hi with | 0, _ => rfl | 1, _ => rfl | 2, _ => rfl)).symm
/-- Three cells of one's own. -/
abbrev set3 (w : World) (g : Nat) (a b c : Value) : World := ((w.setCell ⟨g, 0, none⟩ a).setCell ⟨g, 1, none⟩ b).setCell ⟨g, 2, none⟩ c
theorem set3_exg (w : World) (g : Nat) (a b c : Value) : Exg g w (set3 w g a b c) := (((Exg.refl g w).set (p := ⟨g, 0, none⟩) (Or.inl rfl) a).set (p := ⟨g, 1, none⟩) (Or.inl rfl) b).set (p := ⟨g, 2, none⟩) (Or.inl rfl) c
theorem set3_ret {fn : Func} {p : Tmp} {w : World} {g : Nat} {f : Nat → Value} (a b c : Value) (h : fn.results = #[.cell p 40]) (hb : Bk w g 3 f) : ∀ tmps : Array Value, tmps.getD p undef = .pointer (some ⟨g, 0, none⟩) → (results fn tmps).run Tryd.prog (set3 w g a b c) = .ok (.agg #[a, b, c]) (set3 w g a b c) := fun tmps hp => by
  have r := resBk h (tmps := tmps) hp (((hb.set 0 a).set 1 b).set 2 c) Tryd.underlying40 rfl (by kernel_rfl)
  rw [arV3 (f := upd (upd (upd f 0 a) 1 b) 2 c) rfl rfl rfl] at r
  exact r
/-- A field by value: its name, its value's bytes, its salt. -/
def RetFd (f : Fd) (w : World) (e : Ending) (w' : World) : Prop := ∃ v s, e = .returned (.agg #[sV f.nm, v, s]) ∧ SlB w' v f.vl ∧ SlB w' s f.sl ∧ Ext w w'
set_option maxRecDepth 100000 in
set_option maxHeartbeats 1000000 in
theorem field41_ok (x : It) (v : Value) (w : World) (hv : SlB w v x.vl) (hx0 : ItOk x) (ho : x.op = true) : Calls Tryd.prog 41 #[itV x.nm x.op x.cm v x.sl] w (RetFd ⟨x.nm, x.vl, x.sl⟩ w) := by
  have hx := And.intro trivial (hx0.1 ho)
  have HX := Lib.hid hx
  have CV := Lib.hid (fun W (hW : Ext w W) => clone55_new x.vl v W (hv.ext hW) (by have := hx.2.2; omega))
  obtain ⟨A, c, rfl, -, -, -⟩ := hv
  clear hx hx0 ho
  show Calls Tryd.prog 41 #[.agg (itA x.nm x.op x.cm (.slice A x.vl.length c) x.sl)] w _
  go_enter Tryd.func41, Tryd.ntmps41
  go_upto_region 1 with fail
  generalize hw1 : w.alloc (.cells (itA x.nm x.op x.cm (.slice A x.vl.length c) x.sl) 75) = w1
  have HB1 : Hid (Bk w1 w.heap.size 51 (itF x.nm x.op x.cm (.slice A x.vl.length c) x.sl)) := Lib.hid (by rw [← hw1]; exact Bk.new (by decide))
  have HE1 : Hid (Ext w w1) := Lib.hid (by rw [← hw1]; exact (Ext.refl _).alloc _)
  have s1 : w1.heap.size = w.heap.size + 1 := by rw [← hw1]; simp
  clear hw1
  generalize hwB : w1.alloc (.cells #[.string ⟨#[]⟩, .slice none 0 0, .slice none 0 0] 40) = wB
  have HR0 : Hid (Bk wB (w.heap.size + 1) 3 (fun i => if i = 0 then .string ⟨#[]⟩ else nilV)) := Lib.hid (by rw [← hwB, ← s1]; exact ⟨by decide, by rw [blkOf_new]; exact arV_ext rfl (fun i hi => by match i, hi with | 0, _ => rfl | 1, _ => rfl | 2, _ => rfl)⟩)
  have HE0 : Hid (Ext w1 wB) := Lib.hid (by rw [← hwB]; exact (Ext.refl _).alloc _)
  have hz0 : w.heap.size + 1 < wB.heap.size := by rw [← hwB, ← s1]; simp
  clear hwB s1
  have HEW : Hid (Ext w wB) := Lib.hid (HE1.out.trans HE0.out)
  have HBX := Lib.hid (HB1.out.ext HE0.out)
  clear HB1 HE1 HE0
  have CS : Hid (∀ W, Ext wB W → Calls Tryd.prog 55 #[.slice (some ⟨w.heap.size, 35, none⟩) 16 16] W (RetSn x.sl W)) := Lib.hid (fun W hW => by
    refine clone55_new x.sl _ W ⟨_, 16, by rw [HX.out.2.1], by rw [HX.out.2.1]; decide, by unfold maxLen; omega, ?_⟩ (by rw [HX.out.2.1]; decide)
    exact bytes_of_cells HX.out.2.1 fun i hi => by rw [(HBX.out.ext hW).cell (by omega), itF_sl])
  have t0 : wB.cell? ⟨w.heap.size, 0, none⟩ = some (sV x.nm) := HBX.out.cell (by decide)
  have t4 : wB.cell? ⟨w.heap.size, 34, none⟩ = some (.slice A x.vl.length c) := HBX.out.cell (by decide)
  have t0d : wB.drew.cell? ⟨w.heap.size, 0, none⟩ = some (sV x.nm) := t0
  have t4d : wB.drew.cell? ⟨w.heap.size, 34, none⟩ = some (.slice A x.vl.length c) := t4
  go_region_held3 (fun w' => w'.cell? ⟨w.heap.size, 0, none⟩ = some (sV x.nm) ∧ w'.cell? ⟨w.heap.size, 34, none⟩ = some (.slice A x.vl.length c))
    (first
      | with_reducible exact ⟨t0, t4⟩
      | with_reducible exact ⟨t0d, t4d⟩
      | with_reducible exact ⟨t5, r5⟩
      | with_reducible exact ⟨t6, r6⟩
      | (constructor <;> (go_simp; try assumption)))
    (first
      | (go_at_call 55; refine (CV.out _ (HEW.out.trans (by repeat (first | assumption | exact Ext.refl _ | apply Ext.drew | apply Ext.drewN)))).mono ?_; rintro _ w5 ⟨v5, rfl, hs5, hE5⟩; have hX5 : Ext wB w5 := Ext.trans (by repeat (first | assumption | exact Ext.refl _ | apply Ext.drew | apply Ext.drewN)) hE5; have HS5 := Lib.hid hs5; obtain ⟨A5, c5, rfl, -, -, -, -⟩ := hs5; have t5 := hX5.cell t0; have r5 := hX5.cell t4; clear hE5)
      | (go_at_call 55; refine (CS.out _ hX5).mono ?_; rintro _ w6 ⟨v6, rfl, hs6, hE6⟩; have hX6 : Ext wB w6 := hX5.trans hE6; have HS6 := Lib.hid hs6; have HX56 := Lib.hid hE6; obtain ⟨A6, c6, rfl, -, -, -, -⟩ := hs6; have t6 := hX6.cell t0; have r6 := hX6.cell t4; have HR6 := HR0.out.ext hX6; have k0 := HR6.cell (k := 0) (by decide); have k1 := HR6.cell (k := 1) (by decide); have k2 := HR6.cell (k := 2) (by decide); have f0 := HR6.frozen 0; have f1 := HR6.frozen 1; have f2 := HR6.frozen 2; clear hE6))
  go_wp2_with fail
  have hr := set3_ret (sV x.nm) (.slice A5 x.vl.length c5) (.slice A6 x.sl.length c6) Tryd.results41 (HR0.out.ext hX6)
  have HG := set3_exg w6 (w.heap.size + 1) (sV x.nm) (.slice A5 x.vl.length c5) (.slice A6 x.sl.length c6)
  have n5 : SlB (set3 w6 (w.heap.size + 1) (sV x.nm) (.slice A5 x.vl.length c5) (.slice A6 x.sl.length c6)) (.slice A5 x.vl.length c5) x.vl := ((HS5.out.ext HX56.out).far HG hz0).sl
  have n6 : SlB (set3 w6 (w.heap.size + 1) (sV x.nm) (.slice A5 x.vl.length c5) (.slice A6 x.sl.length c6)) (.slice A6 x.sl.length c6) x.sl := ((HS6.out.base hX5.size).far HG hz0).sl
  have HW : Ext w (set3 w6 (w.heap.size + 1) (sV x.nm) (.slice A5 x.vl.length c5) (.slice A6 x.sl.length c6)) := HG.ext (HEW.out.trans hX6) (by omega)
  clear HG t6 r6 k0 k1 k2 f0 f1 f2 HR6
  refine bodyPost_ret (hr _ rfl) rfl ?_
  exact ⟨_, _, rfl, n5, n6, HW⟩
end Go.Proofs.YtjedhndhdkiidaaDoor
