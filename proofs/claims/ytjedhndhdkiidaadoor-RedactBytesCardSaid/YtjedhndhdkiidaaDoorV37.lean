/- Read. -/
import Derived.Test.YtjedhndhdkiidaaDoorV36
import Derived.Test.YtjedhndhdkiidaaDoorNS
namespace Go.Proofs.YtjedhndhdkiidaaDoor
open Go.RowKit
attribute [local go_sem ↓] Go.wp_at_zero Go.wp_at_succ
attribute [local go_sem] baSize baList
attribute [local go_sem ↓] ld75 ld48 ld73 st75 st48 al75 al48 bu75 bu48 bs30
attribute [local go_sem] run_al75 run_al48 run_bu48 run_bu75n run_bu75c run_bu75o run_st75n run_st48n run_sl73 run_bs30 run_aa73
theorem st73 (p v : Value) : Instr.storeAt 73 p v = stS 73 p v := by unfold stS; rfl
attribute [local go_sem ↓] st73
theorem run_bu75m (w : World) (nm : List UInt8) : (buS 75 #[(0, sV nm)]).run Tryd.prog w = .ok (itV nm false [] nilV []) w := by
  unfold buS
  refine run_build w 75 _ _ ?_
  rw [built75]
  show Instr.fill itPl (arV _ 51) [(0, sV nm)] = _
  rw [fill_one (off := 0) rfl rfl (by decide), Instr.fill]
  refine congrArg some (arV_congr fun i hi => ?_)
  unfold upd itF
  by_cases h4 : i = 0
  · subst h4; rfl
  · rw [if_neg h4, if_neg h4, if_neg h4]
attribute [local go_sem] run_bu75m
theorem run_aa48 (w : World) (ad : Addr) (c : Nat) : (Instr.arrayAt 48 (.slice (some ad) 32 c)).run Tryd.prog w = .ok (.pointer (some ad)) w := by
  unfold Instr.arrayAt
  simp [Sem.run_bind, run_underlying Tryd.underlying48, Result.andThen]
attribute [local go_sem] run_aa48
/-- What Read hands back. -/
def rdP (p : List UInt8) : List It × Int := match rdF p with
  | some xs => (xs, 0)
  | none => ([], 6)
theorem uintR_le (m : Nat) (s : Sg) : (uintR m s).1 ≤ m := by
  unfold uintR
  match s with
  | none => exact Nat.zero_le _
  | some xs =>
    simp only
    cases uintF xs with
    | none => exact Nat.zero_le _
    | some p =>
      simp only
      split
      · exact Nat.zero_le _
      · show p.1 ≤ m
        omega
/-- The blocks of Read's own variables, and its items so far. -/
def Keep (g2 g5 B : Nat) (v : Value) (ps : List PI) (w : World) : Prop := Bk w g2 1 (fun _ => nilV) ∧ Bk w g5 1 (fun _ => v) ∧ Row 51 w B 75 v (ps.map encI) ∧ PsAt w B ps
theorem Keep.exg {g2 g5 B b : Nat} {v : Value} {ps : List PI} {w w' : World} (h : Keep g2 g5 B v ps w) (hE : Exg b w w') (h2 : g2 ≠ b) (h5 : g5 ≠ b) (hB : b < B) : Keep g2 g5 B v ps w' :=
  ⟨h.1.kept (hE.2.2.2.2 _ h.1.lt h2), h.2.1.kept (hE.2.2.2.2 _ h.2.1.lt h5), h.2.2.1.kept fun k hk => hE.2.2.2.2 k (h.2.2.1.lt k hk).2 (by have := (h.2.2.1.lt k hk).1; omega), h.2.2.2.far hE hB⟩
theorem St.set {w : World} {N : Nat → Prop} {b g o : Nat} {s : Sg} (h : St w N b s) (hg : g ≠ b) (hN : ∀ k, N k → k < g) (u : Value) : St (w.setCell ⟨g, o, none⟩ u) N b s := h.kept fun k hk => Below.heap_setCell _ _ _ k (by
  rcases hk with h' | rfl
  · exact Nat.ne_of_lt (hN k h')
  · exact Ne.symm hg)
theorem St.sets {w : World} {N : Nat → Prop} {b g o : Nat} {s : Sg} (h : St w N b s) (hg : g ≠ b) (hN : ∀ k, N k → k < g) (vs : List Value) : St (w.setCells g o vs) N b s := h.kept fun k hk => setCells_far (by
  rcases hk with h' | rfl
  · exact Nat.ne_of_lt (hN k h')
  · exact Ne.symm hg) _ _ _
theorem it_cm {nm cm : List UInt8} {i : Nat} (hi : i < 51) : updR (itF nm false [] nilV []) 2 32 (idF cm) i = itF nm false cm nilV [] i := by
  rcases (by omega : i = 0 ∨ i = 1 ∨ (2 ≤ i ∧ i < 34) ∨ i = 34 ∨ 35 ≤ i) with rfl | rfl | h | rfl | h
  · rfl
  · rfl
  · simp [updR, itF, show ¬ i = 0 by omega, show ¬ i = 1 by omega, show i < 34 by omega, h.1]
  · rfl
  · simp [updR, itF, show ¬ i = 0 by omega, show ¬ i = 1 by omega, show ¬ i < 34 by omega, show ¬ i = 34 by omega]
theorem it_op {nm sl : List UInt8} {v : Value} {i : Nat} (hi : i < 51) : upd (updR (upd (itF nm false [] nilV []) 1 (.bool true)) 35 16 (idF sl)) 34 v i = itF nm true [] v sl i := by
  rcases (by omega : i = 0 ∨ i = 1 ∨ (2 ≤ i ∧ i < 34) ∨ i = 34 ∨ 35 ≤ i) with rfl | rfl | h | rfl | h
  · rfl
  · rfl
  · simp [upd, updR, itF, show ¬ i = 0 by omega, show ¬ i = 1 by omega, show i < 34 by omega, show ¬ i = 34 by omega, show ¬ 35 ≤ i by omega]
  · rfl
  · simp [upd, updR, itF, show ¬ i = 0 by omega, show ¬ i = 1 by omega, show ¬ i < 34 by omega, show ¬ i = 34 by omega, show 35 ≤ i by omega, hi]
theorem Keep.ext {g2 g5 B : Nat} {v : Value} {ps : List PI} {w w' : World} (h : Keep g2 g5 B v ps w) (k : Ext w w') : Keep g2 g5 B v ps w' := ⟨h.1.ext k, h.2.1.ext k, h.2.2.1.ext k, h.2.2.2.ext k⟩
theorem Keep.own {g2 g5 B : Nat} {v : Value} {ps : List PI} {w : World} (h : Keep g2 g5 B v ps w) : ∀ kk, v.ownBlock = some kk → B ≤ kk := fun kk e => (h.2.2.1.lt kk e).1
theorem Keep.app {g2 g5 B : Nat} {v v7 : Value} {ps : List PI} {w1 w7 : World} {y : It} {A : Option Addr} {c : Nat} (h : Keep g2 g5 B v ps w1) (h25 : g2 < g5) (h5B : g5 < B) (hg : w1.grownBy w7 v.ownBlock) (hr : Row 51 w7 B 75 v7 (ps.map encI ++ [encI (y, A, c)])) (hs : SlN w1 B (.slice A y.vl.length c) y.vl) : Keep g2 g5 B v7 (ps ++ [(y, A, c)]) (w7.setCell ⟨g5, 0, none⟩ v7) := by
  have hown := h.own
  have b2 : Bk w7 g2 1 (fun _ => nilV) := h.1.kept (hg.block _ h.1.lt fun e => by have := hown _ e.symm; omega)
  have b5 : Bk w7 g5 1 (fun _ => v) := h.2.1.kept (hg.block _ h.2.1.lt fun e => by have := hown _ e.symm; omega)
  refine ⟨b2.far (by show g5 ≠ g2; omega) _, b5.set1 _, ?_, fun q hq => ?_⟩
  · rw [List.map_append]
    exact hr.kept fun kk e => Below.heap_setCell _ _ _ kk (by have := (hr.lt kk e).1; show kk ≠ g5; omega)
  · have hq7 : SlN w7 B (.slice q.2.1 q.1.vl.length q.2.2) q.1.vl := by
      rcases List.mem_append.1 hq with h1 | h1
      · exact (h.2.2.2 q h1).grown hg h.2.2.1.ty (by decide)
      · rw [List.mem_singleton.1 h1]
        exact hs.grown hg h.2.2.1.ty (by decide)
    exact hq7.far (set_exg w7 g5 0 v7) h5B
theorem St.app {g2 g5 B b : Nat} {N : Nat → Prop} {s : Sg} {v v7 : Value} {ps : List PI} {w1 w7 : World} (hst : St w1 N b s) (h : Keep g2 g5 B v ps w1) (hb : b < g5) (h5B : g5 < B) (hBw : B ≤ w1.heap.size) (hN : ∀ k, N k → k < b) (hg : w1.grownBy w7 v.ownBlock) : St (w7.setCell ⟨g5, 0, none⟩ v7) N b s := by
  have hown := h.own
  refine St.set (hst.kept fun k hk => ?_) (by omega) (fun k hk => by have := hN k hk; omega) _
  have hkb : k ≤ b := by
    rcases hk with h' | rfl
    · exact Nat.le_of_lt (hN k h')
    · exact Nat.le_refl _
  exact hg.block k (by omega) fun e => by have := hown _ e.symm; omega
theorem Keep.app2 {g2 g5 B : Nat} {v v7 : Value} {ps : List PI} {w w1 w7 : World} {y : It} {A : Option Addr} {c : Nat} (hg : w1.grownBy w7 v.ownBlock) (h : Keep g2 g5 B v ps w) (hE : Ext w w1) (h25 : g2 < g5) (h5B : g5 < B) (hr : Row 51 w7 B 75 v7 (ps.map encI ++ [encI (y, A, c)])) (hs : SlN w B (.slice A y.vl.length c) y.vl) : Keep g2 g5 B v7 (ps ++ [(y, A, c)]) (w7.setCell ⟨g5, 0, none⟩ v7) := (h.ext hE).app h25 h5B hg hr (hs.ext hE)
theorem St.app2 {g2 g5 B b : Nat} {N : Nat → Prop} {s : Sg} {v v7 : Value} {ps : List PI} {w w1 w7 : World} (hg : w1.grownBy w7 v.ownBlock) (hst : St w N b s) (h : Keep g2 g5 B v ps w) (hE : Ext w w1) (hbw : b < w.heap.size) (hNw : ∀ k, N k → k < w.heap.size) (hb : b < g5) (h5B : g5 < B) (hBw : B ≤ w.heap.size) (hN : ∀ k, N k → k < b) : St (w7.setCell ⟨g5, 0, none⟩ v7) N b s := (hst.ext hE hbw hNw).app (h.ext hE) hb h5B (Nat.le_trans hBw hE.size) hN hg
set_option maxRecDepth 100000 in
set_option maxHeartbeats 4000000 in
theorem read27_ok (p : List UInt8) (v : Value) (w : World) (h : SlB w v p) (hl : p.length ≤ 1000000) : Calls Tryd.prog 27 #[v] w (RetD (rdP p).1 (rdP p).2 w) := by
  obtain ⟨A, c, rfl, hc, -, hb⟩ := h
  obtain ⟨R, hR⟩ : ∃ R, rdP p = R := ⟨_, rfl⟩
  have C46 := Lib.hid (fun W (hW : Ext w W) => newreader46_ok p A c W (hb.ext hW) hl)
  obtain ⟨cnt, hcnt⟩ : ∃ cnt, (uintR 64 (some p)).1 = cnt := ⟨_, rfl⟩
  obtain ⟨s0, hs0⟩ : ∃ s0, (uintR 64 (some p)).2 = s0 := ⟨_, rfl⟩
  have hcl : cnt ≤ 64 := by rw [← hcnt]; exact uintR_le _ _
  have HRF : Hid (rdF p = rdGo cnt [] s0 []) := Lib.hid (by unfold rdF; rw [hcnt, hs0])
  have HR := Lib.hid hR
  have HCL := Lib.hid hcl
  rw [hR]
  have C47 : Hid (∀ N b W, St W N b (some p) → Calls Tryd.prog 47 #[.pointer (some ⟨b, 0, none⟩), .int .u64 64] W (RetSt N b (.int .u64 (cnt : Int)) s0 W)) := Lib.hid (fun N b W hW => by
    have := uint47_st N b 64 (some p) W hW
    rw [hcnt, hs0] at this
    exact this)
  clear hb hl hc hR hcnt hs0 hcl
  go_enter Tryd.func27, Tryd.ntmps27
  go_upto_region 1 with fail
  generalize hwA : w.alloc _ = wA
  have HG2A : Hid (Bk wA w.heap.size 1 (fun _ => nilV)) := Lib.hid (by rw [← hwA]; exact Bk.new1 _ _ _)
  have HEA : Hid (Ext w wA) := Lib.hid (by rw [← hwA]; exact (Ext.refl _).alloc _)
  have zA : wA.heap.size = w.heap.size + 1 := by rw [← hwA]; simp
  clear hwA
  go_upto_region 2 with (go_at_call 46; refine (C46.out _ HEA.out).mono ?_; rintro _ w1 ⟨b, rfl, hb1, hb2, hrd, hE1⟩; have HRD := Lib.hid hrd; have HE1 := Lib.hid hE1; clear hrd hE1)
  obtain ⟨N, hN⟩ : ∃ N : Nat → Prop, (fun k => wA.heap.size ≤ k ∧ k < b) = N := ⟨_, rfl⟩
  have HNF : Hid (∀ g, N g → g < b) := Lib.hid (fun g hg => by rw [← hN] at hg; exact hg.2)
  rw [hN] at HRD
  clear hN C46
  go_upto_region 3 with fail
  generalize hw2 : w1.alloc _ = w2
  have HG5 : Hid (Bk w2 w1.heap.size 1 (fun _ => nilV)) := Lib.hid (by rw [← hw2]; exact Bk.new1 _ _ _)
  have HE2 : Hid (Ext w1 w2) := Lib.hid (by rw [← hw2]; exact (Ext.refl _).alloc _)
  have z2 : w2.heap.size = w1.heap.size + 1 := by rw [← hw2]; simp
  clear hw2
  have HST2 : Hid (St w2 N b (some p)) := Lib.hid (St.ext (s := some p) HRD.out HE2.out hb2 (fun g hg => Nat.lt_trans (HNF.out g hg) hb2))
  have HK2 : Hid (Keep w.heap.size w1.heap.size w2.heap.size nilV [] w2) := Lib.hid ⟨HG2A.out.ext (HE1.out.trans HE2.out), HG5.out, Row.nil _ _ _ _, fun p hp => by cases hp⟩
  have HEW2 := Lib.hid (HEA.out.trans (HE1.out.trans HE2.out))
  obtain ⟨B, hB⟩ : ∃ B, w2.heap.size = B := ⟨_, rfl⟩
  obtain ⟨g5, hg5⟩ : ∃ g5, w1.heap.size = g5 := ⟨_, rfl⟩
  rw [hB, hg5] at HK2
  have HZ : Hid (w.heap.size < b ∧ b < g5 ∧ g5 < B ∧ B = w2.heap.size) := Lib.hid ⟨by omega, by omega, by omega, hB.symm⟩
  rw [hg5]
  clear HG2A HG5 HRD hb1 hb2 zA z2 hB hg5
  go_upto_region 4 with fail
  go_wp2_with (go_at_call 47; refine (C47.out N b w2 HST2.out).mono ?_; rintro _ w3 ⟨rfl, hst, hE⟩; have HST3 := Lib.hid hst; have HE3 := Lib.hid hE; clear hst hE)
  have HEW3 : Hid (Ext w w3) := Lib.hid (HE3.out.ext HEW2.out (by have := HZ.out; omega))
  have HK3 : Hid (Keep w.heap.size g5 B nilV [] w3) := Lib.hid (HK2.out.exg HE3.out (by have := HZ.out; omega) (by have := HZ.out; omega) (by have := HZ.out; omega))
  have HB3 : Hid (B ≤ w3.heap.size) := Lib.hid (by have := HE3.out.size; have := HZ.out; omega)
  clear C47 HK2 HST2
  go_loopw [6, 12] (fun t i wr => ∃ (k : Nat) (bf : List UInt8) (s : Sg) (acc : List It) (ps : List PI) (vv : Value), k ≤ cnt ∧ i = .int .u64 (k : Int) ∧ t = sV bf ∧ rdF p = rdGo (cnt - k) bf s acc ∧ St wr N b s ∧ Keep w.heap.size g5 B vv ps wr ∧ ps.map (·.1) = acc ∧ ps.length = k ∧ B ≤ wr.heap.size ∧ Ext w wr) (fun _ i _ => cnt - (intOf i).toNat)
  case atStart => exact ⟨0, [], s0, [], [], nilV, by omega, rfl, rfl, HRF.out, HST3.out, HK3.out, rfl, rfl, HB3.out, HEW3.out⟩
  case round =>
    obtain ⟨k, bf, s, acc, ps, vv, hk, rfl, rfl, hgo, hst, hkp, hacc, hpl, hB, hX⟩ := hrel
    have HST := Lib.hid hst
    have HKP := Lib.hid hkp
    have HAC := Lib.hid hacc
    have HPL := Lib.hid hpl
    have HBR := Lib.hid hB
    have HX := Lib.hid hX
    have HLT : Hid (∀ g, N g → g < wr.heap.size) := Lib.hid (fun g hg => by have := HNF.out g hg; have := HZ.out; omega)
    have HBW : Hid (b < wr.heap.size) := Lib.hid (by have := HZ.out; omega)
    obtain ⟨Av, cv, hv, -, -⟩ := hkp.2.2.1.form
    rw [List.length_map, hpl] at hv
    subst hv
    clear hst hkp hacc hpl hB hX
    by_cases hlt : k < cnt
    · have q1 : (k : Int) < (cnt : Int) := by omega
      have q0 : (0 : Int) ≤ (k : Int) := by omega
      have q2 : (k : Int) < 200 := by have := HCL.out; omega
      obtain ⟨m, hm⟩ : ∃ m, cnt - k = m + 1 := ⟨cnt - k - 1, by omega⟩
      rw [hm, rdGo] at hgo
      have HM : Hid (cnt - (k + 1) = m) := Lib.hid (by omega)
      obtain ⟨nm, hnm⟩ : ∃ nm, (bytesR 32 s).1 = nm := ⟨_, rfl⟩
      obtain ⟨s1, hs1⟩ : ∃ s1, (bytesR 32 s).2 = s1 := ⟨_, rfl⟩
      obtain ⟨x, hx⟩ : ∃ x, (byteR s1).1 = x := ⟨_, rfl⟩
      obtain ⟨s2, hs2⟩ : ∃ s2, (byteR s1).2 = s2 := ⟨_, rfl⟩
      simp only [hnm, hs1, hx, hs2] at hgo
      have HGO := Lib.hid hgo
      have C48 : Hid (Calls Tryd.prog 48 #[.pointer (some ⟨b, 0, none⟩), .int .i64 32] wr (RetBs N b nm s1 wr)) := Lib.hid (by
        have := bytes48_st N b 32 s wr HST.out HBW.out HLT.out (by decide)
        rw [hnm, hs1] at this
        exact this)
      have C50 : Hid (∀ W, St W N b s1 → Calls Tryd.prog 50 #[.pointer (some ⟨b, 0, none⟩)] W (RetSt N b (.int .u8 ((x.toNat : Nat) : Int)) s2 W)) := Lib.hid (fun W hW => by
        have := byte50_st N b s1 W hW
        rw [hx, hs2] at this
        exact this)
      clear hgo hm hnm hs1 hx hs2
      go_upto_region 7 with (go_at_call 48; refine C48.out.mono ?_; rintro _ wa ⟨va, rfl, hsa, hsta, hEa⟩; have HSTa := Lib.hid hsta; have HEa := Lib.hid hEa; have kc := conv389 hsa.sl; clear hsa hsta hEa)
      clear kc C48
      generalize hwb : wa.alloc _ = wb
      have HXB : Hid (Bk wb wa.heap.size 51 (itF nm false [] nilV [])) := Lib.hid (by rw [← hwb]; exact Bk.new (by decide))
      have HEb : Hid (Ext wa wb) := Lib.hid (by rw [← hwb]; exact (Ext.refl _).alloc _)
      clear hwb
      obtain ⟨g, hg⟩ : ∃ g, wa.heap.size = g := ⟨_, rfl⟩
      have HGZ : Hid (wr.heap.size ≤ g ∧ g = wa.heap.size) := Lib.hid ⟨by rw [← hg]; exact HEa.out.size, hg.symm⟩
      rw [hg] at HXB
      rw [hg]
      clear hg
      have HLTa : Hid (∀ g, N g → g < wa.heap.size) := Lib.hid (fun g' hg' => Nat.lt_of_lt_of_le (HLT.out g' hg') HEa.out.size)
      have HSTb : Hid (St wb N b s1) := Lib.hid (HSTa.out.ext HEb.out (Nat.lt_of_lt_of_le HBW.out HEa.out.size) HLTa.out)
      have HEr : Hid (Exg b wr wb) := Lib.hid (HEa.out.trans (HEb.out.exg b))
      have HEWb : Hid (Ext w wb) := Lib.hid (HEr.out.ext HX.out (by have := HZ.out; omega))
      have HKb : Hid (Keep w.heap.size g5 B (.slice Av k cv) ps wb) := Lib.hid (HKP.out.exg HEr.out (by have := HZ.out; omega) (by have := HZ.out; omega) (by have := HZ.out; omega))
      have p0 : wb.cell? ⟨g, 0, none⟩ = some (sV nm) := HXB.out.cell (by decide)
      have c2 := HKb.out.1.cell (k := 0) (by decide)
      have f2 := HKb.out.1.frozen 0
      by_cases hok : okN nm = true
      · have HOK := Lib.hid hok
        by_cases hless : bf < nm
        · have hgo := HGO.out
          rw [if_pos ⟨hok, hless⟩] at hgo
          have HGO := Lib.hid hgo
          have el : (Op.bytesLess nm bf || nm == bf) = false := by
            rw [bytesLess_eq, decide_eq_false (slt_asymm hless), Bool.false_or, beq_eq_false_iff_ne]
            rintro rfl
            exact slt_irrefl _ hless
          clear hok hgo hless
          go_upto_region 12 with (first
            | (go_at_call 49; refine (valid49_ok nm wb).mono ?_; rintro _ _ ⟨rfl, rfl⟩; rw [HOK.out])
            | (go_at_call 50; refine (C50.out wb HSTb.out).mono ?_; rintro _ wc ⟨rfl, hstc, hEc⟩; have HSTc := Lib.hid hstc; have HEc := Lib.hid hEc; clear hstc hEc))
          clear el p0 c2 f2 C50
          have HZC : Hid (g < wc.heap.size) := Lib.hid (Nat.lt_of_lt_of_le HXB.out.lt HEc.out.size)
          have HXC : Hid (Bk wc g 51 (itF nm false [] nilV [])) := Lib.hid (HXB.out.kept (HEc.out.2.2.2.2 _ HXB.out.lt (by have := HGZ.out; have := HBW.out; omega)))
          have HEr2 := Lib.hid (HEr.out.trans HEc.out)
          have HLTc : Hid (∀ g, N g → g < wc.heap.size) := Lib.hid (fun g' hg' => Nat.lt_of_lt_of_le (HLT.out g' hg') HEr2.out.size)
          have HBc : Hid (b < wc.heap.size) := Lib.hid (Nat.lt_of_lt_of_le HBW.out HEr2.out.size)
          by_cases hx0 : x = 0
          · skip
            have hgo := HGO.out
            rw [if_pos hx0] at hgo
            obtain ⟨cm, hcm⟩ : ∃ cm, (manyR 32 s2).1 = cm := ⟨_, rfl⟩
            obtain ⟨s3, hs3⟩ : ∃ s3, (manyR 32 s2).2 = s3 := ⟨_, rfl⟩
            rw [hcm, hs3] at hgo
            have HGI := Lib.hid hgo
            have C51 : Hid (Calls Tryd.prog 51 #[.pointer (some ⟨b, 0, none⟩), .int .i64 32] wc (RetMy N b 32 cm s3 wc)) := Lib.hid (by
              have := bytes51_st N b 32 s2 wc HSTc.out HBc.out HLTc.out (by decide) (by decide)
              rw [hcm, hs3] at this
              exact this)
            clear HGO
            subst hx0
            clear hgo hcm hs3
            go_upto_region 18 with (go_at_call 51; refine C51.out.mono ?_; rintro _ wd ⟨gd, rfl, hgd, hbk, hstd, hEd⟩; have HSTd := Lib.hid hstd; have HEd := Lib.hid hEd; have ld := hbk.run_ld48; have HXD : Hid (Bk wd g 51 (itF nm false [] nilV [])) := Lib.hid (HXC.out.kept (hEd.2.2.2.2 _ HXC.out.lt (by have := HGZ.out; have := HBW.out; omega))); have ls := HXD.out.store (o := 2) (m := 32) (h := idF cm) (ty := 48) (by decide) Tryd.size48 (fun _ _ => rfl); clear hstd hEd hgd hbk)
            clear ld ls
            generalize hwe : World.setCells _ _ _ _ = we
            obtain ⟨vl, hvl⟩ : ∃ vl : List UInt8, vl = [] := ⟨[], rfl⟩
            have HXI : Hid (Bk we g 51 (itF nm false cm (.slice none vl.length 0) [])) := Lib.hid (by rw [← hwe, hvl]; exact HXD.out.put.congr fun i hi => it_cm hi)
            have HVL := Lib.hid hvl
            have HSTe : Hid (St we N b s3) := Lib.hid (by rw [← hwe]; exact HSTd.out.sets (by have := HGZ.out; have := HBW.out; omega) (fun g' hg' => by have := HGZ.out; have := HLT.out g' hg'; omega) _)
            have HEr3 : Hid (Exg b wr we) := Lib.hid (by rw [← hwe]; exact Exg.setCells (.inr HGZ.out.1) _ _ (HEr2.out.trans HEd.out))
            have HEX : Hid (Ext w we) := Lib.hid (HEr3.out.ext HX.out (by have := HZ.out; omega))
            have HKe : Hid (Keep w.heap.size g5 B (.slice Av k cv) ps we) := Lib.hid (HKP.out.exg HEr3.out (by have := HZ.out; omega) (by have := HZ.out; omega) (by have := HZ.out; omega))
            have HBX : Hid (B ≤ we.heap.size) := Lib.hid (Nat.le_trans HBR.out HEr3.out.size)
            have HBe : Hid (b < we.heap.size ∧ ∀ g', N g' → g' < we.heap.size) := Lib.hid ⟨Nat.lt_of_lt_of_le HBW.out HEr3.out.size, fun g' hg' => Nat.lt_of_lt_of_le (HLT.out g' hg') HEr3.out.size⟩
            clear hwe hvl
            as_aux_lemma =>
            have c5 := HKe.out.2.1.cell (k := 0) (by decide)
            have l75 := HXI.out.run_ld75
            go_wp2_with (at_builtin; go_loud (refine wappB el30 rfl (.tmp 53) (.tmp 55) rfl (B := B) (vs := ps.map encI) (us := [encI (⟨nm, false, cm, vl, []⟩, none, 0)]) rfl (Nat.le_trans HBX.out ((Ext.refl we).alloc _).size) (HKe.out.2.2.1.ext ((Ext.refl _).alloc _)) rfl rfl (Wide.one (encI_len _)) (by simp only [List.flatten_cons, List.flatten_nil, List.append_nil]; exact vs1 _ _ _) (one_encI _) (by rw [List.length_map, HPL.out]; simp; omega) (by rw [List.length_map, HPL.out]; simp; omega) ?_; intro v7 w7 hr7 hg7 hb7; obtain ⟨A7, c7, e7, -, -⟩ := hr7.form; rw [List.length_append, List.length_map, HPL.out] at e7; have e8 : v7 = .slice A7 (k + 1) c7 := e7; subst e8; clear e7; have HR7 := Lib.hid hr7; have HG7 := Lib.hid hg7; have HW7 : Hid (B ≤ w7.heap.size) := Lib.hid (Nat.le_trans (Nat.le_trans HBX.out ((Ext.refl we).alloc _).size) hg7.size); have b57 := (HKe.out.2.1.ext ((Ext.refl _).alloc _)).kept (hg7.block _ (HKe.out.2.1.ext ((Ext.refl _).alloc _)).lt fun e => by have := HKe.out.own _ e.symm; have := HZ.out; omega); have z7 := b57.cell (k := 0) (by decide); have y7 := b57.frozen 0; clear hr7 hg7 hb7 b57))
            have hz := HZ.out
            refine ⟨⟨k + 1, nm, s3, acc ++ [⟨nm, false, cm, vl, []⟩], ps ++ [(⟨nm, false, cm, vl, []⟩, none, 0)], .slice A7 (k + 1) c7, by omega, by go_num, rfl, by rw [HM.out]; exact (by rw [HVL.out]; exact HGI.out), St.app2 HG7.out HSTe.out HKe.out ((Ext.refl _).alloc _) HBe.out.1 HBe.out.2 (by omega) (by omega) HBX.out HNF.out, Keep.app2 HG7.out HKe.out ((Ext.refl _).alloc _) (by omega) (by omega) HR7.out ((by rw [HVL.out]; exact SlN.nil _ _)), by rw [List.map_append, HAC.out]; rfl, by rw [List.length_append, HPL.out]; rfl, by simpa using HW7.out, (ext_grow (HEX.out.alloc _) HG7.out (fun kk e => by have := HKe.out.own kk e; omega)).set (show w.heap.size ≤ g5 by omega) _⟩, by simp [intOf]; omega⟩
          · have hgo := HGO.out
            rw [if_neg hx0] at hgo
            have qx : ((x.toNat : Int) == 0) = false := by
              rw [beq_eq_false_iff_ne]
              intro h
              exact hx0 (UInt8.toNat_inj.1 (by show x.toNat = 0; omega))
            by_cases hx1 : x = 1
            · skip
              rw [if_pos hx1] at hgo
              obtain ⟨sl, hsl⟩ : ∃ sl, (manyR 16 s2).1 = sl := ⟨_, rfl⟩
              obtain ⟨s3, hs3⟩ : ∃ s3, (manyR 16 s2).2 = s3 := ⟨_, rfl⟩
              rw [hsl, hs3] at hgo
              obtain ⟨vl, hvl⟩ : ∃ vl, (bytesR 4000 s3).1 = vl := ⟨_, rfl⟩
              obtain ⟨s4, hs4⟩ : ∃ s4, (bytesR 4000 s3).2 = s4 := ⟨_, rfl⟩
              rw [hvl, hs4] at hgo
              have HGI := Lib.hid hgo
              have C51 : Hid (∀ W, St W N b s2 → b < W.heap.size → (∀ g, N g → g < W.heap.size) → Calls Tryd.prog 51 #[.pointer (some ⟨b, 0, none⟩), .int .i64 16] W (RetMy N b 16 sl s3 W)) := Lib.hid (fun W h1 h2 h3 => by
                have := bytes51_st N b 16 s2 W h1 h2 h3 (by decide) (by decide)
                rw [hsl, hs3] at this
                exact this)
              have C48 : Hid (∀ W, St W N b s3 → b < W.heap.size → (∀ g, N g → g < W.heap.size) → Calls Tryd.prog 48 #[.pointer (some ⟨b, 0, none⟩), .int .i64 4000] W (RetBs N b vl s4 W)) := Lib.hid (fun W h1 h2 h3 => by
                have := bytes48_st N b 4000 s3 W h1 h2 h3 (by decide)
                rw [hvl, hs4] at this
                exact this)
              clear HGO
              subst hx1
              clear hgo hsl hs3 hvl hs4 qx hx0
              have p1 : wc.cell? ⟨g, 1, none⟩ = some (.bool false) := HXC.out.cell (by decide)
              have f1 := HXC.out.frozen 1
              go_upto_region 16 with fail
              clear p1 f1
              generalize hwd : World.setCell _ _ _ = wd
              have HXD : Hid (Bk wd g 51 (upd (itF nm false [] nilV []) 1 (.bool true))) := Lib.hid (by rw [← hwd]; exact HXC.out.set 1 _)
              have HGB : Hid (g ≠ b ∧ ∀ k, N k → k < g) := Lib.hid ⟨by have := HGZ.out; have := HBW.out; omega, fun g' hg' => by have := HGZ.out; have := HLT.out g' hg'; omega⟩
              have HSTd : Hid (St wd N b s2) := Lib.hid (by rw [← hwd]; exact HSTc.out.set HGB.out.1 HGB.out.2 _)
              have HEr3 : Hid (Exg b wr wd) := Lib.hid (by rw [← hwd]; exact HEr2.out.set (.inr HGZ.out.1) _)
              clear hwd
              go_upto_region 17 with (go_at_call 51; refine (C51.out wd HSTd.out (Nat.lt_of_lt_of_le HBW.out HEr3.out.size) (fun g' hg' => Nat.lt_of_lt_of_le (HLT.out g' hg') HEr3.out.size)).mono ?_; rintro _ we ⟨gd, rfl, hgd, hbk, hste, hEe⟩; have HSTe := Lib.hid hste; have HEe := Lib.hid hEe; have ld := run_ld73 (w := we) (b := gd) (o := 0) (f := idF sl) (fun i hi => by rw [Nat.zero_add]; exact hbk.cell hi); have HXE : Hid (Bk we g 51 (upd (itF nm false [] nilV []) 1 (.bool true))) := Lib.hid (HXD.out.kept (hEe.2.2.2.2 _ HXD.out.lt HGB.out.1)); have ls := HXE.out.store (o := 35) (m := 16) (h := idF sl) (ty := 73) (by decide) Tryd.size73 (fun _ _ => rfl); clear hste hEe hgd hbk)
              clear ld ls
              generalize hwf : World.setCells _ _ _ _ = wf
              have HXF : Hid (Bk wf g 51 (updR (upd (itF nm false [] nilV []) 1 (.bool true)) 35 16 (idF sl))) := Lib.hid (by rw [← hwf]; exact HXE.out.put)
              have HSTf : Hid (St wf N b s3) := Lib.hid (by rw [← hwf]; exact HSTe.out.sets HGB.out.1 HGB.out.2 _)
              have HEr4 : Hid (Exg b wr wf) := Lib.hid (by rw [← hwf]; exact Exg.setCells (.inr HGZ.out.1) _ _ (HEr3.out.trans HEe.out))
              clear hwf
              go_upto_region 18 with (go_at_call 48; refine (C48.out wf HSTf.out (Nat.lt_of_lt_of_le HBW.out HEr4.out.size) (fun g' hg' => Nat.lt_of_lt_of_le (HLT.out g' hg') HEr4.out.size)).mono ?_; rintro _ wg ⟨vg, rfl, hsg, hstg, hEg⟩; have HSTg := Lib.hid hstg; have HEg := Lib.hid hEg; have HSG := Lib.hid hsg; have HXG : Hid (Bk wg g 51 (updR (upd (itF nm false [] nilV []) 1 (.bool true)) 35 16 (idF sl))) := Lib.hid (HXF.out.kept (hEg.2.2.2.2 _ HXF.out.lt HGB.out.1)); have p34 : wg.cell? ⟨g, 34, none⟩ = some nilV := HXG.out.cell (k := 34) (by decide); have f34 := HXG.out.frozen 34; obtain ⟨Ay, cy, rfl, -, -, -, -⟩ := hsg; clear hstg hEg)
              clear p34 f34
              generalize hwh : World.setCell _ _ _ = wh
              have HXI : Hid (Bk wh g 51 (itF nm true [] (.slice Ay vl.length cy) sl)) := Lib.hid (by rw [← hwh]; exact (HXG.out.set 34 _).congr fun i hi => it_op hi)
              have HSTh : Hid (St wh N b s4) := Lib.hid (by rw [← hwh]; exact HSTg.out.set HGB.out.1 HGB.out.2 _)
              have HEr5 : Hid (Exg b wr wh) := Lib.hid (by rw [← hwh]; exact (HEr4.out.trans HEg.out).set (.inr HGZ.out.1) _)
              have HSV : Hid (SlN wh B (.slice Ay vl.length cy) vl) := Lib.hid (by
                rw [← hwh]
                exact ((HSG.out.far (set_exg wg g 34 _) (by have := HXF.out.lt; exact this)).base (Nat.le_trans HBR.out HEr4.out.size)))
              have HEX : Hid (Ext w wh) := Lib.hid (HEr5.out.ext HX.out (by have := HZ.out; omega))
              have HKe : Hid (Keep w.heap.size g5 B (.slice Av k cv) ps wh) := Lib.hid (HKP.out.exg HEr5.out (by have := HZ.out; omega) (by have := HZ.out; omega) (by have := HZ.out; omega))
              have HBX : Hid (B ≤ wh.heap.size) := Lib.hid (Nat.le_trans HBR.out HEr5.out.size)
              have HBe : Hid (b < wh.heap.size ∧ ∀ g', N g' → g' < wh.heap.size) := Lib.hid ⟨Nat.lt_of_lt_of_le HBW.out HEr5.out.size, fun g' hg' => Nat.lt_of_lt_of_le (HLT.out g' hg') HEr5.out.size⟩
              clear hwh
              as_aux_lemma =>
              have c5 := HKe.out.2.1.cell (k := 0) (by decide)
              have l75 := HXI.out.run_ld75
              go_wp2_with (at_builtin; go_loud (refine wappB el30 rfl (.tmp 53) (.tmp 55) rfl (B := B) (vs := ps.map encI) (us := [encI (⟨nm, true, [], vl, sl⟩, Ay, cy)]) rfl (Nat.le_trans HBX.out ((Ext.refl wh).alloc _).size) (HKe.out.2.2.1.ext ((Ext.refl _).alloc _)) rfl rfl (Wide.one (encI_len _)) (by simp only [List.flatten_cons, List.flatten_nil, List.append_nil]; exact vs1 _ _ _) (one_encI _) (by rw [List.length_map, HPL.out]; simp; omega) (by rw [List.length_map, HPL.out]; simp; omega) ?_; intro v7 w7 hr7 hg7 hb7; obtain ⟨A7, c7, e7, -, -⟩ := hr7.form; rw [List.length_append, List.length_map, HPL.out] at e7; have e8 : v7 = .slice A7 (k + 1) c7 := e7; subst e8; clear e7; have HR7 := Lib.hid hr7; have HG7 := Lib.hid hg7; have HW7 : Hid (B ≤ w7.heap.size) := Lib.hid (Nat.le_trans (Nat.le_trans HBX.out ((Ext.refl wh).alloc _).size) hg7.size); have b57 := (HKe.out.2.1.ext ((Ext.refl _).alloc _)).kept (hg7.block _ (HKe.out.2.1.ext ((Ext.refl _).alloc _)).lt fun e => by have := HKe.out.own _ e.symm; have := HZ.out; omega); have z7 := b57.cell (k := 0) (by decide); have y7 := b57.frozen 0; clear hr7 hg7 hb7 b57))
              have hz := HZ.out
              refine ⟨⟨k + 1, nm, s4, acc ++ [⟨nm, true, [], vl, sl⟩], ps ++ [(⟨nm, true, [], vl, sl⟩, Ay, cy)], .slice A7 (k + 1) c7, by omega, by go_num, rfl, by rw [HM.out]; exact HGI.out, St.app2 HG7.out HSTh.out HKe.out ((Ext.refl _).alloc _) HBe.out.1 HBe.out.2 (by omega) (by omega) HBX.out HNF.out, Keep.app2 HG7.out HKe.out ((Ext.refl _).alloc _) (by omega) (by omega) HR7.out (HSV.out), by rw [List.map_append, HAC.out]; rfl, by rw [List.length_append, HPL.out]; rfl, by simpa using HW7.out, (ext_grow (HEX.out.alloc _) HG7.out (fun kk e => by have := HKe.out.own kk e; omega)).set (show w.heap.size ≤ g5 by omega) _⟩, by simp [intOf]; omega⟩
            · as_aux_lemma =>
              rw [if_neg hx1] at hgo
              have qy : ((x.toNat : Int) == 1) = false := by
                rw [beq_eq_false_iff_ne]
                intro h
                exact hx1 (UInt8.toNat_inj.1 (by show x.toNat = 1; omega))
              have HRN : Hid (R = ([], 6)) := Lib.hid (by rw [← HR.out]; unfold rdP; rw [hgo])
              have HKc : Hid (Keep w.heap.size g5 B (.slice Av k cv) ps wc) := Lib.hid (HKP.out.exg HEr2.out (by have := HZ.out; omega) (by have := HZ.out; omega) (by have := HZ.out; omega))
              have HEXc : Hid (Ext w wc) := Lib.hid (HEr2.out.ext HX.out (by have := HZ.out; omega))
              have c2 := HKc.out.1.cell (k := 0) (by decide)
              have f2 := HKc.out.1.frozen 0
              clear hgo hx0 hx1
              go_wp2_with fail
              refine bodyPost_ret (res32t Tryd.results27 (HKc.out.1.set1 nilV) nilV rfl rfl rfl) rfl ?_
              rw [HRN.out]
              exact ⟨nilV, rfl, DsAt.nil _, HEXc.out.set (Nat.le_refl _) _⟩
        · as_aux_lemma =>
          have hgo := HGO.out
          rw [if_neg (fun h => hless h.2)] at hgo
          have HRN : Hid (R = ([], 6)) := Lib.hid (by rw [← HR.out]; unfold rdP; rw [hgo])
          have el : (Op.bytesLess nm bf || nm == bf) = true := by
            rw [bytesLess_eq]
            rcases slt_tri bf nm with h | h | h
            · exact absurd h hless
            · rw [h]; simp
            · rw [decide_eq_true h]; rfl
          clear hok hgo hless
          go_wp2_with (go_at_call 49; refine (valid49_ok nm wb).mono ?_; rintro _ _ ⟨rfl, rfl⟩; rw [HOK.out])
          refine bodyPost_ret (res32t Tryd.results27 (HKb.out.1.set1 nilV) nilV rfl rfl rfl) rfl ?_
          rw [HRN.out]
          exact ⟨nilV, rfl, DsAt.nil _, HEWb.out.set (Nat.le_refl _) _⟩
      · as_aux_lemma =>
        have hgo := HGO.out
        rw [if_neg (fun h => hok h.1)] at hgo
        have HRN : Hid (R = ([], 6)) := Lib.hid (by rw [← HR.out]; unfold rdP; rw [hgo])
        have hok' : okN nm = false := by simpa using hok
        have HOK := Lib.hid hok'
        clear hok hok' hgo
        go_wp2_with (go_at_call 49; refine (valid49_ok nm wb).mono ?_; rintro _ _ ⟨rfl, rfl⟩; rw [HOK.out])
        refine bodyPost_ret (res32t Tryd.results27 (HKb.out.1.set1 nilV) nilV rfl rfl rfl) rfl ?_
        rw [HRN.out]
        exact ⟨nilV, rfl, DsAt.nil _, HEWb.out.set (Nat.le_refl _) _⟩
    · obtain rfl : k = cnt := by omega
      rw [Nat.sub_self, rdGo] at hgo
      have HGO := Lib.hid hgo
      have c5 := HKP.out.2.1.cell (k := 0) (by decide)
      have c2 := HKP.out.1.cell (k := 0) (by decide)
      have f2 := HKP.out.1.frozen 0
      clear hgo
      obtain ⟨er, her⟩ : ∃ er : Int → Prop, er = fun z => z = 0 ↔ s = some [] := ⟨_, rfl⟩
      go_wp2_with fail
      refine (end52_st N b s wr HST.out).mono ?_
      rintro _ _ ⟨⟨z, rfl, hz⟩, rfl⟩
      clear her er
      by_cases hs : s = some []
      · as_aux_lemma =>
        obtain rfl : z = 0 := hz.2 hs
        have hgo := HGO.out
        rw [if_pos hs] at hgo
        have HRS : Hid (R = (acc, 0)) := Lib.hid (by rw [← HR.out]; unfold rdP; rw [hgo])
        clear hgo hs hz
        go_wp2_with fail
        refine bodyPost_ret (res32t Tryd.results27 (HKP.out.1.set1 (.slice Av k cv)) (.slice Av k cv) rfl rfl rfl) rfl ?_
        rw [HRS.out, ← HAC.out]
        have hz := HZ.out
        exact ⟨_, rfl, DsAt.of_row (HKP.out.2.2.1.kept fun kk e => Below.heap_setCell _ _ _ kk (by have := HKP.out.own kk e; show kk ≠ w.heap.size; omega)) (HKP.out.2.2.2.far (set_exg _ w.heap.size 0 _) (by omega)), HX.out.set (Nat.le_refl _) _⟩
      · as_aux_lemma =>
        have hne : z ≠ 0 := fun h => hs (hz.1 h)
        have qz : (z != 0) = true := by simp [hne]
        have hgo := HGO.out
        rw [if_neg hs] at hgo
        have HRN : Hid (R = ([], 6)) := Lib.hid (by rw [← HR.out]; unfold rdP; rw [hgo])
        clear hgo hs hz hne
        go_wp2_with fail
        refine bodyPost_ret (res32t Tryd.results27 (HKP.out.1.set1 nilV) nilV rfl rfl rfl) rfl ?_
        rw [HRN.out]
        exact ⟨nilV, rfl, DsAt.nil _, HX.out.set (Nat.le_refl _) _⟩
end Go.Proofs.YtjedhndhdkiidaaDoor
