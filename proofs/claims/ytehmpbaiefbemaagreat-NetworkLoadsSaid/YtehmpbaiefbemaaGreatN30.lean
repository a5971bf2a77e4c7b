/- The reference's Consume. -/
import Derived.Test.YtehmpbaiefbemaaGreatN29
namespace Go.Proofs.YtehmpbaiefbemaaGreat
open Go.RowKit
attribute [local go_sem ↓] Go.wp_at_zero Go.wp_at_succ
attribute [local go_sem ↓] eq73 ld32 st32 al32
attribute [local go_sem] run_eq73 run_ld32 run_st32n run_al32 blkOf_drew blkOf_setRow_same blkOf_setRow_other NV_size
def RetR (cv hv : Value) (s t d : Nat → Nat) (B : Nat) (ks : List Ky) (w : World) (e : Ending) (w' : World) : Prop := ∃ kv, e = .returned (.agg (NV cv hv s t d kv)) ∧ Row 4 w' B 58 kv (ks.map encK) ∧ Ext w w'
/-- The slice of keys is the one that was there, or it is new. -/
def RetR' (cv hv kv0 : Value) (s t d : Nat → Nat) (B : Nat) (ks : List Ky) (w : World) (e : Ending) (w' : World) : Prop := ∃ kv, e = .returned (.agg (NV cv hv s t d kv)) ∧ Row 4 w' B 58 kv (ks.map encK) ∧ Ext w w' ∧ (kv = kv0 ∨ Row 4 w' w.heap.size 58 kv (ks.map encK))
theorem letter3 {w w0 : World} {a b c : Array Value} {T T' T'' : Nat} (h : ((w.alloc (.cells a T)).alloc (.cells b T')).alloc (.cells c T'') = w0) : Ext w w0 ∧ blkOf w0 w.heap.size = a ∧ blkOf w0 (w.heap.size + 1) = b ∧ blkOf w0 (w.heap.size + 2) = c ∧ w0.heap.size = w.heap.size + 3 := by
  have h1 : (w.alloc (.cells a T)).heap.size = w.heap.size + 1 := by simp
  have h2 : ((w.alloc (.cells a T)).alloc (.cells b T')).heap.size = w.heap.size + 2 := by simp
  have E1 : Ext (w.alloc (.cells a T)) w0 := by rw [← h]; exact ((Ext.refl _).alloc _).alloc _
  have E2 : Ext ((w.alloc (.cells a T)).alloc (.cells b T')) w0 := by rw [← h]; exact (Ext.refl _).alloc _
  refine ⟨((Ext.refl _).alloc _).trans E1, ?_, ?_, ?_, by rw [← h]; simp⟩
  · rw [blkOf_ext E1 (by simp)]; exact blkOf_new
  · rw [← h1, blkOf_ext E2 (by simp)]; exact blkOf_new
  · rw [← h, ← h2]; exact blkOf_new
theorem Row.setb {s : Nat} {w : World} {B e b : Nat} {v : Value} {vs : List (List Value)} (h : Row s w B e v vs) (hb : b < B) (i : Nat) (x : Value) : Row s (w.setCell ⟨b, i, none⟩ x) B e v vs :=
  h.kept fun k hk => Below.heap_setCell _ _ _ _ (by have := (h.lt k hk).1; show k ≠ b; omega)
theorem Row.setRow {s : Nat} {w : World} {B e b : Nat} {v : Value} {vs : List (List Value)} (h : Row s w B e v vs) (hb : b < B) (cs : Array Value) : Row s (w.setRow b cs) B e v vs :=
  h.kept fun k hk => setRow_other _ _ _ _ (by have := (h.lt k hk).1; omega)
set_option maxRecDepth 100000 in
set_option maxHeartbeats 4000000 in
theorem consume76_own (cv hv kv : Value) (cs : List Ch) (s t d : Nat → Nat) (ks : List Ky) (k : Ky) (B : Nat) (w : World) (hc : CsAt w cv cs) (hh : ∃ A n c, hv = .slice A n c) (hk : Row 4 w B 58 kv (ks.map encK)) (ha : AscC cs) (hka : Asc ks) (hkl : ks.length ≤ 1000) (hB : B ≤ w.heap.size) :
    Calls Tryz.prog 60 #[.agg (NV cv hv s t d kv), keyV k] w (RetR' cv hv kv s t d B (eatF cs ks k) w) := by
  have CG := Lib.hid (fun W (hW : Ext w W) => get110_any cs (NV cv hv s t d kv) cv k W NV_size NV_0 (hc.ext hW) ha)
  obtain ⟨Ac, cc, rfl, -, -, -⟩ := hc.read
  obtain ⟨Ah, nh, ch, rfl⟩ := hh
  obtain ⟨Ak, ck, rfl, -, -, RK⟩ := hk.sl.read
  rw [List.length_map, List.length_map] at *
  have HR := Lib.hid RK
  have HK := Lib.hid hk
  have HKA := Lib.hid hka
  obtain ⟨k1, k2, k3, k4⟩ := k
  clear RK hk hc ha hka
  go_enter Tryz.func60, Tryz.ntmps60
  go_upto_region 1 with fail
  generalize hwB : ((w.alloc (.cells (NV (.slice Ac cs.length cc) (.slice Ah nh ch) s t d (.slice Ak ks.length ck)) 32)).alloc (.cells #[kV k1, iV k2, iV k3, iV k4] 58)).alloc (.cells NV0 32) = wB
  obtain ⟨hE, b0, b1, b2, hs⟩ := letter3 hwB
  have t0 : wB.cell? ⟨w.heap.size + 1, 0, none⟩ = some (kV k1) := blkOf_cell (by rw [b1]; rfl)
  have t1 : wB.cell? ⟨w.heap.size + 1, 1, none⟩ = some (iV k2) := blkOf_cell (by rw [b1]; rfl)
  have t2 : wB.cell? ⟨w.heap.size + 1, 2, none⟩ = some (iV k3) := blkOf_cell (by rw [b1]; rfl)
  have t3 : wB.cell? ⟨w.heap.size + 1, 3, none⟩ = some (iV k4) := blkOf_cell (by rw [b1]; rfl)
  have HE := Lib.hid hE
  clear hwB hE b1
  go_wp2_with fail
  refine (CG.out _ HE.out).mono ?_
  rintro e1 w1 ⟨rfl, hE1⟩
  have b0 : blkOf w1 w.heap.size = _ := (blkOf_ext hE1 (by omega)).trans b0
  have b2 : blkOf w1 (w.heap.size + 2) = NV0 := (blkOf_ext hE1 (by omega)).trans b2
  have t0 := hE1.cell t0
  have t1 := hE1.cell t1
  have t2 := hE1.cell t2
  have t3 := hE1.cell t3
  have hs1 : w.heap.size + 2 < w1.heap.size := by have := hE1.size; omega
  have HE1 := Lib.hid (HE.out.trans hE1)
  clear hE1 CG HE
  obtain ⟨⟨⟨c1, c2, c3, c4⟩, c5⟩, hco⟩ : ∃ y, chO (k1, k2, k3, k4) (getF cs (k1, k2, k3, k4)) = y := ⟨_, rfl⟩
  obtain ⟨ok, hok⟩ : ∃ ok, (getF cs (k1, k2, k3, k4)).isSome = ok := ⟨_, rfl⟩
  rw [hco, hok]
  have HOK := Lib.hid hok
  clear hco hok
  go_upto_region 2 with fail
  generalize hw2 : w1.alloc _ = w2
  have hE2 : Ext w1 w2 := by rw [← hw2]; exact (Ext.refl _).alloc _
  have b0 : blkOf w2 w.heap.size = _ := (blkOf_ext hE2 (by omega)).trans b0
  have b2 : blkOf w2 (w.heap.size + 2) = NV0 := (blkOf_ext hE2 (by omega)).trans b2
  have t0 := hE2.cell t0
  have t1 := hE2.cell t1
  have t2 := hE2.cell t2
  have t3 := hE2.cell t3
  have hs2 : w.heap.size + 2 < w2.heap.size := by have := hE2.size; omega
  have HE2 := Lib.hid (HE1.out.trans hE2)
  clear hE2 hw2 HE1 hs1 hs
  cases ok with
  | false =>
    have HKS : Hid (eatF cs ks (k1, k2, k3, k4) = ks) := Lib.hid (by unfold eatF; rw [HOK.out]; rfl)
    have B2 := Lib.hid b2
    go_wp2_with fail
    refine bodyPost_ret (res32 Tryz.results60 (g := w.heap.size + 2) rfl (blkOf_setRow_same (by rw [B2.out, NV_size])) NV_size) rfl ⟨_, rfl, ?_, HE2.out.setRow (Nat.le_add_right _ 2) _, .inl rfl⟩
    rw [HKS.out]
    exact HK.out.ext (HE2.out.setRow (Nat.le_add_right _ 2) _)
  | true =>
    have HKS' : Hid (eatF cs ks (k1, k2, k3, k4) = insK (k1, k2, k3, k4) ks) := Lib.hid (by unfold eatF; rw [HOK.out]; rfl)
    have B0 := Lib.hid b0
    have B2 := Lib.hid b2
    have B00 := B0
    have B20 := B2
    have HT := Lib.hid (⟨t0, t1, t2, t3⟩ : _ ∧ _ ∧ _ ∧ _)
    have n82 : w2.cell? ⟨w.heap.size, 82, none⟩ = some (.slice Ak ks.length ck) := blkOf_cell (by rw [b0]; exact NV_82)
    have f82 : ∀ i, w2.frozen? ⟨w.heap.size, i, none⟩ = false := fun i => blkOf_frozen (by rw [b0, NV_size]; omega)
    have FF := Lib.hid f82
    clear b0 b2 t0 t1 t2 t3 HOK f82
    go_wp2_with fail
    go_loopw [7, 8, 23] (fun o dn i wr => ∃ (j : Nat) (os : List Ky) (b : Bool), j ≤ ks.length ∧ i = iV (j : Int) ∧ dn = .bool b ∧ Row 4 wr w2.heap.size 58 o (os.map encK) ∧ (∀ x ∈ ks.take j, x ≠ (k1, k2, k3, k4)) ∧
      (b = false ∧ os = ks.take j ∧ (∀ x ∈ ks.take j, klt x (k1, k2, k3, k4)) ∨ b = true ∧ os = insK (k1, k2, k3, k4) (ks.take j) ∧ ∃ x ∈ ks.take j, klt (k1, k2, k3, k4) x) ∧ Ext w2 wr) (fun _ _ i _ => ks.length - (intOf i).toNat)
    case atStart => exact ⟨0, [], false, by omega, rfl, rfl, Row.nil _ _ _ _, by simp, .inl ⟨rfl, rfl, by simp⟩, Ext.refl _⟩
    case round =>
      obtain ⟨j, os, b, hj, rfl, rfl, hr, hn, hst, hX⟩ := hrel
      obtain ⟨Ao, co, eo, -, -⟩ := hr.form
      rw [List.length_map] at eo
      subst eo
      have hol : os.length ≤ j + 1 := by
        rcases hst with ⟨-, rfl, -⟩ | ⟨-, rfl, -⟩
        · rw [List.length_take]; omega
        · have := insK_len (k := (k1, k2, k3, k4)) (l := ks.take j); rw [List.length_take] at this; omega
      have HRk := Lib.hid hr
      have HN := Lib.hid hn
      have HX := Lib.hid hX
      have HBk : Hid (w2.heap.size ≤ wr.heap.size) := Lib.hid hX.size
      have hsr : w.heap.size + 2 < wr.heap.size := by have := hX.size; omega
      have hsr1 : w.heap.size + 1 < wr.heap.size := by omega
      have hsr0 : w.heap.size < wr.heap.size := by omega
      have b0 : blkOf wr w.heap.size = _ := (blkOf_ext hX (by omega)).trans B0.out
      have b2 : blkOf wr (w.heap.size + 2) = NV0 := (blkOf_ext hX (by omega)).trans B2.out
      have HXW := Lib.hid (HE2.out.trans hX)
      clear hr hX hn n82
      by_cases hlt : j < ks.length
      · obtain ⟨g, o, rfl, hb, cR⟩ := HR.out wr HXW.out j hlt (by omega)
        obtain ⟨y, hy⟩ : ∃ y, ks.getD j (0, 0, 0, 0) = y := ⟨_, rfl⟩
        rw [keysAt hlt y hy] at cR
        have HTK : Hid (ks.take (j + 1) = ks.take j ++ [y]) := by rw [take_getD hlt, hy]; exact Lib.hid rfl
        have HYM : Hid (y ∈ ks) := Lib.hid (by
          rw [← hy, List.getD_eq_getElem?_getD, List.getElem?_eq_getElem hlt]
          exact List.getElem_mem hlt)
        obtain ⟨x1, x2, x3, x4⟩ := y
        have r0 := cR 0 _ (by omega) rfl
        have r1 := cR 1 _ (by omega) rfl
        have r2 := cR 2 _ (by omega) rfl
        have r3 := cR 3 _ (by omega) rfl
        rw [Nat.add_zero] at r0
        obtain ⟨t0, t1, t2, t3⟩ := HT.out
        have t0 := HX.out.cell t0
        have t1 := HX.out.cell t1
        have t2 := HX.out.cell t2
        have t3 := HX.out.cell t3
        clear cR hy
        cases hbb : eqB (x1, x2, x3, x4) (k1, k2, k3, k4) with
        | true =>
          have hk := eqB_true hbb
          have HBB := Lib.hid hbb
          have HIN : Hid ((k1, k2, k3, k4) ∈ ks) := Lib.hid (by rw [← hk]; exact HYM.out)
          have b0' : blkOf (wr.alloc (.cells #[kV x1, iV x2, iV x3, iV x4] 58)) w.heap.size = _ := (blkOf_ext ((Ext.refl wr).alloc _) hsr0).trans b0
          have b2' : blkOf (wr.alloc (.cells #[kV x1, iV x2, iV x3, iV x4] 58)) (w.heap.size + 2) = NV0 := (blkOf_ext ((Ext.refl wr).alloc _) hsr).trans b2
          have B2' := Lib.hid b2'
          clear hk hst
          go_wp2_with fail
          refine bodyPost_ret (res32 Tryz.results60 (g := w.heap.size + 2) rfl (blkOf_setRow_same (by rw [B2'.out, NV_size])) NV_size) rfl ⟨_, rfl, ?_, (HXW.out.alloc _).setRow (Nat.le_add_right _ 2) _, .inl rfl⟩
          rw [HKS'.out, insK_same HKA.out HIN.out]
          exact HK.out.ext ((HXW.out.alloc _).setRow (Nat.le_add_right _ 2) _)
        | false =>
          have hk := eqB_false hbb
          have HBB := Lib.hid hbb
          have HN1 : Hid (∀ x ∈ ks.take (j + 1), x ≠ (k1, k2, k3, k4)) := Lib.hid (fun x hx => by
            rw [HTK.out] at hx
            rcases List.mem_append.1 hx with hx | hx
            · exact HN.out x hx
            · rw [List.mem_singleton.1 hx]; exact hk)
          have HKX := Lib.hid hk
          clear hk b0 b2
          rcases hst with ⟨rfl, rfl, hlo⟩ | ⟨rfl, rfl, hex⟩
          · have HLO := Lib.hid hlo
            have HLE : Hid ((ks.take j).length = j) := Lib.hid (by rw [List.length_take]; omega)
            have HRL := Lib.hid (fun W => rless_any (k1, k2, k3, k4) (x1, x2, x3, x4) W)
            obtain ⟨lb, hlb⟩ : ∃ lb, decide (klt (k1, k2, k3, k4) (x1, x2, x3, x4)) = lb := ⟨_, rfl⟩
            rw [hlb] at HRL
            have HLB := Lib.hid hlb
            rw [HLE.out] at HRk
            clear hlo hlb hol
            go_wp2_with fail
            refine (HRL.out _).mono ?_
            rintro e3 w3 ⟨rfl, hE3⟩
            have hE3 : Ext (wr.alloc (.cells #[kV x1, iV x2, iV x3, iV x4] 58)) w3 := hE3
            have q0 : w3.cell? ⟨wr.heap.size, 0, none⟩ = some (kV x1) := hE3.cell (new_at _ _ _ 0 _ rfl)
            have q1 : w3.cell? ⟨wr.heap.size, 1, none⟩ = some (iV x2) := hE3.cell (new_at _ _ _ 1 _ rfl)
            have q2 : w3.cell? ⟨wr.heap.size, 2, none⟩ = some (iV x3) := hE3.cell (new_at _ _ _ 2 _ rfl)
            have q3 : w3.cell? ⟨wr.heap.size, 3, none⟩ = some (iV x4) := hE3.cell (new_at _ _ _ 3 _ rfl)
            have hw3 : Ext wr w3 := ((Ext.refl _).alloc _).trans hE3
            have t0 := hw3.cell t0
            have t1 := hw3.cell t1
            have t2 := hw3.cell t2
            have t3 := hw3.cell t3
            have hq3 := World.block_lt_of_cell? w3 _ q0
            have ht3 := World.block_lt_of_cell? w3 _ t0
            simp only [] at hq3 ht3
            have HR3 := Lib.hid (HRk.out.ext hw3)
            have HX3 := Lib.hid (HX.out.trans hw3)
            have HB3 : Hid (w2.heap.size ≤ w3.heap.size) := Lib.hid HX3.out.size
            clear hE3 hw3 r0 r1 r2 r3 HRL
            cases lb with
            | true =>
              have hkx : klt (k1, k2, k3, k4) (x1, x2, x3, x4) := of_decide_eq_true HLB.out
              have HKX2 := Lib.hid hkx
              clear hkx
              have ne4 : some wr.heap.size ≠ (Value.slice Ao j co).ownBlock := fun e => by have := (HRk.out.lt _ e.symm).2; omega
              go_wp2_with (first | (at_builtin; refine wappB el30 rfl (.tmp 38) (.tmp 40) rfl (B := w2.heap.size) (vs := (ks.take j).map encK) (us := [encK (k1, k2, k3, k4)]) rfl (by have := HB3.out; simp; omega) (HR3.out.ext ((Ext.refl _).alloc _)) rfl rfl (Wide.one rfl) (vs1n (by simp)) one_encK (by rw [List.length_map, HLE.out, List.length_singleton]; omega) (by rw [List.length_map, HLE.out, List.length_singleton]; omega) ?_; intro v4 w4 hr4 hg4 hb4; have HX4 := Lib.hid (ext_grow (HX3.out.alloc _) hg4 (fun k hk => (HR3.out.lt k hk).1)); have HB4 : Hid (w2.heap.size ≤ w4.heap.size) := Lib.hid HX4.out.size; obtain ⟨A4, c4, e4, -, -⟩ := hr4.form; rw [List.length_append, List.length_map, HLE.out, List.length_singleton] at e4; subst e4; have q0 := (cell_kept (o := 0) (hg4.block _ (by simp; omega) ne4)).trans (Ext.cell ((Ext.refl w3).alloc _) q0); have q1 := (cell_kept (o := 1) (hg4.block _ (by simp; omega) ne4)).trans (Ext.cell ((Ext.refl w3).alloc _) q1); have q2 := (cell_kept (o := 2) (hg4.block _ (by simp; omega) ne4)).trans (Ext.cell ((Ext.refl w3).alloc _) q2); have q3 := (cell_kept (o := 3) (hg4.block _ (by simp; omega) ne4)).trans (Ext.cell ((Ext.refl w3).alloc _) q3); have hq3 := World.block_lt_of_cell? w4 _ q0; simp only [] at hq3; have HR4 := Lib.hid hr4; clear hr4 hg4 hb4) | (at_builtin; refine wappB el30 rfl (.tmp 42) (.tmp 44) rfl (B := w2.heap.size) (vs := (ks.take j).map encK ++ [encK (k1, k2, k3, k4)]) (us := [encK (x1, x2, x3, x4)]) rfl (by have := HB4.out; simp; omega) (HR4.out.ext ((Ext.refl _).alloc _)) rfl rfl (Wide.one rfl) (vs1n (by simp)) one_encK (by rw [List.length_append, List.length_map, HLE.out, List.length_singleton, List.length_singleton]; omega) (by rw [List.length_append, List.length_map, HLE.out, List.length_singleton, List.length_singleton]; omega) ?_; intro v5 w5 hr5 hg5 hb5; have HX5 := Lib.hid (ext_grow (HX4.out.alloc _) hg5 (fun k hk => (HR4.out.lt k hk).1)); have HB5 : Hid (w2.heap.size ≤ w5.heap.size) := Lib.hid HX5.out.size; obtain ⟨A5, c5, e5, -, -⟩ := hr5.form; rw [List.length_append, List.length_append, List.length_map, HLE.out, List.length_singleton, List.length_singleton] at e5; subst e5; have HR5 := Lib.hid hr5; clear hr5 hg5 hb5) | fail)
              exact ⟨⟨j + 1, ks.take j ++ [(k1, k2, k3, k4)] ++ [(x1, x2, x3, x4)], true, by omega, by go_num, rfl, by rw [List.map_append, List.map_append]; exact HR5.out, HN1.out, .inr ⟨rfl, by rw [HTK.out, insK_mid HKX2.out HLO.out], (x1, x2, x3, x4), by rw [HTK.out]; simp, HKX2.out⟩, HX5.out⟩, by simp [intOf]; omega⟩
            | false =>
              have hkx : ¬ klt (k1, k2, k3, k4) (x1, x2, x3, x4) := of_decide_eq_false HLB.out
              have HLT : Hid (klt (x1, x2, x3, x4) (k1, k2, k3, k4)) := Lib.hid (by
                rcases klt_total (x1, x2, x3, x4) (k1, k2, k3, k4) with h | h | h
                · exact h
                · exact absurd h HKX.out
                · exact absurd h hkx)
              clear hkx
              go_wp2_with (first | (at_builtin; refine wappB el30 rfl (.tmp 42) (.tmp 44) rfl (B := w2.heap.size) (vs := (ks.take j).map encK) (us := [encK (x1, x2, x3, x4)]) rfl (by have := HB3.out; simp; omega) (HR3.out.ext ((Ext.refl _).alloc _)) rfl rfl (Wide.one rfl) (vs1n (by simp)) one_encK (by rw [List.length_map, HLE.out, List.length_singleton]; omega) (by rw [List.length_map, HLE.out, List.length_singleton]; omega) ?_; intro v5 w5 hr5 hg5 hb5; have HX5 := Lib.hid (ext_grow (HX3.out.alloc _) hg5 (fun k hk => (HR3.out.lt k hk).1)); have HB5 : Hid (w2.heap.size ≤ w5.heap.size) := Lib.hid HX5.out.size; obtain ⟨A5, c5, e5, -, -⟩ := hr5.form; rw [List.length_append, List.length_map, HLE.out, List.length_singleton] at e5; subst e5; have HR5 := Lib.hid hr5; clear hr5 hg5 hb5) | fail)
              exact ⟨⟨j + 1, ks.take j ++ [(x1, x2, x3, x4)], false, by omega, by go_num, rfl, by rw [List.map_append]; exact HR5.out, HN1.out, .inl ⟨rfl, HTK.out.symm, fun x hx => by
                rw [HTK.out] at hx
                rcases List.mem_append.1 hx with hx | hx
                · exact HLO.out x hx
                · rw [List.mem_singleton.1 hx]; exact HLT.out⟩, HX5.out⟩, by simp [intOf]; omega⟩
          · have HEX := Lib.hid hex
            clear hex
            go_wp2_with (first | (at_builtin; refine wappB el30 rfl (.tmp 42) (.tmp 44) rfl (B := w2.heap.size) (vs := (insK (k1, k2, k3, k4) (ks.take j)).map encK) (us := [encK (x1, x2, x3, x4)]) rfl (by have := HBk.out; simp; omega) ((HRk.out.ext ((Ext.refl _).alloc _)).ext ((Ext.refl _).alloc _)) rfl rfl (Wide.one rfl) (vs1n (by simp)) one_encK (by rw [List.length_map, List.length_singleton]; omega) (by rw [List.length_map, List.length_singleton]; omega) ?_; intro v5 w5 hr5 hg5 hb5; have HX5 := Lib.hid (ext_grow ((HX.out.alloc _).alloc _) hg5 (fun k hk => (HRk.out.lt k hk).1)); have HR5 := Lib.hid hr5; clear hr5 hg5 hb5) | fail)
            exact ⟨⟨j + 1, insK (k1, k2, k3, k4) (ks.take j) ++ [(x1, x2, x3, x4)], true, by omega, by go_num, rfl, by rw [List.map_append]; exact HR5.out, HN1.out, .inr ⟨rfl, by rw [HTK.out, insK_past HEX.out], by
              obtain ⟨x, hx, hkx⟩ := HEX.out
              exact ⟨x, by rw [HTK.out]; simp [hx], hkx⟩⟩, HX5.out⟩, by simp [intOf]; omega⟩
      · obtain rfl : j = ks.length := by omega
        have n82 : wr.cell? ⟨w.heap.size, 82, none⟩ = some (.slice Ak ks.length ck) := blkOf_cell (by rw [b0]; exact NV_82)
        have B0 := Lib.hid b0
        have B2 := Lib.hid b2
        clear b0 b2 HN
        clear n82 B0 B2
        have B0 : Hid (blkOf w2 w.heap.size = NV (.slice Ac cs.length cc) (.slice Ah nh ch) s t d (.slice Ak ks.length ck)) := B00
        have B2 : Hid (blkOf w2 (w.heap.size + 2) = NV0) := B20
        rcases hst with ⟨rfl, rfl, hlo⟩ | ⟨rfl, rfl, hex⟩
        · rw [List.take_length] at hlo HRk
          have HLO := Lib.hid hlo
          obtain ⟨t0, t1, t2, t3⟩ := HT.out
          have t0 := HX.out.cell t0
          have t1 := HX.out.cell t1
          have t2 := HX.out.cell t2
          have t3 := HX.out.cell t3
          clear hlo
          simp only [List.take_length]
          go_upto_region 18 with (at_builtin; refine wappB el30 rfl (.tmp 49) (.tmp 51) rfl (B := w2.heap.size) (vs := ks.map encK) (us := [encK (k1, k2, k3, k4)]) rfl (by have := HBk.out; simp; omega) (HRk.out.ext ((Ext.refl _).alloc _)) rfl rfl (Wide.one rfl) (vs1n (by simp)) one_encK (by rw [List.length_map, List.length_singleton]; omega) (by rw [List.length_map, List.length_singleton]; omega) ?_; intro v5 w5 hr5 hg5 hb5; have HX5 := Lib.hid (ext_grow (HX.out.alloc _) hg5 (fun k hk => (HRk.out.lt k hk).1)); obtain ⟨A5, c5', e5, -, -⟩ := hr5.form; rw [List.length_append, List.length_map, List.length_singleton] at e5; subst e5; have HR5 := Lib.hid hr5; clear hr5 hg5 hb5)
          clear t0 t1 t2 t3
          have b0 : blkOf w5 w.heap.size = _ := (blkOf_ext HX5.out (by omega)).trans B0.out
          have b2 : blkOf w5 (w.heap.size + 2) = NV0 := (blkOf_ext HX5.out (by omega)).trans B2.out
          have n82 : w5.cell? ⟨w.heap.size, 82, none⟩ = some (.slice Ak ks.length ck) := blkOf_cell (by rw [b0]; exact NV_82)
          have f82 : ∀ i, w5.frozen? ⟨w.heap.size, i, none⟩ = false := fun i => blkOf_frozen (by rw [b0, NV_size]; omega)
          have s0 : blkOf (w5.setCell ⟨w.heap.size, 82, none⟩ (.slice A5 (ks.length + 1) c5')) w.heap.size = NV (.slice Ac cs.length cc) (.slice Ah nh ch) s t d (.slice A5 (ks.length + 1) c5') := by rw [blkOf_set (by rw [b0, NV_size]; omega), b0, NV_setU]
          have s2 : blkOf (w5.setCell ⟨w.heap.size, 82, none⟩ (.slice A5 (ks.length + 1) c5')) (w.heap.size + 2) = NV0 := (blkOf_far (by show w.heap.size ≠ w.heap.size + 2; omega)).trans b2
          have S2 := Lib.hid s2
          have hwf : w2.heap.size ≤ w5.heap.size := HX5.out.size
          clear b0 b2
          go_wp2_with fail
          refine bodyPost_ret (res32 Tryz.results60 (g := w.heap.size + 2) rfl (blkOf_setRow_same (by rw [S2.out, NV_size])) NV_size) rfl ?_
          have HFR := fun (vv : Value) (cz : Array Value) => (HR5.out.setb (b := w.heap.size) (by omega) 82 vv).setRow (b := w.heap.size + 2) (by omega) cz
          rw [RetR', HKS'.out, insK_end HLO.out, List.map_append, List.map_singleton]
          exact ⟨_, rfl, (HFR _ _).base (by omega), (((HE2.out.trans HX5.out).set (by show w.heap.size ≤ w.heap.size; omega) _).setRow (Nat.le_add_right _ 2) _), .inr ((HFR _ _).base (by omega))⟩
        · rw [List.take_length] at HRk
          simp only [List.take_length]
          go_upto_region 18 with fail
          have b0 : blkOf wr w.heap.size = _ := (blkOf_ext HX.out (by omega)).trans B0.out
          have b2 : blkOf wr (w.heap.size + 2) = NV0 := (blkOf_ext HX.out (by omega)).trans B2.out
          have n82 : wr.cell? ⟨w.heap.size, 82, none⟩ = some (.slice Ak ks.length ck) := blkOf_cell (by rw [b0]; exact NV_82)
          have f82 : ∀ i, wr.frozen? ⟨w.heap.size, i, none⟩ = false := fun i => blkOf_frozen (by rw [b0, NV_size]; omega)
          have s0 : blkOf (wr.setCell ⟨w.heap.size, 82, none⟩ (.slice Ao (insK (k1, k2, k3, k4) ks).length co)) w.heap.size = NV (.slice Ac cs.length cc) (.slice Ah nh ch) s t d (.slice Ao (insK (k1, k2, k3, k4) ks).length co) := by rw [blkOf_set (by rw [b0, NV_size]; omega), b0, NV_setU]
          have s2 : blkOf (wr.setCell ⟨w.heap.size, 82, none⟩ (.slice Ao (insK (k1, k2, k3, k4) ks).length co)) (w.heap.size + 2) = NV0 := (blkOf_far (by show w.heap.size ≠ w.heap.size + 2; omega)).trans b2
          have S2 := Lib.hid s2
          have hwf : w2.heap.size ≤ wr.heap.size := HX.out.size
          clear b0 b2
          go_wp2_with fail
          refine bodyPost_ret (res32 Tryz.results60 (g := w.heap.size + 2) rfl (blkOf_setRow_same (by rw [S2.out, NV_size])) NV_size) rfl ?_
          have HFR := fun (vv : Value) (cz : Array Value) => (HRk.out.setb (b := w.heap.size) (by omega) 82 vv).setRow (b := w.heap.size + 2) (by omega) cz
          rw [RetR', HKS'.out]
          exact ⟨_, rfl, (HFR _ _).base (by omega), (((HE2.out.trans HX.out).set (by show w.heap.size ≤ w.heap.size; omega) _).setRow (Nat.le_add_right _ 2) _), .inr ((HFR _ _).base (by omega))⟩
theorem consume76_any (cv hv kv : Value) (cs : List Ch) (s t d : Nat → Nat) (ks : List Ky) (k : Ky) (B : Nat) (w : World) (hc : CsAt w cv cs) (hh : ∃ A n c, hv = .slice A n c) (hk : Row 4 w B 58 kv (ks.map encK)) (ha : AscC cs) (hka : Asc ks) (hkl : ks.length ≤ 1000) (hB : B ≤ w.heap.size) :
    Calls Tryz.prog 60 #[.agg (NV cv hv s t d kv), keyV k] w (RetR cv hv s t d B (eatF cs ks k) w) := (consume76_own cv hv kv cs s t d ks k B w hc hh hk ha hka hkl hB).mono fun _ _ ⟨v, h1, h2, h3, _⟩ => ⟨v, h1, h2, h3⟩
end Go.Proofs.YtehmpbaiefbemaaGreat
