/- The reference's Timer. The reference's Disk and Executed. The reference's Executed. -/
import Derived.Test.YtehmpbaiefbemaaGreatN30
namespace Go.Proofs.YtehmpbaiefbemaaGreat
open Go.RowKit
attribute [local go_sem ↓] Go.wp_at_zero Go.wp_at_succ
attribute [local go_sem ↓] eq73 ld32 st32 al32
attribute [local go_sem] run_eq73 run_ld32 run_st32n run_al32 blkOf_drew blkOf_setRow_same blkOf_setRow_other NV_size
def RetRT (cv hv : Value) (B : Nat) (y : St) (a b : Value) (w : World) (e : Ending) (w' : World) : Prop := ∃ kv, e = .returned (.tuple #[.agg (NV cv hv y.s y.t y.d kv), a, b]) ∧ Row 4 w' B 58 kv (y.ks.map encK) ∧ Ext w w'
theorem letter2 {w w0 : World} {a b : Array Value} {T T' : Nat} (h : (w.alloc (.cells a T)).alloc (.cells b T') = w0) : Ext w w0 ∧ blkOf w0 w.heap.size = a ∧ blkOf w0 (w.heap.size + 1) = b ∧ w0.heap.size = w.heap.size + 2 := by
  have h1 : (w.alloc (.cells a T)).heap.size = w.heap.size + 1 := by simp
  have E1 : Ext (w.alloc (.cells a T)) w0 := by rw [← h]; exact (Ext.refl _).alloc _
  refine ⟨((Ext.refl _).alloc _).trans E1, ?_, ?_, by rw [← h]; simp⟩
  · rw [blkOf_ext E1 (by simp)]; exact blkOf_new
  · rw [← h, ← h1]; exact blkOf_new
/-- A row of keys does not lie in a block of 83 cells. -/
theorem Row.far {w : World} {B e : Nat} {v : Value} {vs : List (List Value)} (h : Row 4 w B e v vs) {g : Nat} (hz : (blkOf w g).size = 83) : some g ≠ v.ownBlock := by
  rcases h.2.2 with ⟨rfl, _⟩ | ⟨g', cap, cur, rfl, _, hg, _, _, c3, _⟩
  · simp [Value.ownBlock]
  · intro e
    simp [Value.ownBlock] at e
    subst e
    rw [blkOf_of hg] at hz
    omega
theorem Row.setFar {w : World} {B e : Nat} {v : Value} {vs : List (List Value)} (h : Row 4 w B e v vs) {g : Nat} (hz : (blkOf w g).size = 83) (cs : Array Value) : Row 4 (w.setRow g cs) B e v vs :=
  h.kept fun k hk => setRow_other _ _ _ _ (fun e => h.far hz (by rw [hk, e]))
theorem Row.setFarC {w : World} {B e : Nat} {v : Value} {vs : List (List Value)} (h : Row 4 w B e v vs) {g : Nat} (hz : (blkOf w g).size = 83) (i : Nat) (x : Value) : Row 4 (w.setCell ⟨g, i, none⟩ x) B e v vs :=
  h.kept fun k hk => Below.heap_setCell _ _ _ _ (fun e => h.far hz (by rw [hk, e]))
set_option maxRecDepth 100000 in
set_option maxHeartbeats 4000000 in
theorem rtimer_any (cv hv kv : Value) (cs : List Ch) (x : St) (B : Nat) (c due : Int) (w : World) (hc : CsAt w cv cs) (hh : ∃ A n c, hv = .slice A n c) (hk : Row 4 w B 58 kv (x.ks.map encK)) (ha : AscC cs) (hka : Asc x.ks) (hkl : x.ks.length ≤ 1000) (hB : B ≤ w.heap.size)
    (hb : Bd x 100000) (hm : Sm cs) (h1 : -1000000 ≤ due) (h2 : due ≤ 1000000) :
    Calls Tryz.prog 55 #[.agg (NV cv hv x.s x.t x.d kv), iV c, iV due] w (RetRT cv hv B (timF cs c due x).1 (iV (timF cs c due x).2.1) (iV (timF cs c due x).2.2) w) := by
  obtain ⟨s, t, d, ks⟩ := x
  simp only [] at hk hka hkl ⊢
  have HC := Lib.hid hc
  obtain ⟨Ac, cc, rfl, -, -, -⟩ := hc.read
  obtain ⟨Ah, nh, ch, rfl⟩ := hh
  have HK := Lib.hid hk
  obtain ⟨Ak, ck, rfl, -, -, -⟩ := hk.sl.read
  rw [List.length_map, List.length_map] at *
  have HKA := Lib.hid hka
  have HA := Lib.hid ha
  by_cases hci : inC c
  · obtain ⟨hc0, hc8⟩ := hci
    obtain ⟨n, rfl⟩ : ∃ n : Nat, c = (n : Int) := ⟨c.toNat, by omega⟩
    have hn : n < 8 := by omega
    have CC := in_any (n : Int)
    rw [decide_eq_true (⟨hc0, hc8⟩ : 0 ≤ (n : Int) ∧ (n : Int) < 8)] at CC
    have HCC := Lib.hid CC
    obtain ⟨m, hmn⟩ : ∃ m, t n = m := ⟨_, rfl⟩
    have htb : (m : Int) ≤ 100000 := by have := (hb n).2.1; simp only [] at this; omega
    have HF : Hid (timF cs (n : Int) due ⟨s, t, d, ks⟩ = (⟨s, upd t n (m + 1), d, eatF cs ks (9, (n : Int), 0, (m : Int))⟩, (m : Int), due + (getF cs (9, (n : Int), 0, (m : Int))).getD 0)) := Lib.hid (by
      unfold timF
      rw [if_pos ⟨hc0, hc8⟩, ← hmn]
      rfl)
    rw [HF.out]
    simp only []
    have SM := Lib.hid hm
    have hcast : ((m + 1 : Nat) : Int) = (m : Int) + 1 := by omega
    have HCAST := Lib.hid hcast
    have HTN := Lib.hid hmn
    clear hm hb CC ha hka hc hk HF hcast hmn
    go_enter Tryz.func55, Tryz.ntmps55
    go_upto_region 1 with fail
    generalize hwB : (w.alloc (.cells (NV (.slice Ac cs.length cc) (.slice Ah nh ch) s t d (.slice Ak ks.length ck)) 32)).alloc (.cells NV0 32) = wB
    obtain ⟨hE, b0, b1, hs⟩ := letter2 hwB
    have n1 : wB.cell? ⟨w.heap.size, 66 + n, none⟩ = some (iV (m : Int)) := blkOf_cell (by rw [b0, ← HTN.out]; exact NV_tim hn)
    have nf : ∀ i, wB.frozen? ⟨w.heap.size, i, none⟩ = false := fun i => blkOf_frozen (by rw [b0, NV_size]; omega)
    have s0 : blkOf (wB.setCell ⟨w.heap.size, 66 + n, none⟩ (iV ((m : Int) + 1))) w.heap.size = NV (.slice Ac cs.length cc) (.slice Ah nh ch) s (upd t n (m + 1)) d (.slice Ak ks.length ck) := by
      rw [blkOf_set (by rw [b0, NV_size]; omega), b0, ← HCAST.out, NV_setTim hn]
    have s1 : blkOf (wB.setCell ⟨w.heap.size, 66 + n, none⟩ (iV ((m : Int) + 1))) (w.heap.size + 1) = NV0 := (blkOf_far (by show w.heap.size ≠ w.heap.size + 1; omega)).trans b1
    have E1 := hE.setb (Nat.le_refl _) (66 + n) (iV ((m : Int) + 1))
    have hs1 : (wB.setCell ⟨w.heap.size, 66 + n, none⟩ (iV ((m : Int) + 1))).heap.size = w.heap.size + 2 := by simp [hs]
    have S0 := Lib.hid s0
    have S1 := Lib.hid s1
    have E1 := Lib.hid E1
    have HS1 := Lib.hid hs1
    have HSB := Lib.hid hs
    clear hwB hE b0 b1 hs s0 s1 hs1
    go_wp2_with fail
    refine (HCC.out _).mono ?_
    rintro e1 w1 ⟨rfl, rfl⟩
    go_upto_region 6 with fail
    generalize hw1 : wB.setCell ⟨w.heap.size, 66 + n, none⟩ (iV ((m : Int) + 1)) = w1
    rw [hw1] at S0 S1 E1 HS1
    generalize hw2 : w1.alloc _ = w2
    have hE2 : Ext w1 w2 := by rw [← hw2]; exact (Ext.refl _).alloc _
    have q0 : w2.cell? ⟨w1.heap.size, 0, none⟩ = some (.int .u8 9) := by rw [← hw2]; exact new_at _ _ _ 0 _ rfl
    have q1 : w2.cell? ⟨w1.heap.size, 1, none⟩ = some (iV (n : Int)) := by rw [← hw2]; exact new_at _ _ _ 1 _ rfl
    have q2 : w2.cell? ⟨w1.heap.size, 2, none⟩ = some (iV 0) := by rw [← hw2]; exact new_at _ _ _ 2 _ rfl
    have q3 : w2.cell? ⟨w1.heap.size, 3, none⟩ = some (iV (m : Int)) := by rw [← hw2]; exact new_at _ _ _ 3 _ rfl
    have b0 : blkOf w2 w.heap.size = _ := (blkOf_ext hE2 (by rw [HS1.out]; omega)).trans S0.out
    have b1 : blkOf w2 (w.heap.size + 1) = NV0 := (blkOf_ext hE2 (by rw [HS1.out]; omega)).trans S1.out
    have hsz : w.heap.size + 1 < w2.heap.size := by have := hE2.size; have := HS1.out; omega
    have HE2 := Lib.hid (E1.out.trans hE2)
    rw [HS1.out] at q0 q1 q2 q3
    rw [HSB.out]
    have CG : Calls Tryz.prog 84 #[.agg (NV (.slice Ac cs.length cc) (.slice Ah nh ch) s (upd t n (m + 1)) d (.slice Ak ks.length ck)), .agg #[.int .u8 9, iV (n : Int), iV 0, iV (m : Int)]] w2 _ := get110_any cs _ _ (9, (n : Int), 0, (m : Int)) w2 NV_size NV_0 (HC.out.ext HE2.out) HA.out
    have HCG := Lib.hid CG
    clear hE2 hw1 hw2 CG S0 S1 E1 HS1 n1 nf
    go_wp2_with fail
    refine HCG.out.mono ?_
    rintro e3 w3 ⟨rfl, hE3⟩
    have b0 : blkOf w3 w.heap.size = _ := (blkOf_ext hE3 (by omega)).trans b0
    have b1 : blkOf w3 (w.heap.size + 1) = NV0 := (blkOf_ext hE3 (by omega)).trans b1
    have q0 := hE3.cell q0
    have q1 := hE3.cell q1
    have q2 := hE3.cell q2
    have q3 := hE3.cell q3
    have hsz : w.heap.size + 1 < w3.heap.size := by have := hE3.size; omega
    have HE3 := Lib.hid (HE2.out.trans hE3)
    clear hE3 HCG HE2
    cases hg : getF cs (9, (n : Int), 0, (m : Int)) with
    | none =>
      have HKS : Hid (eatF cs ks (9, (n : Int), 0, (m : Int)) = ks) := Lib.hid (by unfold eatF; rw [hg]; rfl)
      have HG := Lib.hid hg
      clear hg
      simp only [chO, Option.isSome_none]
      go_upto_region 7 with fail
      generalize hw4 : w3.alloc _ = w4
      have hE4 : Ext w3 w4 := by rw [← hw4]; exact (Ext.refl _).alloc _
      have b0 : blkOf w4 w.heap.size = _ := (blkOf_ext hE4 (by omega)).trans b0
      have b1 : blkOf w4 (w.heap.size + 1) = NV0 := (blkOf_ext hE4 (by omega)).trans b1
      have B1 := Lib.hid b1
      have HE4 := Lib.hid (HE3.out.trans hE4)
      clear hE4 hw4 q0 q1 q2 q3
      go_wp2_with fail
      refine bodyPost_ret (res32c Tryz.results55 (g := w.heap.size + 1) rfl rfl rfl (blkOf_setRow_same (by rw [B1.out, NV_size])) NV_size) rfl ?_
      rw [RetRT, HKS.out, HG.out]
      exact ⟨_, by simp, HK.out.ext (HE4.out.setRow (Nat.le_add_right _ 1) _), HE4.out.setRow (Nat.le_add_right _ 1) _⟩
    | some dd =>
      have hd := SM.out _ (getF_mem hg)
      simp only [] at hd
      obtain ⟨d1, d2⟩ := hd
      have HG := Lib.hid hg
      have hwr : IntKind.i64.wrap (due + dd) = due + dd := IntWalk.i64_in _ (by omega)
      clear hg
      simp only [chO, Option.isSome_some]
      go_upto_region 8 with fail
      generalize hw4 : w3.alloc _ = w4
      have hE4 : Ext w3 w4 := by rw [← hw4]; exact (Ext.refl _).alloc _
      have q5 : w4.cell? ⟨w3.heap.size, 5, none⟩ = some (iV dd) := by rw [← hw4]; exact new_at _ _ _ 5 _ rfl
      have b0 : blkOf w4 w.heap.size = NV (.slice Ac cs.length cc) (.slice Ah nh ch) s (upd t n (m + 1)) d (.slice Ak ks.length ck) := (blkOf_ext hE4 (by omega)).trans b0
      have b1 : blkOf w4 (w.heap.size + 1) = NV0 := (blkOf_ext hE4 (by omega)).trans b1
      have q0 := hE4.cell q0
      have q1 := hE4.cell q1
      have q2 := hE4.cell q2
      have q3 := hE4.cell q3
      have hs4 : w.heap.size + 1 < w4.heap.size := by have := hE4.size; omega
      have HE4 := Lib.hid (HE3.out.trans hE4)
      have CN := Lib.hid (fun W (hW : Ext w W) => (consume76_any _ _ _ cs s (upd t n (m + 1)) d ks (9, (n : Int), 0, (m : Int)) B W (HC.out.ext hW) ⟨Ah, nh, ch, rfl⟩ (HK.out.ext hW) HA.out HKA.out hkl (Nat.le_trans hB hW.size) : Calls Tryz.prog 60 #[.agg (NV (.slice Ac cs.length cc) (.slice Ah nh ch) s (upd t n (m + 1)) d (.slice Ak ks.length ck)), .agg #[.int .u8 9, iV (n : Int), iV 0, iV (m : Int)]] W _))
      clear hE4 hw4 HE3
      have KB : Hid (∀ W, Ext w4 W → (fun w' => blkOf w' w.heap.size = NV (.slice Ac cs.length cc) (.slice Ah nh ch) s (upd t n (m + 1)) d (.slice Ak ks.length ck) ∧ w'.cell? ⟨w.heap.size + 2, 0, none⟩ = some (.int .u8 9) ∧ w'.cell? ⟨w.heap.size + 2, 1, none⟩ = some (iV (n : Int)) ∧ w'.cell? ⟨w.heap.size + 2, 2, none⟩ = some (iV 0) ∧ w'.cell? ⟨w.heap.size + 2, 3, none⟩ = some (iV (m : Int)) ∧ w'.cell? ⟨w3.heap.size, 5, none⟩ = some (iV dd)) W) := Lib.hid (fun W h => ⟨(blkOf_ext h (by omega)).trans b0, h.cell q0, h.cell q1, h.cell q2, h.cell q3, h.cell q5⟩)
      refine wp_region_noPanic ?_
      refine wp_region_held_drew (S := (fun w' => blkOf w' w.heap.size = NV (.slice Ac cs.length cc) (.slice Ah nh ch) s (upd t n (m + 1)) d (.slice Ak ks.length ck) ∧ w'.cell? ⟨w.heap.size + 2, 0, none⟩ = some (.int .u8 9) ∧ w'.cell? ⟨w.heap.size + 2, 1, none⟩ = some (iV (n : Int)) ∧ w'.cell? ⟨w.heap.size + 2, 2, none⟩ = some (iV 0) ∧ w'.cell? ⟨w.heap.size + 2, 3, none⟩ = some (iV (m : Int)) ∧ w'.cell? ⟨w3.heap.size, 5, none⟩ = some (iV dd))) (by kernel_rfl) ?_ (fun hHeld => ?_)
      · exact KB.out _ ((Ext.refl _).drew)
      refine wpAnyH_take (i := 0) (v := ?_) (oper_at rfl) (by kernel_rfl) (by kernel_rfl) (by kernel_rfl) (fun _ _ _ h => h) (Or.inl ⟨by rfl, ?_⟩) hHeld ?_
      rotate_left
      · (intro ww hSw; (try dsimp only at hSw); go_simp; try (with_reducible rfl))
      try simp only [Act.put, List.setIfInBounds_toArray, List.set_cons_zero, List.set_cons_succ]
      refine wpAnyH_take (i := 1) (v := ?_) (oper_at rfl) (by kernel_rfl) (by kernel_rfl) (by kernel_rfl) (fun _ _ _ h => h) (Or.inl ⟨by rfl, ?_⟩) hHeld ?_
      rotate_left
      · (intro ww hSw; (try dsimp only at hSw); go_simp; try (with_reducible rfl))
      try simp only [Act.put, List.setIfInBounds_toArray, List.set_cons_zero, List.set_cons_succ]
      refine wpAnyH_take (i := 3) (v := ?_) (oper_at rfl) (by kernel_rfl) (by kernel_rfl) (by kernel_rfl) (fun _ _ _ h => h) (Or.inl ⟨by rfl, ?_⟩) hHeld ?_
      rotate_left
      · (intro ww hSw; (try dsimp only at hSw); go_simp; try (with_reducible rfl))
      try simp only [Act.put, List.setIfInBounds_toArray, List.set_cons_zero, List.set_cons_succ]
      refine wpAnyH_take (i := 4) (v := ?_) (oper_at rfl) (by kernel_rfl) (by kernel_rfl) (by kernel_rfl) (fun _ _ _ h => h) (Or.inl ⟨by rfl, ?_⟩) hHeld ?_
      rotate_left
      · (intro ww hSw; (try dsimp only at hSw); go_simp; try (with_reducible rfl))
      try simp only [Act.put, List.setIfInBounds_toArray, List.set_cons_zero, List.set_cons_succ]
      refine wpAnyH_take (i := 5) (v := ?_) (oper_at rfl) (by kernel_rfl) (by kernel_rfl) (by kernel_rfl) (fun _ _ _ h => h) (Or.inl ⟨by rfl, ?_⟩) hHeld ?_
      rotate_left
      · (intro ww hSw; (try dsimp only at hSw); go_simp; try (with_reducible rfl))
      try simp only [Act.put, List.setIfInBounds_toArray, List.set_cons_zero, List.set_cons_succ]
      refine wpAnyH_take (i := 6) (v := ?_) (oper_at rfl) (by kernel_rfl) (by kernel_rfl) (by kernel_rfl) (fun _ _ _ h => h) (Or.inl ⟨by rfl, ?_⟩) hHeld ?_
      rotate_left
      · (intro ww hSw; (try dsimp only at hSw); go_simp; try (with_reducible rfl))
      try simp only [Act.put, List.setIfInBounds_toArray, List.set_cons_zero, List.set_cons_succ]
      refine wpAnyH_take (i := 7) (v := ?_) (oper_at rfl) (by kernel_rfl) (by kernel_rfl) (by kernel_rfl) (fun _ _ _ h => h) (Or.inl ⟨by rfl, ?_⟩) hHeld ?_
      rotate_left
      · (intro ww hSw; (try dsimp only at hSw); go_simp; try (with_reducible rfl))
      try simp only [Act.put, List.setIfInBounds_toArray, List.set_cons_zero, List.set_cons_succ]
      refine wpAnyH_ready (rs := [2]) (by kernel_rfl) (by simp) (AllReadyH.cons (oper_at rfl) (fun K hK => ?_) AllReadyH.nil)
      go_simp
      go_at_call 60
      refine (CN.out _ (HE4.out.drew)).mono ?_
      rintro e5 w5 ⟨kv5, rfl, hr5, hE5⟩
      have hE5' : Ext w4 w5 := ((Ext.refl _).drew).trans hE5
      obtain ⟨A5, c5, e5, -, -⟩ := hr5.form
      rw [List.length_map] at e5
      subst e5
      have HR5 := Lib.hid hr5
      have HE5 := Lib.hid (HE4.out.trans hE5')
      have c1 : blkOf w5 (w.heap.size + 1) = NV0 := (blkOf_ext hE5' (by omega)).trans b1
      have C1 := Lib.hid c1
      have KS := Lib.hid (KB.out _ hE5')
      clear hr5 hE5
      refine hK.out _ _ ?_ (fun hHeld => ?_)
      · first | exact KS.out | exact KB.out _ hE5'
      clear hK K
      try simp only [Act.put, List.setIfInBounds_toArray, List.set_cons_zero, List.set_cons_succ]
      refine wpAnyH_ready (rs := [8]) (by kernel_rfl) (by simp) (AllReadyH.cons (oper_at rfl) (fun K hK => ?_) AllReadyH.nil)
      go_simp
      refine hK.out _ _ ?_ (fun hHeld => ?_)
      · (obtain ⟨g0, g1, g2, g3, g4, g5⟩ := KS.out; refine ⟨(blkOf_setRow_other (by omega)).trans g0, ?_, ?_, ?_, ?_, ?_⟩ <;> (refine (cell_kept (setRow_other _ _ _ _ (by omega))).trans ?_; assumption))
      clear hK K
      try simp only [Act.put, List.setIfInBounds_toArray, List.set_cons_zero, List.set_cons_succ]
      refine wpAnyH_take (i := 9) (v := ?_) (oper_at rfl) (by kernel_rfl) (by kernel_rfl) (by kernel_rfl) (fun _ _ _ h => h) (Or.inl ⟨by rfl, ?_⟩) hHeld ?_
      rotate_left
      · (intro ww hSw; (try dsimp only at hSw); go_simp; try (with_reducible rfl))
      try simp only [Act.put, List.setIfInBounds_toArray, List.set_cons_zero, List.set_cons_succ]
      refine wpAnyH_take (i := 10) (v := ?_) (oper_at rfl) (by kernel_rfl) (by kernel_rfl) (by kernel_rfl) (fun _ _ _ h => h) (Or.inl ⟨by rfl, ?_⟩) hHeld ?_
      rotate_left
      · (intro ww hSw; (try dsimp only at hSw); go_simp; try (with_reducible rfl))
      try simp only [Act.put, List.setIfInBounds_toArray, List.set_cons_zero, List.set_cons_succ]
      refine wpAnyH_done (by kernel_rfl) ?_ _
      refine NoPanic.normal ?_
      go_wp2_with fail
      refine bodyPost_ret (res32c Tryz.results55 (g := w.heap.size + 1) rfl rfl rfl (blkOf_setRow_same (by rw [C1.out, NV_size])) NV_size) rfl ?_
      rw [RetRT]
      exact ⟨_, by simp [HG.out], HR5.out.setFar (by rw [C1.out, NV_size]) _, HE5.out.setRow (Nat.le_add_right _ 1) _⟩
  · have HF : Hid (timF cs c due ⟨s, t, d, ks⟩ = (⟨s, t, d, ks⟩, -1, due)) := Lib.hid (by unfold timF; rw [if_neg hci])
    rw [HF.out]
    have CC := in_any c
    rw [decide_eq_false (show ¬ (0 ≤ c ∧ c < 8) from hci)] at CC
    have HCC := Lib.hid CC
    clear CC hci hc hk ha hka
    go_enter Tryz.func55, Tryz.ntmps55
    go_upto_region 1 with fail
    generalize hwB : (w.alloc (.cells (NV (.slice Ac cs.length cc) (.slice Ah nh ch) s t d (.slice Ak ks.length ck)) 32)).alloc (.cells NV0 32) = wB
    obtain ⟨hE, b0, b1, hs⟩ := letter2 hwB
    have HE := Lib.hid hE
    have B1 := Lib.hid b1
    clear hwB hE hs
    go_wp2_with fail
    refine (HCC.out _).mono ?_
    rintro e1 w1 ⟨rfl, rfl⟩
    go_wp2_with fail
    refine bodyPost_ret (res32c Tryz.results55 (g := w.heap.size + 1) rfl rfl rfl (blkOf_setRow_same (by rw [B1.out, NV_size])) NV_size) rfl ?_
    exact ⟨_, rfl, HK.out.ext (HE.out.setRow (Nat.le_add_right _ 1) _), HE.out.setRow (Nat.le_add_right _ 1) _⟩
end Go.Proofs.YtehmpbaiefbemaaGreat
namespace Go.Proofs.YtehmpbaiefbemaaGreat
open Go.RowKit
attribute [local go_sem ↓] Go.wp_at_zero Go.wp_at_succ
attribute [local go_sem ↓] eq73 ld32 st32 al32
attribute [local go_sem] run_eq73 run_ld32 run_st32n run_al32 blkOf_drew blkOf_setRow_same blkOf_setRow_other NV_size
theorem nextK_succ (c : Int) (n j : Nat) : nextK c n (j + 1) = nextK c n j ++ [(8, c, 0, (n : Int) + (j : Int))] := by
  unfold nextK
  rw [List.range_succ, List.map_append]
  congr 1
set_option maxRecDepth 100000 in
set_option maxHeartbeats 4000000 in
theorem rdisk_any (cv hv kv : Value) (cs : List Ch) (x : St) (c count : Int) (w : World) (hc : CsAt w cv cs) (ha : AscC cs) (hd0 : Disk0 cs) (hb : Bd x 100000) (h1 : -100000 ≤ count) (h2 : count ≤ 100000) :
    Calls Tryz.prog 56 #[.agg (NV cv hv x.s x.t x.d kv), iV c, iV count] w (RetDk (diskF cs c count x).1 (diskF cs c count x).2 w) := by
  obtain ⟨s, t, d, ks⟩ := x
  simp only [] at hb ⊢
  by_cases hci : inC c
  · obtain ⟨hc0, hc8⟩ := hci
    obtain ⟨n, rfl⟩ : ∃ n : Nat, c = (n : Int) := ⟨c.toNat, by omega⟩
    have hn : n < 8 := by omega
    have CC := in_any (n : Int)
    rw [decide_eq_true (⟨hc0, hc8⟩ : 0 ≤ (n : Int) ∧ (n : Int) < 8)] at CC
    have HCC := Lib.hid CC
    obtain ⟨m, hmn⟩ : ∃ m, d n = m := ⟨_, rfl⟩
    have htb : (m : Int) ≤ 100000 := by have := (hb n).2.2; simp only [] at this; omega
    have HF : Hid (diskF cs (n : Int) count ⟨s, t, d, ks⟩ = ((m : Int), ((nextK (n : Int) m count.toNat).filter fun k => (getF cs k).isSome).map (·.2.2.2))) := Lib.hid (by
      unfold diskF
      rw [if_pos ⟨hc0, hc8⟩, fail_eq ha hd0, ← hmn]
      rfl)
    rw [HF.out]
    simp only []
    have CG := Lib.hid (fun (j : Nat) W (hW : Ext w W) => (get110_any cs (NV cv hv s t d kv) cv (8, (n : Int), 0, (m : Int) + (j : Int)) W NV_size NV_0 (hc.ext hW) ha : Calls Tryz.prog 84 #[.agg (NV cv hv s t d kv), .agg #[.int .u8 8, iV (n : Int), .int .i64 0, iV ((m : Int) + (j : Int))]] W _))
    have HTN := Lib.hid hmn
    clear hb CC HF hmn hc ha hd0
    go_enter Tryz.func56, Tryz.ntmps56
    go_upto_region 1 with fail
    generalize hwB : w.alloc (.cells (NV cv hv s t d kv) 32) = wB
    have hE : Ext w wB := by rw [← hwB]; exact (Ext.refl _).alloc _
    have b0 : blkOf wB w.heap.size = NV cv hv s t d kv := by rw [← hwB]; exact blkOf_new
    have hs : w.heap.size < wB.heap.size := by rw [← hwB]; simp
    have n1 : wB.cell? ⟨w.heap.size, 74 + n, none⟩ = some (iV (m : Int)) := blkOf_cell (by rw [b0, ← HTN.out]; exact NV_dis hn)
    have HE := Lib.hid hE
    have B0 := Lib.hid b0
    clear hwB hE b0
    go_wp2_with fail
    refine (HCC.out _).mono ?_
    rintro e1 w1 ⟨rfl, rfl⟩
    go_wp2_with fail
    go_loopw [8, 9] (fun l kk wr => ∃ (j : Nat) (fs : List Ky), j ≤ count.toNat ∧ kk = iV ((m : Int) + (j : Int)) ∧ fs = (nextK (n : Int) m j).filter (fun k => (getF cs k).isSome) ∧ fs.length ≤ j ∧ Row 1 wr wB.heap.size 3 l (fs.map fun y => [iV y.2.2.2]) ∧ Ext wB wr) (fun _ kk _ => m + count.toNat - (intOf kk).toNat)
    case atStart => exact ⟨0, [], by omega, by simp, rfl, by simp, Row.nil _ _ _ _, Ext.refl _⟩
    case round =>
      obtain ⟨j, fs, hj, rfl, hfs, hfl, hr, hX⟩ := hrel
      obtain ⟨Al, cl, el, -, -⟩ := hr.form
      rw [List.length_map] at el
      subst el
      have HRk := Lib.hid hr
      have HX := Lib.hid hX
      have HFS := Lib.hid hfs
      have HBk : Hid (wB.heap.size ≤ wr.heap.size) := Lib.hid hX.size
      have n2 := hX.cell n1
      have b0 : blkOf wr w.heap.size = NV cv hv s t d kv := (blkOf_ext hX hs).trans B0.out
      have hs2 : w.heap.size < wr.heap.size := by have := hX.size; omega
      have HEX := Lib.hid (HE.out.trans hX)
      clear hr hX hfs
      by_cases hlt : (j : Int) < count
      · obtain ⟨key, hkey⟩ : ∃ key : Ky, (8, (n : Int), 0, (m : Int) + (j : Int)) = key := ⟨_, rfl⟩
        have CGJ := Lib.hid (CG.out j wr HEX.out)
        have hltm : (m : Int) + (j : Int) < (m : Int) + count := by omega
        have HNX : Hid (nextK (n : Int) m (j + 1) = nextK (n : Int) m j ++ [(8, (n : Int), 0, (m : Int) + (j : Int))]) := Lib.hid (nextK_succ _ _ _)
        clear hkey
        go_wp2_with fail
        refine CGJ.out.mono ?_
        rintro e2 w2 ⟨rfl, hE2⟩
        have n3 := hE2.cell n2
        have hs3 : w.heap.size < w2.heap.size := by have := hE2.size; omega
        have HR2 := Lib.hid (HRk.out.ext hE2)
        have HX2 := Lib.hid (HX.out.trans hE2)
        have HB2 : Hid (wB.heap.size ≤ w2.heap.size) := Lib.hid HX2.out.size
        clear hE2 CGJ n2 b0
        cases hg : getF cs (8, (n : Int), 0, (m : Int) + (j : Int)) with
        | none =>
          have HST : Hid (fs = (nextK (n : Int) m (j + 1)).filter (fun k => (getF cs k).isSome)) := Lib.hid (by
            rw [HNX.out, List.filter_append, ← HFS.out, List.filter_cons_of_neg (by rw [hg]; decide)]; simp)
          clear hg
          simp only [chO, Option.isSome_none]
          go_wp2_with fail
          exact ⟨⟨j + 1, fs, by omega, by simp; omega, HST.out, by omega, HR2.out.ext ((Ext.refl _).alloc _), HX2.out.alloc _⟩, by simp [intOf]; omega⟩
        | some dd =>
          have HST : Hid (fs ++ [(8, (n : Int), 0, (m : Int) + (j : Int))] = (nextK (n : Int) m (j + 1)).filter (fun k => (getF cs k).isSome)) := Lib.hid (by
            rw [HNX.out, List.filter_append, ← HFS.out, List.filter_cons_of_pos (by rw [hg]; rfl)]; rfl)
          clear hg
          simp only [chO, Option.isSome_some]
          go_wp2_with (at_builtin; refine wappB el80 rfl (.tmp 38) (.tmp 40) rfl (B := wB.heap.size) (vs := fs.map fun y => [iV y.2.2.2]) (us := [[iV ((m : Int) + (j : Int))]]) rfl (by have := HB2.out; simp; omega) ((HR2.out.ext ((Ext.refl _).alloc _)).ext ((Ext.refl _).alloc _)) rfl rfl (Wide.one rfl) (vs1n (by simp)) one_int (by rw [List.length_map, List.length_singleton]; omega) (by rw [List.length_map, List.length_singleton]; omega) ?_; intro v3 w3 hr3 hg3 hb3; have HR3 := Lib.hid hr3; have HE3 := Lib.hid (ext_grow ((HX2.out.alloc _).alloc _) hg3 (fun k hk => (HR2.out.lt k hk).1)); clear hr3 hg3 hb3)
          exact ⟨⟨j + 1, fs ++ [(8, (n : Int), 0, (m : Int) + (j : Int))], by omega, by simp; omega, HST.out, by rw [List.length_append, List.length_singleton]; omega, by rw [List.map_append]; exact HR3.out, HE3.out⟩, by simp [intOf]; omega⟩
      · have hje : j = count.toNat := by omega
        have hltm : ¬ (m : Int) + (j : Int) < (m : Int) + count := by omega
        go_wp2_with fail
        go_ret2
        refine ⟨_, rfl, ?_, HEX.out⟩
        rw [← hje, ← HFS.out, List.map_map]
        exact HRk.out.base HE.out.size
  · have HF : Hid (diskF cs c count ⟨s, t, d, ks⟩ = (-1, [])) := Lib.hid (by unfold diskF; rw [if_neg hci])
    rw [HF.out]
    have CC := in_any c
    rw [decide_eq_false (show ¬ (0 ≤ c ∧ c < 8) from hci)] at CC
    have HCC := Lib.hid CC
    clear CC hci hc ha
    go_enter Tryz.func56, Tryz.ntmps56
    go_wp2_with fail
    refine (HCC.out _).mono ?_
    rintro e1 w1 ⟨rfl, rfl⟩
    go_wp2_with fail
    go_ret2
    exact ⟨_, rfl, Row.nil _ _ _ _, (Ext.refl _).alloc _⟩
end Go.Proofs.YtehmpbaiefbemaaGreat
namespace Go.Proofs.YtehmpbaiefbemaaGreat
open Go.RowKit
attribute [local go_sem ↓] Go.wp_at_zero Go.wp_at_succ
attribute [local go_sem ↓] eq73 ld32 st32 al32
attribute [local go_sem] run_eq73 run_ld32 run_st32n run_al32 blkOf_drew blkOf_setRow_same blkOf_setRow_other NV_size
theorem eatF_len {cs : List Ch} {ks : List Ky} {k : Ky} : (eatF cs ks k).length ≤ ks.length + 1 := by
  unfold eatF
  split
  · exact insK_len
  · omega
theorem foldE_len {cs : List Ch} : ∀ (l ks : List Ky), (l.foldl (fun u k => eatF cs u k) ks).length ≤ ks.length + l.length
  | [], ks => by simp
  | k :: l, ks => by
    rw [List.foldl_cons, List.length_cons]
    have := foldE_len (cs := cs) l (eatF cs ks k)
    have := eatF_len (cs := cs) (ks := ks) (k := k)
    omega
theorem nextK_len (c : Int) (n j : Nat) : (nextK c n j).length = j := by simp [nextK]
theorem upd_upd {s : Nat → Nat} {k a b : Nat} : upd (upd s k a) k b = upd s k b := by
  funext j
  unfold upd
  split <;> rfl
theorem upd_at {s : Nat → Nat} {k a : Nat} : upd s k a k = a := by unfold upd; rw [if_pos rfl]
theorem upd_self {s : Nat → Nat} {k a : Nat} (h : s k = a) : upd s k a = s := by
  funext j
  unfold upd
  split
  · rename_i e; rw [e, h]
  · rfl
theorem NV_setDis' {c h u : Value} {s t d : Nat → Nat} {k v : Nat} {x : Int} (hk : k < 8) (hx : ((v : Nat) : Int) = x) : (NV c h s t d u).setIfInBounds (74 + k) (iV x) = NV c h s t (upd d k v) u := by
  rw [← hx]
  exact NV_setDis hk
def ksE (cs : List Ch) (c : Int) (n j : Nat) (ks : List Ky) : List Ky := (nextK c n j).foldl (fun u k => eatF cs u k) ks
theorem ksE_succ (cs : List Ch) (c : Int) (n j : Nat) (ks : List Ky) : ksE cs c n (j + 1) ks = eatF cs (ksE cs c n j ks) (8, c, 0, (n : Int) + (j : Int)) := by
  unfold ksE
  rw [nextK_succ, List.foldl_append]
  rfl
set_option maxRecDepth 100000 in
set_option maxHeartbeats 4000000 in
theorem rexecuted_any (cv hv kv : Value) (cs : List Ch) (x : St) (B : Nat) (c count : Int) (w : World) (hc : CsAt w cv cs) (hh : ∃ A n c, hv = .slice A n c) (hk : Row 4 w B 58 kv (x.ks.map encK)) (ha : AscC cs) (hd0 : Disk0 cs) (hka : Asc x.ks) (hkl : x.ks.length + count.toNat ≤ 1000) (hB : B ≤ w.heap.size)
    (hb : Bd x 100000) (h2 : count ≤ 1000) :
    Calls Tryz.prog 58 #[.agg (NV cv hv x.s x.t x.d kv), iV c, iV count] w (RetR cv hv (exeF cs c count x).s (exeF cs c count x).t (exeF cs c count x).d B (exeF cs c count x).ks w) := by
  obtain ⟨s, t, d, ks⟩ := x
  simp only [] at hk hka hkl hb ⊢
  have HC := Lib.hid hc
  obtain ⟨Ac, cc, rfl, -, -, -⟩ := hc.read
  obtain ⟨Ah, nh, ch, rfl⟩ := hh
  have HK := Lib.hid hk
  obtain ⟨Ak, ck, rfl, -, -, -⟩ := hk.sl.read
  rw [List.length_map, List.length_map] at *
  have HKA := Lib.hid hka
  have HA := Lib.hid ha
  by_cases hci : inC c
  · obtain ⟨hc0, hc8⟩ := hci
    obtain ⟨n, rfl⟩ : ∃ n : Nat, c = (n : Int) := ⟨c.toNat, by omega⟩
    have hn : n < 8 := by omega
    have hn8 : (n : Int) < 8 := by omega
    have CC := in_any (n : Int)
    rw [decide_eq_true (⟨hc0, hc8⟩ : 0 ≤ (n : Int) ∧ (n : Int) < 8)] at CC
    have HCC := Lib.hid CC
    obtain ⟨m, hmn⟩ : ∃ m, d n = m := ⟨_, rfl⟩
    have htb : (m : Int) ≤ 100000 := by have := (hb n).2.2; simp only [] at this; omega
    have HF : Hid (exeF cs (n : Int) count ⟨s, t, d, ks⟩ = ⟨s, t, upd d n (m + count.toNat), ksE cs (n : Int) m count.toNat ks⟩) := Lib.hid (by
      unfold exeF
      by_cases hp : 0 < count
      · rw [if_pos ⟨⟨hc0, hc8⟩, hp⟩, ← hmn]
        unfold ksE
        rw [exe_keys hd0 hka]
        rfl
      · rw [if_neg (fun h => hp h.2)]
        have h0 : count.toNat = 0 := by omega
        rw [h0, Nat.add_zero, upd_self hmn]
        rfl)
    rw [HF.out]
    simp only []
    have HTN := Lib.hid hmn
    have CN := Lib.hid (fun (j : Nat) (A : Option Addr) (nn c2 : Nat) W (hW : Ext w W) (hr : Row 4 W B 58 (.slice A nn c2) ((ksE cs (n : Int) m j ks).map encK)) (hj : j ≤ count.toNat) => (consume76_any _ _ _ cs s t (upd d n (m + j)) (ksE cs (n : Int) m j ks) (8, (n : Int), 0, (m : Int) + (j : Int)) B W (HC.out.ext hW) ⟨Ah, nh, ch, rfl⟩ hr HA.out (foldE_asc _ _ HKA.out) (by have := foldE_len (cs := cs) (nextK (n : Int) m j) ks; rw [nextK_len] at this; unfold ksE; omega) (Nat.le_trans hB hW.size) : Calls Tryz.prog 60 #[.agg (NV (.slice Ac cs.length cc) (.slice Ah nh ch) s t (upd d n (m + j)) (.slice A nn c2)), .agg #[.int .u8 8, iV (n : Int), .int .i64 0, iV ((m : Int) + (j : Int))]] W _))
    have HSU := Lib.hid (fun j => ksE_succ cs (n : Int) m j ks)
    clear hb CC ha hd0 hka hc hk HF hmn
    go_enter Tryz.func58, Tryz.ntmps58
    go_upto_region 1 with fail
    generalize hwB : (w.alloc (.cells (NV (.slice Ac cs.length cc) (.slice Ah nh ch) s t d (.slice Ak ks.length ck)) 32)).alloc (.cells NV0 32) = wB
    obtain ⟨hE, b0, b1, hs⟩ := letter2 hwB
    have HE := Lib.hid hE
    have B0 : Hid (blkOf wB w.heap.size = NV (.slice Ac cs.length cc) (.slice Ah nh ch) s t (upd d n (m + 0)) (.slice Ak ks.length ck)) := Lib.hid (by rw [b0, Nat.add_zero, upd_self HTN.out])
    have B1 := Lib.hid b1
    have HS := Lib.hid hs
    clear hwB hE b0 b1 hs
    go_wp2_with fail
    go_loopw [7] (fun i wr => ∃ (j : Nat) (A : Option Addr) (nn c2 : Nat), j ≤ count.toNat ∧ i = iV (j : Int) ∧ blkOf wr w.heap.size = NV (.slice Ac cs.length cc) (.slice Ah nh ch) s t (upd d n (m + j)) (.slice A nn c2) ∧ blkOf wr (w.heap.size + 1) = NV0 ∧
      Row 4 wr B 58 (.slice A nn c2) ((ksE cs (n : Int) m j ks).map encK) ∧ Ext w wr) (fun i _ => count.toNat - (intOf i).toNat)
    case atStart => exact ⟨0, Ak, ks.length, ck, by omega, rfl, B0.out, B1.out, HK.out.ext HE.out, HE.out⟩
    case round =>
      obtain ⟨j, A, nn, c2, hj, rfl, b0, b1, hr, hX⟩ := hrel
      have HRk := Lib.hid hr
      have HX := Lib.hid hX
      have B0 := Lib.hid b0
      have B1 := Lib.hid b1
      have hsz : w.heap.size + 1 < wr.heap.size := blkOf_lt (by rw [b1, NV_size]; omega)
      have hsz0 : w.heap.size < wr.heap.size := by omega
      have n1 : wr.cell? ⟨w.heap.size, 74 + n, none⟩ = some (iV ((m : Int) + (j : Int))) := blkOf_cell (by rw [b0, NV_dis hn, upd_at]; congr 2)
      clear hr hX
      by_cases hlt : (j : Int) < count
      · have CNJ := Lib.hid (fun W (hW : Ext wr W) => CN.out j A nn c2 W (HX.out.trans hW) (HRk.out.ext hW) hj)
        go_wp2_with fail
        refine (HCC.out _).mono ?_
        rintro e1 w1 ⟨rfl, rfl⟩
        go_upto_region 4 with fail
        have KB : Hid (∀ W, Ext wr W → (fun w' => blkOf w' w.heap.size = NV (.slice Ac cs.length cc) (.slice Ah nh ch) s t (upd d n (m + j)) (.slice A nn c2) ∧ w'.cell? ⟨w.heap.size, 74 + n, none⟩ = some (iV ((m : Int) + (j : Int)))) W) := Lib.hid (fun W h => ⟨(blkOf_ext h hsz0).trans b0, h.cell n1⟩)
        refine wp_region_noPanic ?_
        refine wp_region_X (S := (fun w' => blkOf w' w.heap.size = NV (.slice Ac cs.length cc) (.slice Ah nh ch) s t (upd d n (m + j)) (.slice A nn c2) ∧ w'.cell? ⟨w.heap.size, 74 + n, none⟩ = some (iV ((m : Int) + (j : Int))))) (z := 8) (by kernel_rfl) ?_ (fun hHeld => ?_)
        · exact KB.out _ ((Ext.refl _).drew)
        refine wpAnyX_take (i := 0) (v := ?_) (oper_at rfl) (by kernel_rfl) (by kernel_rfl) (by kernel_rfl) (by kernel_rfl) (fun _ _ _ h => h) (Or.inl ⟨by rfl, ?_⟩) hHeld ?_
        rotate_left
        · (intro ww hSw; (try dsimp only at hSw); go_simp; try (with_reducible rfl))
        try simp only [Act.put, List.setIfInBounds_toArray, List.set_cons_zero, List.set_cons_succ]
        refine wpAnyX_take (i := 1) (v := ?_) (oper_at rfl) (by kernel_rfl) (by kernel_rfl) (by kernel_rfl) (by kernel_rfl) (fun _ _ _ h => h) (Or.inl ⟨by rfl, ?_⟩) hHeld ?_
        rotate_left
        · (intro ww hSw; (try dsimp only at hSw); go_simp; try (with_reducible rfl))
        try simp only [Act.put, List.setIfInBounds_toArray, List.set_cons_zero, List.set_cons_succ]
        refine wpAnyX_take (i := 2) (v := ?_) (oper_at rfl) (by kernel_rfl) (by kernel_rfl) (by kernel_rfl) (by kernel_rfl) (fun _ _ _ h => h) (Or.inl ⟨by rfl, ?_⟩) hHeld ?_
        rotate_left
        · (intro ww hSw; (try dsimp only at hSw); go_simp; try (with_reducible rfl))
        try simp only [Act.put, List.setIfInBounds_toArray, List.set_cons_zero, List.set_cons_succ]
        refine wpAnyX_take (i := 3) (v := ?_) (oper_at rfl) (by kernel_rfl) (by kernel_rfl) (by kernel_rfl) (by kernel_rfl) (fun _ _ _ h => h) (Or.inl ⟨by rfl, ?_⟩) hHeld ?_
        rotate_left
        · (intro ww hSw; (try dsimp only at hSw); go_simp; try (with_reducible rfl))
        try simp only [Act.put, List.setIfInBounds_toArray, List.set_cons_zero, List.set_cons_succ]
        refine wpAnyX_take (i := 4) (v := ?_) (oper_at rfl) (by kernel_rfl) (by kernel_rfl) (by kernel_rfl) (by kernel_rfl) (fun _ _ _ h => h) (Or.inl ⟨by rfl, ?_⟩) hHeld ?_
        rotate_left
        · (intro ww hSw; (try dsimp only at hSw); go_simp; try (with_reducible rfl))
        try simp only [Act.put, List.setIfInBounds_toArray, List.set_cons_zero, List.set_cons_succ]
        refine wpAnyX_take (i := 5) (v := ?_) (oper_at rfl) (by kernel_rfl) (by kernel_rfl) (by kernel_rfl) (by kernel_rfl) (fun _ _ _ h => h) (Or.inl ⟨by rfl, ?_⟩) hHeld ?_
        rotate_left
        · (intro ww hSw; (try dsimp only at hSw); go_simp; try (with_reducible rfl))
        try simp only [Act.put, List.setIfInBounds_toArray, List.set_cons_zero, List.set_cons_succ]
        refine wpAnyX_take (i := 6) (v := ?_) (oper_at rfl) (by kernel_rfl) (by kernel_rfl) (by kernel_rfl) (by kernel_rfl) (fun _ _ _ h => h) (Or.inl ⟨by rfl, ?_⟩) hHeld ?_
        rotate_left
        · (intro ww hSw; (try dsimp only at hSw); go_simp; try (with_reducible rfl))
        try simp only [Act.put, List.setIfInBounds_toArray, List.set_cons_zero, List.set_cons_succ]
        refine wpAnyX_ready (rs := [7]) (by kernel_rfl) (by simp) (AllReadyX.cons (by decide) (oper_at rfl) (fun K hK => ?_) AllReadyX.nil)
        go_simp
        go_at_call 60
        refine (CNJ.out _ ((Ext.refl _).drew)).mono ?_
        rintro e5 w5 ⟨kv5, rfl, hr5, hE5⟩
        have hE5' : Ext wr w5 := ((Ext.refl _).drew).trans hE5
        obtain ⟨A5, c5, e5, -, -⟩ := hr5.form
        rw [List.length_map] at e5
        subst e5
        have HR5 := Lib.hid hr5
        have HX5 := Lib.hid (HX.out.trans hE5')
        have d0 := (blkOf_ext hE5' hsz0).trans b0
        have d1 : blkOf w5 (w.heap.size + 1) = NV0 := (blkOf_ext hE5' (by omega)).trans b1
        have D0 := Lib.hid d0
        have D1 := Lib.hid d1
        have KS := Lib.hid (KB.out _ hE5')
        clear hr5 hE5
        refine hK.out _ _ ?_ (fun hHeld => ?_)
        · exact KS.out
        clear hK K
        try simp only [Act.put, List.setIfInBounds_toArray, List.set_cons_zero, List.set_cons_succ]
        clear b0 b1
        refine wpAnyX_ready (rs := [8]) (by kernel_rfl) (by simp) (AllReadyX.last rfl (oper_at rfl) (fun K hK => ?_))
        go_simp
        refine hK.out _ _ ?_
        clear hK K
        try simp only [Act.put, List.setIfInBounds_toArray, List.set_cons_zero, List.set_cons_succ]
        refine wpAnyX_done (by kernel_rfl) ?_ _
        refine NoPanic.normal ?_
        generalize hw6 : w5.setRow w.heap.size _ = w6
        have c0 : blkOf w6 w.heap.size = NV (.slice Ac cs.length cc) (.slice Ah nh ch) s t (upd d n (m + j)) (.slice A5 (eatF cs (ksE cs (n : Int) m j ks) (8, (n : Int), 0, (m : Int) + (j : Int))).length c5) := by rw [← hw6]; exact blkOf_setRow_same (by rw [D0.out, NV_size])
        have c1 : blkOf w6 (w.heap.size + 1) = NV0 := by rw [← hw6]; exact (blkOf_setRow_other (by omega)).trans D1.out
        have HR6 : Hid (Row 4 w6 B 58 (.slice A5 (eatF cs (ksE cs (n : Int) m j ks) (8, (n : Int), 0, (m : Int) + (j : Int))).length c5) ((ksE cs (n : Int) m (j + 1) ks).map encK)) := Lib.hid (by rw [HSU.out, ← hw6]; exact HR5.out.setFar (by rw [D0.out, NV_size]) _)
        have HX6 : Hid (Ext w w6) := Lib.hid (by rw [← hw6]; exact HX5.out.setRow (Nat.le_refl _) _)
        have n6 : w6.cell? ⟨w.heap.size, 74 + n, none⟩ = some (iV ((m : Int) + (j : Int))) := blkOf_cell (by rw [c0, NV_dis hn, upd_at]; congr 2)
        have f6 : ∀ i, w6.frozen? ⟨w.heap.size, i, none⟩ = false := fun i => blkOf_frozen (by rw [c0, NV_size]; omega)
        have C0 := Lib.hid c0
        have C1 := Lib.hid c1
        clear hw6 c0 c1 D0 D1 HR5 HX5 n1
        go_wp2_with fail
        refine ⟨⟨j + 1, A5, _, c5, by omega, by go_num, ?_, (blkOf_far (by show w.heap.size ≠ w.heap.size + 1; omega)).trans C1.out, HR6.out.setFarC (by rw [C0.out, NV_size]) _ _, HX6.out.setb (Nat.le_refl _) _ _⟩, by simp [intOf]; omega⟩
        rw [blkOf_set (by rw [C0.out, NV_size]; omega), C0.out, NV_setDis' (v := m + (j + 1)) hn (by omega), upd_upd]
      · have hje : j = count.toNat := by omega
        have b1' := B1.out
        go_wp2_with fail
        refine bodyPost_ret (res32 Tryz.results58 (g := w.heap.size + 1) rfl (blkOf_setRow_same (by rw [B1.out, NV_size])) NV_size) rfl ⟨_, by rw [← hje], ?_, HX.out.setRow (Nat.le_add_right _ 1) _⟩
        rw [← hje]
        exact HRk.out.setFar (by rw [B1.out, NV_size]) _
  · have HF : Hid (exeF cs c count ⟨s, t, d, ks⟩ = ⟨s, t, d, ks⟩) := Lib.hid (by unfold exeF; rw [if_neg (fun h => hci h.1)])
    rw [HF.out]
    simp only []
    have CC := in_any c
    rw [decide_eq_false (show ¬ (0 ≤ c ∧ c < 8) from hci)] at CC
    have HCC := Lib.hid CC
    clear CC hci hc ha hk hka
    go_enter Tryz.func58, Tryz.ntmps58
    go_upto_region 1 with fail
    generalize hwB : (w.alloc (.cells (NV (.slice Ac cs.length cc) (.slice Ah nh ch) s t d (.slice Ak ks.length ck)) 32)).alloc (.cells NV0 32) = wB
    obtain ⟨hE, b0, b1, hs⟩ := letter2 hwB
    have HE := Lib.hid hE
    have B1 := Lib.hid b1
    have B0 := Lib.hid b0
    clear hwB hE hs b0 b1
    go_wp2_with fail
    go_loopw [7] (fun i wr => i = iV 0 ∧ wr = wB) (fun i _ => 0)
    case atStart => exact ⟨rfl, rfl⟩
    case round =>
      obtain ⟨rfl, rfl⟩ := hrel
      have b0 := B0.out
      have b1 := B1.out
      by_cases hlt : 0 < count
      · go_wp2_with fail
        refine (HCC.out _).mono ?_
        rintro e1 w1 ⟨rfl, rfl⟩
        go_wp2_with fail
        refine bodyPost_ret (res32 Tryz.results58 (g := w.heap.size + 1) rfl (blkOf_setRow_same (by rw [B1.out, NV_size])) NV_size) rfl ⟨_, rfl, HK.out.ext (HE.out.setRow (Nat.le_add_right _ 1) _), HE.out.setRow (Nat.le_add_right _ 1) _⟩
      · go_wp2_with fail
        refine bodyPost_ret (res32 Tryz.results58 (g := w.heap.size + 1) rfl (blkOf_setRow_same (by rw [B1.out, NV_size])) NV_size) rfl ⟨_, rfl, HK.out.ext (HE.out.setRow (Nat.le_add_right _ 1) _), HE.out.setRow (Nat.le_add_right _ 1) _⟩
end Go.Proofs.YtehmpbaiefbemaaGreat
