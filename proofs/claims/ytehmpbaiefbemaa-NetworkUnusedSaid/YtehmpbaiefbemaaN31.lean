/- The reference's Timer. -/
import Derived.Test.YtehmpbaiefbemaaN30
namespace Go.Proofs.Ytehmpbaiefbemaa
open Go.RowKit
attribute [local go_sem ↓] Go.wp_at_zero Go.wp_at_succ
attribute [local go_sem ↓] eq73 ld32 st32 al32
attribute [local go_sem] run_eq73 run_ld32 run_st32n run_al32 blkOf_drew blkOf_setRow_same blkOf_setRow_other NV_size
def RetRT (cv hv : Value) (B : Nat) (y : St) (a b : Value) (w : World) (e : Ending) (w' : World) : Prop := ∃ kv, e = .returned (.tuple #[.agg (NV cv hv y.s y.t y.d kv), a, b]) ∧ Row 4 w' B 73 kv (y.ks.map encK) ∧ Ext w w'
theorem letter2 {w w0 : World} {a b : Array Value} {T T' : Nat} (h : (w.alloc (.cells a T)).alloc (.cells b T') = w0) : Ext w w0 ∧ blkOf w0 w.heap.size = a ∧ blkOf w0 (w.heap.size + 1) = b ∧ w0.heap.size = w.heap.size + 2 := by
  have h1 : (w.alloc (.cells a T)).heap.size = w.heap.size + 1 := by simp
  have E1 : Ext (w.alloc (.cells a T)) w0 := by rw [← h]; exact (Ext.refl _).alloc _
  refine ⟨((Ext.refl _).alloc _).trans E1, ?_, ?_, by rw [← h]; simp⟩
  · rw [blkOf_ext E1 (by simp)]; exact blkOf_new
  · rw [← h, ← h1]; exact blkOf_new
/-- A row of keys does not lie in a block of 83 cells. -/
theorem Row.far {w : World} {B e : Nat} {v : Value} {vs : List (List Value)} (h : Row 4 w B e v vs) {g : Nat} (hz : (blkOf w g).size = 83) : some g ≠ v.ownBlock := by
  rcases h.2.2 with ⟨rfl, _⟩ | ⟨g', cap, cur, rfl, _, hg, _, _, c3, _⟩
  · simp [Value.ownBlock]
  · intro e
    simp [Value.ownBlock] at e
    subst e
    rw [blkOf_of hg] at hz
    omega
theorem Row.setFar {w : World} {B e : Nat} {v : Value} {vs : List (List Value)} (h : Row 4 w B e v vs) {g : Nat} (hz : (blkOf w g).size = 83) (cs : Array Value) : Row 4 (w.setRow g cs) B e v vs :=
  h.kept fun k hk => setRow_other _ _ _ _ (fun e => h.far hz (by rw [hk, e]))
theorem Row.setFarC {w : World} {B e : Nat} {v : Value} {vs : List (List Value)} (h : Row 4 w B e v vs) {g : Nat} (hz : (blkOf w g).size = 83) (i : Nat) (x : Value) : Row 4 (w.setCell ⟨g, i, none⟩ x) B e v vs :=
  h.kept fun k hk => Below.heap_setCell _ _ _ _ (fun e => h.far hz (by rw [hk, e]))
set_option maxRecDepth 100000 in
set_option maxHeartbeats 4000000 in
theorem rtimer_any (cv hv kv : Value) (cs : List Ch) (x : St) (B : Nat) (c due : Int) (w : World) (hc : CsAt w cv cs) (hh : ∃ A n c, hv = .slice A n c) (hk : Row 4 w B 73 kv (x.ks.map encK)) (ha : AscC cs) (hka : Asc x.ks) (hkl : x.ks.length ≤ 1000) (hB : B ≤ w.heap.size)
    (hb : Bd x 100000) (hm : Sm cs) (h1 : -1000000 ≤ due) (h2 : due ≤ 1000000) :
    Calls Try.prog 72 #[.agg (NV cv hv x.s x.t x.d kv), iV c, iV due] w (RetRT cv hv B (timF cs c due x).1 (iV (timF cs c due x).2.1) (iV (timF cs c due x).2.2) w) := by
  obtain ⟨s, t, d, ks⟩ := x
  simp only [] at hk hka hkl ⊢
  have HC := Lib.hid hc
  obtain ⟨Ac, cc, rfl, -, -, -⟩ := hc.read
  obtain ⟨Ah, nh, ch, rfl⟩ := hh
  have HK := Lib.hid hk
  obtain ⟨Ak, ck, rfl, -, -, -⟩ := hk.sl.read
  rw [List.length_map, List.length_map] at *
  have HKA := Lib.hid hka
  have HA := Lib.hid ha
  by_cases hci : inC c
  · obtain ⟨hc0, hc8⟩ := hci
    obtain ⟨n, rfl⟩ : ∃ n : Nat, c = (n : Int) := ⟨c.toNat, by omega⟩
    have hn : n < 8 := by omega
    have CC := in_any (n : Int)
    rw [decide_eq_true (⟨hc0, hc8⟩ : 0 ≤ (n : Int) ∧ (n : Int) < 8)] at CC
    have HCC := Lib.hid CC
    obtain ⟨m, hmn⟩ : ∃ m, t n = m := ⟨_, rfl⟩
    have htb : (m : Int) ≤ 100000 := by have := (hb n).2.1; simp only [] at this; omega
    have HF : Hid (timF cs (n : Int) due ⟨s, t, d, ks⟩ = (⟨s, upd t n (m + 1), d, eatF cs ks (9, (n : Int), 0, (m : Int))⟩, (m : Int), due + (getF cs (9, (n : Int), 0, (m : Int))).getD 0)) := Lib.hid (by
      unfold timF
      rw [if_pos ⟨hc0, hc8⟩, ← hmn]
      rfl)
    rw [HF.out]
    simp only []
    have SM := Lib.hid hm
    have hcast : ((m + 1 : Nat) : Int) = (m : Int) + 1 := by omega
    have HCAST := Lib.hid hcast
    have HTN := Lib.hid hmn
    clear hm hb CC ha hka hc hk HF hcast hmn
    go_enter Try.func72, Try.ntmps72
    go_upto_region 1 with fail
    generalize hwB : (w.alloc (.cells (NV (.slice Ac cs.length cc) (.slice Ah nh ch) s t d (.slice Ak ks.length ck)) 32)).alloc (.cells NV0 32) = wB
    obtain ⟨hE, b0, b1, hs⟩ := letter2 hwB
    have n1 : wB.cell? ⟨w.heap.size, 66 + n, none⟩ = some (iV (m : Int)) := blkOf_cell (by rw [b0, ← HTN.out]; exact NV_tim hn)
    have nf : ∀ i, wB.frozen? ⟨w.heap.size, i, none⟩ = false := fun i => blkOf_frozen (by rw [b0, NV_size]; omega)
    have s0 : blkOf (wB.setCell ⟨w.heap.size, 66 + n, none⟩ (iV ((m : Int) + 1))) w.heap.size = NV (.slice Ac cs.length cc) (.slice Ah nh ch) s (upd t n (m + 1)) d (.slice Ak ks.length ck) := by
      rw [blkOf_set (by rw [b0, NV_size]; omega), b0, ← HCAST.out, NV_setTim hn]
    have s1 : blkOf (wB.setCell ⟨w.heap.size, 66 + n, none⟩ (iV ((m : Int) + 1))) (w.heap.size + 1) = NV0 := (blkOf_far (by show w.heap.size ≠ w.heap.size + 1; omega)).trans b1
    have E1 := hE.setb (Nat.le_refl _) (66 + n) (iV ((m : Int) + 1))
    have hs1 : (wB.setCell ⟨w.heap.size, 66 + n, none⟩ (iV ((m : Int) + 1))).heap.size = w.heap.size + 2 := by simp [hs]
    have S0 := Lib.hid s0
    have S1 := Lib.hid s1
    have E1 := Lib.hid E1
    have HS1 := Lib.hid hs1
    have HSB := Lib.hid hs
    clear hwB hE b0 b1 hs s0 s1 hs1
    go_wp2_with fail
    refine (HCC.out _).mono ?_
    rintro e1 w1 ⟨rfl, rfl⟩
    go_upto_region 6 with fail
    generalize hw1 : wB.setCell ⟨w.heap.size, 66 + n, none⟩ (iV ((m : Int) + 1)) = w1
    rw [hw1] at S0 S1 E1 HS1
    generalize hw2 : w1.alloc _ = w2
    have hE2 : Ext w1 w2 := by rw [← hw2]; exact (Ext.refl _).alloc _
    have q0 : w2.cell? ⟨w1.heap.size, 0, none⟩ = some (.int .u8 9) := by rw [← hw2]; exact new_at _ _ _ 0 _ rfl
    have q1 : w2.cell? ⟨w1.heap.size, 1, none⟩ = some (iV (n : Int)) := by rw [← hw2]; exact new_at _ _ _ 1 _ rfl
    have q2 : w2.cell? ⟨w1.heap.size, 2, none⟩ = some (iV 0) := by rw [← hw2]; exact new_at _ _ _ 2 _ rfl
    have q3 : w2.cell? ⟨w1.heap.size, 3, none⟩ = some (iV (m : Int)) := by rw [← hw2]; exact new_at _ _ _ 3 _ rfl
    have b0 : blkOf w2 w.heap.size = _ := (blkOf_ext hE2 (by rw [HS1.out]; omega)).trans S0.out
    have b1 : blkOf w2 (w.heap.size + 1) = NV0 := (blkOf_ext hE2 (by rw [HS1.out]; omega)).trans S1.out
    have hsz : w.heap.size + 1 < w2.heap.size := by have := hE2.size; have := HS1.out; omega
    have HE2 := Lib.hid (E1.out.trans hE2)
    rw [HS1.out] at q0 q1 q2 q3
    rw [HSB.out]
    have CG : Calls Try.prog 110 #[.agg (NV (.slice Ac cs.length cc) (.slice Ah nh ch) s (upd t n (m + 1)) d (.slice Ak ks.length ck)), .agg #[.int .u8 9, iV (n : Int), iV 0, iV (m : Int)]] w2 _ := get110_any cs _ _ (9, (n : Int), 0, (m : Int)) w2 NV_size NV_0 (HC.out.ext HE2.out) HA.out
    have HCG := Lib.hid CG
    clear hE2 hw1 hw2 CG S0 S1 E1 HS1 n1 nf
    go_wp2_with fail
    refine HCG.out.mono ?_
    rintro e3 w3 ⟨rfl, hE3⟩
    have b0 : blkOf w3 w.heap.size = _ := (blkOf_ext hE3 (by omega)).trans b0
    have b1 : blkOf w3 (w.heap.size + 1) = NV0 := (blkOf_ext hE3 (by omega)).trans b1
    have q0 := hE3.cell q0
    have q1 := hE3.cell q1
    have q2 := hE3.cell q2
    have q3 := hE3.cell q3
    have hsz : w.heap.size + 1 < w3.heap.size := by have := hE3.size; omega
    have HE3 := Lib.hid (HE2.out.trans hE3)
    clear hE3 HCG HE2
    cases hg : getF cs (9, (n : Int), 0, (m : Int)) with
    | none =>
      have HKS : Hid (eatF cs ks (9, (n : Int), 0, (m : Int)) = ks) := Lib.hid (by unfold eatF; rw [hg]; rfl)
      have HG := Lib.hid hg
      clear hg
      simp only [chO, Option.isSome_none]
      go_upto_region 7 with fail
      generalize hw4 : w3.alloc _ = w4
      have hE4 : Ext w3 w4 := by rw [← hw4]; exact (Ext.refl _).alloc _
      have b0 : blkOf w4 w.heap.size = _ := (blkOf_ext hE4 (by omega)).trans b0
      have b1 : blkOf w4 (w.heap.size + 1) = NV0 := (blkOf_ext hE4 (by omega)).trans b1
      have B1 := Lib.hid b1
      have HE4 := Lib.hid (HE3.out.trans hE4)
      clear hE4 hw4 q0 q1 q2 q3
      go_wp2_with fail
      refine bodyPost_ret (res32c Try.results72 (g := w.heap.size + 1) rfl rfl rfl (blkOf_setRow_same (by rw [B1.out, NV_size])) NV_size) rfl ?_
      rw [RetRT, HKS.out, HG.out]
      exact ⟨_, by simp, HK.out.ext (HE4.out.setRow (Nat.le_add_right _ 1) _), HE4.out.setRow (Nat.le_add_right _ 1) _⟩
    | some dd =>
      have hd := SM.out _ (getF_mem hg)
      simp only [] at hd
      obtain ⟨d1, d2⟩ := hd
      have HG := Lib.hid hg
      have hwr : IntKind.i64.wrap (due + dd) = due + dd := IntWalk.i64_in _ (by omega)
      clear hg
      simp only [chO, Option.isSome_some]
      go_upto_region 8 with fail
      generalize hw4 : w3.alloc _ = w4
      have hE4 : Ext w3 w4 := by rw [← hw4]; exact (Ext.refl _).alloc _
      have q5 : w4.cell? ⟨w3.heap.size, 5, none⟩ = some (iV dd) := by rw [← hw4]; exact new_at _ _ _ 5 _ rfl
      have b0 : blkOf w4 w.heap.size = NV (.slice Ac cs.length cc) (.slice Ah nh ch) s (upd t n (m + 1)) d (.slice Ak ks.length ck) := (blkOf_ext hE4 (by omega)).trans b0
      have b1 : blkOf w4 (w.heap.size + 1) = NV0 := (blkOf_ext hE4 (by omega)).trans b1
      have q0 := hE4.cell q0
      have q1 := hE4.cell q1
      have q2 := hE4.cell q2
      have q3 := hE4.cell q3
      have hs4 : w.heap.size + 1 < w4.heap.size := by have := hE4.size; omega
      have HE4 := Lib.hid (HE3.out.trans hE4)
      have CN := Lib.hid (fun W (hW : Ext w W) => (consume76_any _ _ _ cs s (upd t n (m + 1)) d ks (9, (n : Int), 0, (m : Int)) B W (HC.out.ext hW) ⟨Ah, nh, ch, rfl⟩ (HK.out.ext hW) HA.out HKA.out hkl (Nat.le_trans hB hW.size) : Calls Try.prog 76 #[.agg (NV (.slice Ac cs.length cc) (.slice Ah nh ch) s (upd t n (m + 1)) d (.slice Ak ks.length ck)), .agg #[.int .u8 9, iV (n : Int), iV 0, iV (m : Int)]] W _))
      clear hE4 hw4 HE3
      have KB : Hid (∀ W, Ext w4 W → (fun w' => blkOf w' w.heap.size = NV (.slice Ac cs.length cc) (.slice Ah nh ch) s (upd t n (m + 1)) d (.slice Ak ks.length ck) ∧ w'.cell? ⟨w.heap.size + 2, 0, none⟩ = some (.int .u8 9) ∧ w'.cell? ⟨w.heap.size + 2, 1, none⟩ = some (iV (n : Int)) ∧ w'.cell? ⟨w.heap.size + 2, 2, none⟩ = some (iV 0) ∧ w'.cell? ⟨w.heap.size + 2, 3, none⟩ = some (iV (m : Int)) ∧ w'.cell? ⟨w3.heap.size, 5, none⟩ = some (iV dd)) W) := Lib.hid (fun W h => ⟨(blkOf_ext h (by omega)).trans b0, h.cell q0, h.cell q1, h.cell q2, h.cell q3, h.cell q5⟩)
      refine wp_region_noPanic ?_
      refine wp_region_held_drew (S := (fun w' => blkOf w' w.heap.size = NV (.slice Ac cs.length cc) (.slice Ah nh ch) s (upd t n (m + 1)) d (.slice Ak ks.length ck) ∧ w'.cell? ⟨w.heap.size + 2, 0, none⟩ = some (.int .u8 9) ∧ w'.cell? ⟨w.heap.size + 2, 1, none⟩ = some (iV (n : Int)) ∧ w'.cell? ⟨w.heap.size + 2, 2, none⟩ = some (iV 0) ∧ w'.cell? ⟨w.heap.size + 2, 3, none⟩ = some (iV (m : Int)) ∧ w'.cell? ⟨w3.heap.size, 5, none⟩ = some (iV dd))) (by kernel_rfl) ?_ (fun hHeld => ?_)
      · exact KB.out _ ((Ext.refl _).drew)
      refine wpAnyH_take (i := 0) (v := ?_) (oper_at rfl) (by kernel_rfl) (by kernel_rfl) (by kernel_rfl) (fun _ _ _ h => h) (Or.inl ⟨by rfl, ?_⟩) hHeld ?_
      rotate_left
      · (intro ww hSw; (try dsimp only at hSw); go_simp; try (with_reducible rfl))
      try simp only [Act.put, List.setIfInBounds_toArray, List.set_cons_zero, List.set_cons_succ]
      refine wpAnyH_take (i := 1) (v := ?_) (oper_at rfl) (by kernel_rfl) (by kernel_rfl) (by kernel_rfl) (fun _ _ _ h => h) (Or.inl ⟨by rfl, ?_⟩) hHeld ?_
      rotate_left
      · (intro ww hSw; (try dsimp only at hSw); go_simp; try (with_reducible rfl))
      try simp only [Act.put, List.setIfInBounds_toArray, List.set_cons_zero, List.set_cons_succ]
      refine wpAnyH_take (i := 3) (v := ?_) (oper_at rfl) (by kernel_rfl) (by kernel_rfl) (by kernel_rfl) (fun _ _ _ h => h) (Or.inl ⟨by rfl, ?_⟩) hHeld ?_
      rotate_left
      · (intro ww hSw; (try dsimp only at hSw); go_simp; try (with_reducible rfl))
      try simp only [Act.put, List.setIfInBounds_toArray, List.set_cons_zero, List.set_cons_succ]
      refine wpAnyH_take (i := 4) (v := ?_) (oper_at rfl) (by kernel_rfl) (by kernel_rfl) (by kernel_rfl) (fun _ _ _ h => h) (Or.inl ⟨by rfl, ?_⟩) hHeld ?_
      rotate_left
      · (intro ww hSw; (try dsimp only at hSw); go_simp; try (with_reducible rfl))
      try simp only [Act.put, List.setIfInBounds_toArray, List.set_cons_zero, List.set_cons_succ]
      refine wpAnyH_take (i := 5) (v := ?_) (oper_at rfl) (by kernel_rfl) (by kernel_rfl) (by kernel_rfl) (fun _ _ _ h => h) (Or.inl ⟨by rfl, ?_⟩) hHeld ?_
      rotate_left
      · (intro ww hSw; (try dsimp only at hSw); go_simp; try (with_reducible rfl))
      try simp only [Act.put, List.setIfInBounds_toArray, List.set_cons_zero, List.set_cons_succ]
      refine wpAnyH_take (i := 6) (v := ?_) (oper_at rfl) (by kernel_rfl) (by kernel_rfl) (by kernel_rfl) (fun _ _ _ h => h) (Or.inl ⟨by rfl, ?_⟩) hHeld ?_
      rotate_left
      · (intro ww hSw; (try dsimp only at hSw); go_simp; try (with_reducible rfl))
      try simp only [Act.put, List.setIfInBounds_toArray, List.set_cons_zero, List.set_cons_succ]
      refine wpAnyH_take (i := 7) (v := ?_) (oper_at rfl) (by kernel_rfl) (by kernel_rfl) (by kernel_rfl) (fun _ _ _ h => h) (Or.inl ⟨by rfl, ?_⟩) hHeld ?_
      rotate_left
      · (intro ww hSw; (try dsimp only at hSw); go_simp; try (with_reducible rfl))
      try simp only [Act.put, List.setIfInBounds_toArray, List.set_cons_zero, List.set_cons_succ]
      refine wpAnyH_ready (rs := [2]) (by kernel_rfl) (by simp) (AllReadyH.cons (oper_at rfl) (fun K hK => ?_) AllReadyH.nil)
      go_simp
      go_at_call 76
      refine (CN.out _ (HE4.out.drew)).mono ?_
      rintro e5 w5 ⟨kv5, rfl, hr5, hE5⟩
      have hE5' : Ext w4 w5 := ((Ext.refl _).drew).trans hE5
      obtain ⟨A5, c5, e5, -, -⟩ := hr5.form
      rw [List.length_map] at e5
      subst e5
      have HR5 := Lib.hid hr5
      have HE5 := Lib.hid (HE4.out.trans hE5')
      have c1 : blkOf w5 (w.heap.size + 1) = NV0 := (blkOf_ext hE5' (by omega)).trans b1
      have C1 := Lib.hid c1
      have KS := Lib.hid (KB.out _ hE5')
      clear hr5 hE5
      refine hK.out _ _ ?_ (fun hHeld => ?_)
      · first | exact KS.out | exact KB.out _ hE5'
      clear hK K
      try simp only [Act.put, List.setIfInBounds_toArray, List.set_cons_zero, List.set_cons_succ]
      refine wpAnyH_ready (rs := [8]) (by kernel_rfl) (by simp) (AllReadyH.cons (oper_at rfl) (fun K hK => ?_) AllReadyH.nil)
      go_simp
      refine hK.out _ _ ?_ (fun hHeld => ?_)
      · (obtain ⟨g0, g1, g2, g3, g4, g5⟩ := KS.out; refine ⟨(blkOf_setRow_other (by omega)).trans g0, ?_, ?_, ?_, ?_, ?_⟩ <;> (refine (cell_kept (setRow_other _ _ _ _ (by omega))).trans ?_; assumption))
      clear hK K
      try simp only [Act.put, List.setIfInBounds_toArray, List.set_cons_zero, List.set_cons_succ]
      refine wpAnyH_take (i := 9) (v := ?_) (oper_at rfl) (by kernel_rfl) (by kernel_rfl) (by kernel_rfl) (fun _ _ _ h => h) (Or.inl ⟨by rfl, ?_⟩) hHeld ?_
      rotate_left
      · (intro ww hSw; (try dsimp only at hSw); go_simp; try (with_reducible rfl))
      try simp only [Act.put, List.setIfInBounds_toArray, List.set_cons_zero, List.set_cons_succ]
      refine wpAnyH_take (i := 10) (v := ?_) (oper_at rfl) (by kernel_rfl) (by kernel_rfl) (by kernel_rfl) (fun _ _ _ h => h) (Or.inl ⟨by rfl, ?_⟩) hHeld ?_
      rotate_left
      · (intro ww hSw; (try dsimp only at hSw); go_simp; try (with_reducible rfl))
      try simp only [Act.put, List.setIfInBounds_toArray, List.set_cons_zero, List.set_cons_succ]
      refine wpAnyH_done (by kernel_rfl) ?_ _
      refine NoPanic.normal ?_
      go_wp2_with fail
      refine bodyPost_ret (res32c Try.results72 (g := w.heap.size + 1) rfl rfl rfl (blkOf_setRow_same (by rw [C1.out, NV_size])) NV_size) rfl ?_
      rw [RetRT]
      exact ⟨_, by simp [HG.out], HR5.out.setFar (by rw [C1.out, NV_size]) _, HE5.out.setRow (Nat.le_add_right _ 1) _⟩
  · have HF : Hid (timF cs c due ⟨s, t, d, ks⟩ = (⟨s, t, d, ks⟩, -1, due)) := Lib.hid (by unfold timF; rw [if_neg hci])
    rw [HF.out]
    have CC := in_any c
    rw [decide_eq_false (show ¬ (0 ≤ c ∧ c < 8) from hci)] at CC
    have HCC := Lib.hid CC
    clear CC hci hc hk ha hka
    go_enter Try.func72, Try.ntmps72
    go_upto_region 1 with fail
    generalize hwB : (w.alloc (.cells (NV (.slice Ac cs.length cc) (.slice Ah nh ch) s t d (.slice Ak ks.length ck)) 32)).alloc (.cells NV0 32) = wB
    obtain ⟨hE, b0, b1, hs⟩ := letter2 hwB
    have HE := Lib.hid hE
    have B1 := Lib.hid b1
    clear hwB hE hs
    go_wp2_with fail
    refine (HCC.out _).mono ?_
    rintro e1 w1 ⟨rfl, rfl⟩
    go_wp2_with fail
    refine bodyPost_ret (res32c Try.results72 (g := w.heap.size + 1) rfl rfl rfl (blkOf_setRow_same (by rw [B1.out, NV_size])) NV_size) rfl ?_
    exact ⟨_, rfl, HK.out.ext (HE.out.setRow (Nat.le_add_right _ 1) _), HE.out.setRow (Nat.le_add_right _ 1) _⟩
end Go.Proofs.Ytehmpbaiefbemaa
