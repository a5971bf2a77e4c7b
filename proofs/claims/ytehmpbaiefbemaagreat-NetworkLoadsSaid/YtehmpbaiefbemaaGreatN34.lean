/- The reference's Send. -/
import Derived.Test.YtehmpbaiefbemaaGreatN33
namespace Go.Proofs.YtehmpbaiefbemaaGreat
open Go.RowKit
attribute [local go_sem ↓] Go.wp_at_zero Go.wp_at_succ
attribute [local go_sem ↓] eq73 ld32 st32 al32
attribute [local go_sem] run_eq73 run_ld32 run_st32n run_al32 blkOf_drew blkOf_setRow_same blkOf_setRow_other NV_size
def RetRS (cv hv : Value) (B : Nat) (y : St) (ord : Int) (ts : List Int) (w : World) (e : Ending) (w' : World) : Prop :=
  ∃ kv v, e = .returned (.tuple #[.agg (NV cv hv y.s y.t y.d kv), iV ord, v]) ∧ Row 4 w' B 58 kv (y.ks.map encK) ∧ SlAt 1 w' v (ts.map fun x => [iV x]) ∧ Ext w w'
theorem NV_setSent' {c h u : Value} {s t d : Nat → Nat} {k v i : Nat} {x : Int} (hk : k < 64) (hi : i = 2 + k) (hx : ((v : Nat) : Int) = x) : (NV c h s t d u).setIfInBounds i (iV x) = NV c h (upd s k v) t d u := by
  rw [← hx, hi]
  exact NV_setSent hk
theorem new_atn {w : World} {c : Array Value} {T o n : Nat} {v : Value} (hn : n = w.heap.size) (h : c[o]? = some v) : (w.alloc (.cells c T)).cell? ⟨n, o, none⟩ = some v := by
  subst hn
  exact new_at _ _ _ _ _ h
theorem frozen_atn {w : World} {c : Array Value} {T n : Nat} (hn : n = w.heap.size) (i : Nat) : (w.alloc (.cells c T)).frozen? ⟨n, i, none⟩ = false := by
  subst hn
  exact World.frozen?_alloc_at _ _ _ _ rfl
theorem blkOf_alloc {w : World} {g : Nat} (h : g < w.heap.size) (o : Obj) : blkOf (w.alloc o) g = blkOf w g := blkOf_ext ((Ext.refl w).alloc o) h
attribute [local go_sem] blkOf_alloc
theorem sl1 {w : World} {b : Nat} {x : Int} (h : w.cell? ⟨b, 0, none⟩ = some (iV x)) : SlAt 1 w (.slice (some ⟨b, 0, none⟩) 1 1) ([x].map fun x => [iV x]) := by
  refine ⟨⟨_, 1, rfl, by simp, by unfold maxLen; omega, fun _ => ⟨b, 0, rfl, World.block_lt_of_cell? w _ h, fun j u hj => ?_⟩⟩, Wide.map (f := fun x : Int => [iV x]) (fun _ => rfl) _⟩
  match j, hj with
  | 0, hj => simp at hj; rw [← hj]; exact h
theorem sl2 {w : World} {b : Nat} {x y : Int} (h : w.cell? ⟨b, 0, none⟩ = some (iV x)) (k : w.cell? ⟨b, 1, none⟩ = some (iV y)) : SlAt 1 w (.slice (some ⟨b, 0, none⟩) 2 2) ([x, y].map fun x => [iV x]) := by
  refine ⟨⟨_, 2, rfl, by simp, by unfold maxLen; omega, fun _ => ⟨b, 0, rfl, World.block_lt_of_cell? w _ h, fun j u hj => ?_⟩⟩, Wide.map (f := fun x : Int => [iV x]) (fun _ => rfl) _⟩
  match j, hj with
  | 0, hj => simp at hj; rw [← hj]; exact h
  | 1, hj => simp at hj; rw [← hj]; exact k
set_option maxRecDepth 100000 in
set_option maxHeartbeats 8000000 in
theorem rsend_any (cv hv kv : Value) (cs : List Ch) (hs : List Jh) (x : St) (B : Nat) (fi ti tick lat : Int) (w : World) (hc : CsAt w cv cs) (ho : HsAt w hv hs) (hk : Row 4 w B 58 kv (x.ks.map encK)) (ha : AscC cs) (hka : Asc x.ks) (hkl : x.ks.length + 2 ≤ 1000) (hB : B ≤ w.heap.size)
    (hb : Bd x 100000) (hm : Sm cs) (h1 : -1000000 ≤ tick) (h2 : tick ≤ 1000000) (h3 : -1000000 ≤ lat) (h4 : lat ≤ 1000000) :
    Calls Tryz.prog 61 #[.agg (NV cv hv x.s x.t x.d kv), iV fi, iV ti, iV tick, iV lat] w (RetRS cv hv B (sendF cs hs fi ti tick lat x).1 (sendF cs hs fi ti tick lat x).2.1 (sendF cs hs fi ti tick lat x).2.2 w) := by
  obtain ⟨s, t, d, ks⟩ := x
  simp only [] at hk hka hkl hb ⊢
  have HC := Lib.hid hc
  have HO := Lib.hid ho
  obtain ⟨Ac, cc, rfl, -, -, -⟩ := hc.read
  obtain ⟨Ah, ch, rfl, -, -, -⟩ := ho.sl.read
  have HK := Lib.hid hk
  obtain ⟨Ak, ck, rfl, -, -, -⟩ := hk.sl.read
  rw [List.length_map, List.length_map, List.length_map] at *
  have HKA := Lib.hid hka
  have HA := Lib.hid ha
  by_cases hci : inC fi ∧ inC ti
  · obtain ⟨⟨hf0, hf8⟩, ht0, ht8⟩ := hci
    obtain ⟨f, rfl⟩ : ∃ n : Nat, fi = (n : Int) := ⟨fi.toNat, by omega⟩
    obtain ⟨g, rfl⟩ : ∃ n : Nat, ti = (n : Int) := ⟨ti.toNat, by omega⟩
    have hf : f < 8 := by omega
    have ht : g < 8 := by omega
    obtain ⟨n, hn⟩ : ∃ n, s (f * 8 + g) = n := ⟨_, rfl⟩
    have htb : (n : Int) ≤ 100000 := by have := (hb (f * 8 + g)).1; simp only [] at this; omega
    have CF := in_any (f : Int)
    rw [decide_eq_true (⟨hf0, hf8⟩ : 0 ≤ (f : Int) ∧ (f : Int) < 8)] at CF
    have HCF := Lib.hid CF
    have CT := in_any (g : Int)
    rw [decide_eq_true (⟨ht0, ht8⟩ : 0 ≤ (g : Int) ∧ (g : Int) < 8)] at CT
    have HCT := Lib.hid CT
    have HF := Lib.hid (sendF_in (cs := cs) (hs := hs) (tick := tick) (lat := lat) (x := ⟨s, t, d, ks⟩) hf ht hn rfl)
    have SM := Lib.hid hm
    have HN := Lib.hid hn
    clear hm hb CF CT ha hka hc ho hk hn
    generalize sendF cs hs (f : Int) (g : Int) tick lat ⟨s, t, d, ks⟩ = res at *
    have hwr : IntKind.i64.wrap ((n : Int) + 1) = (n : Int) + 1 := IntWalk.i64_in _ (by omega)
    go_enter Tryz.func61, Tryz.ntmps61
    go_upto_region 1 with fail
    generalize hwB : (w.alloc (.cells (NV (.slice Ac cs.length cc) (.slice Ah hs.length ch) s t d (.slice Ak ks.length ck)) 32)).alloc (.cells NV0 32) = wB
    obtain ⟨hE, b0, b1, hsB⟩ := letter2 hwB
    have n1 : wB.cell? ⟨w.heap.size, 2 + f * 8 + g, none⟩ = some (iV (n : Int)) := blkOf_cell (by rw [b0, Nat.add_assoc, ← HN.out]; exact NV_sent (by omega))
    have nf : ∀ i, wB.frozen? ⟨w.heap.size, i, none⟩ = false := fun i => blkOf_frozen (by rw [b0, NV_size]; omega)
    have HE := Lib.hid hE
    have B0 := Lib.hid b0
    have B1 := Lib.hid b1
    have HSB := Lib.hid hsB
    clear hwB hE b0 b1 hsB
    go_wp2_with fail
    refine (HCF.out _).mono ?_
    rintro e1 w1 ⟨rfl, rfl⟩
    go_wp2_with fail
    refine (HCT.out _).mono ?_
    rintro e1 w1 ⟨rfl, rfl⟩
    go_upto_region 4 with fail
    refine wp_region_noPanic ?_
    refine wp_region_X (S := (fun ww => ww = wB.drew)) (z := 10) (by kernel_rfl) ?_ (fun hHeld => ?_)
    · rfl
    refine wpAnyX_take (i := 0) (v := ?_) (oper_at rfl) (by kernel_rfl) (by kernel_rfl) (by kernel_rfl) (by kernel_rfl) (fun _ _ _ h => h) (Or.inl ⟨by rfl, ?_⟩) hHeld ?_
    rotate_left
    · (intro ww hSw; (try dsimp only at hSw); go_simp; try (with_reducible rfl))
    try simp only [Act.put, List.setIfInBounds_toArray, List.set_cons_zero, List.set_cons_succ]
    refine wpAnyX_take (i := 1) (v := ?_) (oper_at rfl) (by kernel_rfl) (by kernel_rfl) (by kernel_rfl) (by kernel_rfl) (fun _ _ _ h => h) (Or.inl ⟨by rfl, ?_⟩) hHeld ?_
    rotate_left
    · (intro ww hSw; (try dsimp only at hSw); go_simp; try (with_reducible rfl))
    try simp only [Act.put, List.setIfInBounds_toArray, List.set_cons_zero, List.set_cons_succ]
    refine wpAnyX_take (i := 2) (v := ?_) (oper_at rfl) (by kernel_rfl) (by kernel_rfl) (by kernel_rfl) (by kernel_rfl) (fun _ _ _ h => h) (Or.inl ⟨by rfl, ?_⟩) hHeld ?_
    rotate_left
    · (intro ww hSw; (try dsimp only at hSw); go_simp; try (with_reducible rfl))
    try simp only [Act.put, List.setIfInBounds_toArray, List.set_cons_zero, List.set_cons_succ]
    refine wpAnyX_take (i := 3) (v := ?_) (oper_at rfl) (by kernel_rfl) (by kernel_rfl) (by kernel_rfl) (by kernel_rfl) (fun _ _ _ h => h) (Or.inl ⟨by rfl, ?_⟩) hHeld ?_
    rotate_left
    · (intro ww hSw; (try dsimp only at hSw); go_simp; try (with_reducible rfl))
    try simp only [Act.put, List.setIfInBounds_toArray, List.set_cons_zero, List.set_cons_succ]
    refine wpAnyX_take (i := 4) (v := ?_) (oper_at rfl) (by kernel_rfl) (by kernel_rfl) (by kernel_rfl) (by kernel_rfl) (fun _ _ _ h => h) (Or.inl ⟨by rfl, ?_⟩) hHeld ?_
    rotate_left
    · (intro ww hSw; (try dsimp only at hSw); go_simp; try (with_reducible rfl))
    try simp only [Act.put, List.setIfInBounds_toArray, List.set_cons_zero, List.set_cons_succ]
    refine wpAnyX_take (i := 5) (v := ?_) (oper_at rfl) (by kernel_rfl) (by kernel_rfl) (by kernel_rfl) (by kernel_rfl) (fun _ _ _ h => h) (Or.inl ⟨by rfl, ?_⟩) hHeld ?_
    rotate_left
    · (intro ww hSw; (try dsimp only at hSw); go_simp; try (with_reducible rfl))
    try simp only [Act.put, List.setIfInBounds_toArray, List.set_cons_zero, List.set_cons_succ]
    refine wpAnyX_take (i := 6) (v := ?_) (oper_at rfl) (by kernel_rfl) (by kernel_rfl) (by kernel_rfl) (by kernel_rfl) (fun _ _ _ h => h) (Or.inl ⟨by rfl, ?_⟩) hHeld ?_
    rotate_left
    · (intro ww hSw; (try dsimp only at hSw); go_simp; try (with_reducible rfl))
    try simp only [Act.put, List.setIfInBounds_toArray, List.set_cons_zero, List.set_cons_succ]
    refine wpAnyX_ready (rs := [7]) (by kernel_rfl) (by simp) (AllReadyX.cons (by decide) (oper_at rfl) (fun K hK => ?_) AllReadyX.nil)
    go_simp
    refine hK.out _ _ ?_ (fun hHeld => ?_)
    · rfl
    clear hK K
    try simp only [Act.put, List.setIfInBounds_toArray, List.set_cons_zero, List.set_cons_succ]
    refine wpAnyX_ready (rs := [8]) (by kernel_rfl) (by simp) (AllReadyX.cons (by decide) (oper_at rfl) (fun K hK => ?_) AllReadyX.nil)
    go_simp
    refine hK.out _ _ ?_ (fun hHeld => ?_)
    · rfl
    clear hK K
    try simp only [Act.put, List.setIfInBounds_toArray, List.set_cons_zero, List.set_cons_succ]
    refine wpAnyX_ready (rs := [9]) (by kernel_rfl) (by simp) (AllReadyX.cons (by decide) (oper_at rfl) (fun K hK => ?_) AllReadyX.nil)
    go_simp
    refine hK.out _ _ ?_ (fun hHeld => ?_)
    · rfl
    clear hK K
    try simp only [Act.put, List.setIfInBounds_toArray, List.set_cons_zero, List.set_cons_succ]
    refine wpAnyX_ready (rs := [10]) (by kernel_rfl) (by simp) (AllReadyX.last rfl (oper_at rfl) (fun K hK => ?_))
    go_simp
    refine hK.out _ _ ?_
    clear hK K
    try simp only [Act.put, List.setIfInBounds_toArray, List.set_cons_zero, List.set_cons_succ]
    refine wpAnyX_done (by kernel_rfl) ?_ _
    refine NoPanic.normal ?_
    try simp only [hwr]
    try simp only [World.setCell_drew]
    generalize hw1 : (wB.setCell ⟨w.heap.size, 2 + f * 8 + g, none⟩ (.int .i64 ((n : Int) + 1))).drew = w1
    obtain ⟨s1, hs1⟩ : ∃ s1, upd s (f * 8 + g) (n + 1) = s1 := ⟨_, rfl⟩
    have b0 : blkOf w1 w.heap.size = NV (.slice Ac cs.length cc) (.slice Ah hs.length ch) s1 t d (.slice Ak ks.length ck) := by
      rw [← hw1, blkOf_drew, blkOf_set (by rw [B0.out, NV_size]; omega), B0.out, NV_setSent' (k := f * 8 + g) (v := n + 1) (by omega) (by omega) (by omega), hs1]
    have b1 : blkOf w1 (w.heap.size + 1) = NV0 := by rw [← hw1, blkOf_drew]; exact (blkOf_far (by show w.heap.size ≠ w.heap.size + 1; omega)).trans B1.out
    have hE1 : Ext w w1 := by rw [← hw1]; exact (HE.out.setb (Nat.le_refl _) _ _).drew
    have hz1 : w1.heap.size = w.heap.size + 2 := by rw [← hw1]; simp [HSB.out]
    simp only [hs1] at HF
    have HE1 := Lib.hid hE1
    have HZ1 := Lib.hid hz1
    have CH := Lib.hid (held21_any hs (NV (.slice Ac cs.length cc) (.slice Ah hs.length ch) s1 t d (.slice Ak ks.length ck)) _ ((f : Int), (g : Int), (n : Int)) w1 NV_size NV_1 (HO.out.ext hE1))
    have CG := Lib.hid (fun (kk : Nat) (u : Value) W (hW : Ext w W) => get110_any cs (NV (.slice Ac cs.length cc) (.slice Ah hs.length ch) s1 t d u) _ (kk, (f : Int), (g : Int), (n : Int)) W NV_size NV_0 (HC.out.ext hW) HA.out)
    have CN := Lib.hid (fun (kk : Nat) (A : Option Addr) (nn c2 : Nat) (us : List Ky) W (hW : Ext w W) (hr : Row 4 W B 58 (.slice A nn c2) (us.map encK)) (hu : Asc us) (hj : us.length ≤ 1000) => consume76_own _ _ _ cs s1 t d us (kk, (f : Int), (g : Int), (n : Int)) B W (HC.out.ext hW) ⟨Ah, hs.length, ch, rfl⟩ hr HA.out hu hj (Nat.le_trans hB hW.size))
    clear hw1 hs1 n1 nf B0 B1 HE hz1 hE1 HN
    go_wp2_with fail
    refine CH.out.mono ?_
    rintro e2 w2 ⟨b, rfl, hb, hE2⟩
    have HB : Hid (hasB hs ((f : Int), (g : Int), (n : Int)) = b) := Lib.hid (by
      rw [← hasB_iff] at hb
      cases b <;> cases hh : hasB hs ((f : Int), (g : Int), (n : Int)) <;> simp_all)
    have b0 := (blkOf_ext hE2 (by rw [HZ1.out]; omega)).trans b0
    have b1 : blkOf w2 (w.heap.size + 1) = NV0 := (blkOf_ext hE2 (by rw [HZ1.out]; omega)).trans b1
    have hz2 : w.heap.size + 1 < w2.heap.size := by have := hE2.size; rw [HZ1.out] at this; omega
    have HE2 := Lib.hid (HE1.out.trans hE2)
    clear hb hE2 CH HE1 HZ1 HSB
    cases b with
    | true =>
      have B1 := Lib.hid b1
      go_wp2_with fail
      refine bodyPost_ret (res32c Tryz.results61 (g := w.heap.size + 1) rfl rfl rfl (blkOf_setRow_same (by rw [B1.out, NV_size])) NV_size) rfl ?_
      rw [RetRS, HF.out, if_pos HB.out]
      exact ⟨_, _, rfl, HK.out.ext (HE2.out.setRow (Nat.le_add_right _ 1) _), SlAt.nil _ _, HE2.out.setRow (Nat.le_add_right _ 1) _⟩
    | false =>
      rw [HB.out, if_neg (by decide)] at HF
      go_upto_region 8 with fail
      generalize hw3 : w2.alloc _ = w3
      have hE3 : Ext w2 w3 := by rw [← hw3]; exact (Ext.refl _).alloc _
      have q0 : w3.cell? ⟨w2.heap.size, 0, none⟩ = some (.int .u8 5) := by rw [← hw3]; exact new_at _ _ _ 0 _ rfl
      have q1 : w3.cell? ⟨w2.heap.size, 1, none⟩ = some (iV (f : Int)) := by rw [← hw3]; exact new_at _ _ _ 1 _ rfl
      have q2 : w3.cell? ⟨w2.heap.size, 2, none⟩ = some (iV (g : Int)) := by rw [← hw3]; exact new_at _ _ _ 2 _ rfl
      have q3 : w3.cell? ⟨w2.heap.size, 3, none⟩ = some (iV (n : Int)) := by rw [← hw3]; exact new_at _ _ _ 3 _ rfl
      have b0 := (blkOf_ext hE3 (by omega)).trans b0
      have b1 : blkOf w3 (w.heap.size + 1) = NV0 := (blkOf_ext hE3 (by omega)).trans b1
      have HE3 := Lib.hid (HE2.out.trans hE3)
      have hz3 : w2.heap.size < w3.heap.size := World.block_lt_of_cell? w3 _ q0
      have CG5 : Calls Tryz.prog 84 #[.agg (NV (.slice Ac cs.length cc) (.slice Ah hs.length ch) s1 t d (.slice Ak ks.length ck)), .agg #[.int .u8 5, iV (f : Int), iV (g : Int), iV (n : Int)]] w3 _ := CG.out 5 _ w3 HE3.out
      have HCG5 := Lib.hid CG5
      clear CG5 hw3 hE3 HE2
      go_wp2_with fail
      refine HCG5.out.mono ?_
      rintro e4 w4 ⟨rfl, hE4⟩
      have b0 := (blkOf_ext hE4 (by omega)).trans b0
      have b1 : blkOf w4 (w.heap.size + 1) = NV0 := (blkOf_ext hE4 (by omega)).trans b1
      have q0 := hE4.cell q0
      have q1 := hE4.cell q1
      have q2 := hE4.cell q2
      have q3 := hE4.cell q3
      have hz4 : w2.heap.size < w4.heap.size := Nat.lt_of_lt_of_le hz3 hE4.size
      have HE4 := Lib.hid (HE3.out.trans hE4)
      clear hE4 HCG5 HE3 hz3
      cases hg5 : getF cs (5, (f : Int), (g : Int), (n : Int)) with
      | some dd =>
        rw [if_pos (by rw [hg5]; rfl)] at HF
        clear hg5
        simp only [chO, Option.isSome_some]
        go_upto_region 10 with fail
        generalize hw5 : w4.alloc _ = w5
        have hE5 : Ext w4 w5 := by rw [← hw5]; exact (Ext.refl _).alloc _
        have b0 := (blkOf_ext hE5 (by omega)).trans b0
        have b1 : blkOf w5 (w.heap.size + 1) = NV0 := (blkOf_ext hE5 (by omega)).trans b1
        have q0 := hE5.cell q0
        have q1 := hE5.cell q1
        have q2 := hE5.cell q2
        have q3 := hE5.cell q3
        have hz5 : w2.heap.size < w5.heap.size := Nat.lt_of_lt_of_le hz4 hE5.size
        have HE5 := Lib.hid (HE4.out.trans hE5)
        have CN5 : Calls Tryz.prog 60 #[.agg (NV (.slice Ac cs.length cc) (.slice Ah hs.length ch) s1 t d (.slice Ak ks.length ck)), .agg #[.int .u8 5, iV (f : Int), iV (g : Int), iV (n : Int)]] w5 _ := CN.out 5 Ak ks.length ck ks w5 HE5.out (HK.out.ext HE5.out) HKA.out (by omega)
        have HCN5 := Lib.hid CN5
        clear CN5 hw5 hE5 HE4 hz4
        go_wp2_with fail
        refine HCN5.out.mono ?_
        rintro e6 w6 ⟨kv6, rfl, hr6, hE6, -⟩
        obtain ⟨A6, c6, e6, -, -⟩ := hr6.form
        rw [List.length_map] at e6
        subst e6
        have HR6 := Lib.hid hr6
        have b1 : blkOf w6 (w.heap.size + 1) = NV0 := (blkOf_ext hE6 (by omega)).trans b1
        have B1 := Lib.hid b1
        have HE6 := Lib.hid (HE5.out.trans hE6)
        clear hr6 hE6 HCN5 HE5 q0 q1 q2 q3
        go_wp2_with fail
        refine bodyPost_ret (res32c Tryz.results61 (g := w.heap.size + 1) rfl rfl rfl (blkOf_setRow_same (by rw [B1.out, NV_size])) NV_size) rfl ?_
        rw [RetRS, HF.out]
        exact ⟨_, _, rfl, HR6.out.setFar (by rw [B1.out, NV_size]) _, SlAt.nil _ _, HE6.out.setRow (Nat.le_add_right _ 1) _⟩
      | none =>
        rw [if_neg (by rw [hg5]; decide)] at HF
        clear hg5
        simp only [chO, Option.isSome_none]
        obtain ⟨lm, hlm⟩ : ∃ lm, max lat 1 = lm := ⟨_, rfl⟩
        have hlm1 : 1 ≤ lm := by omega
        have hlm2 : lm ≤ 1000000 := by omega
        obtain ⟨at6, hat6⟩ : ∃ y, tick + lm + (getF cs (6, (f : Int), (g : Int), (n : Int))).getD 0 = y := ⟨_, rfl⟩
        rw [hlm, hat6] at HF
        have HAT := Lib.hid hat6
        obtain ⟨ks6, hks6⟩ : ∃ y, eatF cs ks (6, (f : Int), (g : Int), (n : Int)) = y := ⟨_, rfl⟩
        have HKS6 := Lib.hid hks6
        have HKA6 : Hid (Asc ks6) := Lib.hid (by rw [← hks6]; exact eatF_asc HKA.out)
        have HKL6 : Hid (ks6.length ≤ 999) := Lib.hid (by rw [← hks6]; have := eatF_len (cs := cs) (ks := ks) (k := (6, (f : Int), (g : Int), (n : Int))); omega)
        clear hat6 hks6 q0 q1 q2 q3
        go_upto_region 13 with fail
        generalize hw5 : (w4.alloc _).alloc _ = w5
        have hE5 : Ext w4 w5 := by rw [← hw5]; exact ((Ext.refl _).alloc _).alloc _
        obtain ⟨K, hKe⟩ : ∃ K, w4.heap.size + 1 = K := ⟨_, rfl⟩
        have q0 : w5.cell? ⟨K, 0, none⟩ = some (.int .u8 6) := by rw [← hw5]; exact new_atn (by simp [hKe]) rfl
        have q1 : w5.cell? ⟨K, 1, none⟩ = some (iV (f : Int)) := by rw [← hw5]; exact new_atn (by simp [hKe]) rfl
        have q2 : w5.cell? ⟨K, 2, none⟩ = some (iV (g : Int)) := by rw [← hw5]; exact new_atn (by simp [hKe]) rfl
        have q3 : w5.cell? ⟨K, 3, none⟩ = some (iV (n : Int)) := by rw [← hw5]; exact new_atn (by simp [hKe]) rfl
        have qf : ∀ i, w5.frozen? ⟨K, i, none⟩ = false := fun i => by rw [← hw5]; exact frozen_atn (by simp [hKe]) i
        have hKB : w.heap.size + 1 < K := by omega
        rw [hKe]
        have b0 := (blkOf_ext hE5 (by omega)).trans b0
        have b1 : blkOf w5 (w.heap.size + 1) = NV0 := (blkOf_ext hE5 (by omega)).trans b1
        have HE5 := Lib.hid (HE4.out.trans hE5)
        have hz5 : K < w5.heap.size := World.block_lt_of_cell? w5 _ q0
        have CG6 : Calls Tryz.prog 84 #[.agg (NV (.slice Ac cs.length cc) (.slice Ah hs.length ch) s1 t d (.slice Ak ks.length ck)), .agg #[.int .u8 6, iV (f : Int), iV (g : Int), iV (n : Int)]] w5 _ := CG.out 6 _ w5 HE5.out
        have HCG6 := Lib.hid CG6
        clear CG6 hw5 hE5 HE4 hKe hz4 hz2
        go_wp2_with fail
        refine HCG6.out.mono ?_
        rintro e6 w6 ⟨rfl, hE6⟩
        have b0 := (blkOf_ext hE6 (by omega)).trans b0
        have b1 : blkOf w6 (w.heap.size + 1) = NV0 := (blkOf_ext hE6 (by omega)).trans b1
        have q0 := hE6.cell q0
        have q1 := hE6.cell q1
        have q2 := hE6.cell q2
        have q3 := hE6.cell q3
        have qf : ∀ i, w6.frozen? ⟨K, i, none⟩ = false := fun i => (Below.frozen hE6 (p := ⟨K, i, none⟩) hz5).trans (qf i)
        have hz6 : K < w6.heap.size := Nat.lt_of_lt_of_le hz5 hE6.size
        have HE6 := Lib.hid (HE5.out.trans hE6)
        clear hE6 HCG6 HE5 hz5
        obtain ⟨⟨⟨c1, c2, c3, c4⟩, c5⟩, hco⟩ : ∃ y, chO (6, (f : Int), (g : Int), (n : Int)) (getF cs (6, (f : Int), (g : Int), (n : Int))) = y := ⟨_, rfl⟩
        obtain ⟨ok, hok⟩ : ∃ ok, (getF cs (6, (f : Int), (g : Int), (n : Int))).isSome = ok := ⟨_, rfl⟩
        rw [hco, hok]
        have HCO := Lib.hid hco
        have HOK := Lib.hid hok
        clear hco hok
        go_upto_if 85 with fail
        generalize hw7 : w6.alloc _ = w7
        have hE7 : Ext w6 w7 := by rw [← hw7]; exact (Ext.refl _).alloc _
        have z5 : w7.cell? ⟨w6.heap.size, 5, none⟩ = some (iV c5) := by rw [← hw7]; exact new_at _ _ _ 5 _ rfl
        have b0 : blkOf w7 w.heap.size = NV (.slice Ac cs.length cc) (.slice Ah hs.length ch) s1 t d (.slice Ak ks.length ck) := (blkOf_ext hE7 (by omega)).trans b0
        have b1 : blkOf w7 (w.heap.size + 1) = NV0 := (blkOf_ext hE7 (by omega)).trans b1
        have q0 := hE7.cell q0
        have q1 := hE7.cell q1
        have q2 := hE7.cell q2
        have q3 := hE7.cell q3
        have qf : ∀ i, w7.frozen? ⟨K, i, none⟩ = false := fun i => (Below.frozen hE7 (p := ⟨K, i, none⟩) hz6).trans (qf i)
        have hz7 : K < w7.heap.size := Nat.lt_of_lt_of_le hz6 hE7.size
        have HE7 := Lib.hid (HE6.out.trans hE7)
        have HR7 := Lib.hid (HK.out.ext HE7.out)
        clear hE7 hw7 HE6
        go_cut [17] (fun s17 wx => ∃ A nn cx, s17 = iV at6 ∧ -3000000 ≤ at6 ∧ at6 ≤ 3000000 ∧ blkOf wx w.heap.size = NV (.slice Ac cs.length cc) (.slice Ah hs.length ch) s1 t d (.slice A nn cx) ∧ blkOf wx (w.heap.size + 1) = NV0 ∧
          Row 4 wx B 58 (.slice A nn cx) (ks6.map encK) ∧ wx.cell? ⟨K, 0, none⟩ = some (.int .u8 6) ∧ wx.cell? ⟨K, 1, none⟩ = some (iV (f : Int)) ∧ wx.cell? ⟨K, 2, none⟩ = some (iV (g : Int)) ∧ wx.cell? ⟨K, 3, none⟩ = some (iV (n : Int)) ∧
          (∀ i, wx.frozen? ⟨K, i, none⟩ = false) ∧ some K ≠ (Value.slice A nn cx).ownBlock ∧ Ext w wx)
        case first =>
          cases hg6 : getF cs (6, (f : Int), (g : Int), (n : Int)) with
          | none =>
            have e6 : at6 = tick + lm := by rw [← HAT.out, hg6]; exact Int.add_zero _
            have h9 := HOK.out
            rw [hg6] at h9
            subst h9
            have HKE : Hid (ks6 = ks) := Lib.hid (by rw [← HKS6.out]; unfold eatF; rw [hg6]; rfl)
            clear hg6
            go_wp2_with fail
            go_meet
            exact ⟨Ak, ks.length, ck, by rw [e6], by omega, by omega, b0, b1, by rw [HKE.out]; exact HR7.out, q0, q1, q2, q3, qf, (fun e => by have := (HK.out.lt K e.symm).2; omega), HE7.out⟩
          | some dd =>
            have hd := SM.out _ (getF_mem hg6)
            simp only [] at hd
            obtain ⟨d1, d2⟩ := hd
            have e6 : at6 = tick + lm + dd := by rw [← HAT.out, hg6]; rfl
            have h9 := HOK.out
            rw [hg6] at h9
            subst h9
            have h8 := HCO.out
            rw [hg6] at h8
            simp only [chO, Prod.mk.injEq] at h8
            obtain ⟨-, rfl⟩ := h8
            clear hg6
            have CN6 : Calls Tryz.prog 60 #[.agg (NV (.slice Ac cs.length cc) (.slice Ah hs.length ch) s1 t d (.slice Ak ks.length ck)), .agg #[.int .u8 6, iV (f : Int), iV (g : Int), iV (n : Int)]] w7 _ := CN.out 6 Ak ks.length ck ks w7 HE7.out HR7.out HKA.out (by omega)
            have HCN6 := Lib.hid CN6
            clear CN6
            go_wp2_with fail
            refine HCN6.out.mono ?_
            rintro e8 w8 ⟨kv8, rfl, hr8, hE8, hown⟩
            rw [HKS6.out] at hr8
            obtain ⟨A8, c8, e8, -, -⟩ := hr8.form
            rw [List.length_map] at e8
            subst e8
            have HNE : Hid (some K ≠ (Value.slice A8 ks6.length c8).ownBlock) := Lib.hid (fun e => by
              rcases hown with h | h
              · rw [h] at e
                have := (HK.out.lt K e.symm).2
                omega
              · have := (h.lt K e.symm).1
                omega)
            clear hown
            have HR8 := Lib.hid hr8
            have b0 := (blkOf_ext hE8 (by omega)).trans b0
            have b1 : blkOf w8 (w.heap.size + 1) = NV0 := (blkOf_ext hE8 (by omega)).trans b1
            have q0 := hE8.cell q0
            have q1 := hE8.cell q1
            have q2 := hE8.cell q2
            have q3 := hE8.cell q3
            have QF : Hid (∀ i, w8.frozen? ⟨K, i, none⟩ = false) := Lib.hid (fun i => (Below.frozen hE8 (p := ⟨K, i, none⟩) hz7).trans (qf i))
            have HE8 := Lib.hid (HE7.out.trans hE8)
            have B0 := Lib.hid b0
            have B1 := Lib.hid b1
            have HQ := Lib.hid (⟨q0, q1, q2, q3⟩ : _ ∧ _ ∧ _ ∧ _)
            clear hr8 hE8 HCN6 HE7 HR7 q0 q1 q2 q3 qf
            go_wp2_with fail
            go_meet
            obtain ⟨q0, q1, q2, q3⟩ := HQ.out
            exact ⟨A8, _, c8, by rw [e6], by omega, by omega, blkOf_setRow_same (by rw [B0.out, NV_size]), (blkOf_setRow_other (by omega)).trans B1.out, HR8.out.setFar (by rw [B0.out, NV_size]) _, (cell_kept (setRow_other _ _ _ _ (by omega))).trans q0, (cell_kept (setRow_other _ _ _ _ (by omega))).trans q1,
              (cell_kept (setRow_other _ _ _ _ (by omega))).trans q2, (cell_kept (setRow_other _ _ _ _ (by omega))).trans q3, fun i => (frozen_kept (setRow_other _ _ _ _ (by omega))).trans (QF.out i), HNE.out, HE8.out.setRow (Nat.le_refl _) _⟩
        case rest =>
          obtain ⟨w8, rfl⟩ : ∃ w8, w8 = wc := ⟨_, rfl⟩
          clear b0 b1 q0 q1 q2 q3 qf HE7 HR7 HCO HOK HAT z5
          obtain ⟨A8, nn8, c8, rfl, hat1, hat2, b0, b1, hr8, q0, q1, q2, q3, qf, hne8, hE8⟩ := hcut
          have HE8 := Lib.hid hE8
          have HR8 := Lib.hid hr8
          have hz8 : K < w8.heap.size := World.block_lt_of_cell? w8 _ q0
          clear hE8 hr8
          go_upto_region 18 with fail
          generalize hw9 : w8.setCell ⟨K, 0, none⟩ (.int .u8 7) = w9
          have hh9 : ∀ i, i ≠ K → w9.heap[i]? = w8.heap[i]? := fun i hi => by rw [← hw9]; exact Below.heap_setCell _ _ _ _ hi
          have b0 := (blkOf_kept (hh9 w.heap.size (by omega))).trans b0
          have b1 : blkOf w9 (w.heap.size + 1) = NV0 := (blkOf_kept (hh9 _ (by omega))).trans b1
          have q0 : w9.cell? ⟨K, 0, none⟩ = some (.int .u8 7) := by rw [← hw9]; exact World.cell?_setCell_same _ _ _ q0
          have q1 : w9.cell? ⟨K, 1, none⟩ = some (iV (f : Int)) := by rw [← hw9, World.cell?_setCell_other _ _ _ _ (by simp)]; exact q1
          have q2 : w9.cell? ⟨K, 2, none⟩ = some (iV (g : Int)) := by rw [← hw9, World.cell?_setCell_other _ _ _ _ (by simp)]; exact q2
          have q3 : w9.cell? ⟨K, 3, none⟩ = some (iV (n : Int)) := by rw [← hw9, World.cell?_setCell_other _ _ _ _ (by simp)]; exact q3
          have HE9 : Hid (Ext w w9) := Lib.hid (by rw [← hw9]; exact HE8.out.setb (by omega) _ _)
          have HR9 : Hid (Row 4 w9 B 58 (.slice A8 nn8 c8) (ks6.map encK)) := Lib.hid (HR8.out.kept fun i hi => hh9 i (fun e => hne8 (by rw [hi, e])))
          have hz9 : K < w9.heap.size := World.block_lt_of_cell? w9 _ q0
          have CG7 : Calls Tryz.prog 84 #[.agg (NV (.slice Ac cs.length cc) (.slice Ah hs.length ch) s1 t d (.slice A8 nn8 c8)), .agg #[.int .u8 7, iV (f : Int), iV (g : Int), iV (n : Int)]] w9 _ := CG.out 7 _ w9 HE9.out
          have HCG7 := Lib.hid CG7
          clear CG7 hh9 hw9 HE8 HR8 qf hz8
          go_wp2_with fail
          refine HCG7.out.mono ?_
          rintro e10 w10 ⟨rfl, hE10⟩
          have b0 := (blkOf_ext hE10 (by omega)).trans b0
          have b1 : blkOf w10 (w.heap.size + 1) = NV0 := (blkOf_ext hE10 (by omega)).trans b1
          have q0 := hE10.cell q0
          have q1 := hE10.cell q1
          have q2 := hE10.cell q2
          have q3 := hE10.cell q3
          have hz10 : K < w10.heap.size := Nat.lt_of_lt_of_le hz9 hE10.size
          have HE10 := Lib.hid (HE9.out.trans hE10)
          have HR10 := Lib.hid (HR9.out.ext hE10)
          clear hE10 HCG7 HE9 HR9 hz9
          cases hg7 : getF cs (7, (f : Int), (g : Int), (n : Int)) with
          | none =>
            have HK7 : Hid (eatF cs ks6 (7, (f : Int), (g : Int), (n : Int)) = ks6) := Lib.hid (by unfold eatF; rw [hg7]; rfl)
            rw [hg7] at HF
            clear hg7
            simp only [chO, Option.isSome_none]
            go_upto_region 21 with fail
            generalize hw11 : w10.alloc _ = w11
            have hE11 : Ext w10 w11 := by rw [← hw11]; exact (Ext.refl _).alloc _
            have b0 := (blkOf_ext hE11 (by omega)).trans b0
            have b1 : blkOf w11 (w.heap.size + 1) = NV0 := (blkOf_ext hE11 (by omega)).trans b1
            have hz11 : w.heap.size + 1 < w11.heap.size := by have := hE11.size; omega
            have b1' : blkOf (w11.alloc (.cells #[iV at6] 3)) (w.heap.size + 1) = NV0 := (blkOf_alloc hz11 _).trans b1
            have B1 := Lib.hid b1'
            have HE11 := Lib.hid (HE10.out.trans hE11)
            have HR11 := Lib.hid (HR10.out.ext hE11)
            clear hE11 hw11 HE10 HR10 q0 q1 q2 q3
            go_wp2_with fail
            refine bodyPost_ret (res32c Tryz.results61 (g := w.heap.size + 1) rfl rfl rfl (blkOf_setRow_same (by rw [B1.out, NV_size])) NV_size) rfl ?_
            rw [RetRS, HF.out]
            refine ⟨_, _, rfl, ?_, sl1 ((cell_kept (setRow_other _ _ _ _ (by omega))).trans (new_at _ _ _ 0 _ rfl)), (HE11.out.alloc _).setRow (Nat.le_add_right _ 1) _⟩
            have h := (HR11.out.ext ((Ext.refl _).alloc (.cells #[iV at6] 3))).setFar (by rw [B1.out, NV_size]) (NV (.slice Ac cs.length cc) (.slice Ah hs.length ch) s1 t d (.slice A8 nn8 c8))
            rw [← HK7.out, ← HKS6.out] at h
            exact h
          | some d7 =>
            have hd := SM.out _ (getF_mem hg7)
            simp only [] at hd
            obtain ⟨d1, d2⟩ := hd
            rw [hg7] at HF
            clear hg7
            have hwr7 : IntKind.i64.wrap (at6 + d7) = at6 + d7 := IntWalk.i64_in _ (by omega)
            simp only [chO, Option.isSome_some]
            go_upto_region 20 with fail
            generalize hw11 : w10.alloc _ = w11
            have hE11 : Ext w10 w11 := by rw [← hw11]; exact (Ext.refl _).alloc _
            have z5 : w11.cell? ⟨w10.heap.size, 5, none⟩ = some (iV d7) := by rw [← hw11]; exact new_at _ _ _ 5 _ rfl
            have b0 : blkOf w11 w.heap.size = NV (.slice Ac cs.length cc) (.slice Ah hs.length ch) s1 t d (.slice A8 nn8 c8) := (blkOf_ext hE11 (by omega)).trans b0
            have b1 : blkOf w11 (w.heap.size + 1) = NV0 := (blkOf_ext hE11 (by omega)).trans b1
            have q0 := hE11.cell q0
            have q1 := hE11.cell q1
            have q2 := hE11.cell q2
            have q3 := hE11.cell q3
            have hz11 : K < w11.heap.size := Nat.lt_of_lt_of_le hz10 hE11.size
            have HE11 := Lib.hid (HE10.out.trans hE11)
            have HR11 := Lib.hid (HR10.out.ext hE11)
            have CN7 := Lib.hid (fun W (hW : Ext w11 W) => (CN.out 7 A8 nn8 c8 ks6 W (HE11.out.trans hW) (HR11.out.ext hW) HKA6.out (by have := HKL6.out; omega) : Calls Tryz.prog 60 #[.agg (NV (.slice Ac cs.length cc) (.slice Ah hs.length ch) s1 t d (.slice A8 nn8 c8)), .agg #[.int .u8 7, iV (f : Int), iV (g : Int), iV (n : Int)]] W _))
            clear hE11 hw11 HE10 HR10
            go_cut [11, 12] (fun s11 s12 wx => ∃ b A nn cx, s11 = iV (n : Int) ∧ s12 = .slice (some ⟨b, 0, none⟩) 2 2 ∧ blkOf wx (w.heap.size + 1) = NV (.slice Ac cs.length cc) (.slice Ah hs.length ch) s1 t d (.slice A nn cx) ∧ Row 4 wx B 58 (.slice A nn cx) ((eatF cs ks6 (7, (f : Int), (g : Int), (n : Int))).map encK) ∧
              wx.cell? ⟨b, 0, none⟩ = some (iV at6) ∧ wx.cell? ⟨b, 1, none⟩ = some (iV (at6 + d7)) ∧ Ext w wx)
            case first =>
              have KB : Hid (∀ W, Ext w11 W → (fun w' => blkOf w' w.heap.size = NV (.slice Ac cs.length cc) (.slice Ah hs.length ch) s1 t d (.slice A8 nn8 c8) ∧ w'.cell? ⟨K, 0, none⟩ = some (.int .u8 7) ∧ w'.cell? ⟨K, 1, none⟩ = some (iV (f : Int)) ∧ w'.cell? ⟨K, 2, none⟩ = some (iV (g : Int)) ∧ w'.cell? ⟨K, 3, none⟩ = some (iV (n : Int)) ∧ w'.cell? ⟨w10.heap.size, 5, none⟩ = some (iV d7)) W) := Lib.hid (fun W h => ⟨(blkOf_ext h (by omega)).trans b0, h.cell q0, h.cell q1, h.cell q2, h.cell q3, h.cell z5⟩)
              have KR : Hid (∀ W cz, (fun w' => blkOf w' w.heap.size = NV (.slice Ac cs.length cc) (.slice Ah hs.length ch) s1 t d (.slice A8 nn8 c8) ∧ w'.cell? ⟨K, 0, none⟩ = some (.int .u8 7) ∧ w'.cell? ⟨K, 1, none⟩ = some (iV (f : Int)) ∧ w'.cell? ⟨K, 2, none⟩ = some (iV (g : Int)) ∧ w'.cell? ⟨K, 3, none⟩ = some (iV (n : Int)) ∧ w'.cell? ⟨w10.heap.size, 5, none⟩ = some (iV d7)) W → (fun w' => blkOf w' w.heap.size = NV (.slice Ac cs.length cc) (.slice Ah hs.length ch) s1 t d (.slice A8 nn8 c8) ∧ w'.cell? ⟨K, 0, none⟩ = some (.int .u8 7) ∧ w'.cell? ⟨K, 1, none⟩ = some (iV (f : Int)) ∧ w'.cell? ⟨K, 2, none⟩ = some (iV (g : Int)) ∧ w'.cell? ⟨K, 3, none⟩ = some (iV (n : Int)) ∧ w'.cell? ⟨w10.heap.size, 5, none⟩ = some (iV d7)) (W.setRow (w.heap.size + 1) cz)) := Lib.hid (fun W cz h => by
                obtain ⟨g0, g1, g2, g3, g4, g5⟩ := h
                refine ⟨(blkOf_setRow_other (by omega)).trans g0, ?_, ?_, ?_, ?_, ?_⟩ <;> (refine (cell_kept (setRow_other _ _ _ _ (by omega))).trans ?_; assumption))
              have KA : Hid (∀ W o, w11.heap.size ≤ W.heap.size → (fun w' => blkOf w' w.heap.size = NV (.slice Ac cs.length cc) (.slice Ah hs.length ch) s1 t d (.slice A8 nn8 c8) ∧ w'.cell? ⟨K, 0, none⟩ = some (.int .u8 7) ∧ w'.cell? ⟨K, 1, none⟩ = some (iV (f : Int)) ∧ w'.cell? ⟨K, 2, none⟩ = some (iV (g : Int)) ∧ w'.cell? ⟨K, 3, none⟩ = some (iV (n : Int)) ∧ w'.cell? ⟨w10.heap.size, 5, none⟩ = some (iV d7)) W → (fun w' => blkOf w' w.heap.size = NV (.slice Ac cs.length cc) (.slice Ah hs.length ch) s1 t d (.slice A8 nn8 c8) ∧ w'.cell? ⟨K, 0, none⟩ = some (.int .u8 7) ∧ w'.cell? ⟨K, 1, none⟩ = some (iV (f : Int)) ∧ w'.cell? ⟨K, 2, none⟩ = some (iV (g : Int)) ∧ w'.cell? ⟨K, 3, none⟩ = some (iV (n : Int)) ∧ w'.cell? ⟨w10.heap.size, 5, none⟩ = some (iV d7)) (W.alloc o)) := Lib.hid (fun W o hz h => by
                obtain ⟨g0, g1, g2, g3, g4, g5⟩ := h
                have E := (Ext.refl W).alloc o
                exact ⟨(blkOf_ext E (by omega)).trans g0, E.cell g1, E.cell g2, E.cell g3, E.cell g4, E.cell g5⟩)
              refine wp_region_noPanic ?_
              refine wp_region_held_drew (S := (fun w' => blkOf w' w.heap.size = NV (.slice Ac cs.length cc) (.slice Ah hs.length ch) s1 t d (.slice A8 nn8 c8) ∧ w'.cell? ⟨K, 0, none⟩ = some (.int .u8 7) ∧ w'.cell? ⟨K, 1, none⟩ = some (iV (f : Int)) ∧ w'.cell? ⟨K, 2, none⟩ = some (iV (g : Int)) ∧ w'.cell? ⟨K, 3, none⟩ = some (iV (n : Int)) ∧ w'.cell? ⟨w10.heap.size, 5, none⟩ = some (iV d7))) (by kernel_rfl) ?_ (fun hHeld => ?_)
              · exact KB.out _ (by (repeat (first | with_reducible assumption | with_reducible exact Ext.refl _ | with_reducible apply Ext.alloc | with_reducible apply Ext.drew)); first | done | fail)
              refine wpAnyH_take (i := 0) (v := ?_) (oper_at rfl) (by kernel_rfl) (by kernel_rfl) (by kernel_rfl) (fun _ _ _ h => h) (Or.inl ⟨by rfl, ?_⟩) hHeld ?_
              rotate_left
              · (intro ww hSw; (try dsimp only at hSw); go_simp; try (with_reducible rfl))
              try simp only [Act.put, List.setIfInBounds_toArray, List.set_cons_zero, List.set_cons_succ]
              refine wpAnyH_take (i := 1) (v := ?_) (oper_at rfl) (by kernel_rfl) (by kernel_rfl) (by kernel_rfl) (fun _ _ _ h => h) (Or.inl ⟨by rfl, ?_⟩) hHeld ?_
              rotate_left
              · (intro ww hSw; (try dsimp only at hSw); go_simp; try (with_reducible rfl))
              try simp only [Act.put, List.setIfInBounds_toArray, List.set_cons_zero, List.set_cons_succ]
              refine wpAnyH_take (i := 3) (v := ?_) (oper_at rfl) (by kernel_rfl) (by kernel_rfl) (by kernel_rfl) (fun _ _ _ h => h) (Or.inl ⟨by rfl, ?_⟩) hHeld ?_
              rotate_left
              · (intro ww hSw; (try dsimp only at hSw); go_simp; try (with_reducible rfl))
              try simp only [Act.put, List.setIfInBounds_toArray, List.set_cons_zero, List.set_cons_succ]
              refine wpAnyH_take (i := 4) (v := ?_) (oper_at rfl) (by kernel_rfl) (by kernel_rfl) (by kernel_rfl) (fun _ _ _ h => h) (Or.inl ⟨by rfl, ?_⟩) hHeld ?_
              rotate_left
              · (intro ww hSw; (try dsimp only at hSw); go_simp; try (with_reducible rfl))
              try simp only [Act.put, List.setIfInBounds_toArray, List.set_cons_zero, List.set_cons_succ]
              refine wpAnyH_take (i := 5) (v := ?_) (oper_at rfl) (by kernel_rfl) (by kernel_rfl) (by kernel_rfl) (fun _ _ _ h => h) (Or.inl ⟨by rfl, ?_⟩) hHeld ?_
              rotate_left
              · (intro ww hSw; (try dsimp only at hSw); go_simp; try (with_reducible rfl))
              try simp only [Act.put, List.setIfInBounds_toArray, List.set_cons_zero, List.set_cons_succ]
              refine wpAnyH_take (i := 6) (v := ?_) (oper_at rfl) (by kernel_rfl) (by kernel_rfl) (by kernel_rfl) (fun _ _ _ h => h) (Or.inl ⟨by rfl, ?_⟩) hHeld ?_
              rotate_left
              · (intro ww hSw; (try dsimp only at hSw); go_simp; try (with_reducible rfl))
              try simp only [Act.put, List.setIfInBounds_toArray, List.set_cons_zero, List.set_cons_succ]
              refine wpAnyH_take (i := 7) (v := ?_) (oper_at rfl) (by kernel_rfl) (by kernel_rfl) (by kernel_rfl) (fun _ _ _ h => h) (Or.inl ⟨by rfl, ?_⟩) hHeld ?_
              rotate_left
              · (intro ww hSw; (try dsimp only at hSw); go_simp; try (with_reducible rfl))
              try simp only [Act.put, List.setIfInBounds_toArray, List.set_cons_zero, List.set_cons_succ]
              refine wpAnyH_take (i := 8) (v := ?_) (oper_at rfl) (by kernel_rfl) (by kernel_rfl) (by kernel_rfl) (fun _ _ _ h => h) (Or.inl ⟨by rfl, ?_⟩) hHeld ?_
              rotate_left
              · (intro ww hSw; (try dsimp only at hSw); go_simp; try (with_reducible rfl))
              try simp only [Act.put, List.setIfInBounds_toArray, List.set_cons_zero, List.set_cons_succ]
              refine wpAnyH_ready (rs := [2, 9]) (by kernel_rfl) (by simp) (AllReadyH.cons (oper_at rfl) (fun K hK => ?_) (AllReadyH.cons (oper_at rfl) (fun K hK => ?_) AllReadyH.nil))
              · go_simp
                go_at_call 60
                refine (CN7.out _ (by (repeat (first | with_reducible assumption | with_reducible exact Ext.refl _ | with_reducible apply Ext.alloc | with_reducible apply Ext.drew)); first | done | fail)).mono ?_
                rintro e12 w12 ⟨kv12, rfl, hr12, hE12, -⟩
                have hE12' : Ext w11 w12 := Ext.trans (by (repeat (first | with_reducible assumption | with_reducible exact Ext.refl _ | with_reducible apply Ext.alloc | with_reducible apply Ext.drew)); first | done | fail) hE12
                obtain ⟨A12, c12, e12, -, -⟩ := hr12.form
                rw [List.length_map] at e12
                subst e12
                have HR12 := Lib.hid hr12
                have HE12 := Lib.hid (HE11.out.trans hE12')
                have hz12 := hE12'.size
                have hz13 : w.heap.size + 1 < w12.heap.size := by omega
                have d1 : blkOf w12 (w.heap.size + 1) = NV0 := (blkOf_ext hE12' (by omega)).trans b1
                have D1 := Lib.hid d1
                have KS := Lib.hid (KB.out _ hE12')
                clear hr12 hE12
                refine hK.out _ _ ?_ (fun hHeld => ?_)
                · first | exact KB.out _ (by (repeat (first | with_reducible assumption | with_reducible exact Ext.refl _ | with_reducible apply Ext.alloc | with_reducible apply Ext.drew)); first | done | fail) | exact KS.out | exact KR.out _ _ KS.out | exact KA.out _ _ (by simp [hz12]) KS.out | exact KR.out _ _ (KA.out _ _ hz12 KS.out) | exact KA.out _ _ (by simpa using hz12) (KR.out _ _ KS.out)
                clear hK K
                try simp only [Act.put, List.setIfInBounds_toArray, List.set_cons_zero, List.set_cons_succ]
                refine wpAnyH_ready (rs := [9, 10]) (by kernel_rfl) (by simp) (AllReadyH.cons (oper_at rfl) (fun K hK => ?_) (AllReadyH.cons (oper_at rfl) (fun K hK => ?_) AllReadyH.nil))
                · go_simp
                  refine hK.out _ _ ?_ (fun hHeld => ?_)
                  · first | exact KB.out _ (by (repeat (first | with_reducible assumption | with_reducible exact Ext.refl _ | with_reducible apply Ext.alloc | with_reducible apply Ext.drew)); first | done | fail) | exact KS.out | exact KR.out _ _ KS.out | exact KA.out _ _ (by simp [hz12]) KS.out | exact KR.out _ _ (KA.out _ _ hz12 KS.out) | exact KA.out _ _ (by simpa using hz12) (KR.out _ _ KS.out)
                  clear hK K
                  try simp only [Act.put, List.setIfInBounds_toArray, List.set_cons_zero, List.set_cons_succ]
                  refine wpAnyH_ready (rs := [10]) (by kernel_rfl) (by simp) (AllReadyH.cons (oper_at rfl) (fun K hK => ?_) AllReadyH.nil)
                  go_simp
                  refine hK.out _ _ ?_ (fun hHeld => ?_)
                  · first | exact KB.out _ (by (repeat (first | with_reducible assumption | with_reducible exact Ext.refl _ | with_reducible apply Ext.alloc | with_reducible apply Ext.drew)); first | done | fail) | exact KS.out | exact KR.out _ _ KS.out | exact KA.out _ _ (by simp [hz12]) KS.out | exact KR.out _ _ (KA.out _ _ hz12 KS.out) | exact KA.out _ _ (by simpa using hz12) (KR.out _ _ KS.out)
                  clear hK K
                  try simp only [Act.put, List.setIfInBounds_toArray, List.set_cons_zero, List.set_cons_succ]
                  refine wpAnyH_take (i := 11) (v := ?_) (oper_at rfl) (by kernel_rfl) (by kernel_rfl) (by kernel_rfl) (fun _ _ _ h => h) (Or.inl ⟨by rfl, ?_⟩) hHeld ?_
                  rotate_left
                  · (intro ww hSw; (try dsimp only at hSw); go_simp; try (with_reducible rfl))
                  try simp only [Act.put, List.setIfInBounds_toArray, List.set_cons_zero, List.set_cons_succ]
                  refine wpAnyH_take (i := 12) (v := ?_) (oper_at rfl) (by kernel_rfl) (by kernel_rfl) (by kernel_rfl) (fun _ _ _ h => h) (Or.inl ⟨by rfl, ?_⟩) hHeld ?_
                  rotate_left
                  · (intro ww hSw; (try dsimp only at hSw); go_simp; try (with_reducible rfl))
                  try simp only [Act.put, List.setIfInBounds_toArray, List.set_cons_zero, List.set_cons_succ]
                  refine wpAnyH_done (by kernel_rfl) ?_ _
                  refine NoPanic.normal ?_
                  go_wp2_with fail
                  go_meet
                  exact ⟨w12.heap.size, A12, _, c12, rfl, rfl, blkOf_setRow_same (by rw [blkOf_alloc hz13, D1.out, NV_size]), (HR12.out.ext ((Ext.refl _).alloc _)).setFar (by rw [blkOf_alloc hz13, D1.out, NV_size]) _, (cell_kept (setRow_other _ _ _ _ (by omega))).trans (new_at _ _ _ 0 _ rfl), (cell_kept (setRow_other _ _ _ _ (by omega))).trans (new_at _ _ _ 1 _ rfl), (HE12.out.alloc _).setRow (Nat.le_add_right _ 1) _⟩
                · go_simp
                  refine hK.out _ _ ?_ (fun hHeld => ?_)
                  · first | exact KB.out _ (by (repeat (first | with_reducible assumption | with_reducible exact Ext.refl _ | with_reducible apply Ext.alloc | with_reducible apply Ext.drew)); first | done | fail) | exact KS.out | exact KR.out _ _ KS.out | exact KA.out _ _ (by simp [hz12]) KS.out | exact KR.out _ _ (KA.out _ _ hz12 KS.out) | exact KA.out _ _ (by simpa using hz12) (KR.out _ _ KS.out)
                  clear hK K
                  try simp only [Act.put, List.setIfInBounds_toArray, List.set_cons_zero, List.set_cons_succ]
                  refine wpAnyH_take (i := 11) (v := ?_) (oper_at rfl) (by kernel_rfl) (by kernel_rfl) (by kernel_rfl) (fun _ _ _ h => h) (Or.inl ⟨by rfl, ?_⟩) hHeld ?_
                  rotate_left
                  · (intro ww hSw; (try dsimp only at hSw); go_simp; try (with_reducible rfl))
                  try simp only [Act.put, List.setIfInBounds_toArray, List.set_cons_zero, List.set_cons_succ]
                  refine wpAnyH_ready (rs := [9]) (by kernel_rfl) (by simp) (AllReadyH.cons (oper_at rfl) (fun K hK => ?_) AllReadyH.nil)
                  go_simp
                  refine hK.out _ _ ?_ (fun hHeld => ?_)
                  · first | exact KB.out _ (by (repeat (first | with_reducible assumption | with_reducible exact Ext.refl _ | with_reducible apply Ext.alloc | with_reducible apply Ext.drew)); first | done | fail) | exact KS.out | exact KR.out _ _ KS.out | exact KA.out _ _ (by simp [hz12]) KS.out | exact KR.out _ _ (KA.out _ _ hz12 KS.out) | exact KA.out _ _ (by simpa using hz12) (KR.out _ _ KS.out)
                  clear hK K
                  try simp only [Act.put, List.setIfInBounds_toArray, List.set_cons_zero, List.set_cons_succ]
                  refine wpAnyH_take (i := 12) (v := ?_) (oper_at rfl) (by kernel_rfl) (by kernel_rfl) (by kernel_rfl) (fun _ _ _ h => h) (Or.inl ⟨by rfl, ?_⟩) hHeld ?_
                  rotate_left
                  · (intro ww hSw; (try dsimp only at hSw); go_simp; try (with_reducible rfl))
                  try simp only [Act.put, List.setIfInBounds_toArray, List.set_cons_zero, List.set_cons_succ]
                  refine wpAnyH_done (by kernel_rfl) ?_ _
                  refine NoPanic.normal ?_
                  go_wp2_with fail
                  go_meet
                  exact ⟨w12.heap.size, A12, _, c12, rfl, rfl, (blkOf_alloc (by rw [setRow_size]; exact hz13) _).trans (blkOf_setRow_same (by rw [D1.out, NV_size])), (HR12.out.setFar (by rw [D1.out, NV_size]) _).ext ((Ext.refl _).alloc _), new_atn (by rw [setRow_size]) rfl, new_atn (by rw [setRow_size]) rfl, (HE12.out.setRow (Nat.le_add_right _ 1) _).alloc _⟩
              · go_simp
                refine hK.out _ _ ?_ (fun hHeld => ?_)
                · first | exact KB.out _ (by (repeat (first | with_reducible assumption | with_reducible exact Ext.refl _ | with_reducible apply Ext.alloc | with_reducible apply Ext.drew)); first | done | fail) | exact KS.out | exact KR.out _ _ KS.out | exact KA.out _ _ (by simp [hz12]) KS.out | exact KR.out _ _ (KA.out _ _ hz12 KS.out) | exact KA.out _ _ (by simpa using hz12) (KR.out _ _ KS.out)
                clear hK K
                try simp only [Act.put, List.setIfInBounds_toArray, List.set_cons_zero, List.set_cons_succ]
                refine wpAnyH_ready (rs := [2]) (by kernel_rfl) (by simp) (AllReadyH.cons (oper_at rfl) (fun K hK => ?_) AllReadyH.nil)
                go_simp
                go_at_call 60
                refine (CN7.out _ (by (repeat (first | with_reducible assumption | with_reducible exact Ext.refl _ | with_reducible apply Ext.alloc | with_reducible apply Ext.drew)); first | done | fail)).mono ?_
                rintro e12 w12 ⟨kv12, rfl, hr12, hE12, -⟩
                have hE12' : Ext w11 w12 := Ext.trans (by (repeat (first | with_reducible assumption | with_reducible exact Ext.refl _ | with_reducible apply Ext.alloc | with_reducible apply Ext.drew)); first | done | fail) hE12
                obtain ⟨A12, c12, e12, -, -⟩ := hr12.form
                rw [List.length_map] at e12
                subst e12
                have HR12 := Lib.hid hr12
                have HE12 := Lib.hid (HE11.out.trans hE12')
                have hz12 := hE12'.size
                have hz13 : w.heap.size + 1 < w12.heap.size := by omega
                have d1 : blkOf w12 (w.heap.size + 1) = NV0 := (blkOf_ext hE12' (by omega)).trans b1
                have D1 := Lib.hid d1
                have KS := Lib.hid (KB.out _ hE12')
                have n0 := hE12.cell (new_atn (w := w11.drew) (T := 3) (n := w11.heap.size) rfl (show #[iV at6, iV (at6 + d7)][0]? = some (iV at6) from rfl))
                have n1 := hE12.cell (new_atn (w := w11.drew) (T := 3) (n := w11.heap.size) rfl (show #[iV at6, iV (at6 + d7)][1]? = some (iV (at6 + d7)) from rfl))
                clear hr12 hE12
                refine hK.out _ _ ?_ (fun hHeld => ?_)
                · first | exact KB.out _ (by (repeat (first | with_reducible assumption | with_reducible exact Ext.refl _ | with_reducible apply Ext.alloc | with_reducible apply Ext.drew)); first | done | fail) | exact KS.out | exact KR.out _ _ KS.out | exact KA.out _ _ (by simp [hz12]) KS.out | exact KR.out _ _ (KA.out _ _ hz12 KS.out) | exact KA.out _ _ (by simpa using hz12) (KR.out _ _ KS.out)
                clear hK K
                try simp only [Act.put, List.setIfInBounds_toArray, List.set_cons_zero, List.set_cons_succ]
                refine wpAnyH_ready (rs := [10]) (by kernel_rfl) (by simp) (AllReadyH.cons (oper_at rfl) (fun K hK => ?_) AllReadyH.nil)
                go_simp
                refine hK.out _ _ ?_ (fun hHeld => ?_)
                · first | exact KB.out _ (by (repeat (first | with_reducible assumption | with_reducible exact Ext.refl _ | with_reducible apply Ext.alloc | with_reducible apply Ext.drew)); first | done | fail) | exact KS.out | exact KR.out _ _ KS.out | exact KA.out _ _ (by simp [hz12]) KS.out | exact KR.out _ _ (KA.out _ _ hz12 KS.out) | exact KA.out _ _ (by simpa using hz12) (KR.out _ _ KS.out)
                clear hK K
                try simp only [Act.put, List.setIfInBounds_toArray, List.set_cons_zero, List.set_cons_succ]
                refine wpAnyH_take (i := 11) (v := ?_) (oper_at rfl) (by kernel_rfl) (by kernel_rfl) (by kernel_rfl) (fun _ _ _ h => h) (Or.inl ⟨by rfl, ?_⟩) hHeld ?_
                rotate_left
                · (intro ww hSw; (try dsimp only at hSw); go_simp; try (with_reducible rfl))
                try simp only [Act.put, List.setIfInBounds_toArray, List.set_cons_zero, List.set_cons_succ]
                refine wpAnyH_take (i := 12) (v := ?_) (oper_at rfl) (by kernel_rfl) (by kernel_rfl) (by kernel_rfl) (fun _ _ _ h => h) (Or.inl ⟨by rfl, ?_⟩) hHeld ?_
                rotate_left
                · (intro ww hSw; (try dsimp only at hSw); go_simp; try (with_reducible rfl))
                try simp only [Act.put, List.setIfInBounds_toArray, List.set_cons_zero, List.set_cons_succ]
                refine wpAnyH_done (by kernel_rfl) ?_ _
                refine NoPanic.normal ?_
                go_wp2_with fail
                go_meet
                exact ⟨w11.heap.size, A12, _, c12, rfl, rfl, blkOf_setRow_same (by rw [D1.out, NV_size]), HR12.out.setFar (by rw [D1.out, NV_size]) _, (cell_kept (setRow_other _ _ _ _ (by omega))).trans n0, (cell_kept (setRow_other _ _ _ _ (by omega))).trans n1, HE12.out.setRow (Nat.le_add_right _ 1) _⟩
            case rest =>
              obtain ⟨b, A, nn, cx, rfl, rfl, e1, e2, e3, e4, e5⟩ := hcut
              have E1 := Lib.hid e1
              have E2 := Lib.hid e2
              have E3 := Lib.hid (sl2 e3 e4)
              have E5 := Lib.hid e5
              clear e1 e2 e3 e4 e5
              go_wp2_with fail
              refine bodyPost_ret (res32c Tryz.results61 (g := w.heap.size + 1) rfl rfl rfl E1.out NV_size) rfl ?_
              rw [RetRS, HF.out]
              refine ⟨_, _, rfl, ?_, E3.out, E5.out⟩
              have h := E2.out
              rw [← HKS6.out] at h
              exact h
  · have HF : Hid (sendF cs hs fi ti tick lat ⟨s, t, d, ks⟩ = (⟨s, t, d, ks⟩, -1, [])) := Lib.hid (by unfold sendF; rw [if_neg hci])
    rw [HF.out]
    have HCI := Lib.hid hci
    by_cases hf : inC fi
    · have ht : ¬ inC ti := fun h => HCI.out ⟨hf, h⟩
      have CF := in_any fi
      rw [decide_eq_true (show 0 ≤ fi ∧ fi < 8 from hf)] at CF
      have HCF := Lib.hid CF
      have CT := in_any ti
      rw [decide_eq_false (show ¬ (0 ≤ ti ∧ ti < 8) from ht)] at CT
      have HCT := Lib.hid CT
      clear CF CT hf ht hci hc ho hk hka ha hb hm HF
      go_enter Tryz.func61, Tryz.ntmps61
      go_upto_region 1 with fail
      generalize hwB : (w.alloc (.cells (NV (.slice Ac cs.length cc) (.slice Ah hs.length ch) s t d (.slice Ak ks.length ck)) 32)).alloc (.cells NV0 32) = wB
      obtain ⟨hE, b0, b1, hsB⟩ := letter2 hwB
      have HE := Lib.hid hE
      have B1 := Lib.hid b1
      clear hwB hE hsB
      go_wp2_with fail
      refine (HCF.out _).mono ?_
      rintro e1 w1 ⟨rfl, rfl⟩
      go_wp2_with fail
      refine (HCT.out _).mono ?_
      rintro e1 w1 ⟨rfl, rfl⟩
      go_wp2_with fail
      refine bodyPost_ret (res32c Tryz.results61 (g := w.heap.size + 1) rfl rfl rfl (blkOf_setRow_same (by rw [B1.out, NV_size])) NV_size) rfl ?_
      exact ⟨_, _, rfl, HK.out.ext (HE.out.setRow (Nat.le_add_right _ 1) _), SlAt.nil _ _, HE.out.setRow (Nat.le_add_right _ 1) _⟩
    · have CF := in_any fi
      rw [decide_eq_false (show ¬ (0 ≤ fi ∧ fi < 8) from hf)] at CF
      have HCF := Lib.hid CF
      clear CF hf hci hc ho hk hka ha hb hm HF
      go_enter Tryz.func61, Tryz.ntmps61
      go_upto_region 1 with fail
      generalize hwB : (w.alloc (.cells (NV (.slice Ac cs.length cc) (.slice Ah hs.length ch) s t d (.slice Ak ks.length ck)) 32)).alloc (.cells NV0 32) = wB
      obtain ⟨hE, b0, b1, hsB⟩ := letter2 hwB
      have HE := Lib.hid hE
      have B1 := Lib.hid b1
      clear hwB hE hsB
      go_wp2_with fail
      refine (HCF.out _).mono ?_
      rintro e1 w1 ⟨rfl, rfl⟩
      go_wp2_with fail
      refine bodyPost_ret (res32c Tryz.results61 (g := w.heap.size + 1) rfl rfl rfl (blkOf_setRow_same (by rw [B1.out, NV_size])) NV_size) rfl ?_
      exact ⟨_, _, rfl, HK.out.ext (HE.out.setRow (Nat.le_add_right _ 1) _), SlAt.nil _ _, HE.out.setRow (Nat.le_add_right _ 1) _⟩
end Go.Proofs.YtehmpbaiefbemaaGreat
