/- Timer, Consume. -/
import Derived.Test.YtehmpbaiefbemaaGreatN21
namespace Go.Proofs.YtehmpbaiefbemaaGreat
open Go.RowKit
open Go.ChangeMaps (setBlock)
attribute [local go_sem ↓] Go.wp_at_zero Go.wp_at_succ
/-- The counters are small. -/
def Bd (x : St) (n : Nat) : Prop := ∀ i, x.s i ≤ n ∧ x.t i ≤ n ∧ x.d i ≤ n
/-- The numbers of choices are small. -/
def Sm (cs : List Ch) : Prop := ∀ c ∈ cs, -1000 ≤ c.2 ∧ c.2 ≤ 1000
def RetE (g r : Nat) (cv hv : Value) (cs : List Ch) (hs : List Jh) (y : St) (v : Value) (w : World) (e : Ending) (w' : World) : Prop :=
  e = .returned v ∧ Net w' g r cv hv cs hs y ∧ Exc g r w w'
section
variable {w w' : World} {g r : Nat} {cv hv : Value} {cs : List Ch} {hs : List Jh} {x y : St}
theorem Net.exc (h : Net w g r cv hv cs hs x) (k : Exc g r w w') (hb : blkOf w' g = NV cv hv y.s y.t y.d (.map (some r))) (hm : ∃ us, Mk w' r us ∧ ∀ k, k ∈ us ↔ k ∈ y.ks) : Net w' g r cv hv cs hs y :=
  ⟨hb, hm, h.ch.exc k, h.ho.exc k, h.ne⟩
theorem Net.setT (h : Net w g r cv hv cs hs x) {k : Nat} (hk : k < 8) (v : Nat) : Net (w.setCell ⟨g, 66 + k, none⟩ (iV (v : Int))) g r cv hv cs hs { x with t := upd x.t k v } ∧ Exc g r w (w.setCell ⟨g, 66 + k, none⟩ (iV (v : Int))) := by
  have E : Exc g r w (w.setCell ⟨g, 66 + k, none⟩ (iV (v : Int))) := (Exc.refl g r w).set (.inl rfl) _
  obtain ⟨us, h1, h2⟩ := h.map
  refine ⟨h.exc E ?_ ⟨us, h1.kept (Below.heap_setCell _ _ _ _ (Ne.symm h.ne)), h2⟩, E⟩
  rw [blkOf_set (by rw [h.blk, NV_size]; omega), h.blk, NV_setTim hk]
theorem Net.setS (h : Net w g r cv hv cs hs x) {k : Nat} (hk : k < 64) (v : Nat) : Net (w.setCell ⟨g, 2 + k, none⟩ (iV (v : Int))) g r cv hv cs hs { x with s := upd x.s k v } ∧ Exc g r w (w.setCell ⟨g, 2 + k, none⟩ (iV (v : Int))) := by
  have E : Exc g r w (w.setCell ⟨g, 2 + k, none⟩ (iV (v : Int))) := (Exc.refl g r w).set (.inl rfl) _
  obtain ⟨us, h1, h2⟩ := h.map
  refine ⟨h.exc E ?_ ⟨us, h1.kept (Below.heap_setCell _ _ _ _ (Ne.symm h.ne)), h2⟩, E⟩
  rw [blkOf_set (by rw [h.blk, NV_size]; omega), h.blk, NV_setSent hk]
theorem Net.setD (h : Net w g r cv hv cs hs x) {k : Nat} (hk : k < 8) (v : Nat) : Net (w.setCell ⟨g, 74 + k, none⟩ (iV (v : Int))) g r cv hv cs hs { x with d := upd x.d k v } ∧ Exc g r w (w.setCell ⟨g, 74 + k, none⟩ (iV (v : Int))) := by
  have E : Exc g r w (w.setCell ⟨g, 74 + k, none⟩ (iV (v : Int))) := (Exc.refl g r w).set (.inl rfl) _
  obtain ⟨us, h1, h2⟩ := h.map
  refine ⟨h.exc E ?_ ⟨us, h1.kept (Below.heap_setCell _ _ _ _ (Ne.symm h.ne)), h2⟩, E⟩
  rw [blkOf_set (by rw [h.blk, NV_size]; omega), h.blk, NV_setDis hk]
theorem Net.mapKeys (h : Net w g r cv hv cs hs x) {ks : List Ky} (hk : ∀ k, k ∈ ks ↔ k ∈ x.ks) : Net w g r cv hv cs hs { x with ks := ks } := by
  obtain ⟨us, h1, h2⟩ := h.map
  exact ⟨h.blk, ⟨us, h1, fun k => (h2 k).trans (hk k).symm⟩, h.ch, h.ho, h.ne⟩
end
theorem consume75_any (g r : Nat) (cv hv : Value) (cs : List Ch) (hs : List Jh) (x : St) (k : Ky) (w : World) (hN : Net w g r cv hv cs hs x) (ha : AscC cs) (hl : cs.length ≤ 1000) :
    Calls Tryz.prog 59 #[.pointer (some ⟨g, 0, none⟩), keyV k] w (RetE g r cv hv cs hs (eatS cs x k) (.tuple #[]) w) := by
  have HN := Lib.hid hN
  obtain ⟨k1, k2, k3, k4⟩ := k
  have e1 : Ext w (w.alloc (.cells #[kV k1, iV k2, iV k3, iV k4] 58)) := (Ext.refl _).alloc _
  have CT := Lib.hid (take31_any g r cv hv cs hs x (k1, k2, k3, k4) (w.alloc (.cells #[kV k1, iV k2, iV k3, iV k4] 58)) (hN.ext e1) ha hl)
  have E1 := Lib.hid (e1.exc g r)
  clear hN ha e1
  go_enter Tryz.func59, Tryz.ntmps59
  go_wp2_with fail
  refine CT.out.mono ?_
  rintro e2 w2 ⟨rfl, hN2, hE2⟩
  have H2 := Lib.hid hN2
  have E2 := Lib.hid (E1.out.trans hE2)
  clear hN2 hE2 CT
  go_wp2_with fail
  exact bodyPost_end (results_none Tryz.results59 _ _ _) rfl ⟨rfl, H2.out, E2.out⟩
set_option maxRecDepth 100000 in
set_option maxHeartbeats 4000000 in
theorem timer23_any (g r : Nat) (cv hv : Value) (cs : List Ch) (hs : List Jh) (x : St) (c due : Int) (w : World) (hN : Net w g r cv hv cs hs x) (ha : AscC cs) (hl : cs.length ≤ 1000) (hb : Bd x 100000) (hm : Sm cs) (h1 : -1000000 ≤ due) (h2 : due ≤ 1000000) :
    Calls Tryz.prog 54 #[.pointer (some ⟨g, 0, none⟩), iV c, iV due] w (RetE g r cv hv cs hs (timF cs c due x).1 (.tuple #[iV (timF cs c due x).2.1, iV (timF cs c due x).2.2]) w) := by
  have HN := Lib.hid hN
  by_cases hc : inC c
  · obtain ⟨hc0, hc8⟩ := hc
    obtain ⟨n, rfl⟩ : ∃ n : Nat, c = (n : Int) := ⟨c.toNat, by omega⟩
    have hn : n < 8 := by omega
    have n1 : w.cell? ⟨g, 66 + n, none⟩ = some (iV (x.t n : Int)) := blkOf_cell (by rw [hN.blk]; exact NV_tim hn)
    have nf : ∀ i, w.frozen? ⟨g, i, none⟩ = false := fun i => blkOf_frozen (by rw [hN.blk, NV_size]; omega)
    have htb : (x.t n : Int) ≤ 100000 := by have := (hb n).2.1; omega
    have HCD : Hid (decide (0 ≤ (n : Int) ∧ (n : Int) < 8) = true) := Lib.hid (decide_eq_true ⟨hc0, hc8⟩)
    have CC := comp_any (n : Int)
    rw [HCD.out] at CC
    have HCC := Lib.hid CC
    obtain ⟨hN1, hE1⟩ := (hN.ext ((Ext.refl w).drew)).setT hn (x.t n + 1)
    have HN1 := Lib.hid hN1
    have HE1 := Lib.hid ((((Ext.refl w).drew).exc g r).trans hE1)
    obtain ⟨x1, hx1⟩ : ∃ x1 : St, ({ x with t := upd x.t n (x.t n + 1) } : St) = x1 := ⟨_, rfl⟩
    have HF : Hid (timF cs (n : Int) due x = (eatS cs x1 (9, (n : Int), 0, (x.t n : Int)), (x.t n : Int), due + (getF cs (9, (n : Int), 0, (x.t n : Int))).getD 0)) := Lib.hid (by
      unfold timF eatS
      rw [if_pos ⟨hc0, hc8⟩, ← hx1]
      rfl)
    rw [HF.out]
    simp only []
    rw [hx1] at HN1
    have hcast : ((x.t n + 1 : Nat) : Int) = (x.t n : Int) + 1 := by omega
    rw [hcast] at HN1 HE1
    clear hcast
    have SM := Lib.hid hm
    have HA := Lib.hid ha
    clear hN hN1 hE1 hx1 hm hb CC ha
    go_enter Tryz.func54, Tryz.ntmps54
    go_wp2_with fail
    refine (HCC.out _).mono ?_
    rintro e1 w1 ⟨rfl, rfl⟩
    go_upto_region 4 with fail
    refine wp_region_noPanic ?_
    refine wp_region_X (S := (fun ww => ww = w.drew)) (z := 10) (by kernel_rfl) ?_ (fun hHeld => ?_)
    · rfl
    refine wpAnyX_take (i := 0) (v := ?_) (oper_at rfl) (by kernel_rfl) (by kernel_rfl) (by kernel_rfl) (by kernel_rfl) (fun _ _ _ h => h) (Or.inl ⟨by rfl, ?_⟩) hHeld ?_
    rotate_left
    · (intro ww hSw; (try dsimp only at hSw); go_simp; try (with_reducible rfl))
    try simp only [Act.put, List.setIfInBounds_toArray, List.set_cons_zero, List.set_cons_succ]
    refine wpAnyX_take (i := 1) (v := ?_) (oper_at rfl) (by kernel_rfl) (by kernel_rfl) (by kernel_rfl) (by kernel_rfl) (fun _ _ _ h => h) (Or.inl ⟨by rfl, ?_⟩) hHeld ?_
    rotate_left
    · (intro ww hSw; (try dsimp only at hSw); go_simp; try (with_reducible rfl))
    try simp only [Act.put, List.setIfInBounds_toArray, List.set_cons_zero, List.set_cons_succ]
    refine wpAnyX_take (i := 2) (v := ?_) (oper_at rfl) (by kernel_rfl) (by kernel_rfl) (by kernel_rfl) (by kernel_rfl) (fun _ _ _ h => h) (Or.inl ⟨by rfl, ?_⟩) hHeld ?_
    rotate_left
    · (intro ww hSw; (try dsimp only at hSw); go_simp; try (with_reducible rfl))
    try simp only [Act.put, List.setIfInBounds_toArray, List.set_cons_zero, List.set_cons_succ]
    refine wpAnyX_take (i := 3) (v := ?_) (oper_at rfl) (by kernel_rfl) (by kernel_rfl) (by kernel_rfl) (by kernel_rfl) (fun _ _ _ h => h) (Or.inl ⟨by rfl, ?_⟩) hHeld ?_
    rotate_left
    · (intro ww hSw; (try dsimp only at hSw); go_simp; try (with_reducible rfl))
    try simp only [Act.put, List.setIfInBounds_toArray, List.set_cons_zero, List.set_cons_succ]
    refine wpAnyX_take (i := 4) (v := ?_) (oper_at rfl) (by kernel_rfl) (by kernel_rfl) (by kernel_rfl) (by kernel_rfl) (fun _ _ _ h => h) (Or.inl ⟨by rfl, ?_⟩) hHeld ?_
    rotate_left
    · (intro ww hSw; (try dsimp only at hSw); go_simp; try (with_reducible rfl))
    try simp only [Act.put, List.setIfInBounds_toArray, List.set_cons_zero, List.set_cons_succ]
    refine wpAnyX_take (i := 5) (v := ?_) (oper_at rfl) (by kernel_rfl) (by kernel_rfl) (by kernel_rfl) (by kernel_rfl) (fun _ _ _ h => h) (Or.inl ⟨by rfl, ?_⟩) hHeld ?_
    rotate_left
    · (intro ww hSw; (try dsimp only at hSw); go_simp; try (with_reducible rfl))
    try simp only [Act.put, List.setIfInBounds_toArray, List.set_cons_zero, List.set_cons_succ]
    refine wpAnyX_take (i := 6) (v := ?_) (oper_at rfl) (by kernel_rfl) (by kernel_rfl) (by kernel_rfl) (by kernel_rfl) (fun _ _ _ h => h) (Or.inl ⟨by rfl, ?_⟩) hHeld ?_
    rotate_left
    · (intro ww hSw; (try dsimp only at hSw); go_simp; try (with_reducible rfl))
    try simp only [Act.put, List.setIfInBounds_toArray, List.set_cons_zero, List.set_cons_succ]
    refine wpAnyX_ready (rs := [7]) (by kernel_rfl) (by simp) (AllReadyX.cons (by decide) (oper_at rfl) (fun K hK => ?_) AllReadyX.nil)
    go_simp
    refine hK.out _ _ ?_ (fun hHeld => ?_)
    · rfl
    clear hK K
    try simp only [Act.put, List.setIfInBounds_toArray, List.set_cons_zero, List.set_cons_succ]
    refine wpAnyX_ready (rs := [8]) (by kernel_rfl) (by simp) (AllReadyX.cons (by decide) (oper_at rfl) (fun K hK => ?_) AllReadyX.nil)
    go_simp
    refine hK.out _ _ ?_ (fun hHeld => ?_)
    · rfl
    clear hK K
    try simp only [Act.put, List.setIfInBounds_toArray, List.set_cons_zero, List.set_cons_succ]
    refine wpAnyX_ready (rs := [9]) (by kernel_rfl) (by simp) (AllReadyX.cons (by decide) (oper_at rfl) (fun K hK => ?_) AllReadyX.nil)
    go_simp
    refine hK.out _ _ ?_ (fun hHeld => ?_)
    · rfl
    clear hK K
    try simp only [Act.put, List.setIfInBounds_toArray, List.set_cons_zero, List.set_cons_succ]
    refine wpAnyX_ready (rs := [10]) (by kernel_rfl) (by simp) (AllReadyX.last rfl (oper_at rfl) (fun K hK => ?_))
    go_simp
    refine hK.out _ _ ?_
    clear hK K
    try simp only [Act.put, List.setIfInBounds_toArray, List.set_cons_zero, List.set_cons_succ]
    refine wpAnyX_done (by kernel_rfl) ?_ _
    refine NoPanic.normal ?_
    have CT : Calls Tryz.prog 52 #[.pointer (some ⟨g, 0, none⟩), .int .u8 9, iV (n : Int), iV 0, iV (x.t n : Int)] (w.drew.setCell ⟨g, 66 + n, none⟩ (iV ((x.t n : Int) + 1))) _ := take31_any g r cv hv cs hs x1 (9, (n : Int), 0, (x.t n : Int)) _ HN1.out HA.out hl
    have HCT := Lib.hid CT
    clear CT n1 nf
    go_wp2_with fail
    refine HCT.out.mono ?_
    rintro e2 w2 ⟨rfl, hN2, hE2⟩
    have H2 := Lib.hid hN2
    have E2 := Lib.hid (HE1.out.trans hE2)
    clear hN2 hE2 HCT
    cases hg : getF cs (9, (n : Int), 0, (x.t n : Int)) with
    | none =>
      simp only [chO, Option.isSome_none]
      go_wp2_with fail
      go_ret2
      exact ⟨by simp [hg], H2.out.ext ((Ext.refl _).alloc _), E2.out.alloc _⟩
    | some d =>
      have hd := SM.out _ (getF_mem hg)
      simp only [] at hd
      obtain ⟨d1, d2⟩ := hd
      simp only [chO, Option.isSome_some]
      go_wp2_with fail
      go_ret2
      exact ⟨by simp [hg], H2.out.ext ((Ext.refl _).alloc _), E2.out.alloc _⟩
  · have HF : Hid (timF cs c due x = (x, -1, due)) := Lib.hid (by unfold timF; rw [if_neg hc])
    rw [HF.out]
    have CC := comp_any c
    rw [show decide (0 ≤ c ∧ c < 8) = false from decide_eq_false hc] at CC
    have HCC := Lib.hid CC
    clear CC hN hc
    go_enter Tryz.func54, Tryz.ntmps54
    go_wp2_with fail
    refine (HCC.out _).mono ?_
    rintro e1 w1 ⟨rfl, rfl⟩
    go_wp2_with fail
    go_ret2
    exact ⟨rfl, HN.out, Exc.refl _ _ _⟩
end Go.Proofs.YtehmpbaiefbemaaGreat
