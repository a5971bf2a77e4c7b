/- The network in memory. The walk over take. -/
import Derived.Test.YtehmpbaiefbemaaGreatN20
import Derived.Test.YtehmpbaiefbemaaGreatNX
namespace Go.Proofs.YtehmpbaiefbemaaGreat
open Go.RowKit
open Go.ChangeMaps (setBlock)
attribute [local go_sem ↓] Go.wp_at_zero Go.wp_at_succ
theorem Ext.setb {a w : World} (h : Ext a w) {b : Nat} (hb : a.heap.size ≤ b) (i : Nat) (v : Value) : Ext a (w.setCell ⟨b, i, none⟩ v) := h.set hb v
theorem Exc.setb {g r : Nat} {a w : World} (h : Exc g r a w) {b : Nat} (hb : a.heap.size ≤ b) (i : Nat) (v : Value) : Exc g r a (w.setCell ⟨b, i, none⟩ v) := h.set (.inr (.inr hb)) v
section
variable {ops : Array Oper} {o : Oper} {a : Act} {Q : Exit → Act → World → Prop} {K : Act → World → Prop} {E : Prop} {w : World}
theorem supd (hgd : o.guard = none) (m k x : Operand) (ho : o.op = .mapUpdate 73 m k x) {r : Nat} {ks : List Ky} {z : Ky} (hm : a.eval m = .map (some r)) (hk : a.eval k = keyV z) (hx : a.eval x = .bool true) (h : Mk w r ks)
    (hK : ∀ o', Mk (setBlock w r o') r (putM ks z) → K (a.put o.dst undef) (setBlock w r o')) : if Region.wanted o (yielded ops a.tmps) = true then Oper.wp Tryz.prog o a w K Q else E := by
  have hw' : Region.wanted o (yielded ops a.tmps) = true := by simp [Region.wanted, hgd]
  rw [if_pos hw']
  obtain ⟨o', hrun, h1⟩ := run_upd h z
  unfold Oper.wp
  simp [execOp, ho, hm, hk, hx, hrun, Result.andThen]
  exact hK o' h1
end
/-- A network lies in block g, its map of consumed keys in block r. -/
structure Net (w : World) (g r : Nat) (cv hv : Value) (cs : List Ch) (hs : List Jh) (x : St) : Prop where
  blk : blkOf w g = NV cv hv x.s x.t x.d (.map (some r))
  map : ∃ us, Mk w r us ∧ ∀ k, k ∈ us ↔ k ∈ x.ks
  ch : Stay g r (fun w' => CsAt w' cv cs) w
  ho : Stay g r (fun w' => HsAt w' hv hs) w
  ne : g ≠ r
section
variable {w w' : World} {g r : Nat} {cv hv : Value} {cs : List Ch} {hs : List Jh} {x : St}
theorem Net.lt (h : Net w g r cv hv cs hs x) : g < w.heap.size := blkOf_lt (by rw [h.blk, NV_size]; omega)
theorem Net.ext (h : Net w g r cv hv cs hs x) (k : Ext w w') : Net w' g r cv hv cs hs x := by
  obtain ⟨us, h1, h2⟩ := h.map
  exact ⟨(blkOf_ext k h.lt).trans h.blk, ⟨us, h1.ext k, h2⟩, h.ch.exc (k.exc g r), h.ho.exc (k.exc g r), h.ne⟩
theorem Net.rlt (h : Net w g r cv hv cs hs x) : r < w.heap.size := by
  obtain ⟨us, h1, h2⟩ := h.map
  exact h1.lt
end
theorem kept_setBlock {w : World} {r k : Nat} {o : Obj} (h : k ≠ r) (i : Nat) : (setBlock w r o).cell? ⟨k, i, none⟩ = w.cell? ⟨k, i, none⟩ := cell_kept (heap_setBlock _ _ _ _ h)
theorem frozen_setBlock {w : World} {r k : Nat} {o : Obj} (h : k ≠ r) (i : Nat) : (setBlock w r o).frozen? ⟨k, i, none⟩ = w.frozen? ⟨k, i, none⟩ := frozen_kept (heap_setBlock _ _ _ _ h)
/-- The seven cells of a choice. -/
structure C7 (w : World) (b : Nat) (c1 : Nat) (c2 c3 c4 c5 : Int) : Prop where
  c0 : w.cell? ⟨b, 0, none⟩ = some (kV c1)
  c1 : w.cell? ⟨b, 1, none⟩ = some (iV c2)
  c2 : w.cell? ⟨b, 2, none⟩ = some (iV c3)
  c3 : w.cell? ⟨b, 3, none⟩ = some (iV c4)
  c4 : w.cell? ⟨b, 4, none⟩ = some (iV 0)
  c5 : w.cell? ⟨b, 5, none⟩ = some (iV c5)
  c6 : w.cell? ⟨b, 6, none⟩ = some (.slice none 0 0)
theorem C7.kept {w w' : World} {b c1 : Nat} {c2 c3 c4 c5 : Int} (h : C7 w b c1 c2 c3 c4 c5) (k : w'.heap[b]? = w.heap[b]?) : C7 w' b c1 c2 c3 c4 c5 :=
  ⟨(cell_kept k).trans h.c0, (cell_kept k).trans h.c1, (cell_kept k).trans h.c2, (cell_kept k).trans h.c3, (cell_kept k).trans h.c4, (cell_kept k).trans h.c5, (cell_kept k).trans h.c6⟩
theorem C7.ext {w w' : World} {b c1 : Nat} {c2 c3 c4 c5 : Int} (h : C7 w b c1 c2 c3 c4 c5) (k : Ext w w') : C7 w' b c1 c2 c3 c4 c5 := h.kept (k.block b (World.block_lt_of_cell? w _ h.c0))
theorem C7.new (w : World) (c1 : Nat) (c2 c3 c4 c5 : Int) : C7 (w.alloc (.cells #[kV c1, iV c2, iV c3, iV c4, iV 0, iV c5, .slice none 0 0] 61)) w.heap.size c1 c2 c3 c4 c5 :=
  ⟨new_at _ _ _ 0 _ rfl, new_at _ _ _ 1 _ rfl, new_at _ _ _ 2 _ rfl, new_at _ _ _ 3 _ rfl, new_at _ _ _ 4 _ rfl, new_at _ _ _ 5 _ rfl, new_at _ _ _ 6 _ rfl⟩
def eatS (cs : List Ch) (x : St) (k : Ky) : St := { x with ks := eatF cs x.ks k }
def RetK (g r : Nat) (cv hv : Value) (cs : List Ch) (hs : List Jh) (x : St) (k : Ky) (w : World) (e : Ending) (w' : World) : Prop :=
  e = .returned (.tuple #[chV (chO k (getF cs k)), .bool (getF cs k).isSome]) ∧ Net w' g r cv hv cs hs (eatS cs x k) ∧ Exc g r w w'
set_option maxRecDepth 100000 in
set_option maxHeartbeats 4000000 in
theorem take31_any (g r : Nat) (cv hv : Value) (cs : List Ch) (hs : List Jh) (x : St) (k : Ky) (w : World) (hN : Net w g r cv hv cs hs x) (ha : AscC cs) (hl : cs.length ≤ 1000) :
    Calls Tryz.prog 52 #[.pointer (some ⟨g, 0, none⟩), kV k.1, iV k.2.1, iV k.2.2.1, iV k.2.2.2] w (RetK g r cv hv cs hs x k w) := by
  have HN := Lib.hid hN
  have CG := Lib.hid (fun W (hW : Ext w W) => get61_any cs cv k W (hN.ch.now.ext hW) ha hl)
  obtain ⟨A, c, rfl, -, -, -⟩ := hN.ch.now.read
  rw [List.length_map] at *
  have hg := hN.lt
  have hr := hN.rlt
  have hne := hN.ne
  have n0 : w.cell? ⟨g, 0, none⟩ = some (.slice A cs.length c) := blkOf_cell (by rw [hN.blk]; exact NV_0)
  have n82 : w.cell? ⟨g, 82, none⟩ = some (.map (some r)) := blkOf_cell (by rw [hN.blk]; exact NV_82)
  have HEAT : Hid (∀ us : List Ky, (∀ y, y ∈ us ↔ y ∈ x.ks) → (getF cs k).isSome = true → ∀ y, y ∈ putM us k ↔ y ∈ eatF cs x.ks k) := Lib.hid (fun us hus hsome y => by
    rw [mem_putM, mem_eatF, hus]
    rw [getF_some] at hsome
    simp [hsome])
  have HEAT0 : Hid ((getF cs k).isSome = false → eatS cs x k = x) := Lib.hid (fun h => by
    unfold eatS eatF
    rw [h]
    rfl)
  obtain ⟨⟨⟨c1, c2, c3, c4⟩, c5⟩, hco⟩ : ∃ y, chO k (getF cs k) = y := ⟨_, rfl⟩
  obtain ⟨ok, hok⟩ : ∃ ok, (getF cs k).isSome = ok := ⟨_, rfl⟩
  have HCO := Lib.hid hco
  have HOK := Lib.hid hok
  unfold RetT at CG
  unfold RetK
  rw [hco, hok] at CG ⊢
  rw [hok] at HEAT HEAT0
  obtain ⟨k1, k2, k3, k4⟩ := k
  clear hN ha hco hok
  go_enter Tryz.func52, Tryz.ntmps52
  go_upto_region 2 with fail
  generalize hwB : (w.alloc (.cells #[.int .u8 0, iV 0, iV 0, iV 0, iV 0, iV 0, .slice none 0 0] 61)).alloc (.cells #[kV k1, iV k2, iV k3, iV k4] 58) = wB
  have h1 : (w.alloc (.cells #[.int .u8 0, iV 0, iV 0, iV 0, iV 0, iV 0, .slice none 0 0] 61)).heap.size = w.heap.size + 1 := by simp
  have E2 : Ext (w.alloc (.cells #[.int .u8 0, iV 0, iV 0, iV 0, iV 0, iV 0, .slice none 0 0] 61)) wB := by rw [← hwB]; exact (Ext.refl _).alloc _
  have hE : Ext w wB := ((Ext.refl _).alloc _).trans E2
  have t0 : wB.cell? ⟨w.heap.size + 1, 0, none⟩ = some (kV k1) := by rw [← hwB, ← h1]; exact new_at _ _ _ 0 _ rfl
  have t1 : wB.cell? ⟨w.heap.size + 1, 1, none⟩ = some (iV k2) := by rw [← hwB, ← h1]; exact new_at _ _ _ 1 _ rfl
  have t2 : wB.cell? ⟨w.heap.size + 1, 2, none⟩ = some (iV k3) := by rw [← hwB, ← h1]; exact new_at _ _ _ 2 _ rfl
  have t3 : wB.cell? ⟨w.heap.size + 1, 3, none⟩ = some (iV k4) := by rw [← hwB, ← h1]; exact new_at _ _ _ 3 _ rfl
  have hb : blkOf wB w.heap.size = #[.int .u8 0, iV 0, iV 0, iV 0, iV 0, iV 0, .slice none 0 0] := by rw [blkOf_ext E2 (by simp)]; exact blkOf_new
  have hs2 : wB.heap.size = w.heap.size + 2 := by rw [← hwB]; simp
  have n0 := hE.cell n0
  have n82 := hE.cell n82
  have HB := Lib.hid hb
  have HE := Lib.hid hE
  clear hwB h1 E2 hE hb
  go_cut [13, 14] (fun s13 s14 wx => ∃ b, s13 = .pointer (some ⟨b, 0, none⟩) ∧ s14 = .bool ok ∧ Ext wB wx ∧ wB.heap.size ≤ b ∧ C7 wx b c1 c2 c3 c4 c5)
  case first =>
    have KB : Hid (∀ W, Ext wB W → (fun w' => Ext wB w' ∧ w'.cell? ⟨g, 0, none⟩ = some (.slice A cs.length c) ∧ w'.cell? ⟨w.heap.size + 1, 0, none⟩ = some (kV k1) ∧ w'.cell? ⟨w.heap.size + 1, 1, none⟩ = some (iV k2) ∧ w'.cell? ⟨w.heap.size + 1, 2, none⟩ = some (iV k3) ∧ w'.cell? ⟨w.heap.size + 1, 3, none⟩ = some (iV k4)) W) := Lib.hid (fun W h => ⟨h, h.cell n0, h.cell t0, h.cell t1, h.cell t2, h.cell t3⟩)
    refine wp_region_noPanic ?_
    refine wp_region_held_drew (S := (fun w' => Ext wB w' ∧ w'.cell? ⟨g, 0, none⟩ = some (.slice A cs.length c) ∧ w'.cell? ⟨w.heap.size + 1, 0, none⟩ = some (kV k1) ∧ w'.cell? ⟨w.heap.size + 1, 1, none⟩ = some (iV k2) ∧ w'.cell? ⟨w.heap.size + 1, 2, none⟩ = some (iV k3) ∧ w'.cell? ⟨w.heap.size + 1, 3, none⟩ = some (iV k4))) (by kernel_rfl) ?_ (fun hHeld => ?_)
    · first | with_reducible assumption | exact KB.out _ (by repeat (first | with_reducible assumption | with_reducible exact Ext.refl _ | with_reducible apply Ext.alloc | with_reducible apply Ext.drew | with_reducible refine Ext.setb ?_ (by omega) _ _))
    refine wpAnyH_take (i := 0) (v := ?_) (oper_at rfl) (by kernel_rfl) (by kernel_rfl) (by kernel_rfl) (fun _ _ _ h => h) (Or.inl ⟨by rfl, ?_⟩) hHeld ?_
    rotate_left
    · (intro ww hSw; (try dsimp only at hSw); go_simp; try (with_reducible rfl))
    try simp only [Act.put, List.setIfInBounds_toArray, List.set_cons_zero, List.set_cons_succ]
    refine wpAnyH_take (i := 1) (v := ?_) (oper_at rfl) (by kernel_rfl) (by kernel_rfl) (by kernel_rfl) (fun _ _ _ h => h) (Or.inl ⟨by rfl, ?_⟩) hHeld ?_
    rotate_left
    · (intro ww hSw; (try dsimp only at hSw); go_simp; try (with_reducible rfl))
    try simp only [Act.put, List.setIfInBounds_toArray, List.set_cons_zero, List.set_cons_succ]
    refine wpAnyH_take (i := 2) (v := ?_) (oper_at rfl) (by kernel_rfl) (by kernel_rfl) (by kernel_rfl) (fun _ _ _ h => h) (Or.inl ⟨by rfl, ?_⟩) hHeld ?_
    rotate_left
    · (intro ww hSw; (try dsimp only at hSw); go_simp; try (with_reducible rfl))
    try simp only [Act.put, List.setIfInBounds_toArray, List.set_cons_zero, List.set_cons_succ]
    refine wpAnyH_take (i := 3) (v := ?_) (oper_at rfl) (by kernel_rfl) (by kernel_rfl) (by kernel_rfl) (fun _ _ _ h => h) (Or.inl ⟨by rfl, ?_⟩) hHeld ?_
    rotate_left
    · (intro ww hSw; (try dsimp only at hSw); go_simp; try (with_reducible rfl))
    try simp only [Act.put, List.setIfInBounds_toArray, List.set_cons_zero, List.set_cons_succ]
    refine wpAnyH_take (i := 4) (v := ?_) (oper_at rfl) (by kernel_rfl) (by kernel_rfl) (by kernel_rfl) (fun _ _ _ h => h) (Or.inl ⟨by rfl, ?_⟩) hHeld ?_
    rotate_left
    · (intro ww hSw; (try dsimp only at hSw); go_simp; try (with_reducible rfl))
    try simp only [Act.put, List.setIfInBounds_toArray, List.set_cons_zero, List.set_cons_succ]
    refine wpAnyH_ready (rs := [5, 9]) (by kernel_rfl) (by simp) (AllReadyH.cons (oper_at rfl) (fun K hK => ?_) (AllReadyH.cons (oper_at rfl) (fun K hK => ?_) AllReadyH.nil))
    · go_simp
      go_at_call 37
      refine (CG.out _ (HE.out.trans (by repeat (first | with_reducible assumption | with_reducible exact Ext.refl _ | with_reducible apply Ext.alloc | with_reducible apply Ext.drew | with_reducible refine Ext.setb ?_ (by omega) _ _)))).mono ?_
      rintro e5 w5 ⟨rfl, h5⟩
      have hE5 : Ext wB w5 := Ext.trans (by repeat (first | with_reducible assumption | with_reducible exact Ext.refl _ | with_reducible apply Ext.alloc | with_reducible apply Ext.drew | with_reducible refine Ext.setb ?_ (by omega) _ _)) h5
      refine hK.out _ _ ?_ (fun hHeld => ?_)
      · first | with_reducible assumption | exact KB.out _ (by repeat (first | with_reducible assumption | with_reducible exact Ext.refl _ | with_reducible apply Ext.alloc | with_reducible apply Ext.drew | with_reducible refine Ext.setb ?_ (by omega) _ _))
      clear hK K
      try simp only [Act.put, List.setIfInBounds_toArray, List.set_cons_zero, List.set_cons_succ]
      refine wpAnyH_take (i := 6) (v := ?_) (oper_at rfl) (by kernel_rfl) (by kernel_rfl) (by kernel_rfl) (fun _ _ _ h => h) (Or.inl ⟨by rfl, ?_⟩) hHeld ?_
      rotate_left
      · (intro ww hSw; (try dsimp only at hSw); go_simp; try (with_reducible rfl))
      try simp only [Act.put, List.setIfInBounds_toArray, List.set_cons_zero, List.set_cons_succ]
      refine wpAnyH_take (i := 7) (v := ?_) (oper_at rfl) (by kernel_rfl) (by kernel_rfl) (by kernel_rfl) (fun _ _ _ h => h) (Or.inl ⟨by rfl, ?_⟩) hHeld ?_
      rotate_left
      · (intro ww hSw; (try dsimp only at hSw); go_simp; try (with_reducible rfl))
      try simp only [Act.put, List.setIfInBounds_toArray, List.set_cons_zero, List.set_cons_succ]
      refine wpAnyH_take (i := 8) (v := ?_) (oper_at rfl) (by kernel_rfl) (by kernel_rfl) (by kernel_rfl) (fun _ _ _ h => h) (Or.inl ⟨by rfl, ?_⟩) hHeld ?_
      rotate_left
      · (intro ww hSw; (try dsimp only at hSw); go_simp; try (with_reducible rfl))
      try simp only [Act.put, List.setIfInBounds_toArray, List.set_cons_zero, List.set_cons_succ]
      refine wpAnyH_ready (rs := [9]) (by kernel_rfl) (by simp) (AllReadyH.cons (oper_at rfl) (fun K hK => ?_) AllReadyH.nil)
      go_simp
      refine hK.out _ _ ?_ (fun hHeld => ?_)
      · first | with_reducible assumption | exact KB.out _ (by repeat (first | with_reducible assumption | with_reducible exact Ext.refl _ | with_reducible apply Ext.alloc | with_reducible apply Ext.drew | with_reducible refine Ext.setb ?_ (by omega) _ _))
      clear hK K
      try simp only [Act.put, List.setIfInBounds_toArray, List.set_cons_zero, List.set_cons_succ]
      refine wpAnyH_ready (rs := [10]) (by kernel_rfl) (by simp) (AllReadyH.cons (oper_at rfl) (fun K hK => ?_) AllReadyH.nil)
      go_simp
      refine hK.out _ _ ?_ (fun hHeld => ?_)
      · first | with_reducible assumption | exact KB.out _ (by repeat (first | with_reducible assumption | with_reducible exact Ext.refl _ | with_reducible apply Ext.alloc | with_reducible apply Ext.drew | with_reducible refine Ext.setb ?_ (by omega) _ _))
      clear hK K
      try simp only [Act.put, List.setIfInBounds_toArray, List.set_cons_zero, List.set_cons_succ]
      refine wpAnyH_take (i := 11) (v := ?_) (oper_at rfl) (by kernel_rfl) (by kernel_rfl) (by kernel_rfl) (fun _ _ _ h => h) (Or.inl ⟨by rfl, ?_⟩) hHeld ?_
      rotate_left
      · (intro ww hSw; (try dsimp only at hSw); go_simp; try (with_reducible rfl))
      try simp only [Act.put, List.setIfInBounds_toArray, List.set_cons_zero, List.set_cons_succ]
      refine wpAnyH_done (by kernel_rfl) ?_ _
      refine NoPanic.normal ?_
      go_wp2_with fail
      go_meet
      refine ⟨_, rfl, rfl, hE5.alloc _, hE5.size, C7.new _ _ _ _ _ _⟩
    · go_simp
      refine hK.out _ _ ?_ (fun hHeld => ?_)
      · first | with_reducible assumption | exact KB.out _ (by repeat (first | with_reducible assumption | with_reducible exact Ext.refl _ | with_reducible apply Ext.alloc | with_reducible apply Ext.drew | with_reducible refine Ext.setb ?_ (by omega) _ _))
      clear hK K
      try simp only [Act.put, List.setIfInBounds_toArray, List.set_cons_zero, List.set_cons_succ]
      refine wpAnyH_ready (rs := [5]) (by kernel_rfl) (by simp) (AllReadyH.cons (oper_at rfl) (fun K hK => ?_) AllReadyH.nil)
      go_simp
      go_at_call 37
      refine (CG.out _ (HE.out.trans (by repeat (first | with_reducible assumption | with_reducible exact Ext.refl _ | with_reducible apply Ext.alloc | with_reducible apply Ext.drew | with_reducible refine Ext.setb ?_ (by omega) _ _)))).mono ?_
      rintro e5 w5 ⟨rfl, h5⟩
      have hE5 : Ext wB w5 := Ext.trans (by repeat (first | with_reducible assumption | with_reducible exact Ext.refl _ | with_reducible apply Ext.alloc | with_reducible apply Ext.drew | with_reducible refine Ext.setb ?_ (by omega) _ _)) h5
      have b0 : w5.cell? ⟨w.heap.size + 2, 0, none⟩ = some (.int .u8 0) := by rw [← hs2]; exact h5.cell (new_at wB.drew #[.int .u8 0, iV 0, iV 0, iV 0, iV 0, iV 0, .slice none 0 0] 61 0 _ rfl)
      have b1 : w5.cell? ⟨w.heap.size + 2, 1, none⟩ = some (iV 0) := by rw [← hs2]; exact h5.cell (new_at wB.drew #[.int .u8 0, iV 0, iV 0, iV 0, iV 0, iV 0, .slice none 0 0] 61 1 _ rfl)
      have b2 : w5.cell? ⟨w.heap.size + 2, 2, none⟩ = some (iV 0) := by rw [← hs2]; exact h5.cell (new_at wB.drew #[.int .u8 0, iV 0, iV 0, iV 0, iV 0, iV 0, .slice none 0 0] 61 2 _ rfl)
      have b3 : w5.cell? ⟨w.heap.size + 2, 3, none⟩ = some (iV 0) := by rw [← hs2]; exact h5.cell (new_at wB.drew #[.int .u8 0, iV 0, iV 0, iV 0, iV 0, iV 0, .slice none 0 0] 61 3 _ rfl)
      have b4 : w5.cell? ⟨w.heap.size + 2, 4, none⟩ = some (iV 0) := by rw [← hs2]; exact h5.cell (new_at wB.drew #[.int .u8 0, iV 0, iV 0, iV 0, iV 0, iV 0, .slice none 0 0] 61 4 _ rfl)
      have b5 : w5.cell? ⟨w.heap.size + 2, 5, none⟩ = some (iV 0) := by rw [← hs2]; exact h5.cell (new_at wB.drew #[.int .u8 0, iV 0, iV 0, iV 0, iV 0, iV 0, .slice none 0 0] 61 5 _ rfl)
      have b6 : w5.cell? ⟨w.heap.size + 2, 6, none⟩ = some (.slice none 0 0) := by rw [← hs2]; exact h5.cell (new_at wB.drew #[.int .u8 0, iV 0, iV 0, iV 0, iV 0, iV 0, .slice none 0 0] 61 6 _ rfl)
      have bf : ∀ i, w5.frozen? ⟨w.heap.size + 2, i, none⟩ = false := fun i => by rw [← hs2]; exact (Below.frozen h5 (p := ⟨wB.heap.size, i, none⟩) (by simp)).trans (World.frozen?_alloc_at _ _ _ _ rfl)
      refine hK.out _ _ ?_ (fun hHeld => ?_)
      · first | with_reducible assumption | exact KB.out _ (by repeat (first | with_reducible assumption | with_reducible exact Ext.refl _ | with_reducible apply Ext.alloc | with_reducible apply Ext.drew | with_reducible refine Ext.setb ?_ (by omega) _ _))
      clear hK K
      try simp only [Act.put, List.setIfInBounds_toArray, List.set_cons_zero, List.set_cons_succ]
      refine wpAnyH_take (i := 6) (v := ?_) (oper_at rfl) (by kernel_rfl) (by kernel_rfl) (by kernel_rfl) (fun _ _ _ h => h) (Or.inl ⟨by rfl, ?_⟩) hHeld ?_
      rotate_left
      · (intro ww hSw; (try dsimp only at hSw); go_simp; try (with_reducible rfl))
      try simp only [Act.put, List.setIfInBounds_toArray, List.set_cons_zero, List.set_cons_succ]
      refine wpAnyH_take (i := 7) (v := ?_) (oper_at rfl) (by kernel_rfl) (by kernel_rfl) (by kernel_rfl) (fun _ _ _ h => h) (Or.inl ⟨by rfl, ?_⟩) hHeld ?_
      rotate_left
      · (intro ww hSw; (try dsimp only at hSw); go_simp; try (with_reducible rfl))
      try simp only [Act.put, List.setIfInBounds_toArray, List.set_cons_zero, List.set_cons_succ]
      refine wpAnyH_take (i := 8) (v := ?_) (oper_at rfl) (by kernel_rfl) (by kernel_rfl) (by kernel_rfl) (fun _ _ _ h => h) (Or.inl ⟨by rfl, ?_⟩) hHeld ?_
      rotate_left
      · (intro ww hSw; (try dsimp only at hSw); go_simp; try (with_reducible rfl))
      try simp only [Act.put, List.setIfInBounds_toArray, List.set_cons_zero, List.set_cons_succ]
      refine wpAnyH_ready (rs := [10]) (by kernel_rfl) (by simp) (AllReadyH.cons (oper_at rfl) (fun K hK => ?_) AllReadyH.nil)
      go_simp
      refine hK.out _ _ ?_ (fun hHeld => ?_)
      · first | with_reducible assumption | exact KB.out _ (by repeat (first | with_reducible assumption | with_reducible exact Ext.refl _ | with_reducible apply Ext.alloc | with_reducible apply Ext.drew | with_reducible refine Ext.setb ?_ (by omega) _ _))
      clear hK K
      try simp only [Act.put, List.setIfInBounds_toArray, List.set_cons_zero, List.set_cons_succ]
      refine wpAnyH_take (i := 11) (v := ?_) (oper_at rfl) (by kernel_rfl) (by kernel_rfl) (by kernel_rfl) (fun _ _ _ h => h) (Or.inl ⟨by rfl, ?_⟩) hHeld ?_
      rotate_left
      · (intro ww hSw; (try dsimp only at hSw); go_simp; try (with_reducible rfl))
      try simp only [Act.put, List.setIfInBounds_toArray, List.set_cons_zero, List.set_cons_succ]
      refine wpAnyH_done (by kernel_rfl) ?_ _
      refine NoPanic.normal ?_
      go_wp2_with fail
      go_meet
      refine ⟨_, rfl, rfl, (by repeat (first | with_reducible assumption | with_reducible exact Ext.refl _ | with_reducible apply Ext.alloc | with_reducible apply Ext.drew | with_reducible refine Ext.setb ?_ (by omega) _ _)), by omega, ⟨by go_simp, by go_simp, by go_simp, by go_simp, by go_simp, by go_simp, by go_simp⟩⟩
  case rest =>
    obtain ⟨wx, rfl⟩ : ∃ wx, wx = wc := ⟨_, rfl⟩
    obtain ⟨b, rfl, rfl, hX, hb, hC⟩ := hcut
    have HX := Lib.hid hX
    have hbx := World.block_lt_of_cell? wx _ hC.c0
    have hbr : blkOf wx w.heap.size = #[.int .u8 0, iV 0, iV 0, iV 0, iV 0, iV 0, .slice none 0 0] := (blkOf_ext hX (by omega)).trans HB.out
    have hN := HN.out.ext (HE.out.trans hX)
    have t0 := hX.cell t0
    have t1 := hX.cell t1
    have t2 := hX.cell t2
    have t3 := hX.cell t3
    have n0 := hX.cell n0
    have n82 := hX.cell n82
    have HEX := Lib.hid (HE.out.trans hX)
    have HBR := Lib.hid hbr
    have HNX := Lib.hid hN
    have HC := Lib.hid hC
    clear hX hC hbr hN CG
    cases ok with
    | true =>
      go_upto_region 4 with fail
      obtain ⟨us, hM, hus⟩ := HNX.out.map
      have HM := Lib.hid hM
      have HUS := Lib.hid (HEAT.out us hus rfl)
      clear hM hus
      have KB : Hid (∀ W, Ext wx W → (fun w' => Ext wx w' ∧ w'.cell? ⟨g, 82, none⟩ = some (.map (some r)) ∧ w'.cell? ⟨w.heap.size + 1, 0, none⟩ = some (kV k1) ∧ w'.cell? ⟨w.heap.size + 1, 1, none⟩ = some (iV k2) ∧ w'.cell? ⟨w.heap.size + 1, 2, none⟩ = some (iV k3) ∧ w'.cell? ⟨w.heap.size + 1, 3, none⟩ = some (iV k4)) W) := Lib.hid (fun W h => ⟨h, h.cell n82, h.cell t0, h.cell t1, h.cell t2, h.cell t3⟩)
      refine wp_region_noPanic ?_
      refine wp_region_X (S := (fun w' => Ext wx w' ∧ w'.cell? ⟨g, 82, none⟩ = some (.map (some r)) ∧ w'.cell? ⟨w.heap.size + 1, 0, none⟩ = some (kV k1) ∧ w'.cell? ⟨w.heap.size + 1, 1, none⟩ = some (iV k2) ∧ w'.cell? ⟨w.heap.size + 1, 2, none⟩ = some (iV k3) ∧ w'.cell? ⟨w.heap.size + 1, 3, none⟩ = some (iV k4))) (z := 5) (by kernel_rfl) ?_ (fun hHeld => ?_)
      · first | with_reducible assumption | exact KB.out _ (by repeat (first | with_reducible assumption | with_reducible exact Ext.refl _ | with_reducible apply Ext.alloc | with_reducible apply Ext.drew | with_reducible refine Ext.setb ?_ (by omega) _ _))
      refine wpAnyX_take (i := 0) (v := ?_) (oper_at rfl) (by kernel_rfl) (by kernel_rfl) (by kernel_rfl) (by kernel_rfl) (fun _ _ _ h => h) (Or.inl ⟨by rfl, ?_⟩) hHeld ?_
      rotate_left
      · (intro ww hSw; (try dsimp only at hSw); go_simp; try (with_reducible rfl))
      try simp only [Act.put, List.setIfInBounds_toArray, List.set_cons_zero, List.set_cons_succ]
      refine wpAnyX_take (i := 1) (v := ?_) (oper_at rfl) (by kernel_rfl) (by kernel_rfl) (by kernel_rfl) (by kernel_rfl) (fun _ _ _ h => h) (Or.inl ⟨by rfl, ?_⟩) hHeld ?_
      rotate_left
      · (intro ww hSw; (try dsimp only at hSw); go_simp; try (with_reducible rfl))
      try simp only [Act.put, List.setIfInBounds_toArray, List.set_cons_zero, List.set_cons_succ]
      refine wpAnyX_take (i := 2) (v := ?_) (oper_at rfl) (by kernel_rfl) (by kernel_rfl) (by kernel_rfl) (by kernel_rfl) (fun _ _ _ h => h) (Or.inl ⟨by rfl, ?_⟩) hHeld ?_
      rotate_left
      · (intro ww hSw; (try dsimp only at hSw); go_simp; try (with_reducible rfl))
      try simp only [Act.put, List.setIfInBounds_toArray, List.set_cons_zero, List.set_cons_succ]
      refine wpAnyX_take (i := 3) (v := ?_) (oper_at rfl) (by kernel_rfl) (by kernel_rfl) (by kernel_rfl) (by kernel_rfl) (fun _ _ _ h => h) (Or.inl ⟨by rfl, ?_⟩) hHeld ?_
      rotate_left
      · (intro ww hSw; (try dsimp only at hSw); go_simp; try (with_reducible rfl))
      try simp only [Act.put, List.setIfInBounds_toArray, List.set_cons_zero, List.set_cons_succ]
      refine wpAnyX_take (i := 4) (v := ?_) (oper_at rfl) (by kernel_rfl) (by kernel_rfl) (by kernel_rfl) (by kernel_rfl) (fun _ _ _ h => h) (Or.inl ⟨by rfl, ?_⟩) hHeld ?_
      rotate_left
      · (intro ww hSw; (try dsimp only at hSw); go_simp; try (with_reducible rfl))
      try simp only [Act.put, List.setIfInBounds_toArray, List.set_cons_zero, List.set_cons_succ]
      refine wpAnyX_ready (rs := [5]) (by kernel_rfl) (by simp) (AllReadyX.last rfl (oper_at rfl) (fun K hK => ?_))
      refine supd (by rfl) (.tmp 33) (.tmp 34) (.const (.bool true)) (by rfl) (z := (k1, k2, k3, k4)) rfl rfl rfl (HM.out.kept rfl) ?_
      intro o' hmk
      refine hK.out _ _ ?_
      clear hK K
      try simp only [Act.put]
      refine wpAnyX_done (by kernel_rfl) ?_ _
      refine NoPanic.normal ?_
      generalize hwy : setBlock wx.drew r o' = wy at *
      have keep : ∀ q, q ≠ r → wy.heap[q]? = wx.heap[q]? := fun q hq => by rw [← hwy, heap_setBlock _ _ _ _ hq]; rfl
      have hX5 : Exc g r w wy := by rw [← hwy]; exact ((HEX.out.drew).exc g r).map _
      have C5 := HC.out.kept (keep b (by omega))
      have hb5 : blkOf wy w.heap.size = #[.int .u8 0, iV 0, iV 0, iV 0, iV 0, iV 0, .slice none 0 0] := (blkOf_kept (keep _ (by omega))).trans HBR.out
      have hg5 : blkOf wy g = NV (.slice A cs.length c) hv x.s x.t x.d (.map (some r)) := (blkOf_kept (keep g hne)).trans HNX.out.blk
      have HX5 := Lib.hid hX5
      have HG5 := Lib.hid hg5
      have HM5 := Lib.hid hmk
      clear hwy keep hX5 hg5 hmk t0 t1 t2 t3 n0 n82
      obtain ⟨v0, v1, v2, v3, v4, v5, v6⟩ := C5
      have u0 : wy.cell? ⟨w.heap.size, 0, none⟩ = some (.int .u8 0) := blkOf_cell (by rw [hb5]; rfl)
      have u1 : wy.cell? ⟨w.heap.size, 1, none⟩ = some (iV 0) := blkOf_cell (by rw [hb5]; rfl)
      have u2 : wy.cell? ⟨w.heap.size, 2, none⟩ = some (iV 0) := blkOf_cell (by rw [hb5]; rfl)
      have u3 : wy.cell? ⟨w.heap.size, 3, none⟩ = some (iV 0) := blkOf_cell (by rw [hb5]; rfl)
      have u4 : wy.cell? ⟨w.heap.size, 4, none⟩ = some (iV 0) := blkOf_cell (by rw [hb5]; rfl)
      have u5 : wy.cell? ⟨w.heap.size, 5, none⟩ = some (iV 0) := blkOf_cell (by rw [hb5]; rfl)
      have u6 : wy.cell? ⟨w.heap.size, 6, none⟩ = some (.slice none 0 0) := blkOf_cell (by rw [hb5]; rfl)
      have uf : ∀ i, wy.frozen? ⟨w.heap.size, i, none⟩ = false := fun i => blkOf_frozen (by rw [hb5]; decide)
      clear hb5
      go_wp2_with fail
      refine bodyPost_ret (res75 Tryz.results52 (g := w.heap.size) (v0 := kV c1) (v1 := iV c2) (v2 := iV c3) (v3 := iV c4) (v4 := iV 0) (v5 := iV c5) (v6 := .slice none 0 0) rfl rfl (by go_simp) (by go_simp) (by go_simp) (by go_simp) (by go_simp) (by go_simp) (by go_simp)) rfl ?_
      have hfin : Exc g r w _ := (((((((HX5.out.setb (Nat.le_refl _) 0 (kV c1)).setb (Nat.le_refl _) 1 (iV c2)).setb (Nat.le_refl _) 2 (iV c3)).setb (Nat.le_refl _) 3 (iV c4)).setb (Nat.le_refl _) 4 (iV 0)).setb (Nat.le_refl _) 5 (iV c5)).setb (Nat.le_refl _) 6 (.slice none 0 0))
      have hng : w.heap.size ≠ g := by omega
      have hnr : r ≠ w.heap.size := by omega
      refine ⟨rfl, ⟨?_, ⟨putM us (k1, k2, k3, k4), HM5.out.kept ?_, HUS.out⟩, HN.out.ch.exc hfin, HN.out.ho.exc hfin, hne⟩, hfin⟩
      · exact (blkOf_far hng).trans ((blkOf_far hng).trans ((blkOf_far hng).trans ((blkOf_far hng).trans ((blkOf_far hng).trans ((blkOf_far hng).trans ((blkOf_far hng).trans HG5.out))))))
      · rw [Below.heap_setCell _ _ _ _ hnr, Below.heap_setCell _ _ _ _ hnr, Below.heap_setCell _ _ _ _ hnr, Below.heap_setCell _ _ _ _ hnr, Below.heap_setCell _ _ _ _ hnr, Below.heap_setCell _ _ _ _ hnr, Below.heap_setCell _ _ _ _ hnr]
    | false =>
      obtain ⟨v0, v1, v2, v3, v4, v5, v6⟩ := HC.out
      have hb5 := HBR.out
      have u0 : wx.cell? ⟨w.heap.size, 0, none⟩ = some (.int .u8 0) := blkOf_cell (by rw [hb5]; rfl)
      have u1 : wx.cell? ⟨w.heap.size, 1, none⟩ = some (iV 0) := blkOf_cell (by rw [hb5]; rfl)
      have u2 : wx.cell? ⟨w.heap.size, 2, none⟩ = some (iV 0) := blkOf_cell (by rw [hb5]; rfl)
      have u3 : wx.cell? ⟨w.heap.size, 3, none⟩ = some (iV 0) := blkOf_cell (by rw [hb5]; rfl)
      have u4 : wx.cell? ⟨w.heap.size, 4, none⟩ = some (iV 0) := blkOf_cell (by rw [hb5]; rfl)
      have u5 : wx.cell? ⟨w.heap.size, 5, none⟩ = some (iV 0) := blkOf_cell (by rw [hb5]; rfl)
      have u6 : wx.cell? ⟨w.heap.size, 6, none⟩ = some (.slice none 0 0) := blkOf_cell (by rw [hb5]; rfl)
      have uf : ∀ i, wx.frozen? ⟨w.heap.size, i, none⟩ = false := fun i => blkOf_frozen (by rw [hb5]; decide)
      clear hb5
      go_wp2_with fail
      refine bodyPost_ret (res75 Tryz.results52 (g := w.heap.size) (v0 := kV c1) (v1 := iV c2) (v2 := iV c3) (v3 := iV c4) (v4 := iV 0) (v5 := iV c5) (v6 := .slice none 0 0) rfl rfl (by go_simp) (by go_simp) (by go_simp) (by go_simp) (by go_simp) (by go_simp) (by go_simp)) rfl ?_
      have hfin : Ext w _ := (((((((HEX.out.setb (Nat.le_refl _) 0 (kV c1)).setb (Nat.le_refl _) 1 (iV c2)).setb (Nat.le_refl _) 2 (iV c3)).setb (Nat.le_refl _) 3 (iV c4)).setb (Nat.le_refl _) 4 (iV 0)).setb (Nat.le_refl _) 5 (iV c5)).setb (Nat.le_refl _) 6 (.slice none 0 0))
      rw [HEAT0.out (by simp)]
      exact ⟨rfl, HN.out.ext hfin, hfin.exc g r⟩
end Go.Proofs.YtehmpbaiefbemaaGreat
