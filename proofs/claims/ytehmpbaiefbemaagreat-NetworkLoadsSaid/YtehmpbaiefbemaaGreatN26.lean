/- Disk, Executed. -/
import Derived.Test.YtehmpbaiefbemaaGreatN25
namespace Go.Proofs.YtehmpbaiefbemaaGreat
open Go.RowKit
open Go.ChangeMaps (setBlock)
attribute [local go_sem ↓] Go.wp_at_zero Go.wp_at_succ
def RetDk (b : Int) (fl : List Int) (w : World) (e : Ending) (w' : World) : Prop := ∃ v, e = .returned (.tuple #[iV b, v]) ∧ Row 1 w' w.heap.size 3 v (fl.map fun x => [iV x]) ∧ Ext w w'
theorem keysAt {ks : List Ky} {k : Nat} (h : k < ks.length) (x : Ky) (e : ks.getD k (0, 0, 0, 0) = x) : (ks.map encK).getD k [] = encK x := keys_at h x e
theorem one_int {x : Int} : ∀ u ∈ [[iV x]].flatten, u.oneCell' = true := by
  intro u hu
  simp at hu
  rw [hu]
  rfl
theorem fail_len (cs : List Ch) (c : Int) (n : Nat) (count : Int) : (failK cs c n count).length ≤ cs.length := by
  unfold failK
  refine Nat.le_trans (List.length_filter_le _ _) ?_
  rw [List.length_map]
  omega
set_option maxRecDepth 100000 in
set_option maxHeartbeats 4000000 in
theorem disk24_any (g r : Nat) (cv hv : Value) (cs : List Ch) (hs : List Jh) (x : St) (c : Int) (count : Int) (w : World) (hN : Net w g r cv hv cs hs x) (hl : cs.length ≤ 1000) (hb : Bd x 100000) (hK : KeyS cs) :
    Calls Tryz.prog 19 #[.pointer (some ⟨g, 0, none⟩), iV c, iV count] w (RetDk (diskF cs c count x).1 (diskF cs c count x).2 w) := by
  by_cases hc : inC c
  · obtain ⟨hc0, hc8⟩ := hc
    obtain ⟨n, rfl⟩ : ∃ n : Nat, c = (n : Int) := ⟨c.toNat, by omega⟩
    have hn : n < 8 := by omega
    have hn8 : (n : Int) < 8 := by omega
    have CF := Lib.hid (failing50_any g r cv hv cs hs x n count w hN hl hn hb hK)
    have hfl := fail_len cs (n : Int) (x.d n) count
    have HF : Hid (diskF cs (n : Int) count x = ((x.d n : Int), (failK cs (n : Int) (x.d n) count).map (·.2.2.2))) := Lib.hid (by unfold diskF; rw [if_pos ⟨hc0, hc8⟩]; rfl)
    rw [HF.out]
    simp only []
    obtain ⟨d, hd⟩ : ∃ d, x.d n = d := ⟨_, rfl⟩
    have nd : w.cell? ⟨g, 74 + n, none⟩ = some (iV (d : Int)) := blkOf_cell (by rw [hN.blk, ← hd]; exact NV_dis hn)
    rw [hd] at CF hfl ⊢
    obtain ⟨fs, hfs⟩ : ∃ fs, failK cs (n : Int) d count = fs := ⟨_, rfl⟩
    rw [hfs] at CF hfl ⊢
    have CC := comp_any (n : Int)
    rw [decide_eq_true (⟨hc0, hc8⟩ : 0 ≤ (n : Int) ∧ (n : Int) < 8)] at CC
    have HCC := Lib.hid CC
    clear CC hfs hd hN hb hK HF
    go_enter Tryz.func19, Tryz.ntmps19
    go_wp2_with fail
    refine (HCC.out _).mono ?_
    rintro e0 w0 ⟨rfl, rfl⟩
    go_wp2_with fail
    refine CF.out.mono ?_
    rintro e1 w1 ⟨t, rfl, hr1, hE1⟩
    obtain ⟨A, c', rfl, a1, a2, RA⟩ := hr1.sl.read
    rw [List.length_map] at a1 RA ⊢
    have HR := Lib.hid RA
    have HE1 := Lib.hid hE1
    have n1 := hE1.cell nd
    have hg1 := World.block_lt_of_cell? w1 _ n1
    simp only [] at hg1
    clear RA hr1 hE1 CF nd
    go_wp2_with fail
    go_loopw [7, 22] (fun l i wr => ∃ k : Nat, k ≤ fs.length ∧ i = iV (k : Int) ∧ Row 1 wr w1.heap.size 3 l ((fs.take k).map fun y => [iV y.2.2.2]) ∧ Ext w1 wr) (fun _ i _ => fs.length - (intOf i).toNat)
    case atStart => exact ⟨0, by omega, rfl, Row.nil _ _ _ _, Ext.refl _⟩
    case round =>
      obtain ⟨k, hk, rfl, hr, hX⟩ := hrel
      obtain ⟨Al, cl, el, -, -⟩ := hr.form
      have htl : ((fs.take k).map fun y => [iV y.2.2.2]).length = k := by rw [List.length_map, List.length_take]; omega
      rw [htl] at el
      subst el
      have HTL := Lib.hid htl
      have HRk := Lib.hid hr
      have HX := Lib.hid hX
      have HBk : Hid (w1.heap.size ≤ wr.heap.size) := Lib.hid hX.size
      have n2 := hX.cell n1
      have hg2 : g < wr.heap.size := Nat.lt_of_lt_of_le hg1 hX.size
      clear hr hX htl
      by_cases hlt : k < fs.length
      · obtain ⟨b, o, rfl, hb, cR⟩ := HR.out wr HX.out k hlt (by omega)
        obtain ⟨y, hy⟩ : ∃ y, fs.getD k (0, 0, 0, 0) = y := ⟨_, rfl⟩
        rw [keysAt hlt y hy] at cR
        have HST : Hid ((fs.take (k + 1)).map (fun y => [iV y.2.2.2]) = (fs.take k).map (fun y => [iV y.2.2.2]) ++ [[iV y.2.2.2]]) := by rw [take_mapD (0, 0, 0, 0) _ hlt, hy]; exact Lib.hid rfl
        obtain ⟨y1, y2, y3, y4⟩ := y
        have c0 := cR 0 _ (by omega) rfl
        have c1 := cR 1 _ (by omega) rfl
        have c2 := cR 2 _ (by omega) rfl
        have c3 := cR 3 _ (by omega) rfl
        rw [Nat.add_zero] at c0
        clear cR hy
        go_wp2_with (at_builtin; refine wappB el80 rfl (.tmp 26) (.tmp 29) rfl (B := w1.heap.size) (vs := (fs.take k).map fun y => [iV y.2.2.2]) (us := [[iV y4]]) rfl (by have := HBk.out; simp; omega) ((HRk.out.ext ((Ext.refl _).alloc _)).ext ((Ext.refl _).alloc _)) rfl rfl (Wide.one rfl) (vs1n (by simp)) one_int (by rw [HTL.out, List.length_singleton]; omega) (by rw [HTL.out, List.length_singleton]; omega) ?_; intro v3 w3 hr3 hg3 hb3; have HR3 := Lib.hid hr3; have HE3 := Lib.hid (ext_grow ((HX.out.alloc _).alloc _) hg3 (fun k hk => (HRk.out.lt k hk).1)); clear hr3 hg3 hb3)
        exact ⟨⟨k + 1, by omega, by go_num, by rw [HST.out]; exact HR3.out, HE3.out⟩, by simp [intOf]; omega⟩
      · obtain rfl : k = fs.length := by omega
        go_wp2_with fail
        go_ret2
        refine ⟨_, rfl, ?_, HE1.out.trans HX.out⟩
        have h := HRk.out
        rw [List.take_length] at h
        rw [List.map_map]
        exact h.base HE1.out.size
  · have HF : Hid (diskF cs c count x = (-1, [])) := Lib.hid (by unfold diskF; rw [if_neg hc])
    rw [HF.out]
    have CC := comp_any c
    rw [decide_eq_false (show ¬ (0 ≤ c ∧ c < 8) from hc)] at CC
    have HCC := Lib.hid CC
    clear CC hN hc
    go_enter Tryz.func19, Tryz.ntmps19
    go_wp2_with fail
    refine (HCC.out _).mono ?_
    rintro e1 w1 ⟨rfl, rfl⟩
    go_wp2_with fail
    go_ret2
    exact ⟨_, rfl, Row.nil _ _ _ _, Ext.refl _⟩
theorem putM_insK {us ks : List Ky} {k : Ky} (h : ∀ y, y ∈ us ↔ y ∈ ks) : ∀ y, y ∈ putM us k ↔ y ∈ insK k ks := fun y => by rw [mem_putM, mem_insK, h]
theorem foldI_step {fs ks : List Ky} {k : Nat} (h : k < fs.length) : (fs.take (k + 1)).foldl (fun u k => insK k u) ks = insK (fs.getD k (0, 0, 0, 0)) ((fs.take k).foldl (fun u k => insK k u) ks) := by
  rw [List.take_succ_eq_append_getElem h, List.foldl_append, List.getD_eq_getElem?_getD, List.getElem?_eq_getElem h]
  rfl
set_option maxRecDepth 100000 in
set_option maxHeartbeats 4000000 in
theorem executed25_any (g r : Nat) (cv hv : Value) (cs : List Ch) (hs : List Jh) (x : St) (c : Int) (count : Int) (w : World) (hN : Net w g r cv hv cs hs x) (hl : cs.length ≤ 1000) (hb : Bd x 100000) (hK : KeyS cs) (hct : count ≤ 100000) :
    Calls Tryz.prog 57 #[.pointer (some ⟨g, 0, none⟩), iV c, iV count] w (RetE g r cv hv cs hs (exeF cs c count x) (.tuple #[]) w) := by
  have HN := Lib.hid hN
  by_cases hc : inC c
  · obtain ⟨hc0, hc8⟩ := hc
    obtain ⟨n, rfl⟩ : ∃ n : Nat, c = (n : Int) := ⟨c.toNat, by omega⟩
    have CC := comp_any (n : Int)
    rw [decide_eq_true (⟨hc0, hc8⟩ : 0 ≤ (n : Int) ∧ (n : Int) < 8)] at CC
    have HCC := Lib.hid CC
    clear CC
    by_cases hp : 0 < count
    · have hn : n < 8 := by omega
      have hn8 : (n : Int) < 8 := by omega
      have hp' : ¬ count ≤ 0 := by omega
      have CF := Lib.hid (failing50_any g r cv hv cs hs x n count w hN hl hn hb hK)
      have hfl := fail_len cs (n : Int) (x.d n) count
      obtain ⟨d, hd⟩ : ∃ d, x.d n = d := ⟨_, rfl⟩
      have hdb : (d : Int) ≤ 100000 := by have := (hb n).2.2; omega
      have HF : Hid (exeF cs (n : Int) count x = { x with d := upd x.d n (d + count.toNat), ks := (failK cs (n : Int) d count).foldl (fun u k => insK k u) x.ks }) := Lib.hid (by unfold exeF; rw [if_pos ⟨⟨hc0, hc8⟩, hp⟩, ← hd]; rfl)
      rw [HF.out]
      rw [hd] at CF hfl
      obtain ⟨fs, hfs⟩ : ∃ fs, failK cs (n : Int) d count = fs := ⟨_, rfl⟩
      rw [hfs] at CF hfl ⊢
      have HD := Lib.hid hd
      have hgl := hN.lt
      have hrl := hN.rlt
      have hne := hN.ne
      clear hfs hN hb hK HF hd
      go_enter Tryz.func57, Tryz.ntmps57
      go_wp2_with fail
      refine (HCC.out _).mono ?_
      rintro e0 w0 ⟨rfl, rfl⟩
      go_wp2_with fail
      refine CF.out.mono ?_
      rintro e1 w1 ⟨t, rfl, hr1, hE1⟩
      obtain ⟨A, c', rfl, -, -, -⟩ := hr1.sl.read
      rw [List.length_map] at hr1 ⊢
      have HR1 := Lib.hid hr1
      have HE1 := Lib.hid hE1
      clear hr1 hE1 CF
      go_wp2_with fail
      go_loopw [24] (fun i wr => ∃ k : Nat, k ≤ fs.length ∧ i = iV (k : Int) ∧ Net wr g r cv hv cs hs { x with ks := (fs.take k).foldl (fun u k => insK k u) x.ks } ∧ Exc g r w wr ∧ Exc g r w1 wr) (fun i _ => fs.length - (intOf i).toNat)
      case atStart => exact ⟨0, by omega, rfl, HN.out.ext HE1.out, HE1.out.exc g r, Exc.refl _ _ _⟩
      case round =>
        obtain ⟨k, hk, rfl, hNk, hX, hX1⟩ := hrel
        have HNk := Lib.hid hNk
        have HX := Lib.hid hX
        have HX1 := Lib.hid hX1
        have RA := HR1.out.exc hX1 hgl hrl
        have hwl : w.heap.size ≤ wr.heap.size := hX.size
        clear hNk hX hX1
        by_cases hlt : k < fs.length
        · obtain ⟨A', c2, e2, -, -, RR⟩ := RA.sl.read
          rw [List.length_map] at e2 RR
          simp only [Value.slice.injEq] at e2
          obtain ⟨rfl, -, rfl⟩ := e2
          obtain ⟨b, o, rfl, hb, cR⟩ := RR wr (Ext.refl _) k hlt (by omega)
          obtain ⟨y, hy⟩ : ∃ y, fs.getD k (0, 0, 0, 0) = y := ⟨_, rfl⟩
          rw [keysAt hlt y hy] at cR
          have HST : Hid ((fs.take (k + 1)).foldl (fun u k => insK k u) x.ks = insK y ((fs.take k).foldl (fun u k => insK k u) x.ks)) := by rw [foldI_step hlt, hy]; exact Lib.hid rfl
          obtain ⟨y1, y2, y3, y4⟩ := y
          have c0 := cR 0 _ (by omega) rfl
          have c1 := cR 1 _ (by omega) rfl
          have c2 := cR 2 _ (by omega) rfl
          have c3 := cR 3 _ (by omega) rfl
          rw [Nat.add_zero] at c0
          clear cR hy RR RA
          go_upto_region 4 with fail
          generalize hwq : wr.alloc _ = wq
          have hEq : Ext wr wq := by rw [← hwq]; exact (Ext.refl _).alloc _
          have q0 : wq.cell? ⟨wr.heap.size, 0, none⟩ = some (kV y1) := by rw [← hwq]; exact new_at _ _ _ 0 _ rfl
          have q1 : wq.cell? ⟨wr.heap.size, 1, none⟩ = some (iV y2) := by rw [← hwq]; exact new_at _ _ _ 1 _ rfl
          have q2 : wq.cell? ⟨wr.heap.size, 2, none⟩ = some (iV y3) := by rw [← hwq]; exact new_at _ _ _ 2 _ rfl
          have q3 : wq.cell? ⟨wr.heap.size, 3, none⟩ = some (iV y4) := by rw [← hwq]; exact new_at _ _ _ 3 _ rfl
          have hNq := HNk.out.ext hEq
          have HNq := Lib.hid hNq
          have n82 : wq.cell? ⟨g, 82, none⟩ = some (.map (some r)) := blkOf_cell (by rw [hNq.blk]; exact NV_82)
          obtain ⟨us, hM, hus⟩ := hNq.map
          have HM := Lib.hid hM
          have HUS := Lib.hid (putM_insK (k := (y1, y2, y3, y4)) hus)
          have HEq := Lib.hid hEq
          clear hwq hEq c0 c1 c2 c3 hNq hM hus HNk
          refine wp_region_noPanic ?_
          refine wp_region_X (S := (fun ww => ww = wq.drew)) (z := 5) (by kernel_rfl) ?_ (fun hHeld => ?_)
          · rfl
          refine wpAnyX_take (i := 0) (v := ?_) (oper_at rfl) (by kernel_rfl) (by kernel_rfl) (by kernel_rfl) (by kernel_rfl) (fun _ _ _ h => h) (Or.inl ⟨by rfl, ?_⟩) hHeld ?_
          rotate_left
          · (intro ww hSw; (try dsimp only at hSw); go_simp; try (with_reducible rfl))
          try simp only [Act.put, List.setIfInBounds_toArray, List.set_cons_zero, List.set_cons_succ]
          refine wpAnyX_take (i := 1) (v := ?_) (oper_at rfl) (by kernel_rfl) (by kernel_rfl) (by kernel_rfl) (by kernel_rfl) (fun _ _ _ h => h) (Or.inl ⟨by rfl, ?_⟩) hHeld ?_
          rotate_left
          · (intro ww hSw; (try dsimp only at hSw); go_simp; try (with_reducible rfl))
          try simp only [Act.put, List.setIfInBounds_toArray, List.set_cons_zero, List.set_cons_succ]
          refine wpAnyX_take (i := 2) (v := ?_) (oper_at rfl) (by kernel_rfl) (by kernel_rfl) (by kernel_rfl) (by kernel_rfl) (fun _ _ _ h => h) (Or.inl ⟨by rfl, ?_⟩) hHeld ?_
          rotate_left
          · (intro ww hSw; (try dsimp only at hSw); go_simp; try (with_reducible rfl))
          try simp only [Act.put, List.setIfInBounds_toArray, List.set_cons_zero, List.set_cons_succ]
          refine wpAnyX_take (i := 3) (v := ?_) (oper_at rfl) (by kernel_rfl) (by kernel_rfl) (by kernel_rfl) (by kernel_rfl) (fun _ _ _ h => h) (Or.inl ⟨by rfl, ?_⟩) hHeld ?_
          rotate_left
          · (intro ww hSw; (try dsimp only at hSw); go_simp; try (with_reducible rfl))
          try simp only [Act.put, List.setIfInBounds_toArray, List.set_cons_zero, List.set_cons_succ]
          refine wpAnyX_take (i := 4) (v := ?_) (oper_at rfl) (by kernel_rfl) (by kernel_rfl) (by kernel_rfl) (by kernel_rfl) (fun _ _ _ h => h) (Or.inl ⟨by rfl, ?_⟩) hHeld ?_
          rotate_left
          · (intro ww hSw; (try dsimp only at hSw); go_simp; try (with_reducible rfl))
          try simp only [Act.put, List.setIfInBounds_toArray, List.set_cons_zero, List.set_cons_succ]
          refine wpAnyX_ready (rs := [5]) (by kernel_rfl) (by simp) (AllReadyX.last rfl (oper_at rfl) (fun K hK => ?_))
          refine supd (by rfl) (.tmp 31) (.tmp 32) (.const (.bool true)) (by rfl) (z := (y1, y2, y3, y4)) rfl rfl rfl (HM.out.kept rfl) ?_
          intro o' hmk
          refine hK.out _ _ ?_
          clear hK K
          try simp only [Act.put]
          refine wpAnyX_done (by kernel_rfl) ?_ _
          refine NoPanic.normal ?_
          have hX5 : Exc g r wq (setBlock wq.drew r o') := (((Ext.refl wq).drew).exc g r).map _
          have HX5 := Lib.hid hX5
          have HM5 := Lib.hid hmk
          clear hX5 hmk q0 q1 q2 q3 n82
          go_wp2_with fail
          refine ⟨⟨k + 1, by omega, by go_num, HNq.out.exc (y := { x with ks := _ }) HX5.out ((blkOf_kept (heap_setBlock _ _ _ _ hne)).trans HNq.out.blk) ⟨_, HM5.out, by rw [HST.out]; exact HUS.out⟩, HX.out.trans ((HEq.out.exc g r).trans HX5.out), HX1.out.trans ((HEq.out.exc g r).trans HX5.out)⟩, by simp [intOf]; omega⟩
        · obtain rfl : k = fs.length := by omega
          rw [List.take_length] at HNk
          have nd : wr.cell? ⟨g, 74 + n, none⟩ = some (iV (d : Int)) := blkOf_cell (by rw [HNk.out.blk, ← HD.out]; exact NV_dis hn)
          have nf : ∀ i, wr.frozen? ⟨g, i, none⟩ = false := fun i => blkOf_frozen (by rw [HNk.out.blk, NV_size]; omega)
          have hw1 : IntKind.i64.wrap (9223372036854775807 - (d : Int)) = 9223372036854775807 - (d : Int) := IntWalk.i64_in _ (by omega)
          have hmin : min count (9223372036854775807 - (d : Int)) = count := by omega
          have hw2 : IntKind.i64.wrap ((d : Int) + count) = (d : Int) + count := IntWalk.i64_in _ (by omega)
          obtain ⟨hN1, hE2⟩ := (HNk.out.ext ((Ext.refl wr).drew)).setD hn (d + count.toNat)
          have hcast : ((d + count.toNat : Nat) : Int) = (d : Int) + count := by omega
          rw [hcast] at hN1 hE2
          have HN1 := Lib.hid hN1
          have HE2 := Lib.hid (HX.out.trans ((((Ext.refl wr).drew).exc g r).trans hE2))
          clear hN1 hE2 hcast RA
          go_upto_region 6 with fail
          refine wp_region_noPanic ?_
          refine wp_region_X (S := (fun ww => ww = wr.drew)) (z := 19) (by kernel_rfl) ?_ (fun hHeld => ?_)
          · rfl
          refine wpAnyX_take (i := 0) (v := ?_) (oper_at rfl) (by kernel_rfl) (by kernel_rfl) (by kernel_rfl) (by kernel_rfl) (fun _ _ _ h => h) (Or.inl ⟨by rfl, ?_⟩) hHeld ?_
          rotate_left
          · (intro ww hSw; (try dsimp only at hSw); go_simp; try (with_reducible rfl))
          try simp only [Act.put, List.setIfInBounds_toArray, List.set_cons_zero, List.set_cons_succ]
          refine wpAnyX_take (i := 1) (v := ?_) (oper_at rfl) (by kernel_rfl) (by kernel_rfl) (by kernel_rfl) (by kernel_rfl) (fun _ _ _ h => h) (Or.inl ⟨by rfl, ?_⟩) hHeld ?_
          rotate_left
          · (intro ww hSw; (try dsimp only at hSw); go_simp; try (with_reducible rfl))
          try simp only [Act.put, List.setIfInBounds_toArray, List.set_cons_zero, List.set_cons_succ]
          refine wpAnyX_take (i := 2) (v := ?_) (oper_at rfl) (by kernel_rfl) (by kernel_rfl) (by kernel_rfl) (by kernel_rfl) (fun _ _ _ h => h) (Or.inl ⟨by rfl, ?_⟩) hHeld ?_
          rotate_left
          · (intro ww hSw; (try dsimp only at hSw); go_simp; try (with_reducible rfl))
          try simp only [Act.put, List.setIfInBounds_toArray, List.set_cons_zero, List.set_cons_succ]
          refine wpAnyX_take (i := 3) (v := ?_) (oper_at rfl) (by kernel_rfl) (by kernel_rfl) (by kernel_rfl) (by kernel_rfl) (fun _ _ _ h => h) (Or.inl ⟨by rfl, ?_⟩) hHeld ?_
          rotate_left
          · (intro ww hSw; (try dsimp only at hSw); go_simp; try (with_reducible rfl))
          try simp only [Act.put, List.setIfInBounds_toArray, List.set_cons_zero, List.set_cons_succ]
          refine wpAnyX_take (i := 4) (v := ?_) (oper_at rfl) (by kernel_rfl) (by kernel_rfl) (by kernel_rfl) (by kernel_rfl) (fun _ _ _ h => h) (Or.inl ⟨by rfl, ?_⟩) hHeld ?_
          rotate_left
          · (intro ww hSw; (try dsimp only at hSw); go_simp; try (with_reducible rfl))
          try simp only [Act.put, List.setIfInBounds_toArray, List.set_cons_zero, List.set_cons_succ]
          refine wpAnyX_take (i := 5) (v := ?_) (oper_at rfl) (by kernel_rfl) (by kernel_rfl) (by kernel_rfl) (by kernel_rfl) (fun _ _ _ h => h) (Or.inl ⟨by rfl, ?_⟩) hHeld ?_
          rotate_left
          · (intro ww hSw; (try dsimp only at hSw); go_simp; try (with_reducible rfl))
          try simp only [Act.put, List.setIfInBounds_toArray, List.set_cons_zero, List.set_cons_succ]
          refine wpAnyX_take (i := 6) (v := ?_) (oper_at rfl) (by kernel_rfl) (by kernel_rfl) (by kernel_rfl) (by kernel_rfl) (fun _ _ _ h => h) (Or.inl ⟨by rfl, ?_⟩) hHeld ?_
          rotate_left
          · (intro ww hSw; (try dsimp only at hSw); go_simp; try (with_reducible rfl))
          try simp only [Act.put, List.setIfInBounds_toArray, List.set_cons_zero, List.set_cons_succ]
          refine wpAnyX_take (i := 7) (v := ?_) (oper_at rfl) (by kernel_rfl) (by kernel_rfl) (by kernel_rfl) (by kernel_rfl) (fun _ _ _ h => h) (Or.inl ⟨by rfl, ?_⟩) hHeld ?_
          rotate_left
          · (intro ww hSw; (try dsimp only at hSw); go_simp; try (with_reducible rfl))
          try simp only [Act.put, List.setIfInBounds_toArray, List.set_cons_zero, List.set_cons_succ]
          refine wpAnyX_take (i := 8) (v := ?_) (oper_at rfl) (by kernel_rfl) (by kernel_rfl) (by kernel_rfl) (by kernel_rfl) (fun _ _ _ h => h) (Or.inl ⟨by rfl, ?_⟩) hHeld ?_
          rotate_left
          · (intro ww hSw; (try dsimp only at hSw); go_simp; try (with_reducible rfl))
          try simp only [Act.put, List.setIfInBounds_toArray, List.set_cons_zero, List.set_cons_succ]
          refine wpAnyX_take (i := 9) (v := ?_) (oper_at rfl) (by kernel_rfl) (by kernel_rfl) (by kernel_rfl) (by kernel_rfl) (fun _ _ _ h => h) (Or.inl ⟨by rfl, ?_⟩) hHeld ?_
          rotate_left
          · (intro ww hSw; (try dsimp only at hSw); go_simp; try (with_reducible rfl))
          try simp only [Act.put, List.setIfInBounds_toArray, List.set_cons_zero, List.set_cons_succ]
          refine wpAnyX_take (i := 10) (v := ?_) (oper_at rfl) (by kernel_rfl) (by kernel_rfl) (by kernel_rfl) (by kernel_rfl) (fun _ _ _ h => h) (Or.inl ⟨by rfl, ?_⟩) hHeld ?_
          rotate_left
          · (intro ww hSw; (try dsimp only at hSw); go_simp; try (with_reducible rfl))
          try simp only [Act.put, List.setIfInBounds_toArray, List.set_cons_zero, List.set_cons_succ]
          refine wpAnyX_take (i := 11) (v := ?_) (oper_at rfl) (by kernel_rfl) (by kernel_rfl) (by kernel_rfl) (by kernel_rfl) (fun _ _ _ h => h) (Or.inl ⟨by rfl, ?_⟩) hHeld ?_
          rotate_left
          · (intro ww hSw; (try dsimp only at hSw); go_simp; try (with_reducible rfl))
          try simp only [Act.put, List.setIfInBounds_toArray, List.set_cons_zero, List.set_cons_succ]
          refine wpAnyX_take (i := 12) (v := ?_) (oper_at rfl) (by kernel_rfl) (by kernel_rfl) (by kernel_rfl) (by kernel_rfl) (fun _ _ _ h => h) (Or.inl ⟨by rfl, ?_⟩) hHeld ?_
          rotate_left
          · (intro ww hSw; (try dsimp only at hSw); go_simp; try (with_reducible rfl))
          try simp only [Act.put, List.setIfInBounds_toArray, List.set_cons_zero, List.set_cons_succ]
          refine wpAnyX_take (i := 13) (v := ?_) (oper_at rfl) (by kernel_rfl) (by kernel_rfl) (by kernel_rfl) (by kernel_rfl) (fun _ _ _ h => h) (Or.inl ⟨by rfl, ?_⟩) hHeld ?_
          rotate_left
          · (intro ww hSw; (try dsimp only at hSw); go_simp; try (with_reducible rfl))
          try simp only [Act.put, List.setIfInBounds_toArray, List.set_cons_zero, List.set_cons_succ]
          refine wpAnyX_take (i := 14) (v := ?_) (oper_at rfl) (by kernel_rfl) (by kernel_rfl) (by kernel_rfl) (by kernel_rfl) (fun _ _ _ h => h) (Or.inl ⟨by rfl, ?_⟩) hHeld ?_
          rotate_left
          · (intro ww hSw; (try dsimp only at hSw); go_simp; try (with_reducible rfl))
          try simp only [Act.put, List.setIfInBounds_toArray, List.set_cons_zero, List.set_cons_succ]
          refine wpAnyX_take (i := 15) (v := ?_) (oper_at rfl) (by kernel_rfl) (by kernel_rfl) (by kernel_rfl) (by kernel_rfl) (fun _ _ _ h => h) (Or.inl ⟨by rfl, ?_⟩) hHeld ?_
          rotate_left
          · (intro ww hSw; (try dsimp only at hSw); go_simp; try (with_reducible rfl))
          try simp only [Act.put, List.setIfInBounds_toArray, List.set_cons_zero, List.set_cons_succ]
          refine wpAnyX_ready (rs := [16]) (by kernel_rfl) (by simp) (AllReadyX.cons (by decide) (oper_at rfl) (fun K hK => ?_) AllReadyX.nil)
          go_simp
          refine hK.out _ _ ?_ (fun hHeld => ?_)
          · rfl
          clear hK K
          try simp only [Act.put, List.setIfInBounds_toArray, List.set_cons_zero, List.set_cons_succ]
          refine wpAnyX_ready (rs := [17]) (by kernel_rfl) (by simp) (AllReadyX.cons (by decide) (oper_at rfl) (fun K hK => ?_) AllReadyX.nil)
          go_simp
          refine hK.out _ _ ?_ (fun hHeld => ?_)
          · rfl
          clear hK K
          try simp only [Act.put, List.setIfInBounds_toArray, List.set_cons_zero, List.set_cons_succ]
          refine wpAnyX_ready (rs := [18]) (by kernel_rfl) (by simp) (AllReadyX.cons (by decide) (oper_at rfl) (fun K hK => ?_) AllReadyX.nil)
          go_simp
          refine hK.out _ _ ?_ (fun hHeld => ?_)
          · rfl
          clear hK K
          try simp only [Act.put, List.setIfInBounds_toArray, List.set_cons_zero, List.set_cons_succ]
          refine wpAnyX_ready (rs := [19]) (by kernel_rfl) (by simp) (AllReadyX.last rfl (oper_at rfl) (fun K hK => ?_))
          go_simp
          refine hK.out _ _ ?_
          clear hK K
          try simp only [Act.put, List.setIfInBounds_toArray, List.set_cons_zero, List.set_cons_succ]
          refine wpAnyX_done (by kernel_rfl) ?_ _
          refine NoPanic.normal ?_
          exact bodyPost_end (results_none Tryz.results57 _ _ _) rfl ⟨rfl, HN1.out, HE2.out⟩
    · have hp' : count ≤ 0 := by omega
      have HF : Hid (exeF cs (n : Int) count x = x) := Lib.hid (by unfold exeF; rw [if_neg (fun h => hp h.2)])
      rw [HF.out]
      clear hN
      go_enter Tryz.func57, Tryz.ntmps57
      go_wp2_with fail
      refine (HCC.out _).mono ?_
      rintro e0 w0 ⟨rfl, rfl⟩
      go_wp2_with fail
      exact bodyPost_ret (results_none Tryz.results57 _ _ _) rfl ⟨rfl, HN.out, Exc.refl _ _ _⟩
  · have HF : Hid (exeF cs c count x = x) := Lib.hid (by unfold exeF; rw [if_neg (fun h => hc h.1)])
    rw [HF.out]
    have CC := comp_any c
    rw [decide_eq_false (show ¬ (0 ≤ c ∧ c < 8) from hc)] at CC
    have HCC := Lib.hid CC
    clear CC hN hc
    go_enter Tryz.func57, Tryz.ntmps57
    go_wp2_with fail
    refine (HCC.out _).mono ?_
    rintro e1 w1 ⟨rfl, rfl⟩
    go_wp2_with fail
    exact bodyPost_ret (results_none Tryz.results57 _ _ _) rfl ⟨rfl, HN.out, Exc.refl _ _ _⟩
end Go.Proofs.YtehmpbaiefbemaaGreat
