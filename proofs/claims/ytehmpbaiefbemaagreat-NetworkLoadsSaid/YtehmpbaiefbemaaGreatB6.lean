/- The walk over (*Network).Bytes, in the numbers of the .Z seat. -/
import Derived.Test.YtehmpbaiefbemaaGreatB5
namespace Go.Proofs.YtehmpbaiefbemaaGreat
open Go.RowKit
attribute [local go_sem ↓] Go.wp_at_zero Go.wp_at_succ
attribute [local go_sem ↓] ld28 in28
theorem range_flat {α : Type} (f : Nat → List α) (k : Nat) : (List.range (k + 1)).flatMap f = (List.range k).flatMap f ++ f k := by rw [List.range_succ, List.flatMap_append]; simp
theorem flat_le {f : Nat → List UInt8} {m : Nat} (h : ∀ i, (f i).length ≤ m) : ∀ k, ((List.range k).flatMap f).length ≤ m * k
  | 0 => by simp
  | k + 1 => by
    rw [range_flat, List.length_append]
    have h1 := flat_le h k
    have h2 := h k
    rw [Nat.mul_succ]
    omega
theorem bd_put {x : St} (hb : Bd x 100000) : (∀ i, (putU (x.s i)).length ≤ 3) ∧ (∀ i, (putU (x.t i)).length ≤ 3) ∧ ∀ i, (putU (x.d i)).length ≤ 3 := by
  have k : 100000 < 128 ^ 3 := by decide
  exact ⟨fun i => putU_short (Nat.lt_of_le_of_lt (hb i).1 k), fun i => putU_short (Nat.lt_of_le_of_lt (hb i).2.1 k), fun i => putU_short (Nat.lt_of_le_of_lt (hb i).2.2 k)⟩
theorem rowB_le {x : St} (hb : Bd x 100000) (c : Nat) : (rowB x c).length ≤ 30 := by
  obtain ⟨h1, h2, h3⟩ := bd_put hb
  unfold rowB
  rw [List.length_append, List.length_append]
  have := flat_le (f := fun k => putU (x.s (c * 8 + k))) (fun i => h1 _) 8
  have := h2 c
  have := h3 c
  omega
/-- The keys' numbers are small. -/
def SmK (ks : List Ky) : Prop := ∀ k ∈ ks, k.1 < 256 ∧ 0 ≤ k.2.1 ∧ k.2.1 ≤ 100000 ∧ 0 ≤ k.2.2.1 ∧ k.2.2.1 ≤ 100000 ∧ 0 ≤ k.2.2.2 ∧ k.2.2.2 ≤ 100000
theorem in91 (x i : Value) : Instr.index 91 x i = idS 91 x i := by unfold idS; rfl
theorem run_in91 {w : World} {n2 n3 n4 q : Nat} (hq : q < 3) : (idS 91 (.agg #[iV (n2 : Int), iV (n3 : Int), iV (n4 : Int)]) (.int .i64 (q : Int))).run Tryz.prog w = .ok (iV (([n2, n3, n4].getD q 0 : Nat) : Int)) w := by
  have h : q = 0 ∨ q = 1 ∨ q = 2 := by omega
  unfold idS Instr.index
  rcases h with rfl | rfl | rfl <;> go_simp
attribute [local go_sem ↓] in91
theorem bv_snoc (xs : List UInt8) {n : Nat} (h : n < 256) : bv xs ++ [[kV n]] = bv (xs ++ [UInt8.ofNat n]) := by
  have e : (UInt8.ofNat n).toNat = n := by simp; omega
  rw [bv_app]
  simp only [bv, List.map_cons, List.map_nil, e]
theorem one_kV {n : Nat} : ∀ u ∈ ([[kV n]] : List (List Value)).flatten, u.oneCell' = true := by
  intro u hu
  simp at hu
  subst hu
  rfl
theorem small3 {n : Nat} (h : n ≤ 100000) : (putU n).length ≤ 3 := putU_short (Nat.lt_of_le_of_lt h (by decide))
theorem three_get {n2 n3 n4 : Nat} (h : (n2 : Int) ≤ 100000 ∧ (n3 : Int) ≤ 100000 ∧ (n4 : Int) ≤ 100000) (q : Nat) : [n2, n3, n4].getD q 0 ≤ 100000 := by
  obtain ⟨h1, h2, h3⟩ := h
  match q with
  | 0 => simp; omega
  | 1 => simp; omega
  | 2 => simp; omega
  | q + 3 => simp
theorem three_step {n2 n3 n4 q : Nat} (hq : q < 3) : ([n2, n3, n4].take (q + 1)).flatMap putU = ([n2, n3, n4].take q).flatMap putU ++ putU ([n2, n3, n4].getD q 0) := by
  have h : q = 0 ∨ q = 1 ∨ q = 2 := by omega
  rcases h with rfl | rfl | rfl <;> simp
theorem three_le {n2 n3 n4 : Nat} (h : (n2 : Int) ≤ 100000 ∧ (n3 : Int) ≤ 100000 ∧ (n4 : Int) ≤ 100000) (q : Nat) : (([n2, n3, n4].take q).flatMap putU).length ≤ 9 := by
  obtain ⟨h1, h2, h3⟩ := h
  have k2 := small3 (n := n2) (by omega)
  have k3 := small3 (n := n3) (by omega)
  have k4 := small3 (n := n4) (by omega)
  match q with
  | 0 => simp
  | 1 => simp; omega
  | 2 => simp; omega
  | q + 3 => simp; omega
theorem keys_le {ks : List Ky} (h : SmK ks) : ∀ j, ((ks.take j).flatMap keyB).length ≤ 10 * j := by
  induction ks with
  | nil => intro j; simp
  | cons y ks ih =>
    intro j
    cases j with
    | zero => simp
    | succ j =>
      have h1 := ih (fun k hk => h k (List.mem_cons_of_mem _ hk)) j
      obtain ⟨a1, a2, a3, a4, a5, a6, a7⟩ := h y List.mem_cons_self
      have k2 := small3 (n := y.2.1.toNat) (by omega)
      have k3 := small3 (n := y.2.2.1.toNat) (by omega)
      have k4 := small3 (n := y.2.2.2.toNat) (by omega)
      rw [List.take_succ_cons, List.flatMap_cons, List.length_append]
      have h2 : (keyB y).length ≤ 10 := by
        unfold keyB
        rw [List.length_cons, List.length_append, List.length_append]
        omega
      omega
set_option maxRecDepth 100000 in
set_option maxHeartbeats 8000000 in
theorem bytes12_ok (g r : Nat) (cv hv : Value) (cs : List Ch) (hs : List Jh) (x : St) (p0 : List UInt8) (ad : Addr) (c : Nat) (w : World) (hN : Net w g r cv hv cs hs x) (ha : Asc x.ks) (hl : x.ks.length ≤ 50) (hb : Bd x 100000) (hsm : SmK x.ks) (hp : BytesAt w (some ad) p0) (hp0 : 0 < p0.length) (hp1 : p0.length ≤ 1000) :
    Calls Tryz.prog 12 #[.pointer (some ⟨g, 0, none⟩), .slice (some ad) p0.length c] w (RetBy (p0 ++ netB x) w) := by
  have HN := Lib.hid hN
  have HB := Lib.hid hb
  have HP := Lib.hid (bd_put hb)
  have HS := Lib.hid hsm
  have CN := Lib.hid (fun W (hW : Ext w W) => consumed19_any g r cv hv cs hs x W (hN.ext hW) ha (by omega))
  have CC := Lib.hid (clone31_ok p0 ad c w hp (by omega))
  clear hN hb hsm ha hp
  go_enter Tryz.func12, Tryz.ntmps12
  go_wp2_with fail
  refine CC.out.mono ?_
  rintro e1 w1 ⟨v1, rfl, hr1, hE1⟩
  obtain ⟨A1, c1, e1, -, -⟩ := hr1.form
  rw [bv_len] at e1
  subst e1
  have HR1 := Lib.hid hr1
  have HE1 := Lib.hid hE1
  clear hr1 hE1 CC
  go_wp2_with fail
  go_loopw [1, 18] (fun t i wr => ∃ (k : Nat) (v : Value), k ≤ 8 ∧ i = iV (k : Int) ∧ t = v ∧ Row 1 wr w.heap.size 5 v (bv (p0 ++ (List.range k).flatMap (rowB x))) ∧ Ext w wr) (fun _ i _ => 8 - (intOf i).toNat)
  case atStart => exact ⟨0, _, by omega, rfl, rfl, by simpa using HR1.out, HE1.out⟩
  case round =>
    obtain ⟨k, v, hk, rfl, rfl, hR, hX⟩ := hrel
    obtain ⟨wo, rfl⟩ : ∃ wo, wo = wr := ⟨_, rfl⟩
    have HX := Lib.hid hX
    obtain ⟨xs, hxs⟩ : ∃ xs, p0 ++ (List.range k).flatMap (rowB x) = xs := ⟨_, rfl⟩
    rw [hxs] at hR
    have HXS := Lib.hid hxs
    have HR := Lib.hid hR
    have HXL : Hid (0 < xs.length ∧ xs.length ≤ 1240) := Lib.hid (by
      rw [← hxs, List.length_append]
      have h1 := flat_le (fun i => rowB_le HB.out i) k
      have h2 : 30 * k ≤ 30 * 8 := Nat.mul_le_mul_left _ hk
      omega)
    obtain ⟨Ax, cx, ex, -, -⟩ := hR.form
    rw [bv_len] at ex
    subst ex
    clear hR hX hxs HR1 HE1
    by_cases hlt : k < 8
    · have l1 : (ldS 28 (.pointer (some ⟨g, 2 + k * 8, none⟩))).run Tryz.prog wo = .ok (.agg (arA (fun i => x.s (k * 8 + i)) 8)) wo :=
        run_arr (fun i hi => blkOf_cell (by rw [(HN.out.ext HX.out).blk, Nat.add_assoc]; exact NV_sent (by omega))) Tryz.underlying28 rfl Tryz.size28
      have q0 : (0 : Int) ≤ (k : Int) := by omega
      have q1 : (k : Int) < 8 := by omega
      go_wp2_with fail
      go_loopw [1, 27] (fun t i wr => ∃ (q : Nat) (v : Value), q ≤ 8 ∧ i = iV (q : Int) ∧ t = v ∧ Row 1 wr w.heap.size 5 v (bv (xs ++ (List.range q).flatMap fun i => putU (x.s (k * 8 + i)))) ∧ Ext wo wr) (fun _ i _ => 8 - (intOf i).toNat)
      case atStart => exact ⟨0, _, by omega, rfl, rfl, by simpa using HR.out, Ext.refl _⟩
      case round =>
        obtain ⟨q, v, hq, rfl, rfl, hR, hXi⟩ := hrel
        obtain ⟨wi, rfl⟩ : ∃ wi, wi = wr := ⟨_, rfl⟩
        have HXI := Lib.hid hXi
        obtain ⟨ys, hys⟩ : ∃ ys, xs ++ ((List.range q).flatMap fun i => putU (x.s (k * 8 + i))) = ys := ⟨_, rfl⟩
        rw [hys] at hR
        have HYS := Lib.hid hys
        have HYL : Hid (0 < ys.length ∧ ys.length ≤ 1270) := Lib.hid (by
          rw [← hys, List.length_append]
          have h1 := flat_le (f := fun i => putU (x.s (k * 8 + i))) (fun i => HP.out.1 _) q
          have h2 := HXL.out
          omega)
        have HRI := Lib.hid hR
        obtain ⟨Ay, cy, ey, -, -⟩ := hR.form
        rw [bv_len] at ey
        subst ey
        clear hR hXi hys
        by_cases hlt' : q < 8
        · obtain ⟨n, hn⟩ : ∃ n, x.s (k * 8 + q) = n := ⟨_, rfl⟩
          have hnb : n ≤ 100000 := by rw [← hn]; exact (HB.out _).1
          have CP := Lib.hid (put32_row n ys w.heap.size _ wi HRI.out HYL.out.1 (by omega) (by have := HYL.out; omega))
          have j1 : (idS 28 (.agg (arA (fun i => x.s (k * 8 + i)) 8)) (.int .i64 (q : Int))).run Tryz.prog wi = .ok (iV (n : Int)) wi := by rw [run_in28 hlt', hn]
          have wn : IntKind.u64.wrap (n : Int) = (n : Int) := IntWalk.u64_in _ (by omega)
          have HNN := Lib.hid hn
          clear hn
          go_wp2_with fail
          refine CP.out.mono ?_
          rintro e5 w5 ⟨v5, rfl, hr5, hE5⟩
          have HR5 := Lib.hid (hr5.base (B' := w.heap.size) (HX.out.trans HXI.out).size)
          have HX5 := Lib.hid (HXI.out.trans hE5)
          clear hr5 hE5 CP j1
          go_wp2_with fail
          refine ⟨⟨q + 1, _, by omega, by go_num, rfl, ?_, HX5.out⟩, by simp [intOf]; omega⟩
          rw [range_flat, ← List.append_assoc, HYS.out, HNN.out]
          exact HR5.out
        · obtain rfl : q = 8 := by omega
          have hXW := HX.out.trans HXI.out
          have n1 : wi.cell? ⟨g, 66 + k, none⟩ = some (iV (x.t k : Int)) := blkOf_cell (by rw [(HN.out.ext hXW).blk]; exact NV_tim hlt)
          obtain ⟨tn, htn⟩ : ∃ n, x.t k = n := ⟨_, rfl⟩
          obtain ⟨dn, hdn⟩ : ∃ n, x.d k = n := ⟨_, rfl⟩
          have htb : tn ≤ 100000 := by rw [← htn]; exact (HB.out _).2.1
          have hdb : dn ≤ 100000 := by rw [← hdn]; exact (HB.out _).2.2
          rw [htn] at n1
          have HTN := Lib.hid htn
          have HDN := Lib.hid hdn
          have htl : (putU tn).length ≤ 3 := by rw [← htn]; exact HP.out.2.1 _
          have CP := Lib.hid (put32_row tn ys w.heap.size _ wi HRI.out HYL.out.1 (by omega) (by have := HYL.out; omega))
          have wt : IntKind.u64.wrap (tn : Int) = (tn : Int) := IntWalk.u64_in _ (by omega)
          have wd : IntKind.u64.wrap (dn : Int) = (dn : Int) := IntWalk.u64_in _ (by omega)
          have HXW := Lib.hid hXW
          clear htn hdn hXW l1
          go_wp2_with fail
          refine CP.out.mono ?_
          rintro e5 w5 ⟨v5, rfl, hr5, hE5⟩
          have hX5 := HXW.out.trans hE5
          obtain ⟨zs, hzs⟩ : ∃ zs, ys ++ putU tn = zs := ⟨_, rfl⟩
          rw [hzs] at hr5
          have HZS := Lib.hid hzs
          have HZL : Hid (0 < zs.length ∧ zs.length ≤ 1300) := Lib.hid (by rw [← hzs, List.length_append]; have := HYL.out; omega)
          clear hzs
          have n2 : w5.cell? ⟨g, 74 + k, none⟩ = some (iV (dn : Int)) := by rw [← HDN.out]; exact blkOf_cell (by rw [(HN.out.ext hX5).blk]; exact NV_dis hlt)
          have CP2 := Lib.hid (put32_row dn zs wi.heap.size _ w5 hr5 HZL.out.1 (by omega) (by have := HZL.out; omega))
          obtain ⟨A5, c5, e5, -, -⟩ := hr5.form
          rw [bv_len] at e5
          subst e5
          have HX5 := Lib.hid hX5
          clear hr5 hE5 CP n1 hX5
          go_wp2_with fail
          refine CP2.out.mono ?_
          rintro e6 w6 ⟨v6, rfl, hr6, hE6⟩
          have HR6 := Lib.hid (hr6.base (B' := w.heap.size) HX5.out.size)
          have HX6 := Lib.hid (HX5.out.trans hE6)
          clear hr6 hE6 CP2 n2
          go_wp2_with fail
          refine ⟨⟨k + 1, _, by omega, by go_num, rfl, ?_, HX6.out⟩, by simp [intOf]; omega⟩
          rw [range_flat, ← List.append_assoc, HXS.out]
          unfold rowB
          rw [HTN.out, HDN.out, ← List.append_assoc, ← List.append_assoc, HYS.out, HZS.out]
          exact HR6.out
    · obtain rfl : k = 8 := by omega
      have CNO := Lib.hid (CN.out wo HX.out)
      go_wp2_with fail
      refine CNO.out.mono ?_
      rintro e7 w7 ⟨t7, rfl, hr7, hE7⟩
      obtain ⟨Ak, ck, ek, -, -⟩ := hr7.form
      rw [List.length_map] at ek
      subst ek
      have HK7 := Lib.hid (hr7.base (B' := w.heap.size) HX.out.size)
      have HX7 := Lib.hid (HX.out.trans hE7)
      have HR7 := Lib.hid (HR.out.ext hE7)
      have CP := Lib.hid (put32_row x.ks.length xs w.heap.size _ w7 HR7.out HXL.out.1 (by omega) (by have := HXL.out; omega))
      have wl : IntKind.u64.wrap (x.ks.length : Int) = (x.ks.length : Int) := IntWalk.u64_in _ (by omega)
      clear hr7 hE7 CNO
      go_wp2_with fail
      refine CP.out.mono ?_
      rintro e8 w8 ⟨v8, rfl, hr8, hE8⟩
      have HK8 := Lib.hid (HK7.out.ext hE8)
      have HX8 := Lib.hid (HX7.out.trans hE8)
      obtain ⟨zs, hzs⟩ : ∃ zs, xs ++ putU x.ks.length = zs := ⟨_, rfl⟩
      rw [hzs] at hr8
      have HZS := Lib.hid hzs
      clear hzs
      have HR8 := Lib.hid (hr8.base (B' := w.heap.size) HX7.out.size)
      obtain ⟨A8, c8, e8, -, -⟩ := hr8.form
      rw [bv_len] at e8
      subst e8
      clear hr8 hE8 CP
      go_wp2_with fail
      go_loopw [1, 63] (fun t i wr => ∃ (j : Nat) (v : Value), j ≤ x.ks.length ∧ i = iV (j : Int) ∧ t = v ∧ Row 1 wr w.heap.size 5 v (bv (zs ++ (x.ks.take j).flatMap keyB)) ∧ Row 4 wr w.heap.size 58 (.slice Ak x.ks.length ck) (x.ks.map encK) ∧ Ext w wr) (fun _ i _ => x.ks.length - (intOf i).toNat)
      case atStart => exact ⟨0, _, by omega, rfl, rfl, by simpa using HR8.out, HK8.out, HX8.out⟩
      case round =>
        obtain ⟨j, v, hj, rfl, rfl, hR, hK, hX⟩ := hrel
        obtain ⟨wi, rfl⟩ : ∃ wi, wi = wr := ⟨_, rfl⟩
        have HXI := Lib.hid hX
        have HKI := Lib.hid hK
        obtain ⟨ys, hys⟩ : ∃ ys, zs ++ (x.ks.take j).flatMap keyB = ys := ⟨_, rfl⟩
        rw [hys] at hR
        have HYS := Lib.hid hys
        have HRI := Lib.hid hR
        obtain ⟨Ay, cy, ey, -, -⟩ := hR.form
        rw [bv_len] at ey
        subst ey
        clear hR hX hK hys
        by_cases hlt : j < x.ks.length
        · have hy0 : x.ks.length ≤ 50 := hl
          obtain ⟨Ak', ck', ek', k1, k2, RK⟩ := HKI.out.sl.read
          rw [List.length_map, Value.slice.injEq] at ek'
          obtain ⟨rfl, -, rfl⟩ := ek'
          rw [List.length_map] at RK
          obtain ⟨b, o, rfl, hb, cK⟩ := RK wi (Ext.refl _) j hlt (by omega)
          obtain ⟨y, hy⟩ : ∃ y, x.ks.getD j (0, 0, 0, 0) = y := ⟨_, rfl⟩
          rw [keysAt hlt y hy] at cK
          have hym : y ∈ x.ks := by rw [← hy, List.getD_eq_getElem?_getD, List.getElem?_eq_getElem hlt]; exact List.getElem_mem hlt
          have hsm := HS.out y hym
          obtain ⟨y1, y2, y3, y4⟩ := y
          simp only [] at hsm
          obtain ⟨s1, s2, s3, s4, s5, s6, s7⟩ := hsm
          obtain ⟨n2, rfl⟩ : ∃ n : Nat, y2 = (n : Int) := ⟨y2.toNat, by omega⟩
          obtain ⟨n3, rfl⟩ : ∃ n : Nat, y3 = (n : Int) := ⟨y3.toNat, by omega⟩
          obtain ⟨n4, rfl⟩ : ∃ n : Nat, y4 = (n : Int) := ⟨y4.toNat, by omega⟩
          have c0 := cK 0 _ (by omega) rfl
          have c1 := cK 1 _ (by omega) rfl
          have c2 := cK 2 _ (by omega) rfl
          have c3 := cK 3 _ (by omega) rfl
          rw [Nat.add_zero] at c0
          have HY := Lib.hid hy
          have HSM := Lib.hid (And.intro s3 (And.intro s5 s7))
          have HYL : Hid (0 < ys.length ∧ ys.length ≤ 2000) := Lib.hid (by
            rw [← HYS.out, ← HZS.out, List.length_append, List.length_append]
            have h1 := keys_le HS.out j
            have h2 := putU_short (v := x.ks.length) (Nat.lt_of_le_of_lt hy0 (by decide))
            have h3 := HXL.out
            omega)
          clear cK RK hy hym k1 k2
          go_upto_region 20 with fail
          generalize hwk : wi.alloc _ = wk
          have hEk : Ext wi wk := by rw [← hwk]; exact (Ext.refl _).alloc _
          have hsk : wk.heap.size = wi.heap.size + 1 := by rw [← hwk]; simp
          have q0 : wk.cell? ⟨wi.heap.size, 0, none⟩ = some (kV y1) := by rw [← hwk]; exact new_at _ _ _ 0 _ rfl
          have q1 : wk.cell? ⟨wi.heap.size, 1, none⟩ = some (iV (n2 : Int)) := by rw [← hwk]; exact new_at _ _ _ 1 _ rfl
          have q2 : wk.cell? ⟨wi.heap.size, 2, none⟩ = some (iV (n3 : Int)) := by rw [← hwk]; exact new_at _ _ _ 2 _ rfl
          have q3 : wk.cell? ⟨wi.heap.size, 3, none⟩ = some (iV (n4 : Int)) := by rw [← hwk]; exact new_at _ _ _ 3 _ rfl
          have ne5 : some wi.heap.size ≠ (Value.slice Ay ys.length cy).ownBlock := fun e => by have := (HRI.out.lt _ e.symm).2; omega
          have HXK := Lib.hid (HXI.out.trans hEk)
          have HRK := Lib.hid (HRI.out.ext hEk)
          have HKK := Lib.hid (HKI.out.ext hEk)
          have hwk0 : wi.heap.size < wk.heap.size := by omega
          clear hwk hEk c0 c1 c2 c3
          go_upto_region 21 with (at_builtin; go_loud (refine wappB el43 rfl (.tmp 67) (.tmp 70) rfl (B := w.heap.size) (vs := bv ys) (us := [[kV y1]]) rfl (by have := HXK.out.size; simp; omega) (HRK.out.ext ((Ext.refl _).alloc _)) rfl rfl (Wide.one rfl) (vs1n (by omega)) one_kV (by rw [bv_len, List.length_singleton]; have := HYL.out; omega) (by rw [bv_len, List.length_singleton]; have := HYL.out; omega) ?_; intro v5 w5 hr5 hg5 hb5; have HX5 := Lib.hid (ext_grow (HXK.out.alloc _) hg5 (fun k hk => (HRI.out.lt k hk).1)); have HK5 := Lib.hid (Row.grown (HKK.out.ext ((Ext.refl _).alloc _)) hg5 (Row.apart HRI.out HKI.out (by decide))); have p1 := (cell_kept (o := 1) (hg5.block _ (by simp; omega) ne5)).trans (Ext.cell ((Ext.refl wk).alloc _) q1); have p2 := (cell_kept (o := 2) (hg5.block _ (by simp; omega) ne5)).trans (Ext.cell ((Ext.refl wk).alloc _) q2); have p3 := (cell_kept (o := 3) (hg5.block _ (by simp; omega) ne5)).trans (Ext.cell ((Ext.refl wk).alloc _) q3); rw [bv_snoc _ s1] at hr5; have HR5 := Lib.hid hr5; clear hr5 hg5 hb5))
          obtain ⟨us, hus⟩ : ∃ us, ys ++ [UInt8.ofNat y1] = us := ⟨_, rfl⟩
          rw [hus] at HR5
          have HUL : Hid (0 < us.length ∧ us.length ≤ 2001) := Lib.hid (by rw [← hus, List.length_append, List.length_singleton]; have := HYL.out; omega)
          have HUS := Lib.hid hus
          have hp5 := World.block_lt_of_cell? w5 _ p1
          simp only [] at hp5
          clear hus q0 q1 q2 q3 hsk hwk0 HXK HRK HKK
          go_wp2_with fail
          go_loopw [1, 79] (fun t i wr => ∃ (q : Nat) (v : Value), q ≤ 3 ∧ i = iV (q : Int) ∧ t = v ∧ Row 1 wr w.heap.size 5 v (bv (us ++ ([n2, n3, n4].take q).flatMap putU)) ∧ Row 4 wr w.heap.size 58 (.slice (some ⟨b, o, none⟩) x.ks.length ck) (x.ks.map encK) ∧ Ext w wr) (fun _ i _ => 3 - (intOf i).toNat)
          case atStart => exact ⟨0, _, by omega, rfl, rfl, by simpa using HR5.out, HK5.out, HX5.out⟩
          case round =>
            obtain ⟨q, v, hq, rfl, rfl, hR, hK, hX⟩ := hrel
            obtain ⟨wj, rfl⟩ : ∃ wj, wj = wr := ⟨_, rfl⟩
            have HXJ := Lib.hid hX
            have HKJ := Lib.hid hK
            have HRJ0 := Lib.hid hR
            obtain ⟨zz, hzz⟩ : ∃ zz, us ++ ([n2, n3, n4].take q).flatMap putU = zz := ⟨_, rfl⟩
            rw [hzz] at hR
            have HRJ := Lib.hid hR
            have HZZ := Lib.hid hzz
            have HZZL : Hid (0 < zz.length ∧ zz.length ≤ 3000) := Lib.hid (by
              rw [← hzz, List.length_append]
              have h1 := three_le HSM.out q
              have h2 := HUL.out
              omega)
            obtain ⟨Az, cz, ez, -, -⟩ := hR.form
            rw [bv_len] at ez
            subst ez
            clear hR hX hK hzz HRJ0
            by_cases hlt' : q < 3
            · obtain ⟨m, hm⟩ : ∃ m, [n2, n3, n4].getD q 0 = m := ⟨_, rfl⟩
              have hmb : m ≤ 100000 := by rw [← hm]; exact three_get HSM.out q
              have j1 : (idS 91 (.agg #[iV (n2 : Int), iV (n3 : Int), iV (n4 : Int)]) (.int .i64 (q : Int))).run Tryz.prog wj = .ok (iV (m : Int)) wj := by rw [run_in91 hlt', hm]
              have CP := Lib.hid (put32_row m zz w.heap.size _ wj HRJ.out HZZL.out.1 (by omega) (by have := HZZL.out; omega))
              have wm : IntKind.u64.wrap (m : Int) = (m : Int) := IntWalk.u64_in _ (by omega)
              have HM := Lib.hid hm
              clear hm
              go_wp2_with fail
              refine CP.out.mono ?_
              rintro e6 w6 ⟨v6, rfl, hr6, hE6⟩
              have HR6 := Lib.hid (hr6.base (B' := w.heap.size) HXJ.out.size)
              have HK6 := Lib.hid (HKJ.out.ext hE6)
              have HX6 := Lib.hid (HXJ.out.trans hE6)
              clear hr6 hE6 CP j1
              go_wp2_with fail
              refine ⟨⟨q + 1, _, by omega, by go_num, rfl, ?_, HK6.out, HX6.out⟩, by simp [intOf]; omega⟩
              rw [three_step hlt', ← List.append_assoc, HZZ.out, HM.out]
              exact HR6.out
            · obtain rfl : q = 3 := by omega
              go_wp2_with fail
              refine ⟨⟨j + 1, _, by omega, by go_num, rfl, ?_, HKJ.out, HXJ.out⟩, by simp [intOf]; omega⟩
              have e : zs ++ (x.ks.take (j + 1)).flatMap keyB = zz := by
                rw [take_getD hlt, HY.out, List.flatMap_append, ← List.append_assoc, HYS.out, ← HZZ.out, ← HUS.out]
                simp [keyB]
              rw [e]
              exact HRJ.out
        · obtain rfl : j = x.ks.length := by omega
          go_wp2_with fail
          go_ret
          refine ⟨_, rfl, ?_, HXI.out⟩
          have e := HYS.out
          rw [List.take_length] at e
          unfold netB
          rw [← List.append_assoc, HXS.out, ← List.append_assoc, HZS.out, e]
          exact HRI.out
end Go.Proofs.YtehmpbaiefbemaaGreat
