/- The reference's Executed. -/
import Derived.Test.YtehmpbaiefbemaaN32
namespace Go.Proofs.Ytehmpbaiefbemaa
open Go.RowKit
attribute [local go_sem ↓] Go.wp_at_zero Go.wp_at_succ
attribute [local go_sem ↓] eq73 ld32 st32 al32
attribute [local go_sem] run_eq73 run_ld32 run_st32n run_al32 blkOf_drew blkOf_setRow_same blkOf_setRow_other NV_size
theorem eatF_len {cs : List Ch} {ks : List Ky} {k : Ky} : (eatF cs ks k).length ≤ ks.length + 1 := by
  unfold eatF
  split
  · exact insK_len
  · omega
theorem foldE_len {cs : List Ch} : ∀ (l ks : List Ky), (l.foldl (fun u k => eatF cs u k) ks).length ≤ ks.length + l.length
  | [], ks => by simp
  | k :: l, ks => by
    rw [List.foldl_cons, List.length_cons]
    have := foldE_len (cs := cs) l (eatF cs ks k)
    have := eatF_len (cs := cs) (ks := ks) (k := k)
    omega
theorem nextK_len (c : Int) (n j : Nat) : (nextK c n j).length = j := by simp [nextK]
theorem upd_upd {s : Nat → Nat} {k a b : Nat} : upd (upd s k a) k b = upd s k b := by
  funext j
  unfold upd
  split <;> rfl
theorem upd_at {s : Nat → Nat} {k a : Nat} : upd s k a k = a := by unfold upd; rw [if_pos rfl]
theorem upd_self {s : Nat → Nat} {k a : Nat} (h : s k = a) : upd s k a = s := by
  funext j
  unfold upd
  split
  · rename_i e; rw [e, h]
  · rfl
theorem NV_setDis' {c h u : Value} {s t d : Nat → Nat} {k v : Nat} {x : Int} (hk : k < 8) (hx : ((v : Nat) : Int) = x) : (NV c h s t d u).setIfInBounds (74 + k) (iV x) = NV c h s t (upd d k v) u := by
  rw [← hx]
  exact NV_setDis hk
def ksE (cs : List Ch) (c : Int) (n j : Nat) (ks : List Ky) : List Ky := (nextK c n j).foldl (fun u k => eatF cs u k) ks
theorem ksE_succ (cs : List Ch) (c : Int) (n j : Nat) (ks : List Ky) : ksE cs c n (j + 1) ks = eatF cs (ksE cs c n j ks) (8, c, 0, (n : Int) + (j : Int)) := by
  unfold ksE
  rw [nextK_succ, List.foldl_append]
  rfl
set_option maxRecDepth 100000 in
set_option maxHeartbeats 4000000 in
theorem rexecuted_any (cv hv kv : Value) (cs : List Ch) (x : St) (B : Nat) (c count : Int) (w : World) (hc : CsAt w cv cs) (hh : ∃ A n c, hv = .slice A n c) (hk : Row 4 w B 73 kv (x.ks.map encK)) (ha : AscC cs) (hd0 : Disk0 cs) (hka : Asc x.ks) (hkl : x.ks.length + count.toNat ≤ 1000) (hB : B ≤ w.heap.size)
    (hb : Bd x 100000) (h2 : count ≤ 1000) :
    Calls Try.prog 74 #[.agg (NV cv hv x.s x.t x.d kv), iV c, iV count] w (RetR cv hv (exeF cs c count x).s (exeF cs c count x).t (exeF cs c count x).d B (exeF cs c count x).ks w) := by
  obtain ⟨s, t, d, ks⟩ := x
  simp only [] at hk hka hkl hb ⊢
  have HC := Lib.hid hc
  obtain ⟨Ac, cc, rfl, -, -, -⟩ := hc.read
  obtain ⟨Ah, nh, ch, rfl⟩ := hh
  have HK := Lib.hid hk
  obtain ⟨Ak, ck, rfl, -, -, -⟩ := hk.sl.read
  rw [List.length_map, List.length_map] at *
  have HKA := Lib.hid hka
  have HA := Lib.hid ha
  by_cases hci : inC c
  · obtain ⟨hc0, hc8⟩ := hci
    obtain ⟨n, rfl⟩ : ∃ n : Nat, c = (n : Int) := ⟨c.toNat, by omega⟩
    have hn : n < 8 := by omega
    have hn8 : (n : Int) < 8 := by omega
    have CC := in_any (n : Int)
    rw [decide_eq_true (⟨hc0, hc8⟩ : 0 ≤ (n : Int) ∧ (n : Int) < 8)] at CC
    have HCC := Lib.hid CC
    obtain ⟨m, hmn⟩ : ∃ m, d n = m := ⟨_, rfl⟩
    have htb : (m : Int) ≤ 100000 := by have := (hb n).2.2; simp only [] at this; omega
    have HF : Hid (exeF cs (n : Int) count ⟨s, t, d, ks⟩ = ⟨s, t, upd d n (m + count.toNat), ksE cs (n : Int) m count.toNat ks⟩) := Lib.hid (by
      unfold exeF
      by_cases hp : 0 < count
      · rw [if_pos ⟨⟨hc0, hc8⟩, hp⟩, ← hmn]
        unfold ksE
        rw [exe_keys hd0 hka]
        rfl
      · rw [if_neg (fun h => hp h.2)]
        have h0 : count.toNat = 0 := by omega
        rw [h0, Nat.add_zero, upd_self hmn]
        rfl)
    rw [HF.out]
    simp only []
    have HTN := Lib.hid hmn
    have CN := Lib.hid (fun (j : Nat) (A : Option Addr) (nn c2 : Nat) W (hW : Ext w W) (hr : Row 4 W B 73 (.slice A nn c2) ((ksE cs (n : Int) m j ks).map encK)) (hj : j ≤ count.toNat) => (consume76_any _ _ _ cs s t (upd d n (m + j)) (ksE cs (n : Int) m j ks) (8, (n : Int), 0, (m : Int) + (j : Int)) B W (HC.out.ext hW) ⟨Ah, nh, ch, rfl⟩ hr HA.out (foldE_asc _ _ HKA.out) (by have := foldE_len (cs := cs) (nextK (n : Int) m j) ks; rw [nextK_len] at this; unfold ksE; omega) (Nat.le_trans hB hW.size) : Calls Try.prog 76 #[.agg (NV (.slice Ac cs.length cc) (.slice Ah nh ch) s t (upd d n (m + j)) (.slice A nn c2)), .agg #[.int .u8 8, iV (n : Int), .int .i64 0, iV ((m : Int) + (j : Int))]] W _))
    have HSU := Lib.hid (fun j => ksE_succ cs (n : Int) m j ks)
    clear hb CC ha hd0 hka hc hk HF hmn
    go_enter Try.func74, Try.ntmps74
    go_upto_region 1 with fail
    generalize hwB : (w.alloc (.cells (NV (.slice Ac cs.length cc) (.slice Ah nh ch) s t d (.slice Ak ks.length ck)) 32)).alloc (.cells NV0 32) = wB
    obtain ⟨hE, b0, b1, hs⟩ := letter2 hwB
    have HE := Lib.hid hE
    have B0 : Hid (blkOf wB w.heap.size = NV (.slice Ac cs.length cc) (.slice Ah nh ch) s t (upd d n (m + 0)) (.slice Ak ks.length ck)) := Lib.hid (by rw [b0, Nat.add_zero, upd_self HTN.out])
    have B1 := Lib.hid b1
    have HS := Lib.hid hs
    clear hwB hE b0 b1 hs
    go_wp2_with fail
    go_loopw [7] (fun i wr => ∃ (j : Nat) (A : Option Addr) (nn c2 : Nat), j ≤ count.toNat ∧ i = iV (j : Int) ∧ blkOf wr w.heap.size = NV (.slice Ac cs.length cc) (.slice Ah nh ch) s t (upd d n (m + j)) (.slice A nn c2) ∧ blkOf wr (w.heap.size + 1) = NV0 ∧
      Row 4 wr B 73 (.slice A nn c2) ((ksE cs (n : Int) m j ks).map encK) ∧ Ext w wr) (fun i _ => count.toNat - (intOf i).toNat)
    case atStart => exact ⟨0, Ak, ks.length, ck, by omega, rfl, B0.out, B1.out, HK.out.ext HE.out, HE.out⟩
    case round =>
      obtain ⟨j, A, nn, c2, hj, rfl, b0, b1, hr, hX⟩ := hrel
      have HRk := Lib.hid hr
      have HX := Lib.hid hX
      have B0 := Lib.hid b0
      have B1 := Lib.hid b1
      have hsz : w.heap.size + 1 < wr.heap.size := blkOf_lt (by rw [b1, NV_size]; omega)
      have hsz0 : w.heap.size < wr.heap.size := by omega
      have n1 : wr.cell? ⟨w.heap.size, 74 + n, none⟩ = some (iV ((m : Int) + (j : Int))) := blkOf_cell (by rw [b0, NV_dis hn, upd_at]; congr 2)
      clear hr hX
      by_cases hlt : (j : Int) < count
      · have CNJ := Lib.hid (fun W (hW : Ext wr W) => CN.out j A nn c2 W (HX.out.trans hW) (HRk.out.ext hW) hj)
        go_wp2_with fail
        refine (HCC.out _).mono ?_
        rintro e1 w1 ⟨rfl, rfl⟩
        go_upto_region 4 with fail
        have KB : Hid (∀ W, Ext wr W → (fun w' => blkOf w' w.heap.size = NV (.slice Ac cs.length cc) (.slice Ah nh ch) s t (upd d n (m + j)) (.slice A nn c2) ∧ w'.cell? ⟨w.heap.size, 74 + n, none⟩ = some (iV ((m : Int) + (j : Int)))) W) := Lib.hid (fun W h => ⟨(blkOf_ext h hsz0).trans b0, h.cell n1⟩)
        refine wp_region_noPanic ?_
        refine wp_region_X (S := (fun w' => blkOf w' w.heap.size = NV (.slice Ac cs.length cc) (.slice Ah nh ch) s t (upd d n (m + j)) (.slice A nn c2) ∧ w'.cell? ⟨w.heap.size, 74 + n, none⟩ = some (iV ((m : Int) + (j : Int))))) (z := 8) (by kernel_rfl) ?_ (fun hHeld => ?_)
        · exact KB.out _ ((Ext.refl _).drew)
        refine wpAnyX_take (i := 0) (v := ?_) (oper_at rfl) (by kernel_rfl) (by kernel_rfl) (by kernel_rfl) (by kernel_rfl) (fun _ _ _ h => h) (Or.inl ⟨by rfl, ?_⟩) hHeld ?_
        rotate_left
        · (intro ww hSw; (try dsimp only at hSw); go_simp; try (with_reducible rfl))
        try simp only [Act.put, List.setIfInBounds_toArray, List.set_cons_zero, List.set_cons_succ]
        refine wpAnyX_take (i := 1) (v := ?_) (oper_at rfl) (by kernel_rfl) (by kernel_rfl) (by kernel_rfl) (by kernel_rfl) (fun _ _ _ h => h) (Or.inl ⟨by rfl, ?_⟩) hHeld ?_
        rotate_left
        · (intro ww hSw; (try dsimp only at hSw); go_simp; try (with_reducible rfl))
        try simp only [Act.put, List.setIfInBounds_toArray, List.set_cons_zero, List.set_cons_succ]
        refine wpAnyX_take (i := 2) (v := ?_) (oper_at rfl) (by kernel_rfl) (by kernel_rfl) (by kernel_rfl) (by kernel_rfl) (fun _ _ _ h => h) (Or.inl ⟨by rfl, ?_⟩) hHeld ?_
        rotate_left
        · (intro ww hSw; (try dsimp only at hSw); go_simp; try (with_reducible rfl))
        try simp only [Act.put, List.setIfInBounds_toArray, List.set_cons_zero, List.set_cons_succ]
        refine wpAnyX_take (i := 3) (v := ?_) (oper_at rfl) (by kernel_rfl) (by kernel_rfl) (by kernel_rfl) (by kernel_rfl) (fun _ _ _ h => h) (Or.inl ⟨by rfl, ?_⟩) hHeld ?_
        rotate_left
        · (intro ww hSw; (try dsimp only at hSw); go_simp; try (with_reducible rfl))
        try simp only [Act.put, List.setIfInBounds_toArray, List.set_cons_zero, List.set_cons_succ]
        refine wpAnyX_take (i := 4) (v := ?_) (oper_at rfl) (by kernel_rfl) (by kernel_rfl) (by kernel_rfl) (by kernel_rfl) (fun _ _ _ h => h) (Or.inl ⟨by rfl, ?_⟩) hHeld ?_
        rotate_left
        · (intro ww hSw; (try dsimp only at hSw); go_simp; try (with_reducible rfl))
        try simp only [Act.put, List.setIfInBounds_toArray, List.set_cons_zero, List.set_cons_succ]
        refine wpAnyX_take (i := 5) (v := ?_) (oper_at rfl) (by kernel_rfl) (by kernel_rfl) (by kernel_rfl) (by kernel_rfl) (fun _ _ _ h => h) (Or.inl ⟨by rfl, ?_⟩) hHeld ?_
        rotate_left
        · (intro ww hSw; (try dsimp only at hSw); go_simp; try (with_reducible rfl))
        try simp only [Act.put, List.setIfInBounds_toArray, List.set_cons_zero, List.set_cons_succ]
        refine wpAnyX_take (i := 6) (v := ?_) (oper_at rfl) (by kernel_rfl) (by kernel_rfl) (by kernel_rfl) (by kernel_rfl) (fun _ _ _ h => h) (Or.inl ⟨by rfl, ?_⟩) hHeld ?_
        rotate_left
        · (intro ww hSw; (try dsimp only at hSw); go_simp; try (with_reducible rfl))
        try simp only [Act.put, List.setIfInBounds_toArray, List.set_cons_zero, List.set_cons_succ]
        refine wpAnyX_ready (rs := [7]) (by kernel_rfl) (by simp) (AllReadyX.cons (by decide) (oper_at rfl) (fun K hK => ?_) AllReadyX.nil)
        go_simp
        go_at_call 76
        refine (CNJ.out _ ((Ext.refl _).drew)).mono ?_
        rintro e5 w5 ⟨kv5, rfl, hr5, hE5⟩
        have hE5' : Ext wr w5 := ((Ext.refl _).drew).trans hE5
        obtain ⟨A5, c5, e5, -, -⟩ := hr5.form
        rw [List.length_map] at e5
        subst e5
        have HR5 := Lib.hid hr5
        have HX5 := Lib.hid (HX.out.trans hE5')
        have d0 := (blkOf_ext hE5' hsz0).trans b0
        have d1 : blkOf w5 (w.heap.size + 1) = NV0 := (blkOf_ext hE5' (by omega)).trans b1
        have D0 := Lib.hid d0
        have D1 := Lib.hid d1
        have KS := Lib.hid (KB.out _ hE5')
        clear hr5 hE5
        refine hK.out _ _ ?_ (fun hHeld => ?_)
        · exact KS.out
        clear hK K
        try simp only [Act.put, List.setIfInBounds_toArray, List.set_cons_zero, List.set_cons_succ]
        clear b0 b1
        refine wpAnyX_ready (rs := [8]) (by kernel_rfl) (by simp) (AllReadyX.last rfl (oper_at rfl) (fun K hK => ?_))
        go_simp
        refine hK.out _ _ ?_
        clear hK K
        try simp only [Act.put, List.setIfInBounds_toArray, List.set_cons_zero, List.set_cons_succ]
        refine wpAnyX_done (by kernel_rfl) ?_ _
        refine NoPanic.normal ?_
        generalize hw6 : w5.setRow w.heap.size _ = w6
        have c0 : blkOf w6 w.heap.size = NV (.slice Ac cs.length cc) (.slice Ah nh ch) s t (upd d n (m + j)) (.slice A5 (eatF cs (ksE cs (n : Int) m j ks) (8, (n : Int), 0, (m : Int) + (j : Int))).length c5) := by rw [← hw6]; exact blkOf_setRow_same (by rw [D0.out, NV_size])
        have c1 : blkOf w6 (w.heap.size + 1) = NV0 := by rw [← hw6]; exact (blkOf_setRow_other (by omega)).trans D1.out
        have HR6 : Hid (Row 4 w6 B 73 (.slice A5 (eatF cs (ksE cs (n : Int) m j ks) (8, (n : Int), 0, (m : Int) + (j : Int))).length c5) ((ksE cs (n : Int) m (j + 1) ks).map encK)) := Lib.hid (by rw [HSU.out, ← hw6]; exact HR5.out.setFar (by rw [D0.out, NV_size]) _)
        have HX6 : Hid (Ext w w6) := Lib.hid (by rw [← hw6]; exact HX5.out.setRow (Nat.le_refl _) _)
        have n6 : w6.cell? ⟨w.heap.size, 74 + n, none⟩ = some (iV ((m : Int) + (j : Int))) := blkOf_cell (by rw [c0, NV_dis hn, upd_at]; congr 2)
        have f6 : ∀ i, w6.frozen? ⟨w.heap.size, i, none⟩ = false := fun i => blkOf_frozen (by rw [c0, NV_size]; omega)
        have C0 := Lib.hid c0
        have C1 := Lib.hid c1
        clear hw6 c0 c1 D0 D1 HR5 HX5 n1
        go_wp2_with fail
        refine ⟨⟨j + 1, A5, _, c5, by omega, by go_num, ?_, (blkOf_far (by show w.heap.size ≠ w.heap.size + 1; omega)).trans C1.out, HR6.out.setFarC (by rw [C0.out, NV_size]) _ _, HX6.out.setb (Nat.le_refl _) _ _⟩, by simp [intOf]; omega⟩
        rw [blkOf_set (by rw [C0.out, NV_size]; omega), C0.out, NV_setDis' (v := m + (j + 1)) hn (by omega), upd_upd]
      · have hje : j = count.toNat := by omega
        have b1' := B1.out
        go_wp2_with fail
        refine bodyPost_ret (res32 Try.results74 (g := w.heap.size + 1) rfl (blkOf_setRow_same (by rw [B1.out, NV_size])) NV_size) rfl ⟨_, by rw [← hje], ?_, HX.out.setRow (Nat.le_add_right _ 1) _⟩
        rw [← hje]
        exact HRk.out.setFar (by rw [B1.out, NV_size]) _
  · have HF : Hid (exeF cs c count ⟨s, t, d, ks⟩ = ⟨s, t, d, ks⟩) := Lib.hid (by unfold exeF; rw [if_neg (fun h => hci h.1)])
    rw [HF.out]
    simp only []
    have CC := in_any c
    rw [decide_eq_false (show ¬ (0 ≤ c ∧ c < 8) from hci)] at CC
    have HCC := Lib.hid CC
    clear CC hci hc ha hk hka
    go_enter Try.func74, Try.ntmps74
    go_upto_region 1 with fail
    generalize hwB : (w.alloc (.cells (NV (.slice Ac cs.length cc) (.slice Ah nh ch) s t d (.slice Ak ks.length ck)) 32)).alloc (.cells NV0 32) = wB
    obtain ⟨hE, b0, b1, hs⟩ := letter2 hwB
    have HE := Lib.hid hE
    have B1 := Lib.hid b1
    have B0 := Lib.hid b0
    clear hwB hE hs b0 b1
    go_wp2_with fail
    go_loopw [7] (fun i wr => i = iV 0 ∧ wr = wB) (fun i _ => 0)
    case atStart => exact ⟨rfl, rfl⟩
    case round =>
      obtain ⟨rfl, rfl⟩ := hrel
      have b0 := B0.out
      have b1 := B1.out
      by_cases hlt : 0 < count
      · go_wp2_with fail
        refine (HCC.out _).mono ?_
        rintro e1 w1 ⟨rfl, rfl⟩
        go_wp2_with fail
        refine bodyPost_ret (res32 Try.results74 (g := w.heap.size + 1) rfl (blkOf_setRow_same (by rw [B1.out, NV_size])) NV_size) rfl ⟨_, rfl, HK.out.ext (HE.out.setRow (Nat.le_add_right _ 1) _), HE.out.setRow (Nat.le_add_right _ 1) _⟩
      · go_wp2_with fail
        refine bodyPost_ret (res32 Try.results74 (g := w.heap.size + 1) rfl (blkOf_setRow_same (by rw [B1.out, NV_size])) NV_size) rfl ⟨_, rfl, HK.out.ext (HE.out.setRow (Nat.le_add_right _ 1) _), HE.out.setRow (Nat.le_add_right _ 1) _⟩
end Go.Proofs.Ytehmpbaiefbemaa
