/- The reference's Disk and Executed. -/
import Derived.Test.YtehmpbaiefbemaaN31
namespace Go.Proofs.Ytehmpbaiefbemaa
open Go.RowKit
attribute [local go_sem ↓] Go.wp_at_zero Go.wp_at_succ
attribute [local go_sem ↓] eq73 ld32 st32 al32
attribute [local go_sem] run_eq73 run_ld32 run_st32n run_al32 blkOf_drew blkOf_setRow_same blkOf_setRow_other NV_size
theorem nextK_succ (c : Int) (n j : Nat) : nextK c n (j + 1) = nextK c n j ++ [(8, c, 0, (n : Int) + (j : Int))] := by
  unfold nextK
  rw [List.range_succ, List.map_append]
  congr 1
set_option maxRecDepth 100000 in
set_option maxHeartbeats 4000000 in
theorem rdisk_any (cv hv kv : Value) (cs : List Ch) (x : St) (c count : Int) (w : World) (hc : CsAt w cv cs) (ha : AscC cs) (hd0 : Disk0 cs) (hb : Bd x 100000) (h1 : -100000 ≤ count) (h2 : count ≤ 100000) :
    Calls Try.prog 73 #[.agg (NV cv hv x.s x.t x.d kv), iV c, iV count] w (RetDk (diskF cs c count x).1 (diskF cs c count x).2 w) := by
  obtain ⟨s, t, d, ks⟩ := x
  simp only [] at hb ⊢
  by_cases hci : inC c
  · obtain ⟨hc0, hc8⟩ := hci
    obtain ⟨n, rfl⟩ : ∃ n : Nat, c = (n : Int) := ⟨c.toNat, by omega⟩
    have hn : n < 8 := by omega
    have CC := in_any (n : Int)
    rw [decide_eq_true (⟨hc0, hc8⟩ : 0 ≤ (n : Int) ∧ (n : Int) < 8)] at CC
    have HCC := Lib.hid CC
    obtain ⟨m, hmn⟩ : ∃ m, d n = m := ⟨_, rfl⟩
    have htb : (m : Int) ≤ 100000 := by have := (hb n).2.2; simp only [] at this; omega
    have HF : Hid (diskF cs (n : Int) count ⟨s, t, d, ks⟩ = ((m : Int), ((nextK (n : Int) m count.toNat).filter fun k => (getF cs k).isSome).map (·.2.2.2))) := Lib.hid (by
      unfold diskF
      rw [if_pos ⟨hc0, hc8⟩, fail_eq ha hd0, ← hmn]
      rfl)
    rw [HF.out]
    simp only []
    have CG := Lib.hid (fun (j : Nat) W (hW : Ext w W) => (get110_any cs (NV cv hv s t d kv) cv (8, (n : Int), 0, (m : Int) + (j : Int)) W NV_size NV_0 (hc.ext hW) ha : Calls Try.prog 110 #[.agg (NV cv hv s t d kv), .agg #[.int .u8 8, iV (n : Int), .int .i64 0, iV ((m : Int) + (j : Int))]] W _))
    have HTN := Lib.hid hmn
    clear hb CC HF hmn hc ha hd0
    go_enter Try.func73, Try.ntmps73
    go_upto_region 1 with fail
    generalize hwB : w.alloc (.cells (NV cv hv s t d kv) 32) = wB
    have hE : Ext w wB := by rw [← hwB]; exact (Ext.refl _).alloc _
    have b0 : blkOf wB w.heap.size = NV cv hv s t d kv := by rw [← hwB]; exact blkOf_new
    have hs : w.heap.size < wB.heap.size := by rw [← hwB]; simp
    have n1 : wB.cell? ⟨w.heap.size, 74 + n, none⟩ = some (iV (m : Int)) := blkOf_cell (by rw [b0, ← HTN.out]; exact NV_dis hn)
    have HE := Lib.hid hE
    have B0 := Lib.hid b0
    clear hwB hE b0
    go_wp2_with fail
    refine (HCC.out _).mono ?_
    rintro e1 w1 ⟨rfl, rfl⟩
    go_wp2_with fail
    go_loopw [8, 9] (fun l kk wr => ∃ (j : Nat) (fs : List Ky), j ≤ count.toNat ∧ kk = iV ((m : Int) + (j : Int)) ∧ fs = (nextK (n : Int) m j).filter (fun k => (getF cs k).isSome) ∧ fs.length ≤ j ∧ Row 1 wr wB.heap.size 3 l (fs.map fun y => [iV y.2.2.2]) ∧ Ext wB wr) (fun _ kk _ => m + count.toNat - (intOf kk).toNat)
    case atStart => exact ⟨0, [], by omega, by simp, rfl, by simp, Row.nil _ _ _ _, Ext.refl _⟩
    case round =>
      obtain ⟨j, fs, hj, rfl, hfs, hfl, hr, hX⟩ := hrel
      obtain ⟨Al, cl, el, -, -⟩ := hr.form
      rw [List.length_map] at el
      subst el
      have HRk := Lib.hid hr
      have HX := Lib.hid hX
      have HFS := Lib.hid hfs
      have HBk : Hid (wB.heap.size ≤ wr.heap.size) := Lib.hid hX.size
      have n2 := hX.cell n1
      have b0 : blkOf wr w.heap.size = NV cv hv s t d kv := (blkOf_ext hX hs).trans B0.out
      have hs2 : w.heap.size < wr.heap.size := by have := hX.size; omega
      have HEX := Lib.hid (HE.out.trans hX)
      clear hr hX hfs
      by_cases hlt : (j : Int) < count
      · obtain ⟨key, hkey⟩ : ∃ key : Ky, (8, (n : Int), 0, (m : Int) + (j : Int)) = key := ⟨_, rfl⟩
        have CGJ := Lib.hid (CG.out j wr HEX.out)
        have hltm : (m : Int) + (j : Int) < (m : Int) + count := by omega
        have HNX : Hid (nextK (n : Int) m (j + 1) = nextK (n : Int) m j ++ [(8, (n : Int), 0, (m : Int) + (j : Int))]) := Lib.hid (nextK_succ _ _ _)
        clear hkey
        go_wp2_with fail
        refine CGJ.out.mono ?_
        rintro e2 w2 ⟨rfl, hE2⟩
        have n3 := hE2.cell n2
        have hs3 : w.heap.size < w2.heap.size := by have := hE2.size; omega
        have HR2 := Lib.hid (HRk.out.ext hE2)
        have HX2 := Lib.hid (HX.out.trans hE2)
        have HB2 : Hid (wB.heap.size ≤ w2.heap.size) := Lib.hid HX2.out.size
        clear hE2 CGJ n2 b0
        cases hg : getF cs (8, (n : Int), 0, (m : Int) + (j : Int)) with
        | none =>
          have HST : Hid (fs = (nextK (n : Int) m (j + 1)).filter (fun k => (getF cs k).isSome)) := Lib.hid (by
            rw [HNX.out, List.filter_append, ← HFS.out, List.filter_cons_of_neg (by rw [hg]; decide)]; simp)
          clear hg
          simp only [chO, Option.isSome_none]
          go_wp2_with fail
          exact ⟨⟨j + 1, fs, by omega, by simp; omega, HST.out, by omega, HR2.out.ext ((Ext.refl _).alloc _), HX2.out.alloc _⟩, by simp [intOf]; omega⟩
        | some dd =>
          have HST : Hid (fs ++ [(8, (n : Int), 0, (m : Int) + (j : Int))] = (nextK (n : Int) m (j + 1)).filter (fun k => (getF cs k).isSome)) := Lib.hid (by
            rw [HNX.out, List.filter_append, ← HFS.out, List.filter_cons_of_pos (by rw [hg]; rfl)]; rfl)
          clear hg
          simp only [chO, Option.isSome_some]
          go_wp2_with (at_builtin; refine wappB el80 rfl (.tmp 38) (.tmp 40) rfl (B := wB.heap.size) (vs := fs.map fun y => [iV y.2.2.2]) (us := [[iV ((m : Int) + (j : Int))]]) rfl (by have := HB2.out; simp; omega) ((HR2.out.ext ((Ext.refl _).alloc _)).ext ((Ext.refl _).alloc _)) rfl rfl (Wide.one rfl) (vs1n (by simp)) one_int (by rw [List.length_map, List.length_singleton]; omega) (by rw [List.length_map, List.length_singleton]; omega) ?_; intro v3 w3 hr3 hg3 hb3; have HR3 := Lib.hid hr3; have HE3 := Lib.hid (ext_grow ((HX2.out.alloc _).alloc _) hg3 (fun k hk => (HR2.out.lt k hk).1)); clear hr3 hg3 hb3)
          exact ⟨⟨j + 1, fs ++ [(8, (n : Int), 0, (m : Int) + (j : Int))], by omega, by simp; omega, HST.out, by rw [List.length_append, List.length_singleton]; omega, by rw [List.map_append]; exact HR3.out, HE3.out⟩, by simp [intOf]; omega⟩
      · have hje : j = count.toNat := by omega
        have hltm : ¬ (m : Int) + (j : Int) < (m : Int) + count := by omega
        go_wp2_with fail
        go_ret2
        refine ⟨_, rfl, ?_, HEX.out⟩
        rw [← hje, ← HFS.out, List.map_map]
        exact HRk.out.base HE.out.size
  · have HF : Hid (diskF cs c count ⟨s, t, d, ks⟩ = (-1, [])) := Lib.hid (by unfold diskF; rw [if_neg hci])
    rw [HF.out]
    have CC := in_any c
    rw [decide_eq_false (show ¬ (0 ≤ c ∧ c < 8) from hci)] at CC
    have HCC := Lib.hid CC
    clear CC hci hc ha
    go_enter Try.func73, Try.ntmps73
    go_wp2_with fail
    refine (HCC.out _).mono ?_
    rintro e1 w1 ⟨rfl, rfl⟩
    go_wp2_with fail
    go_ret2
    exact ⟨_, rfl, Row.nil _ _ _ _, (Ext.refl _).alloc _⟩
end Go.Proofs.Ytehmpbaiefbemaa
