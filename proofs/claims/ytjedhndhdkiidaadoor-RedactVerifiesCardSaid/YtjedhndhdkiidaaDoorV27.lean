/- Commit. -/
import Derived.Test.YtjedhndhdkiidaaDoorV15
namespace Go.Proofs.YtjedhndhdkiidaaDoor
open Go.RowKit
attribute [local go_sem ↓] Go.wp_at_zero Go.wp_at_succ
attribute [local go_sem] baSize baList
attribute [local go_sem ↓] ld75 ld48 ld73 st75 st48 al75 al48 bu75 bu48
attribute [local go_sem] run_al75 run_al48 run_bu48 run_bu75n run_bu75c run_bu75o run_st75n run_st48n
/-- The root of a document; zero if it cannot be committed to. -/
def comR (fs : List Fd) : List UInt8 := if chkF fs = 0 then rootF (docF fs) else []
/-- A digest and an error number. -/
def RetCm (fs : List Fd) (w : World) (e : Ending) (w' : World) : Prop := e = .returned (.tuple #[idV (comR fs), iV (chkF fs)]) ∧ Ext w w'
set_option maxRecDepth 100000 in
set_option maxHeartbeats 1000000 in
theorem commit19_ok (fs : List Fd) (v : Value) (w : World) (h : FsAt w v fs) (hT : Tab w) : Calls Tryd.prog 19 #[v] w (RetCm fs w) := by
  have CK := Lib.hid (fun W (hW : Ext w W) => check28_ok fs v W (h.ext hW))
  have CA := Lib.hid (fun W (hW : Ext w W) (hd : DocOk fs) => all29_ok fs v W (h.ext hW) hd.le (fun f hf => ⟨(hd.each f hf).2.2, (hd.each f hf).2.1⟩))
  have HT := Lib.hid hT
  obtain ⟨A, c, rfl, -, -, -⟩ := h.read
  clear h hT
  go_enter Tryd.func19, Tryd.ntmps19
  go_upto_region 1 with fail
  generalize hwB : w.alloc (.cells (idA []) 48) = wB
  have HB0 : Hid (Bk wB w.heap.size 32 (idF [])) := Lib.hid (by rw [← hwB]; exact Bk.new (by decide))
  have HE0 : Hid (Ext w wB) := Lib.hid (by rw [← hwB]; exact (Ext.refl _).alloc _)
  clear hwB
  go_wp2_with fail
  refine (CK.out _ HE0.out).mono ?_
  rintro _ w1 ⟨rfl, hE1⟩
  have HE1 := Lib.hid (HE0.out.trans hE1)
  have HB1 := Lib.hid (HB0.out.ext hE1)
  clear hE1 CK
  by_cases hc : chkF fs = 0
  · have hd := docOk_of hc
    have q1 : (chkF fs != 0) = false := by simp [hc]
    have HC := Lib.hid hc
    have HD := Lib.hid hd
    clear hc hd
    go_wp2_with fail
    clear q1
    refine (CA.out w1 HE1.out HD.out).mono ?_
    rintro _ w2 ⟨ps, v2, rfl, hr2, hp2, hpm, hnd, hE2⟩
    have hds : DsAt w2 v2 (docF fs) := by
      have := DsAt.of_row hr2 hp2
      rw [doc_unique HD.out.names hpm hnd] at this
      exact this
    have HE2 := Lib.hid (HE1.out.trans hE2)
    have HB2 := Lib.hid (HB1.out.ext hE2)
    have CR := Lib.hid (root33_ok (docF fs) v2 w2 hds (docF_ok HD.out) (docF_nm HD.out) (by rw [docF_len]; have := HD.out.le; omega) (HT.out.ext HE2.out))
    clear hr2 hp2 hpm hnd hE2 hds
    go_wp2_with fail
    refine CR.out.mono ?_
    rintro _ w3 ⟨rfl, hE3⟩
    have HE3 := Lib.hid (HE2.out.trans hE3)
    have HB3 := Lib.hid (HB2.out.ext hE3)
    clear hE3
    have l2 := run_st48 HB3.out (rootF (docF fs))
    go_wp2_with fail
    refine bodyPost_ret (res48t Tryd.results19 HB3.out.putAll rfl rfl) rfl ?_
    refine ⟨?_, Ext.setCells (Nat.le_refl _) _ _ HE3.out⟩
    unfold comR
    rw [if_pos HC.out, HC.out]
    rfl
  · have q1 : (chkF fs != 0) = true := by simp [hc]
    have HC := Lib.hid hc
    have l2 := run_st48 HB1.out []
    clear hc
    go_wp2_with fail
    refine bodyPost_ret (res48t Tryd.results19 HB1.out.putAll rfl rfl) rfl ?_
    refine ⟨?_, Ext.setCells (Nat.le_refl _) _ _ HE1.out⟩
    unfold comR
    rw [if_neg HC.out]
    rfl
end Go.Proofs.YtjedhndhdkiidaaDoor
