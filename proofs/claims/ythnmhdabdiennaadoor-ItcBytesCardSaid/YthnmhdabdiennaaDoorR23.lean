/- The walks over the law's act, whole, and play. -/
import Derived.Test.YthnmhdabdiennaaDoorR17
import Derived.Test.YthnmhdabdiennaaDoorR18
import Derived.Test.YthnmhdabdiennaaDoorR19
import Derived.Test.YthnmhdabdiennaaDoorR21
import Derived.Test.YthnmhdabdiennaaDoorR22
namespace Go.Proofs.YthnmhdabdiennaaDoor
open Go.RowKit
attribute [local go_sem ↓] Go.wp_at_zero Go.wp_at_succ
theorem act_any (k : Nat) (zs : List Z) (v : Value) (xk xa xb xp : Nat) (w : World) (h : PsAt w v zs) (hr : ∀ z ∈ zs, Rel k z.2.2) (hk : k ≤ 70) (hl : zs.length ≤ 100) (h0 : 0 < zs.length) (bk : xk < 256) (ba : xa < 256) (bb : xb < 256) (bp : xp < 256) :
    Calls Tryd.prog 28 #[v, .agg #[.int .u8 (xk : Int), .int .u8 (xa : Int), .int .u8 (xb : Int), .int .u8 (xp : Int)], .bool false] w (RetAct k zs.length w) := by
  by_cases h0' : xk % 5 = 0
  · exact act_fork k zs v xk xa xb xp w h hr hk hl h0 bk ba bb bp h0'
  by_cases h4 : xk % 5 = 4
  · exact act_peek k zs v xk xa xb xp w h hr hk hl h0 bk ba bb bp h4
  by_cases h3 : xk % 5 = 3
  · by_cases he : xa % zs.length = xb % zs.length
    · exact act_join_same k zs v xk xa xb xp w h hr hk hl h0 bk ba bb bp h3 (Lib.hid he)
    · have la : xa % zs.length < zs.length := Nat.mod_lt _ h0
      have lb : xb % zs.length < zs.length := Nat.mod_lt _ h0
      obtain ⟨y, hy⟩ : ∃ y, zs[xa % zs.length]? = some y := ⟨_, List.getElem?_eq_getElem la⟩
      obtain ⟨y', hy'⟩ : ∃ y, zs[xb % zs.length]? = some y := ⟨_, List.getElem?_eq_getElem lb⟩
      cases hs : y.2.2.i.sum y'.2.2.i with
      | none =>
        refine act_join_none k zs v xk xa xb xp w h hr hk hl h0 bk ba bb bp h3 (Lib.hid he) (Lib.hid fun u u' hu hu' => ?_)
        rw [hy] at hu
        rw [hy'] at hu'
        rw [← Option.some.inj hu, ← Option.some.inj hu']; exact hs
      | some zz =>
        refine act_join_some k zs v xk xa xb xp w h hr hk hl h0 bk ba bb bp h3 (Lib.hid he) zz (Lib.hid fun u u' hu hu' => ?_)
        rw [hy] at hu
        rw [hy'] at hu'
        rw [← Option.some.inj hu, ← Option.some.inj hu']; exact hs
  · exact act_event k zs v xk xa xb xp w h hr hk hl h0 bk ba bb bp h0' h3 h4
theorem ld49 (v : Value) : Instr.loadAt 49 v = ldS 49 v := by unfold ldS; rfl
theorem Tryd.size49 : (Tryd.prog.info? 49).map (·.size) = some 4 := by kernel_rfl
theorem run_ld49 {w : World} {ad : Addr} {x0 x1 x2 x3 : Value} (h0 : w.cell? (ad.add 0) = some x0) (h1 : w.cell? (ad.add 1) = some x1) (h2 : w.cell? (ad.add 2) = some x2) (h3 : w.cell? (ad.add 3) = some x3) :
    (ldS 49 (.pointer (some ad))).run Tryd.prog w = .ok (.agg #[x0, x1, x2, x3]) w := by
  have hl := run_loadCells_list (P := Tryd.prog) w ad [x0, x1, x2, x3] (fun j v hv => by
    match j, hv with
    | 0, hv => obtain rfl : x0 = v := by simpa using hv
               exact h0
    | 1, hv => obtain rfl : x1 = v := by simpa using hv
               exact h1
    | 2, hv => obtain rfl : x2 = v := by simpa using hv
               exact h2
    | 3, hv => obtain rfl : x3 = v := by simpa using hv
               exact h3
    | j + 4, hv => simp at hv)
  have h49 := Tryd.size49
  unfold ldS Instr.loadAt Instr.sureAddr
  rw [Sem.run_bind, Sem.run_pure, Result.andThen_ok]
  cases hq : Tryd.prog.info? 49 with
  | none => rw [hq] at h49; cases h49
  | some i =>
    rw [hq] at h49
    have hs : i.size = 4 := by simpa using h49
    have hagg : (isAgg 49).run Tryd.prog w = .ok true w := by
      unfold isAgg
      rw [Sem.run_bind, run_underlying Tryd.underlying49 w]
      simp
    have hl' : (loadCells ad 4).run Tryd.prog w = .ok #[x0, x1, x2, x3] w := hl
    simp [loadVar, Sem.run_bind, hagg, sizeOf, typeInfo, hq, hs, hl']
attribute [local go_sem ↓] ld36 ld34 ld38 st36 st38 st32 al36 al38 bu36 bu32 bu38 bs23 ld49
attribute [local go_sem] run_bu38 run_bs1
theorem add0 (a : Addr) : a.add 0 = a := by simp [Addr.add]
/-- What play returns: pairs that mean the same. -/
def RetPlay (w : World) (e : Ending) (w' : World) : Prop := ∃ v zs, e = .returned (.tuple #[v, .bool true]) ∧ PsAt w' v zs ∧ (∀ z ∈ zs, Rel 14 z.2.2) ∧ 0 < zs.length ∧ zs.length ≤ 29 ∧ Ext w w'
/-- Behind j calls. -/
def PlayAt (w : World) (j : Nat) (v : Value) (wr : World) : Prop := ∃ zs, PsAt wr v zs ∧ (∀ z ∈ zs, Rel j z.2.2) ∧ 0 < zs.length ∧ zs.length ≤ 1 + 2 * j ∧ Ext w wr
theorem PlayAt.ret {w wr : World} {j : Nat} {v : Value} (h : PlayAt w j v wr) (hj : j ≤ 14) : RetPlay w (.returned (.tuple #[v, .bool true])) wr := by
  obtain ⟨zs, h1, h2, h3, h4, h5⟩ := h
  exact ⟨v, zs, rfl, h1, fun z hz => (h2 z hz).mono hj, h3, by omega, h5⟩
set_option maxRecDepth 100000 in
set_option maxHeartbeats 8000000 in
theorem play_any (A : Option Addr) (n c : Nat) (w : World) (_ : n ≤ 9223372036854775807) (hA : ActsAt w A n) : Calls Tryd.prog 11 #[.slice A n c, .bool false] w (RetPlay w) := by
  have HA := Lib.hid hA
  clear hA
  go_enter Tryd.func11, Tryd.ntmps11
  go_wp2_with fail
  refine (seed_any w).mono ?_
  rintro e1 w1 ⟨v1, rfl, ⟨p, q, rfl, hi, hs⟩, hE1⟩
  have HI := Lib.hid hi
  have HS := Lib.hid hs
  clear hi hs
  go_wp2_with fail
  refine (rseed_any w1).mono ?_
  rintro e2 w2 ⟨rfl, hE2⟩
  go_wp2_with fail
  have P0 : Hid (PlayAt w 0 (.slice (some ⟨w2.heap.size, 0, none⟩) 1 1) (w2.alloc (.cells (PV p q (fun _ => true) (fun _ => 0)) 38))) := Lib.hid (by
    refine ⟨[(p, q, ⟨.one, .leaf 0, fun _ => true, fun _ => 0⟩)], ⟨⟨some ⟨w2.heap.size, 0, none⟩, 1, rfl, by simp, by unfold maxLen; omega, fun _ => ⟨w2.heap.size, rfl, by simp, fun j v hv => ?_⟩⟩, ?_⟩, ?_, by simp, by simp, (hE1.trans hE2).alloc _⟩
    · rw [flatP_one] at hv
      exact new_at _ _ _ _ _ (by simpa [pv] using hv)
    · intro z hz
      simp only [List.mem_singleton] at hz
      subst hz
      exact ⟨HI.out.ext (hE2.trans ((Ext.refl _).alloc _)), HS.out.ext (hE2.trans ((Ext.refl _).alloc _))⟩
    · intro z hz
      simp only [List.mem_singleton] at hz
      subst hz
      exact Rel.seed)
  go_loopw [6, 7] (fun v i wr => ∃ j : Nat, j ≤ 14 ∧ i = .int .i64 (j : Int) ∧ PlayAt w j v wr) (fun _ i _ => 14 - (intOf i).toNat)
  case atStart => exact ⟨0, by omega, rfl, P0.out⟩
  case round =>
    obtain ⟨j, hj, rfl, hP⟩ := hrel
    have HP := Lib.hid hP
    clear hP
    by_cases hlt : j < n
    · by_cases hlt' : j < 14
      · obtain ⟨ad, x, rfl, hab, hx⟩ := HA.out j hlt
        obtain ⟨zs, h1, h2, h3, h4, h5⟩ := HP.out
        obtain ⟨b0, x0⟩ := hx 0 (by omega)
        obtain ⟨b1, x1⟩ := hx 1 (by omega)
        obtain ⟨b2, x2⟩ := hx 2 (by omega)
        obtain ⟨b3, x3⟩ := hx 3 (by omega)
        have hld := run_ld49 (w := wr) (ad := ad.add (j * 4)) (by rw [add_add']; exact h5.cell x0) (by rw [add_add']; exact h5.cell x1) (by rw [add_add']; exact h5.cell x2) (by rw [add_add']; exact h5.cell x3)
        have AC := Lib.hid (act_any j zs u6 (x 0) (x 1) (x 2) (x 3) wr h1 h2 (by omega) (by omega) h3 b0 b1 b2 b3)
        have H5 := Lib.hid h5
        clear hx x0 x1 x2 x3 h1 h2 h5
        have q1 : (0 : Int) ≤ (j : Int) := Int.natCast_nonneg _
        have q2 : (j : Int) < (n : Int) := by omega
        go_wp2_with fail
        refine AC.out.mono ?_
        rintro e3 w3 ⟨v3, ys, more, rfl, k1, k2, k3, k4, k5⟩
        cases more with
        | true =>
          have PN : Hid (PlayAt w (j + 1) v3 w3) := Lib.hid ⟨ys, k1, k2, k3, by omega, H5.out.trans k5⟩
          clear k1 k2
          go_wp2_with fail
          exact ⟨⟨j + 1, by omega, by go_num, PN.out⟩, by simp [intOf]; omega⟩
        | false =>
          have PN : Hid (PlayAt w j u6 w3) := Lib.hid (by
            obtain ⟨zs', g1, g2, g3, g4, g5⟩ := HP.out
            exact ⟨zs', g1.ext k5, g2, g3, g4, g5.trans k5⟩)
          clear k1 k2
          go_wp2_with fail
          go_ret2
          exact PN.out.ret hj
      · have hge : 14 ≤ j := by omega
        go_wp2_with fail
        go_ret2
        exact HP.out.ret hj
    · have hge : n ≤ j := by omega
      go_wp2_with fail
      go_ret2
      exact HP.out.ret hj
end Go.Proofs.YthnmhdabdiennaaDoor
