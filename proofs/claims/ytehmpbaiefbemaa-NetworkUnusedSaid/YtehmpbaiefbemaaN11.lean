/- ref.Held. -/
import Derived.Test.YtehmpbaiefbemaaN10
namespace Go.Proofs.Ytehmpbaiefbemaa
open Go.RowKit
attribute [local go_sem ↓] eq44
attribute [local go_sem] run_eq44
def RetH (hs : List Jh) (m : Ms) (w : World) (e : Ending) (w' : World) : Prop := ∃ r : Bool, e = .returned (.bool r) ∧ (r = true ↔ HasM hs m) ∧ Ext w w'
theorem held21_any (hs : List Jh) (cs : Array Value) (v : Value) (m : Ms) (w : World) (hz : cs.size = 83) (hc : cs[1]? = some v) (hv : HsAt w v hs) : Calls Try.prog 21 #[.agg cs, .agg #[iV m.1, iV m.2.1, iV m.2.2]] w (RetH hs m w) := by
  obtain ⟨sl, ar⟩ := hv
  obtain ⟨A, c, rfl, a1, a2, RA⟩ := sl.read
  rw [List.length_map] at a1 RA hc
  have HR := Lib.hid RA
  have HA := Lib.hid ar
  have hl : hs.length ≤ 9223372036854775807 := by unfold maxLen at a2; omega
  obtain ⟨m1, m2, m3⟩ := m
  simp only []
  clear RA ar sl
  go_enter Try.func21, Try.ntmps21
  go_upto_region 1 with fail
  generalize hwB : (w.alloc (.cells cs 32)).alloc (.cells #[iV m1, iV m2, iV m3] 44) = wB
  have hE : Ext w wB := by rw [← hwB]; exact ((Ext.refl _).alloc _).alloc _
  have hs2 : wB.heap.size = w.heap.size + 2 := by rw [← hwB]; simp
  have k1 : wB.cell? ⟨w.heap.size, 1, none⟩ = some (.slice A hs.length c) := by rw [← hwB]; exact Ext.cell ((Ext.refl _).alloc _) (new_at _ _ _ 1 _ hc)
  have hh : (w.alloc (.cells cs 32)).heap.size = w.heap.size + 1 := by simp
  have hM : MsAt wB (w.heap.size + 1) (m1, m2, m3) := by rw [← hwB, ← hh]; exact ⟨new_at _ _ _ 0 _ rfl, new_at _ _ _ 1 _ rfl, new_at _ _ _ 2 _ rfl⟩
  have HM := Lib.hid hM
  have HE := Lib.hid hE
  clear hwB hh hM hE hc hz
  go_wp2_with fail
  go_loopw [10] (fun i wr => ∃ k : Nat, k ≤ hs.length ∧ i = iV (k : Int) ∧ (∀ a, a < k → (hs.getD a Jh0).1 ≠ (m1, m2, m3)) ∧ Ext wB wr) (fun i _ => hs.length - (intOf i).toNat)
  case atStart => exact ⟨0, by omega, rfl, fun a h => by omega, Ext.refl _⟩
  case round =>
    obtain ⟨k, hk, rfl, hn, hX⟩ := hrel
    have HN := Lib.hid hn
    have HX := Lib.hid hX
    clear hX hn
    by_cases hlt : k < hs.length
    · obtain ⟨g, o, rfl, hb, cR⟩ := HR.out wr (HE.out.trans HX.out) k hlt (by omega)
      obtain ⟨x, hx⟩ : ∃ x, hs.getD k Jh0 = x := ⟨_, rfl⟩
      rw [encH_at hlt x hx] at cR
      have g1 := HA.out _ (getD_memH hlt)
      have hmem := getD_memH hlt
      rw [hx] at g1 hmem
      have HME := Lib.hid hmem
      have HXK := Lib.hid hx
      obtain ⟨Ax, dx, ex, -, -, -⟩ := g1.sl.read
      rw [List.length_map] at ex
      obtain ⟨⟨x1, x2, x3⟩, xs, xv⟩ := x
      simp only [] at ex
      subst ex
      have r0 := cR 0 _ (by omega) rfl
      have r1 := cR 1 _ (by omega) rfl
      have r2 := cR 2 _ (by omega) rfl
      have r3 := cR 3 _ (by omega) rfl
      rw [Nat.add_zero] at r0
      obtain ⟨t0, t1, t2⟩ := HM.out.ext HX.out
      simp only [] at t0 t1 t2
      have hsz : w.heap.size + 1 < wr.heap.size := by have := HX.out.size; omega
      clear cR hx g1 hmem
      cases hbb : eqM (x1, x2, x3) (m1, m2, m3) with
      | true =>
        have HBB := Lib.hid hbb
        go_wp2_with fail
        go_ret
        exact ⟨true, rfl, ⟨fun _ => ⟨_, HME.out, eqM_true HBB.out⟩, fun _ => rfl⟩, (HE.out.trans HX.out).alloc _⟩
      | false =>
        have HBB := Lib.hid hbb
        go_wp2_with fail
        exact ⟨⟨k + 1, by omega, by go_num, fun a ha => by
          rcases Nat.lt_or_ge a k with h | h
          · exact HN.out a h
          · obtain rfl : a = k := by omega
            rw [HXK.out]
            exact eqM_false HBB.out, HX.out.alloc _⟩, by simp [intOf]; omega⟩
    · obtain rfl : k = hs.length := by omega
      go_wp2_with fail
      go_ret
      refine ⟨false, rfl, ⟨fun h => (by cases h), ?_⟩, HE.out.trans HX.out⟩
      rintro ⟨h, hh, he⟩
      obtain ⟨i, hi, hie⟩ := List.getElem_of_mem hh
      refine absurd ?_ (HN.out i hi)
      rw [List.getD_eq_getElem?_getD, List.getElem?_eq_getElem hi]
      simpa [hie] using he
end Go.Proofs.Ytehmpbaiefbemaa
