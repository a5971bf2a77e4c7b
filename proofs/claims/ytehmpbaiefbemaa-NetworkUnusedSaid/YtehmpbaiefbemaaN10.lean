/- Whether a message is held: slices.ContainsFunc over the holds. -/
import Derived.Test.YtehmpbaiefbemaaN9
namespace Go.Proofs.Ytehmpbaiefbemaa
open Go.RowKit
attribute [local go_sem ↓] eq44
attribute [local go_sem] run_eq44
def HasM (hs : List Jh) (m : Ms) : Prop := ∃ h ∈ hs, h.1 = m
/-- A message in memory. -/
def MsAt (w : World) (b : Nat) (m : Ms) : Prop := w.cell? ⟨b, 0, none⟩ = some (iV m.1) ∧ w.cell? ⟨b, 1, none⟩ = some (iV m.2.1) ∧ w.cell? ⟨b, 2, none⟩ = some (iV m.2.2)
theorem MsAt.ext {w w' : World} {b : Nat} {m : Ms} (h : MsAt w b m) (k : Ext w w') : MsAt w' b m := ⟨k.cell h.1, k.cell h.2.1, k.cell h.2.2⟩
theorem held1_any (h m : Ms) (A : Option Addr) (n c b : Nat) (w : World) (hm : MsAt w b m) : Calls Try.prog 60 #[.agg #[iV h.1, iV h.2.1, iV h.2.2, .slice A n c], .pointer (some ⟨b, 0, none⟩)] w (RetV (.bool (eqM h m)) w) := by
  obtain ⟨h1, h2, h3⟩ := h
  obtain ⟨m1, m2, m3⟩ := m
  obtain ⟨c0, c1, c2⟩ := hm
  have hb := World.block_lt_of_cell? w _ c0
  simp only [] at c0 c1 c2 hb
  go_enter Try.func60, Try.ntmps60
  go_wp2_with fail
  go_ret
  exact ⟨rfl, (Ext.refl _).alloc _⟩
theorem index81_any (hs : List Jh) (v : Value) (m : Ms) (b : Nat) (w : World) (hv : HsAt w v hs) (hm : MsAt w b m) : Calls Try.prog 81 #[v, .func (.func 60) #[] #[.pointer (some ⟨b, 0, none⟩)]] w fun e w' => ∃ r : Int, e = .returned (.int .i64 r) ∧ (0 ≤ r ∧ HasM hs m ∨ r = -1 ∧ ¬ HasM hs m) ∧ Ext w w' := by
  obtain ⟨sl, ar⟩ := hv
  obtain ⟨A, c, rfl, a1, a2, RA⟩ := sl.read
  rw [List.length_map] at a1 RA ⊢
  have HR := Lib.hid RA
  have HA := Lib.hid ar
  have HM := Lib.hid hm
  have hl : hs.length ≤ 9223372036854775807 := by unfold maxLen at a2; omega
  clear RA ar sl hm
  go_enter Try.func81, Try.ntmps81
  go_wp2_with fail
  go_loopw [8] (fun i wr => ∃ k : Nat, k ≤ hs.length ∧ i = iV (k : Int) ∧ (∀ a, a < k → (hs.getD a Jh0).1 ≠ m) ∧ Ext w wr) (fun i _ => hs.length - (intOf i).toNat)
  case atStart => exact ⟨0, by omega, rfl, fun a h => by omega, Ext.refl _⟩
  case round =>
    obtain ⟨k, hk, rfl, hn, hE⟩ := hrel
    have HN := Lib.hid hn
    have HX := Lib.hid hE
    clear hE hn
    by_cases hlt : k < hs.length
    · obtain ⟨g, o, rfl, hb, cR⟩ := HR.out wr HX.out k hlt (by omega)
      obtain ⟨x, hx⟩ : ∃ x, hs.getD k Jh0 = x := ⟨_, rfl⟩
      rw [encH_at hlt x hx] at cR
      have g1 := HA.out _ (getD_memH hlt)
      have hmem := getD_memH hlt
      rw [hx] at g1 hmem
      have HME := Lib.hid hmem
      have HXK := Lib.hid hx
      obtain ⟨Ax, dx, ex, -, -, -⟩ := g1.sl.read
      rw [List.length_map] at ex
      obtain ⟨⟨x1, x2, x3⟩, xs, xv⟩ := x
      simp only [] at ex
      subst ex
      have r0 := cR 0 _ (by omega) rfl
      have r1 := cR 1 _ (by omega) rfl
      have r2 := cR 2 _ (by omega) rfl
      have r3 := cR 3 _ (by omega) rfl
      rw [Nat.add_zero] at r0
      clear cR hx g1 hmem
      obtain ⟨bb, hbb⟩ : ∃ bb, eqM (x1, x2, x3) m = bb := ⟨_, rfl⟩
      have CV := held1_any (x1, x2, x3) m Ax xs.length dx b wr (HM.out.ext HX.out)
      rw [hbb] at CV
      have HBB := Lib.hid hbb
      have CV := Lib.hid CV
      clear hbb
      go_wp2_with fail
      refine CV.out.mono ?_
      rintro e1 w1 ⟨rfl, hE1⟩
      have HE1 := Lib.hid hE1
      clear hE1 r0 r1 r2 r3 CV
      cases bb with
      | true =>
        go_wp2_with fail
        go_ret
        exact ⟨_, rfl, .inl ⟨by omega, _, HME.out, eqM_true HBB.out⟩, HX.out.trans HE1.out⟩
      | false =>
        go_wp2_with fail
        exact ⟨⟨k + 1, by omega, by go_num, fun a ha => by
          rcases Nat.lt_or_ge a k with h | h
          · exact HN.out a h
          · obtain rfl : a = k := by omega
            rw [HXK.out]
            exact eqM_false HBB.out, HX.out.trans HE1.out⟩, by simp [intOf]; omega⟩
    · obtain rfl : k = hs.length := by omega
      go_wp2_with fail
      go_ret
      refine ⟨_, rfl, .inr ⟨rfl, ?_⟩, HX.out⟩
      rintro ⟨h, hh, he⟩
      obtain ⟨i, hi, hie⟩ := List.getElem_of_mem hh
      refine HN.out i hi ?_
      rw [List.getD_eq_getElem?_getD, List.getElem?_eq_getElem hi]
      simpa [hie] using he
theorem cont59_any (hs : List Jh) (v : Value) (m : Ms) (b : Nat) (w : World) (hv : HsAt w v hs) (hm : MsAt w b m) : Calls Try.prog 59 #[v, .func (.func 60) #[] #[.pointer (some ⟨b, 0, none⟩)]] w fun e w' => ∃ r : Bool, e = .returned (.bool r) ∧ (r = true ↔ HasM hs m) ∧ Ext w w' := by
  have CI := Lib.hid (index81_any hs v m b w hv hm)
  clear hv hm
  go_enter Try.func59, Try.ntmps59
  go_wp2_with fail
  refine CI.out.mono ?_
  rintro e1 w1 ⟨r, rfl, hr, hE1⟩
  have HE1 := Lib.hid hE1
  have HR := Lib.hid hr
  clear hE1 hr CI
  go_wp2_with fail
  go_ret
  refine ⟨_, rfl, ?_, HE1.out⟩
  rcases HR.out with ⟨h1, h2⟩ | ⟨h1, h2⟩
  · simp [h1, h2]
  · subst h1
    simp [h2]
/-- (*Network).held: it reads but the holds of the network. -/
theorem held30_any (hs : List Jh) (v : Value) (m : Ms) (g : Nat) (w : World) (hg : w.cell? ⟨g, 0 + 1, none⟩ = some v) (hv : HsAt w v hs) : Calls Try.prog 30 #[.pointer (some ⟨g, 0, none⟩), .agg #[iV m.1, iV m.2.1, iV m.2.2]] w fun e w' => ∃ r : Bool, e = .returned (.bool r) ∧ (r = true ↔ HasM hs m) ∧ Ext w w' := by
  have hb := World.block_lt_of_cell? w _ hg
  rw [Nat.zero_add] at hg
  obtain ⟨A, c, rfl, -, -, -⟩ := hv.sl.read
  rw [List.length_map] at hg hv
  have e1 : Ext w (w.alloc (.cells #[iV m.1, iV m.2.1, iV m.2.2] 44)) := (Ext.refl _).alloc _
  have CI := Lib.hid (cont59_any hs _ m w.heap.size (w.alloc (.cells #[iV m.1, iV m.2.1, iV m.2.2] 44)) (hv.ext e1) ⟨new_at _ _ _ 0 _ rfl, new_at _ _ _ 1 _ rfl, new_at _ _ _ 2 _ rfl⟩)
  clear hv e1
  obtain ⟨m1, m2, m3⟩ := m
  simp only [] at CI
  simp only [] at hb
  go_enter Try.func30, Try.ntmps30
  go_wp2_with fail
  refine CI.out.mono ?_
  rintro e2 w2 ⟨r, rfl, hr, hE2⟩
  have HE2 := Lib.hid (((Ext.refl w).alloc _).trans hE2)
  have HR := Lib.hid hr
  clear hE2 hr CI
  go_wp2_with fail
  go_ret
  exact ⟨_, rfl, HR.out, HE2.out⟩
end Go.Proofs.Ytehmpbaiefbemaa
