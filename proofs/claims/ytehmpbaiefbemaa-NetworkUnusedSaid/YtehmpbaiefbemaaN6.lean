/- Holds: arrivals with their arguments, holds with their arrivals; ref.Valid. -/
import Derived.Test.YtehmpbaiefbemaaN5
namespace Go.Proofs.Ytehmpbaiefbemaa
open Go.RowKit
/-- An arrival (tick, handler, arguments), and the value of its arguments in memory. -/
abbrev Ja := (Int × Int × List Int) × Value
abbrev Ja0 : Ja := ((0, 0, []), .slice none 0 0)
def encJ (j : Ja) : List Value := [iV j.1.1, iV j.1.2.1, j.2]
def ArgsAt (w : World) (v : Value) (l : List Int) : Prop := SlAt 1 w v (l.map fun x => [iV x])
structure JaAt (w : World) (v : Value) (js : List Ja) : Prop where
  sl : SlAt 3 w v (js.map encJ)
  args : ∀ j ∈ js, ArgsAt w j.2 j.1.2.2
/-- A hold: its message, its arrivals, and the value of these in memory. -/
abbrev Jh := (Int × Int × Int) × List Ja × Value
abbrev Jh0 : Jh := ((0, 0, 0), [], .slice none 0 0)
def encH (h : Jh) : List Value := [iV h.1.1, iV h.1.2.1, iV h.1.2.2, h.2.2]
structure HsAt (w : World) (v : Value) (hs : List Jh) : Prop where
  sl : SlAt 4 w v (hs.map encH)
  arr : ∀ h ∈ hs, JaAt w h.2.2 h.2.1
theorem ArgsAt.ext {w w' : World} {v : Value} {l : List Int} (h : ArgsAt w v l) (k : Ext w w') : ArgsAt w' v l := SlAt.ext h k
theorem JaAt.ext {w w' : World} {v : Value} {l : List Ja} (h : JaAt w v l) (k : Ext w w') : JaAt w' v l := ⟨h.sl.ext k, fun j hj => (h.args j hj).ext k⟩
theorem HsAt.ext {w w' : World} {v : Value} {l : List Jh} (h : HsAt w v l) (k : Ext w w') : HsAt w' v l := ⟨h.sl.ext k, fun j hj => (h.arr j hj).ext k⟩
theorem getD_memJ {cs : List Ja} {j : Nat} (h : j < cs.length) : cs.getD j Ja0 ∈ cs := by
  rw [List.getD_eq_getElem?_getD, List.getElem?_eq_getElem h]; exact List.getElem_mem h
theorem getD_memH {cs : List Jh} {j : Nat} (h : j < cs.length) : cs.getD j Jh0 ∈ cs := by
  rw [List.getD_eq_getElem?_getD, List.getElem?_eq_getElem h]; exact List.getElem_mem h
theorem encJ_at {js : List Ja} {k : Nat} (h : k < js.length) (x : Ja) (e : js.getD k Ja0 = x) : (js.map encJ).getD k [] = encJ x := by
  rw [← e, List.getD_eq_getElem?_getD, List.getD_eq_getElem?_getD, List.getElem?_map, List.getElem?_eq_getElem h]; rfl
theorem encH_at {js : List Jh} {k : Nat} (h : k < js.length) (x : Jh) (e : js.getD k Jh0 = x) : (js.map encH).getD k [] = encH x := by
  rw [← e, List.getD_eq_getElem?_getD, List.getD_eq_getElem?_getD, List.getElem?_map, List.getElem?_eq_getElem h]; rfl
/-- The holds that the laws make. -/
structure OkH (h : Jh) : Prop where
  f : 0 ≤ h.1.1 ∧ h.1.1 ≤ 2
  t : 0 ≤ h.1.2.1 ∧ h.1.2.1 ≤ 2
  n : 0 ≤ h.1.2.2 ∧ h.1.2.2 ≤ 3
  len : h.2.1.length ≤ 2
  each : ∀ j ∈ h.2.1, 1 ≤ j.1.1 ∧ j.1.1 ≤ 11 ∧ 0 ≤ j.1.2.1 ∧ j.1.2.1 ≤ 7 ∧ j.1.2.2.length ≤ 4
  asc : ∀ i k, i < k → k < h.2.1.length → (h.2.1.getD i Ja0).1.1 ≤ (h.2.1.getD k Ja0).1.1
abbrev hV (h : Jh) : Value := .agg #[iV h.1.1, iV h.1.2.1, iV h.1.2.2, h.2.2]
/-- ref.Valid at a hold that the laws make. -/
theorem valid_ok (h : Jh) (w : World) (ho : OkH h) (hj : JaAt w h.2.2 h.2.1) : Calls Try.prog 43 #[hV h] w (RetV (.bool true) w) := by
  obtain ⟨⟨f, t, n⟩, js, v⟩ := h
  obtain ⟨⟨f1, f2⟩, ⟨t1, t2⟩, ⟨n1, n2⟩, hl, he, ha⟩ := ho
  obtain ⟨hs, hg⟩ := hj
  simp only [] at f1 f2 t1 t2 n1 n2 hl he ha hs hg
  obtain ⟨A, c, rfl, a1, a2, RA⟩ := hs.read
  rw [List.length_map] at a1 RA ⊢
  have HR := Lib.hid RA
  have HE := Lib.hid he
  have HA := Lib.hid ha
  have HG := Lib.hid hg
  clear RA he ha hg hs
  have i1 := in_any f
  have i2 := in_any t
  rw [decide_eq_true (by omega)] at i1 i2
  have I1 := Lib.hid i1
  have I2 := Lib.hid i2
  clear i1 i2
  go_enter Try.func43, Try.ntmps43
  go_wp2_with fail
  refine (I1.out _).mono ?_
  rintro e1 w1 ⟨rfl, rfl⟩
  go_wp2_with fail
  refine (I2.out _).mono ?_
  rintro e1 w1 ⟨rfl, rfl⟩
  go_wp2_with fail
  go_loopw [4, 38] (fun l i wr => ∃ (k : Nat) (m : Int), k ≤ js.length ∧ i = iV (k : Int) ∧ l = iV m ∧ (∀ i, k ≤ i → i < js.length → m ≤ (js.getD i Ja0).1.1) ∧ Ext w wr) (fun _ i _ => js.length - (intOf i).toNat)
  case atStart => exact ⟨0, 1, by omega, rfl, rfl, fun i _ hi => (HE.out _ (getD_memJ hi)).1, (Ext.refl _).alloc _ |>.alloc _⟩
  case round =>
    obtain ⟨k, m, hk, rfl, rfl, hm, hE⟩ := hrel
    have HM := Lib.hid hm
    have HX := Lib.hid hE
    clear hE hm
    by_cases hlt : k < js.length
    · obtain ⟨b, o, rfl, hb, cR⟩ := HR.out wr HX.out k hlt (by omega)
      obtain ⟨x, hx⟩ : ∃ x, js.getD k Ja0 = x := ⟨_, rfl⟩
      rw [encJ_at hlt x hx] at cR
      have b1 := HM.out k (Nat.le_refl _) hlt
      have b2 := HE.out _ (getD_memJ hlt)
      have HN : Hid (∀ i, k + 1 ≤ i → i < js.length → x.1.1 ≤ (js.getD i Ja0).1.1) := Lib.hid (fun i h1 h2 => by rw [← hx]; exact HA.out k i (by omega) h2)
      have g1 := HG.out _ (getD_memJ hlt)
      rw [hx] at b1 b2 g1
      obtain ⟨⟨x1, x2, xs⟩, xv⟩ := x
      obtain ⟨c1, c2, c3, c4, c5⟩ := b2
      obtain ⟨A2, d2, hv, e1, e2, -⟩ := g1.read
      rw [List.length_map] at hv e1
      simp only [] at hv b1 c1 c2 c3 c4 c5
      subst hv
      have r0 := cR 0 _ (by omega) rfl
      have r1 := cR 1 _ (by omega) rfl
      have r2 := cR 2 _ (by omega) rfl
      rw [Nat.add_zero] at r0
      clear cR hx g1
      go_wp2_with fail
      exact ⟨⟨k + 1, x1, by omega, by go_num, rfl, HN.out, HX.out.alloc _⟩, by simp [intOf]; omega⟩
    · go_wp2_with fail
      go_ret
      exact ⟨rfl, HX.out⟩
end Go.Proofs.Ytehmpbaiefbemaa
