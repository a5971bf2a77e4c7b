/- network.New at any holds. -/
import Derived.Test.YtehmpbaiefbemaaGreatN16
namespace Go.Proofs.YtehmpbaiefbemaaGreat
open Go.RowKit
attribute [local go_sem ↓] Go.wp_at_zero Go.wp_at_succ
attribute [local go_sem] run_makeMap_plain
/-- A hold without its places in memory. -/
abbrev Ph := Ms × List (Int × Int × List Int)
def plH (h : Jh) : Ph := (h.1, h.2.1.map (·.1))
/-- The error of holds: the first one that is not valid, or that holds a message again. -/
def errA : List Ms → List Jh → Int
  | _, [] => 0
  | seen, h :: r => if validF h = false then 1 else if h.1 ∈ seen then 5 else errA (seen ++ [h.1]) r
def errF (hs : List Jh) : Int := if 16 < hs.length then 3 else errA [] hs
/-- Holds in memory of the call's own. -/
structure HsOwn (w : World) (B : Nat) (v : Value) (os : List Jh) : Prop where
  row : Row 4 w B 81 v (os.map encH)
  arr : ∀ h ∈ os, Row 3 w B 69 h.2.2 (h.2.1.map encJ)
  args : ∀ h ∈ os, ∀ j ∈ h.2.1, Row 1 w B 2 j.2 (j.1.2.2.map fun x => [iV x])
theorem HsOwn.hs {w : World} {B : Nat} {v : Value} {os : List Jh} (h : HsOwn w B v os) : HsAt w v os := ⟨h.row.sl, fun x hx => ⟨(h.arr x hx).sl, fun j hj => (h.args x hx j hj).sl⟩⟩
theorem HsOwn.kept {w w' : World} {B : Nat} {v : Value} {os : List Jh} (h : HsOwn w B v os) (hb : ∀ k, B ≤ k → k < w.heap.size → w'.heap[k]? = w.heap[k]?) : HsOwn w' B v os :=
  ⟨h.row.kept fun k hk => hb k (h.row.lt k hk).1 (h.row.lt k hk).2, fun x hx => (h.arr x hx).kept fun k hk => hb k ((h.arr x hx).lt k hk).1 ((h.arr x hx).lt k hk).2,
    fun x hx j hj => (h.args x hx j hj).kept fun k hk => hb k ((h.args x hx j hj).lt k hk).1 ((h.args x hx j hj).lt k hk).2⟩
theorem HsOwn.ext {w w' : World} {B : Nat} {v : Value} {os : List Jh} (h : HsOwn w B v os) (k : Ext w w') : HsOwn w' B v os := h.kept fun i _ hi => k.block i hi
theorem HsOwn.nil (w : World) (B : Nat) : HsOwn w B (.slice none 0 0) [] := ⟨Row.nil _ _ _ _, by simp, by simp⟩
/-- Rows of elements of two types lie in two blocks. -/
theorem Row.apart {s s' : Nat} {w : World} {B B' e e' : Nat} {v v' : Value} {a b : List (List Value)} (h : Row s w B e v a) (k : Row s' w B' e' v' b) (hne : e ≠ e') : ∀ i, v'.ownBlock = some i → some i ≠ v.ownBlock := by
  intro i hi hv
  rcases h.2.2 with ⟨rfl, _⟩ | ⟨g, cap, cur, rfl, _, hg, _⟩
  · simp [Value.ownBlock] at hv
  · rcases k.2.2 with ⟨rfl, _⟩ | ⟨g', cap', cur', rfl, _, hg', _⟩
    · simp [Value.ownBlock] at hi
    · simp [Value.ownBlock] at hv hi
      subst hv
      subst hi
      rw [hg] at hg'
      simp at hg'
      exact hne hg'.2
theorem Row.grown {s : Nat} {w w' : World} {B e : Nat} {v : Value} {a : List (List Value)} (h : Row s w B e v a) {r : Option Nat} (hg : w.grownBy w' r) (hr : ∀ i, v.ownBlock = some i → some i ≠ r) : Row s w' B e v a :=
  h.kept fun k hk => hg.block k (h.lt k hk).2 (hr k hk)
def RetN (er : Int) (cv : Value) (hs : List Jh) (w : World) (e : Ending) (w' : World) : Prop :=
  (∃ g r nv os, e = .returned (.tuple #[.pointer (some ⟨g, 0, none⟩), .int .i64 0]) ∧ er = 0 ∧ w.heap.size ≤ g ∧ w.heap.size ≤ r ∧ r < g ∧ blkOf w' g = NV cv nv (fun _ => 0) (fun _ => 0) (fun _ => 0) (.map (some r)) ∧ Mk w' r [] ∧
    HsOwn w' (g + 1) nv os ∧ os.map plH = hs.map plH ∧ Ext w w') ∨
  (e = .returned (.tuple #[.pointer none, .int .i64 er]) ∧ er ≠ 0 ∧ Ext w w')
theorem okArr_len {m : Int} : ∀ {js : List Ja}, okArr m js = true → ∀ j ∈ js, j.1.2.2.length ≤ 4
  | [], _ => by simp
  | j :: js, h => by
    rw [okArr, Bool.and_eq_true] at h
    intro x hx
    rcases List.mem_cons.1 hx with rfl | hx
    · exact (of_decide_eq_true h.1).2.2.2
    · exact okArr_len h.2 x hx
theorem valid_len {h : Jh} (k : validF h = true) : h.2.1.length ≤ 2 ∧ ∀ j ∈ h.2.1, j.1.2.2.length ≤ 4 := by
  unfold validF at k
  rw [Bool.and_eq_true] at k
  exact ⟨(of_decide_eq_true k.1).2.2.2.2, okArr_len k.2⟩
/-- A hold that is being made: its message and its arrivals so far, in block g. -/
structure InC (w w' : World) (g : Nat) (m : Ms) (v : Value) (qs : List Ja) : Prop where
  ext : Ext w w'
  c0 : w'.cell? ⟨g, 0, none⟩ = some (iV m.1)
  c1 : w'.cell? ⟨g, 1, none⟩ = some (iV m.2.1)
  c2 : w'.cell? ⟨g, 2, none⟩ = some (iV m.2.2)
  c3 : w'.cell? ⟨g, 3, none⟩ = some v
  fr : ∀ i, w'.frozen? ⟨g, i, none⟩ = false
  lt : g + 1 ≤ w'.heap.size
  row : Row 3 w' (g + 1) 69 v (qs.map encJ)
  args : ∀ j ∈ qs, Row 1 w' (g + 1) 2 j.2 (j.1.2.2.map fun x => [iV x])
theorem cell_kept {w w' : World} {g o : Nat} (h : w'.heap[g]? = w.heap[g]?) : w'.cell? ⟨g, o, none⟩ = w.cell? ⟨g, o, none⟩ := by unfold World.cell?; rw [h]
theorem frozen_kept {w w' : World} {g o : Nat} (h : w'.heap[g]? = w.heap[g]?) : w'.frozen? ⟨g, o, none⟩ = w.frozen? ⟨g, o, none⟩ := by unfold World.frozen?; rw [h]
theorem Row.rebase {s : Nat} {w : World} {B B' e : Nat} {v : Value} {a : List (List Value)} (h : Row s w B e v a) (hb : ∀ k, v.ownBlock = some k → B' ≤ k) : Row s w B' e v a := by
  refine ⟨h.1, h.2.1, ?_⟩
  rcases h.2.2 with h1 | ⟨g, cap, cur, rfl, _, h2⟩
  · exact .inl h1
  · exact .inr ⟨g, cap, cur, rfl, hb g rfl, h2⟩
theorem InC.app {w w0 W w6 : World} {g : Nat} {m : Ms} {v v6 : Value} {qs : List Ja} {j : Ja} (h : InC w w0 g m v qs) (hg : w.heap.size = g) (hE : Ext w0 W) (ha : Row 1 W (g + 1) 2 j.2 (j.1.2.2.map fun x => [iV x]))
    (hr : Row 3 w6 w.heap.size 69 v6 (qs.map encJ ++ [encJ j])) (hE6 : Ext w w6) (hG : W.grownBy w6 v.ownBlock) (hb : v6.ownBlock = v.ownBlock ∨ v6.ownBlock = some W.heap.size) :
    w6.cell? ⟨g, 3, none⟩ = some v ∧ (∀ i, w6.frozen? ⟨g, i, none⟩ = false) ∧ InC w (w6.setCell ⟨g, 3, none⟩ v6) g m v6 (qs ++ [j]) := by
  have hgw : g < w0.heap.size := by have := h.lt; omega
  have hne : some g ≠ v.ownBlock := fun e => by have := (h.row.lt g e.symm).1; omega
  have hh : w6.heap[g]? = w0.heap[g]? := (hG.block g (Nat.lt_of_lt_of_le hgw hE.size) hne).trans (hE.block g hgw)
  have hc : ∀ o, w6.cell? ⟨g, o, none⟩ = w0.cell? ⟨g, o, none⟩ := fun o => cell_kept hh
  have hsz : W.heap.size ≤ w6.heap.size := hG.size
  have hWs := hE.size
  have hr' : Row 3 w6 (g + 1) 69 v6 (qs.map encJ ++ [encJ j]) := hr.rebase fun k hk => by
    rcases hb with e | e
    · exact (h.row.lt k (e.symm.trans hk)).1
    · rw [e] at hk
      simp at hk
      omega
  have d0 := (hc 0).trans h.c0
  have d1 := (hc 1).trans h.c1
  have d2 := (hc 2).trans h.c2
  have d3 := (hc 3).trans h.c3
  clear hc
  have K : ∀ {s e : Nat} {u : Value} {l : List (List Value)}, Row s w6 (g + 1) e u l → Row s (w6.setCell ⟨g, 3, none⟩ v6) (g + 1) e u l := fun k => k.kept fun i hi => by
    rw [Below.heap_setCell _ _ _ _ (by have := (k.lt i hi).1; show i ≠ g; omega)]
  refine ⟨d3, fun i => (frozen_kept hh).trans (h.fr i), ⟨?_, ?_, ?_, ?_, ?_, ?_, ?_, ?_, ?_⟩⟩
  · exact hE6.set (by show w.heap.size ≤ g; omega) _
  · go_simp
  · go_simp
  · go_simp
  · go_simp
  · intro i
    rw [World.frozen?_setCell]
    exact (frozen_kept hh).trans (h.fr i)
  · have := h.lt; simp; omega
  · rw [List.map_append]
    exact K hr'
  · intro x hx
    rcases List.mem_append.1 hx with hx | hx
    · exact K (((h.args x hx).ext hE).grown hG ((h.row.ext hE).apart ((h.args x hx).ext hE) (by decide)))
    · rw [List.mem_singleton.1 hx]
      exact K (ha.grown hG ((h.row.ext hE).apart ha (by decide)))
theorem HsOwn.app {wo W w7 : World} {B B0 : Nat} {v v7 av : Value} {os : List Jh} {m : Ms} {qs : List Ja} (h : HsOwn wo B v os) (hE : Ext wo W) (hB : B ≤ wo.heap.size) (row : Row 3 W B 69 av (qs.map encJ))
    (args : ∀ j ∈ qs, Row 1 W B 2 j.2 (j.1.2.2.map fun x => [iV x])) (hr : Row 4 w7 B0 81 v7 (os.map encH ++ [encH (m, qs, av)])) (hG : W.grownBy w7 v.ownBlock) (hb : v7.ownBlock = v.ownBlock ∨ v7.ownBlock = some W.heap.size) :
    HsOwn w7 B v7 (os ++ [(m, qs, av)]) ∧ ∀ k, k < B → w7.heap[k]? = wo.heap[k]? := by
  have hv := h.row.ext hE
  have hs := hE.size
  refine ⟨⟨?_, ?_, ?_⟩, fun k hk => (hG.block k (by omega) (fun e => by have := (h.row.lt k e.symm).1; omega)).trans (hE.block k (by omega))⟩
  · rw [List.map_append]
    refine hr.rebase fun k hk => ?_
    rcases hb with e | e
    · exact (h.row.lt k (e.symm.trans hk)).1
    · rw [e] at hk
      simp at hk
      omega
  · intro x hx
    rcases List.mem_append.1 hx with hx | hx
    · exact ((h.arr x hx).ext hE).grown hG (hv.apart ((h.arr x hx).ext hE) (by decide))
    · rw [List.mem_singleton.1 hx]
      exact row.grown hG (hv.apart row (by decide))
  · intro x hx j hj
    rcases List.mem_append.1 hx with hx | hx
    · exact ((h.args x hx j hj).ext hE).grown hG (hv.apart ((h.args x hx j hj).ext hE) (by decide))
    · rw [List.mem_singleton.1 hx] at hj
      exact (args j hj).grown hG (hv.apart (args j hj) (by decide))
theorem one_encH {m1 m2 m3 : Int} {qs : List Ja} {A : Option Addr} {n c : Nat} : ∀ u ∈ [encH ((m1, m2, m3), qs, .slice A n c)].flatten, u.oneCell' = true := by
  intro u hu
  simp [encH] at hu
  rcases hu with rfl | rfl | rfl | rfl <;> rfl
theorem one_encJ {x1 x2 : Int} {xs : List Int} {A : Option Addr} {n c : Nat} : ∀ u ∈ [encJ ((x1, x2, xs), .slice A n c)].flatten, u.oneCell' = true := by
  intro u hu
  simp [encJ] at hu
  rcases hu with rfl | rfl | rfl <;> rfl
theorem el40 : El 62 69 (.agg #[iV 0, iV 0, .slice none 0 0]) 3 40 := ⟨Tryz.underlying62, by kernel_rfl, rfl, by omega, by omega⟩
theorem el23 : El 23 81 (.agg #[iV 0, iV 0, iV 0, .slice none 0 0]) 4 48 := ⟨Tryz.underlying23, by kernel_rfl, rfl, by omega, by omega⟩
theorem zero91 : Tryz.zeroCells75 = NV (.slice none 0 0) (.slice none 0 0) (fun _ => 0) (fun _ => 0) (fun _ => 0) (.map none) := by
  unfold NV nvl
  rfl
theorem drop_consH {hs : List Jh} {k : Nat} (h : k < hs.length) : hs.drop k = hs.getD k Jh0 :: hs.drop (k + 1) := by
  rw [List.drop_eq_getElem_cons h, List.getD_eq_getElem?_getD, List.getElem?_eq_getElem h]
  rfl
theorem take_map {β : Type} (f : Jh → β) {hs : List Jh} {k : Nat} (h : k < hs.length) : (hs.take (k + 1)).map f = (hs.take k).map f ++ [f (hs.getD k Jh0)] := by
  rw [List.take_succ_eq_append_getElem h, List.map_append, List.getD_eq_getElem?_getD, List.getElem?_eq_getElem h]
  rfl
theorem take_mapJ {β : Type} (f : Ja → β) {hs : List Ja} {k : Nat} (h : k < hs.length) : (hs.take (k + 1)).map f = (hs.take k).map f ++ [f (hs.getD k Ja0)] := by
  rw [List.take_succ_eq_append_getElem h, List.map_append, List.getD_eq_getElem?_getD, List.getElem?_eq_getElem h]
  rfl
theorem take_msgs {hs : List Jh} {k : Nat} (h : k < hs.length) : (hs.take (k + 1)).map (·.1) = (hs.take k).map (·.1) ++ [(hs.getD k Jh0).1] := take_map _ h
theorem take_pls {hs : List Jh} {k : Nat} (h : k < hs.length) : (hs.take (k + 1)).map plH = (hs.take k).map plH ++ [plH (hs.getD k Jh0)] := take_map _ h
theorem msgs_pl (hs : List Jh) : hs.map (·.1) = (hs.map plH).map (·.1) := by rw [List.map_map]; rfl
theorem hasM_iff {hs : List Jh} {m : Ms} : HasM hs m ↔ m ∈ hs.map (·.1) := by rw [List.mem_map]; rfl
theorem hasM_pl {os hs : List Jh} (h : os.map plH = hs.map plH) {m : Ms} : HasM os m ↔ m ∈ hs.map (·.1) := by rw [hasM_iff, msgs_pl, h, ← msgs_pl]
set_option maxRecDepth 100000 in
set_option maxHeartbeats 4000000 in
theorem new14_any (A0 : Option Addr) (n0 c0 : Nat) (hs : List Jh) (v : Value) (w : World) (hv : HsAt w v hs) : Calls Tryz.prog 17 #[.agg #[.slice A0 n0 c0], v] w (RetN (errF hs) (.slice A0 n0 c0) hs w) := by
  obtain ⟨sl, ar⟩ := hv
  obtain ⟨A, c, rfl, a1, a2, RA⟩ := sl.read
  rw [List.length_map] at a1 RA ⊢
  have HR := Lib.hid RA
  have HA := Lib.hid ar
  have hl : hs.length ≤ 9223372036854775807 := by unfold maxLen at a2; omega
  clear RA ar sl
  by_cases h16 : 16 < hs.length
  · have HF : Hid (errF hs = 3) := by unfold errF; rw [if_pos h16]; exact rfl
    go_enter Tryz.func17, Tryz.ntmps17
    go_wp2_with fail
    go_ret2
    exact .inr ⟨by rw [HF.out]; rfl, by rw [HF.out]; decide, (Ext.refl _).alloc _⟩
  have HF : Hid (errF hs = errA [] hs) := by unfold errF; rw [if_neg h16]; exact rfl
  generalize errF hs = er at *
  go_enter Tryz.func17, Tryz.ntmps17
  go_upto_region 4 with fail
  have hz : (Tryz.zeroCells75.setIfInBounds 0 (Value.slice A0 n0 c0)).setIfInBounds 82 (Value.map (some (w.heap.size + 1))) = NV (.slice A0 n0 c0) (.slice none 0 0) (fun _ => 0) (fun _ => 0) (fun _ => 0) (.map (some (w.heap.size + 1))) := by rw [zero91, NV_setC, NV_setU]
  rw [hz]
  clear hz
  generalize hwB : ((w.alloc (.cells #[.slice A0 n0 c0] 51)).alloc (.map #[] 0)).alloc (.cells (NV (.slice A0 n0 c0) (.slice none 0 0) (fun _ => 0) (fun _ => 0) (fun _ => 0) (.map (some (w.heap.size + 1)))) 75) = wB
  have hE : Ext w wB := by rw [← hwB]; exact (((Ext.refl _).alloc _).alloc _).alloc _
  have hsz : wB.heap.size = w.heap.size + 1 + 1 + 1 := by rw [← hwB]; simp
  have hh : ((w.alloc (.cells #[.slice A0 n0 c0] 51)).alloc (.map #[] 0)).heap.size = w.heap.size + 1 + 1 := by simp
  have h1 : (w.alloc (.cells #[.slice A0 n0 c0] 51)).heap.size = w.heap.size + 1 := by simp
  have hg : blkOf wB (w.heap.size + 1 + 1) = NV (.slice A0 n0 c0) (.slice none 0 0) (fun _ => 0) (fun _ => 0) (fun _ => 0) (.map (some (w.heap.size + 1))) := by rw [← hwB, ← hh]; exact blkOf_new
  have hM : Mk wB (w.heap.size + 1) [] := by rw [← hwB, ← h1]; exact (Mk.new _).ext ((Ext.refl _).alloc _)
  clear hwB hh h1
  obtain ⟨r, hr⟩ : ∃ r, w.heap.size + 1 = r := ⟨_, rfl⟩
  rw [hr] at hg hM hsz ⊢
  obtain ⟨g, hgr⟩ : ∃ g, r + 1 = g := ⟨_, rfl⟩
  rw [hgr] at hg hsz ⊢
  have HG := Lib.hid hg
  have HM := Lib.hid hM
  have HE := Lib.hid hE
  have HF0 : Hid (er = errA ((hs.take 0).map (·.1)) (hs.drop 0)) := HF
  clear hg hM hE HF
  have n16 : hs.length ≤ 16 := by omega
  clear h16
  go_wp2_with fail
  go_loopw [21] (fun i wr => ∃ (k : Nat) (nv : Value) (os : List Jh), k ≤ hs.length ∧ i = iV (k : Int) ∧ er = errA ((hs.take k).map (·.1)) (hs.drop k) ∧ os.map plH = (hs.take k).map plH ∧
    blkOf wr g = NV (.slice A0 n0 c0) nv (fun _ => 0) (fun _ => 0) (fun _ => 0) (.map (some r)) ∧ Mk wr r [] ∧ HsOwn wr (g + 1) nv os ∧ Ext w wr ∧ g + 1 ≤ wr.heap.size) (fun i _ => hs.length - (intOf i).toNat)
  case atStart => exact ⟨0, _, [], by omega, rfl, HF0.out, rfl, HG.out, HM.out, HsOwn.nil _ _, HE.out, by omega⟩
  case round =>
    obtain ⟨k, nv, os, hk, rfl, her, hos, hg, hM, hO, hX, hsz2⟩ := hrel
    obtain ⟨wo, rfl⟩ : ∃ wo, wo = wr := ⟨_, rfl⟩
    have HF := Lib.hid her
    have HOS := Lib.hid hos
    have HG := Lib.hid hg
    have HM := Lib.hid hM
    have HO := Lib.hid hO
    have HX := Lib.hid hX
    clear her hos hg hM hO hX HF0 hsz
    by_cases hlt : k < hs.length
    · obtain ⟨b, o, rfl, hb, cR⟩ := HR.out wo HX.out k hlt (by omega)
      obtain ⟨x, hx⟩ : ∃ x, hs.getD k Jh0 = x := ⟨_, rfl⟩
      rw [encH_at hlt x hx] at cR
      have gx := HA.out _ (getD_memH hlt)
      rw [hx] at gx
      have gx := gx.ext HX.out
      have HER : Hid (er = if validF x = false then 1 else if x.1 ∈ (hs.take k).map (·.1) then 5 else errA ((hs.take (k + 1)).map (·.1)) (hs.drop (k + 1))) := by rw [HF.out, drop_consH hlt, hx, take_msgs hlt, hx]; exact Lib.hid rfl
      have HTK : Hid ((hs.take (k + 1)).map plH = (hs.take k).map plH ++ [plH x]) := by rw [take_pls hlt, hx]; exact Lib.hid rfl
      have HMM : Hid (HasM os x.1 ↔ x.1 ∈ (hs.take k).map (·.1)) := by rw [hasM_pl HOS.out]; exact Lib.hid Iff.rfl
      obtain ⟨vx, hvx⟩ : ∃ b, validF x = b := ⟨_, rfl⟩
      have CV := Lib.hid (fun W (hW : Ext wo W) => valid38_any x W (gx.ext hW))
      have HVL : Hid (validF x = true → x.2.1.length ≤ 2 ∧ ∀ j ∈ x.2.1, j.1.2.2.length ≤ 4) := Lib.hid valid_len
      rw [hvx] at CV HER HVL
      have HJ := Lib.hid gx
      obtain ⟨Ax, dx, ex, ax1, ax2, RJ⟩ := gx.sl.read
      rw [List.length_map] at ex ax1 RJ
      have HRJ := Lib.hid RJ
      clear RJ
      obtain ⟨⟨m1, m2, m3⟩, js, jv⟩ := x
      simp only [] at ex ax1 HER HMM CV HJ HVL HRJ
      subst ex
      have r0 := cR 0 _ (by omega) rfl
      have r1 := cR 1 _ (by omega) rfl
      have r2 := cR 2 _ (by omega) rfl
      have r3 := cR 3 _ (by omega) rfl
      rw [Nat.add_zero] at r0
      clear cR hx gx hvx HF
      cases vx with
      | false =>
        have HF : Hid (er = 1) := by rw [HER.out, if_pos rfl]; exact rfl
        clear HER HMM
        go_wp2_with fail
        refine (CV.out _ (by simp)).mono ?_
        rintro e1 w1 ⟨rfl, hE1⟩
        have HE1 := Lib.hid hE1
        clear hE1 CV
        go_wp2_with fail
        go_ret2
        exact .inr ⟨by rw [HF.out]; rfl, by rw [HF.out]; decide, (HX.out.alloc _).trans HE1.out⟩
      | true =>
        have HF : Hid (er = if (m1, m2, m3) ∈ (hs.take k).map (·.1) then 5 else errA ((hs.take (k + 1)).map (·.1)) (hs.drop (k + 1))) := by rw [HER.out, if_neg (by simp)]; exact Lib.hid rfl
        clear HER
        obtain ⟨An, cn, en, -, -⟩ := HO.out.row.form
        rw [List.length_map] at en
        subst en
        have CH := Lib.hid (fun W (hW : Ext wo W) => held30_any os _ (m1, m2, m3) g W (hW.cell (by rw [Nat.zero_add]; exact blkOf_cell (by rw [HG.out]; exact NV_1))) (HO.out.hs.ext hW))
        simp only [] at CH
        go_wp2_with fail
        refine (CV.out _ (by simp)).mono ?_
        rintro e1 w1 ⟨rfl, hE1⟩
        have u0 : w1.cell? ⟨wo.heap.size, 0, none⟩ = some (iV m1) := hE1.cell (new_at _ _ _ 0 _ rfl)
        have u1 : w1.cell? ⟨wo.heap.size, 1, none⟩ = some (iV m2) := hE1.cell (new_at _ _ _ 1 _ rfl)
        have u2 : w1.cell? ⟨wo.heap.size, 2, none⟩ = some (iV m3) := hE1.cell (new_at _ _ _ 2 _ rfl)
        have u3 : w1.cell? ⟨wo.heap.size, 3, none⟩ = some (.slice Ax js.length dx) := hE1.cell (new_at _ _ _ 3 _ rfl)
        have hs1 : wo.heap.size < w1.heap.size := by have := hE1.size; simp at this; omega
        have HE1 := Lib.hid (((Ext.refl wo).alloc _).trans hE1)
        clear hE1 CV r0 r1 r2 r3
        go_wp2_with fail
        refine (CH.out _ HE1.out).mono ?_
        rintro e2 w2 ⟨rb, rfl, hrb, hE2⟩
        have v0 := hE2.cell u0
        have v1 := hE2.cell u1
        have v2 := hE2.cell u2
        have v3 := hE2.cell u3
        have hs2 : wo.heap.size < w2.heap.size := by have := hE2.size; omega
        have HE2 := Lib.hid (HE1.out.trans hE2)
        have HRB := Lib.hid (hrb.trans HMM.out)
        clear hE2 hrb CH u0 u1 u2 u3 HE1 HMM
        cases rb with
        | true =>
          have HF5 : Hid (er = 5) := by rw [HF.out, if_pos (HRB.out.1 rfl)]; exact rfl
          clear HF HRB
          go_wp2_with fail
          go_ret2
          exact .inr ⟨by rw [HF5.out]; rfl, by rw [HF5.out]; decide, HX.out.trans HE2.out⟩
        | false =>
          have HFN : Hid (er = errA ((hs.take (k + 1)).map (·.1)) (hs.drop (k + 1))) := by rw [HF.out, if_neg (fun h => by have := HRB.out.2 h; cases this)]; exact Lib.hid rfl
          clear HF HRB
          go_wp2_with fail
          have HAJ := Lib.hid (fun j hj => (HJ.out.args j hj).ext HE2.out)
          obtain ⟨gc, hgc⟩ : ∃ gc, w2.heap.size = gc := ⟨_, rfl⟩
          obtain ⟨js2, hjl⟩ := HVL.out (by trivial)
          have HJL := Lib.hid hjl
          clear hjl HVL
          generalize hw3 : w2.alloc (.cells #[iV m1, iV m2, iV m3, .slice none 0 0] 81) = w3
          have k0 : w3.cell? ⟨gc, 0, none⟩ = some (iV m1) := by rw [← hw3, ← hgc]; exact new_at _ _ _ 0 _ rfl
          have k1 : w3.cell? ⟨gc, 1, none⟩ = some (iV m2) := by rw [← hw3, ← hgc]; exact new_at _ _ _ 1 _ rfl
          have k2 : w3.cell? ⟨gc, 2, none⟩ = some (iV m3) := by rw [← hw3, ← hgc]; exact new_at _ _ _ 2 _ rfl
          have k3 : w3.cell? ⟨gc, 3, none⟩ = some (.slice none 0 0) := by rw [← hw3, ← hgc]; exact new_at _ _ _ 3 _ rfl
          have kf : ∀ i, w3.frozen? ⟨gc, i, none⟩ = false := fun i => by rw [← hw3, ← hgc]; exact World.frozen?_alloc_at _ _ _ _ rfl
          have hs3 : w3.heap.size = gc + 1 := by rw [← hw3, ← hgc]; simp
          have HE3 : Hid (Ext w2 w3) := by rw [← hw3]; exact Lib.hid ((Ext.refl _).alloc _)
          have C0 : Hid (InC w2 w3 gc (m1, m2, m3) (.slice none 0 0) []) := Lib.hid ⟨HE3.out, k0, k1, k2, k3, kf, by omega, Row.nil _ _ _ _, by simp⟩
          rw [hgc]
          clear hw3 k0 k1 k2 k3 kf v0 v1 v2 v3
          go_loopw [38] (fun i wr => ∃ (k' : Nat) (av : Value) (qs : List Ja), k' ≤ js.length ∧ i = iV (k' : Int) ∧ qs.map (·.1) = (js.take k').map (·.1) ∧ InC w2 wr gc (m1, m2, m3) av qs) (fun i _ => js.length - (intOf i).toNat)
          case atStart => exact ⟨0, _, [], by omega, rfl, rfl, C0.out⟩
          case round =>
            obtain ⟨k', av, qs, hk', rfl, has, hC⟩ := hrel
            have HAS := Lib.hid has
            have HC := Lib.hid hC
            clear has hC C0
            by_cases hlt' : k' < js.length
            · obtain ⟨bj, oj, rfl, hbj, cJ⟩ := HRJ.out wr (HE2.out.trans HC.out.ext) k' hlt' (by omega)
              obtain ⟨y, hy⟩ : ∃ y, js.getD k' Ja0 = y := ⟨_, rfl⟩
              rw [encJ_at hlt' y hy] at cJ
              have gy := HAJ.out _ (getD_memJ hlt')
              have ly := HJL.out _ (getD_memJ hlt')
              rw [hy] at gy ly
              have HTJ : Hid ((js.take (k' + 1)).map (·.1) = (js.take k').map (·.1) ++ [y.1]) := by rw [take_mapJ _ hlt', hy]; exact Lib.hid rfl
              obtain ⟨⟨y1, y2, ys⟩, yv⟩ := y
              obtain ⟨Ay, dy, ey, ay1, ay2, -⟩ := gy.read
              rw [List.length_map] at ey ay1
              simp only [] at ey ay1 ly gy HTJ
              subst ey
              have q0 := cJ 0 _ (by omega) rfl
              have q1 := cJ 1 _ (by omega) rfl
              have q2 := cJ 2 _ (by omega) rfl
              rw [Nat.add_zero] at q0
              obtain ⟨Av, cv, ev, -, -⟩ := HC.out.row.form
              rw [List.length_map] at ev
              subst ev
              clear cJ hy
              go_upto_region 15 with fail
              generalize hw4 : wr.alloc (.cells #[iV y1, iV y2, .slice Ay ys.length dy] 69) = w4
              have p0 : w4.cell? ⟨wr.heap.size, 0, none⟩ = some (iV y1) := by rw [← hw4]; exact new_at _ _ _ 0 _ rfl
              have p1 : w4.cell? ⟨wr.heap.size, 1, none⟩ = some (iV y2) := by rw [← hw4]; exact new_at _ _ _ 1 _ rfl
              have p2 : w4.cell? ⟨wr.heap.size, 2, none⟩ = some (.slice Ay ys.length dy) := by rw [← hw4]; exact new_at _ _ _ 2 _ rfl
              have hs4 : wr.heap.size < w4.heap.size := by rw [← hw4]; simp
              have hE4 : Ext wr w4 := by rw [← hw4]; exact (Ext.refl _).alloc _
              have e24 : Ext w2 w4 := HC.out.ext.trans hE4
              have p3 : w4.cell? ⟨gc, 3, none⟩ = some (.slice Av qs.length cv) := hE4.cell HC.out.c3
              have hgc4 : gc + 1 ≤ w4.heap.size := by have := HC.out.lt; omega
              have hgc5 : gc < w4.heap.size := hgc4
              have hgcw : gc < wr.heap.size := HC.out.lt
              have hql : qs.length ≤ 2 := by have h := congrArg List.length HAS.out; simp at h; omega
              have CL := Lib.hid (fun W (hW : Ext w4 W) => cloneA_any y1 y2 ys _ W ((gy.ext (HC.out.ext.trans hE4)).ext hW) ly)
              have HE4 := Lib.hid hE4
              clear hw4 hE4 q0 q1 q2 gy
              have hn5 : some wr.heap.size ≠ (Value.slice Av qs.length cv).ownBlock := fun e => by have := (HC.out.row.lt _ e.symm).2; omega
              have KB : Hid (∀ W, Ext w4 W → (fun w' => Ext w2 w' ∧ w'.cell? ⟨wr.heap.size, 0, none⟩ = some (iV y1) ∧ w'.cell? ⟨wr.heap.size, 1, none⟩ = some (iV y2) ∧ w'.cell? ⟨wr.heap.size, 2, none⟩ = some (.slice Ay ys.length dy)) W) := Lib.hid (fun W h => ⟨e24.trans h, h.cell p0, h.cell p1, h.cell p2⟩)
              refine wp_region_noPanic ?_
              refine wp_region_held_drew (S := (fun w' => Ext w2 w' ∧ w'.cell? ⟨wr.heap.size, 0, none⟩ = some (iV y1) ∧ w'.cell? ⟨wr.heap.size, 1, none⟩ = some (iV y2) ∧ w'.cell? ⟨wr.heap.size, 2, none⟩ = some (.slice Ay ys.length dy))) (by kernel_rfl) ?_ (fun hHeld => ?_)
              · first | assumption | exact KB.out _ (by repeat (first | assumption | exact Ext.refl _ | apply Ext.alloc | apply Ext.drew | apply Ext.drewN))
              refine wpAnyH_take (i := 0) (v := ?_) (oper_at rfl) (by kernel_rfl) (by kernel_rfl) (by kernel_rfl) (fun _ _ _ h => h) (Or.inl ⟨by rfl, ?_⟩) hHeld ?_
              rotate_left
              · (intro ww hSw; (try dsimp only at hSw); go_simp; try (with_reducible rfl))
              try simp only [Act.put, List.setIfInBounds_toArray, List.set_cons_zero, List.set_cons_succ]
              refine wpAnyH_take (i := 2) (v := ?_) (oper_at rfl) (by kernel_rfl) (by kernel_rfl) (by kernel_rfl) (fun _ _ _ h => h) (Or.inl ⟨by rfl, ?_⟩) hHeld ?_
              rotate_left
              · (intro ww hSw; (try dsimp only at hSw); go_simp; try (with_reducible rfl))
              try simp only [Act.put, List.setIfInBounds_toArray, List.set_cons_zero, List.set_cons_succ]
              refine wpAnyH_ready (rs := [1, 3]) (by kernel_rfl) (by simp) (AllReadyH.cons (oper_at rfl) (fun K hK => ?_) (AllReadyH.cons (oper_at rfl) (fun K hK => ?_) AllReadyH.nil))
              · go_simp
                refine hK.out _ _ ?_ (fun hHeld => ?_)
                · first | assumption | exact KB.out _ (by repeat (first | assumption | exact Ext.refl _ | apply Ext.alloc | apply Ext.drew | apply Ext.drewN))
                clear hK K
                try simp only [Act.put, List.setIfInBounds_toArray, List.set_cons_zero, List.set_cons_succ]
                refine wpAnyH_ready (rs := [3]) (by kernel_rfl) (by simp) (AllReadyH.cons (oper_at rfl) (fun K hK => ?_) AllReadyH.nil)
                go_simp
                go_at_call 50
                refine (CL.out _ (by repeat (first | assumption | exact Ext.refl _ | apply Ext.alloc | apply Ext.drew | apply Ext.drewN))).mono ?_
                rintro e w5 ⟨t, rfl, hrt, hbb⟩
                obtain ⟨At, ct, et, -, -⟩ := hrt.form
                rw [List.length_map] at et
                subst et
                have hR5 := hrt.base (Nat.le_trans hgc4 (Ext.size (by repeat (first | assumption | exact Ext.refl _ | apply Ext.alloc | apply Ext.drew | apply Ext.drewN))))
                have hE5 : Ext w4 w5 := Ext.trans (by repeat (first | assumption | exact Ext.refl _ | apply Ext.alloc | apply Ext.drew | apply Ext.drewN)) hbb
                have z3 := hE5.cell p3
                have hz5 : gc < w5.heap.size := Nat.lt_of_lt_of_le hgc5 hE5.size
                have e25 : Ext w2 w5 := e24.trans hE5
                have er5 : Ext wr w5 := HE4.out.trans hE5
                clear hrt hbb
                refine hK.out _ _ ?_ (fun hHeld => ?_)
                · first | assumption | exact KB.out _ (by repeat (first | assumption | exact Ext.refl _ | apply Ext.alloc | apply Ext.drew | apply Ext.drewN))
                clear hK K
                try simp only [Act.put, List.setIfInBounds_toArray, List.set_cons_zero, List.set_cons_succ]
                refine wpAnyH_ready (rs := [4]) (by kernel_rfl) (by simp) (AllReadyH.cons (oper_at rfl) (fun K hK => ?_) AllReadyH.nil)
                go_simp
                refine hK.out _ _ ?_ (fun hHeld => ?_)
                · first | assumption | exact KB.out _ (by repeat (first | assumption | exact Ext.refl _ | apply Ext.alloc | apply Ext.drew | apply Ext.drewN))
                clear hK K
                try simp only [Act.put, List.setIfInBounds_toArray, List.set_cons_zero, List.set_cons_succ]
                refine wpAnyH_ready (rs := [5]) (by kernel_rfl) (by simp) (AllReadyH.cons (oper_at rfl) (fun K hK => ?_) AllReadyH.nil)
                refine sapp el40 (by rfl) (.tmp 43) (.tmp 46) (by rfl) (w5 := w2) (vs := qs.map encJ) (us := [encJ ((y1, y2, ys), .slice At ys.length ct)]) (by rfl) (by repeat (first | assumption | exact Ext.refl _ | apply Ext.alloc | apply Ext.drew | apply Ext.drewN)) ((HC.out.row.base (by omega)).ext (by repeat (first | assumption | exact Ext.refl _ | apply Ext.alloc | apply Ext.drew | apply Ext.drewN))) (by rfl) rfl (Wide.one rfl) (by first | exact vs1 _ _ _ | exact (vs1 _ _ _).ext (by repeat (first | assumption | exact Ext.refl _ | apply Ext.alloc | apply Ext.drew | apply Ext.drewN))) one_encJ (by rw [List.length_map]; simp only [List.length_cons, List.length_nil]; omega) (by rw [List.length_map]; simp only [List.length_cons, List.length_nil]; omega) ?_
                intro v6 w6 hr6 hE6 hg6 hb6
                obtain ⟨m6, f6, C6⟩ := HC.out.app (j := ((y1, y2, ys), .slice At ys.length ct)) hgc (by repeat (first | assumption | exact Ext.refl _ | apply Ext.alloc | apply Ext.drew | apply Ext.drewN)) (hR5.ext (by repeat (first | assumption | exact Ext.refl _ | apply Ext.alloc | apply Ext.drew | apply Ext.drewN))) hr6 hE6 hg6 hb6
                have hb6 : ∀ o, w6.cell? ⟨wr.heap.size, o, none⟩ = w4.cell? ⟨wr.heap.size, o, none⟩ := fun o => (cell_kept (o := o) (hg6.block _ (Nat.lt_of_lt_of_le hs4 (Ext.size (a := w4) (by repeat (first | assumption | exact Ext.refl _ | apply Ext.alloc | apply Ext.drew | apply Ext.drewN)))) hn5)).trans (Ext.cells (w := w4) (by repeat (first | assumption | exact Ext.refl _ | apply Ext.alloc | apply Ext.drew | apply Ext.drewN)) _ _ hs4)
                have hb7 : ∀ o, (w6.setCell ⟨gc, 3, none⟩ v6).cell? ⟨wr.heap.size, o, none⟩ = w4.cell? ⟨wr.heap.size, o, none⟩ := fun o => (cell_kept (o := o) (Below.heap_setCell _ _ _ _ (by show wr.heap.size ≠ gc; omega))).trans (hb6 o)
                have s6 : (fun w' => Ext w2 w' ∧ w'.cell? ⟨wr.heap.size, 0, none⟩ = some (iV y1) ∧ w'.cell? ⟨wr.heap.size, 1, none⟩ = some (iV y2) ∧ w'.cell? ⟨wr.heap.size, 2, none⟩ = some (.slice Ay ys.length dy)) w6 := ⟨hE6, (hb6 0).trans p0, (hb6 1).trans p1, (hb6 2).trans p2⟩
                have s7 : (fun w' => Ext w2 w' ∧ w'.cell? ⟨wr.heap.size, 0, none⟩ = some (iV y1) ∧ w'.cell? ⟨wr.heap.size, 1, none⟩ = some (iV y2) ∧ w'.cell? ⟨wr.heap.size, 2, none⟩ = some (.slice Ay ys.length dy)) (w6.setCell ⟨gc, 3, none⟩ v6) := ⟨C6.ext, (hb7 0).trans p0, (hb7 1).trans p1, (hb7 2).trans p2⟩
                have HC6 := Lib.hid C6
                obtain ⟨A6, c6, e6, -, -⟩ := hr6.form
                rw [show (qs.map encJ ++ [encJ ((y1, y2, ys), .slice At ys.length ct)]).length = qs.length + 1 by simp] at e6
                subst e6
                clear hr6 hg6 hb6 hb7 C6
                refine hK.out _ _ ?_ (fun hHeld => ?_)
                · first | assumption | exact KB.out _ (by repeat (first | assumption | exact Ext.refl _ | apply Ext.alloc | apply Ext.drew | apply Ext.drewN))
                clear hK K
                try simp only [Act.put, List.setIfInBounds_toArray, List.set_cons_zero, List.set_cons_succ]
                refine wpAnyH_take (i := 6) (v := ?_) (oper_at rfl) (by kernel_rfl) (by kernel_rfl) (by kernel_rfl) (fun _ _ _ h => h) (Or.inl ⟨by rfl, ?_⟩) hHeld ?_
                rotate_left
                · (intro ww hSw; (try dsimp only at hSw); go_simp; try (with_reducible rfl))
                try simp only [Act.put, List.setIfInBounds_toArray, List.set_cons_zero, List.set_cons_succ]
                refine wpAnyH_ready (rs := [7]) (by kernel_rfl) (by simp) (AllReadyH.cons (oper_at rfl) (fun K hK => ?_) AllReadyH.nil)
                go_simp
                refine hK.out _ _ ?_ (fun hHeld => ?_)
                · first | assumption | exact KB.out _ (by repeat (first | assumption | exact Ext.refl _ | apply Ext.alloc | apply Ext.drew | apply Ext.drewN))
                clear hK K
                try simp only [Act.put, List.setIfInBounds_toArray, List.set_cons_zero, List.set_cons_succ]
                refine wpAnyH_done (by kernel_rfl) ?_ _
                refine NoPanic.normal ?_
                go_wp2_with fail
                exact ⟨⟨k' + 1, _, qs ++ [((y1, y2, ys), .slice At ys.length ct)], by omega, by go_num, by rw [List.map_append, HAS.out, HTJ.out]; rfl, HC6.out⟩, by simp [intOf]; omega⟩
              · go_simp
                go_at_call 50
                refine (CL.out _ (by repeat (first | assumption | exact Ext.refl _ | apply Ext.alloc | apply Ext.drew | apply Ext.drewN))).mono ?_
                rintro e w5 ⟨t, rfl, hrt, hbb⟩
                obtain ⟨At, ct, et, -, -⟩ := hrt.form
                rw [List.length_map] at et
                subst et
                have hR5 := hrt.base (Nat.le_trans hgc4 (Ext.size (by repeat (first | assumption | exact Ext.refl _ | apply Ext.alloc | apply Ext.drew | apply Ext.drewN))))
                have hE5 : Ext w4 w5 := Ext.trans (by repeat (first | assumption | exact Ext.refl _ | apply Ext.alloc | apply Ext.drew | apply Ext.drewN)) hbb
                have z3 := hE5.cell p3
                have hz5 : gc < w5.heap.size := Nat.lt_of_lt_of_le hgc5 hE5.size
                have e25 : Ext w2 w5 := e24.trans hE5
                have er5 : Ext wr w5 := HE4.out.trans hE5
                clear hrt hbb
                refine hK.out _ _ ?_ (fun hHeld => ?_)
                · first | assumption | exact KB.out _ (by repeat (first | assumption | exact Ext.refl _ | apply Ext.alloc | apply Ext.drew | apply Ext.drewN))
                clear hK K
                try simp only [Act.put, List.setIfInBounds_toArray, List.set_cons_zero, List.set_cons_succ]
                refine wpAnyH_ready (rs := [1, 4]) (by kernel_rfl) (by simp) (AllReadyH.cons (oper_at rfl) (fun K hK => ?_) (AllReadyH.cons (oper_at rfl) (fun K hK => ?_) AllReadyH.nil))
                · go_simp
                  refine hK.out _ _ ?_ (fun hHeld => ?_)
                  · first | assumption | exact KB.out _ (by repeat (first | assumption | exact Ext.refl _ | apply Ext.alloc | apply Ext.drew | apply Ext.drewN))
                  clear hK K
                  try simp only [Act.put, List.setIfInBounds_toArray, List.set_cons_zero, List.set_cons_succ]
                  refine wpAnyH_ready (rs := [4]) (by kernel_rfl) (by simp) (AllReadyH.cons (oper_at rfl) (fun K hK => ?_) AllReadyH.nil)
                  go_simp
                  refine hK.out _ _ ?_ (fun hHeld => ?_)
                  · first | assumption | exact KB.out _ (by repeat (first | assumption | exact Ext.refl _ | apply Ext.alloc | apply Ext.drew | apply Ext.drewN))
                  clear hK K
                  try simp only [Act.put, List.setIfInBounds_toArray, List.set_cons_zero, List.set_cons_succ]
                  refine wpAnyH_ready (rs := [5]) (by kernel_rfl) (by simp) (AllReadyH.cons (oper_at rfl) (fun K hK => ?_) AllReadyH.nil)
                  refine sapp el40 (by rfl) (.tmp 43) (.tmp 46) (by rfl) (w5 := w2) (vs := qs.map encJ) (us := [encJ ((y1, y2, ys), .slice At ys.length ct)]) (by rfl) (by repeat (first | assumption | exact Ext.refl _ | apply Ext.alloc | apply Ext.drew | apply Ext.drewN)) ((HC.out.row.base (by omega)).ext (by repeat (first | assumption | exact Ext.refl _ | apply Ext.alloc | apply Ext.drew | apply Ext.drewN))) (by rfl) rfl (Wide.one rfl) (by first | exact vs1 _ _ _ | exact (vs1 _ _ _).ext (by repeat (first | assumption | exact Ext.refl _ | apply Ext.alloc | apply Ext.drew | apply Ext.drewN))) one_encJ (by rw [List.length_map]; simp only [List.length_cons, List.length_nil]; omega) (by rw [List.length_map]; simp only [List.length_cons, List.length_nil]; omega) ?_
                  intro v6 w6 hr6 hE6 hg6 hb6
                  obtain ⟨m6, f6, C6⟩ := HC.out.app (j := ((y1, y2, ys), .slice At ys.length ct)) hgc (by repeat (first | assumption | exact Ext.refl _ | apply Ext.alloc | apply Ext.drew | apply Ext.drewN)) (hR5.ext (by repeat (first | assumption | exact Ext.refl _ | apply Ext.alloc | apply Ext.drew | apply Ext.drewN))) hr6 hE6 hg6 hb6
                  have hb6 : ∀ o, w6.cell? ⟨wr.heap.size, o, none⟩ = w4.cell? ⟨wr.heap.size, o, none⟩ := fun o => (cell_kept (o := o) (hg6.block _ (Nat.lt_of_lt_of_le hs4 (Ext.size (a := w4) (by repeat (first | assumption | exact Ext.refl _ | apply Ext.alloc | apply Ext.drew | apply Ext.drewN)))) hn5)).trans (Ext.cells (w := w4) (by repeat (first | assumption | exact Ext.refl _ | apply Ext.alloc | apply Ext.drew | apply Ext.drewN)) _ _ hs4)
                  have hb7 : ∀ o, (w6.setCell ⟨gc, 3, none⟩ v6).cell? ⟨wr.heap.size, o, none⟩ = w4.cell? ⟨wr.heap.size, o, none⟩ := fun o => (cell_kept (o := o) (Below.heap_setCell _ _ _ _ (by show wr.heap.size ≠ gc; omega))).trans (hb6 o)
                  have s6 : (fun w' => Ext w2 w' ∧ w'.cell? ⟨wr.heap.size, 0, none⟩ = some (iV y1) ∧ w'.cell? ⟨wr.heap.size, 1, none⟩ = some (iV y2) ∧ w'.cell? ⟨wr.heap.size, 2, none⟩ = some (.slice Ay ys.length dy)) w6 := ⟨hE6, (hb6 0).trans p0, (hb6 1).trans p1, (hb6 2).trans p2⟩
                  have s7 : (fun w' => Ext w2 w' ∧ w'.cell? ⟨wr.heap.size, 0, none⟩ = some (iV y1) ∧ w'.cell? ⟨wr.heap.size, 1, none⟩ = some (iV y2) ∧ w'.cell? ⟨wr.heap.size, 2, none⟩ = some (.slice Ay ys.length dy)) (w6.setCell ⟨gc, 3, none⟩ v6) := ⟨C6.ext, (hb7 0).trans p0, (hb7 1).trans p1, (hb7 2).trans p2⟩
                  have HC6 := Lib.hid C6
                  obtain ⟨A6, c6, e6, -, -⟩ := hr6.form
                  rw [show (qs.map encJ ++ [encJ ((y1, y2, ys), .slice At ys.length ct)]).length = qs.length + 1 by simp] at e6
                  subst e6
                  clear hr6 hg6 hb6 hb7 C6
                  refine hK.out _ _ ?_ (fun hHeld => ?_)
                  · first | assumption | exact KB.out _ (by repeat (first | assumption | exact Ext.refl _ | apply Ext.alloc | apply Ext.drew | apply Ext.drewN))
                  clear hK K
                  try simp only [Act.put, List.setIfInBounds_toArray, List.set_cons_zero, List.set_cons_succ]
                  refine wpAnyH_take (i := 6) (v := ?_) (oper_at rfl) (by kernel_rfl) (by kernel_rfl) (by kernel_rfl) (fun _ _ _ h => h) (Or.inl ⟨by rfl, ?_⟩) hHeld ?_
                  rotate_left
                  · (intro ww hSw; (try dsimp only at hSw); go_simp; try (with_reducible rfl))
                  try simp only [Act.put, List.setIfInBounds_toArray, List.set_cons_zero, List.set_cons_succ]
                  refine wpAnyH_ready (rs := [7]) (by kernel_rfl) (by simp) (AllReadyH.cons (oper_at rfl) (fun K hK => ?_) AllReadyH.nil)
                  go_simp
                  refine hK.out _ _ ?_ (fun hHeld => ?_)
                  · first | assumption | exact KB.out _ (by repeat (first | assumption | exact Ext.refl _ | apply Ext.alloc | apply Ext.drew | apply Ext.drewN))
                  clear hK K
                  try simp only [Act.put, List.setIfInBounds_toArray, List.set_cons_zero, List.set_cons_succ]
                  refine wpAnyH_done (by kernel_rfl) ?_ _
                  refine NoPanic.normal ?_
                  go_wp2_with fail
                  exact ⟨⟨k' + 1, _, qs ++ [((y1, y2, ys), .slice At ys.length ct)], by omega, by go_num, by rw [List.map_append, HAS.out, HTJ.out]; rfl, HC6.out⟩, by simp [intOf]; omega⟩
                · go_simp
                  refine hK.out _ _ ?_ (fun hHeld => ?_)
                  · first | assumption | exact KB.out _ (by repeat (first | assumption | exact Ext.refl _ | apply Ext.alloc | apply Ext.drew | apply Ext.drewN))
                  clear hK K
                  try simp only [Act.put, List.setIfInBounds_toArray, List.set_cons_zero, List.set_cons_succ]
                  refine wpAnyH_ready (rs := [1]) (by kernel_rfl) (by simp) (AllReadyH.cons (oper_at rfl) (fun K hK => ?_) AllReadyH.nil)
                  go_simp
                  refine hK.out _ _ ?_ (fun hHeld => ?_)
                  · first | assumption | exact KB.out _ (by repeat (first | assumption | exact Ext.refl _ | apply Ext.alloc | apply Ext.drew | apply Ext.drewN))
                  clear hK K
                  try simp only [Act.put, List.setIfInBounds_toArray, List.set_cons_zero, List.set_cons_succ]
                  refine wpAnyH_ready (rs := [5]) (by kernel_rfl) (by simp) (AllReadyH.cons (oper_at rfl) (fun K hK => ?_) AllReadyH.nil)
                  refine sapp el40 (by rfl) (.tmp 43) (.tmp 46) (by rfl) (w5 := w2) (vs := qs.map encJ) (us := [encJ ((y1, y2, ys), .slice At ys.length ct)]) (by rfl) (by repeat (first | assumption | exact Ext.refl _ | apply Ext.alloc | apply Ext.drew | apply Ext.drewN)) ((HC.out.row.base (by omega)).ext (by repeat (first | assumption | exact Ext.refl _ | apply Ext.alloc | apply Ext.drew | apply Ext.drewN))) (by rfl) rfl (Wide.one rfl) (by first | exact vs1 _ _ _ | exact (vs1 _ _ _).ext (by repeat (first | assumption | exact Ext.refl _ | apply Ext.alloc | apply Ext.drew | apply Ext.drewN))) one_encJ (by rw [List.length_map]; simp only [List.length_cons, List.length_nil]; omega) (by rw [List.length_map]; simp only [List.length_cons, List.length_nil]; omega) ?_
                  intro v6 w6 hr6 hE6 hg6 hb6
                  obtain ⟨m6, f6, C6⟩ := HC.out.app (j := ((y1, y2, ys), .slice At ys.length ct)) hgc (by repeat (first | assumption | exact Ext.refl _ | apply Ext.alloc | apply Ext.drew | apply Ext.drewN)) (hR5.ext (by repeat (first | assumption | exact Ext.refl _ | apply Ext.alloc | apply Ext.drew | apply Ext.drewN))) hr6 hE6 hg6 hb6
                  have hb6 : ∀ o, w6.cell? ⟨wr.heap.size, o, none⟩ = w4.cell? ⟨wr.heap.size, o, none⟩ := fun o => (cell_kept (o := o) (hg6.block _ (Nat.lt_of_lt_of_le hs4 (Ext.size (a := w4) (by repeat (first | assumption | exact Ext.refl _ | apply Ext.alloc | apply Ext.drew | apply Ext.drewN)))) hn5)).trans (Ext.cells (w := w4) (by repeat (first | assumption | exact Ext.refl _ | apply Ext.alloc | apply Ext.drew | apply Ext.drewN)) _ _ hs4)
                  have hb7 : ∀ o, (w6.setCell ⟨gc, 3, none⟩ v6).cell? ⟨wr.heap.size, o, none⟩ = w4.cell? ⟨wr.heap.size, o, none⟩ := fun o => (cell_kept (o := o) (Below.heap_setCell _ _ _ _ (by show wr.heap.size ≠ gc; omega))).trans (hb6 o)
                  have s6 : (fun w' => Ext w2 w' ∧ w'.cell? ⟨wr.heap.size, 0, none⟩ = some (iV y1) ∧ w'.cell? ⟨wr.heap.size, 1, none⟩ = some (iV y2) ∧ w'.cell? ⟨wr.heap.size, 2, none⟩ = some (.slice Ay ys.length dy)) w6 := ⟨hE6, (hb6 0).trans p0, (hb6 1).trans p1, (hb6 2).trans p2⟩
                  have s7 : (fun w' => Ext w2 w' ∧ w'.cell? ⟨wr.heap.size, 0, none⟩ = some (iV y1) ∧ w'.cell? ⟨wr.heap.size, 1, none⟩ = some (iV y2) ∧ w'.cell? ⟨wr.heap.size, 2, none⟩ = some (.slice Ay ys.length dy)) (w6.setCell ⟨gc, 3, none⟩ v6) := ⟨C6.ext, (hb7 0).trans p0, (hb7 1).trans p1, (hb7 2).trans p2⟩
                  have HC6 := Lib.hid C6
                  obtain ⟨A6, c6, e6, -, -⟩ := hr6.form
                  rw [show (qs.map encJ ++ [encJ ((y1, y2, ys), .slice At ys.length ct)]).length = qs.length + 1 by simp] at e6
                  subst e6
                  clear hr6 hg6 hb6 hb7 C6
                  refine hK.out _ _ ?_ (fun hHeld => ?_)
                  · first | assumption | exact KB.out _ (by repeat (first | assumption | exact Ext.refl _ | apply Ext.alloc | apply Ext.drew | apply Ext.drewN))
                  clear hK K
                  try simp only [Act.put, List.setIfInBounds_toArray, List.set_cons_zero, List.set_cons_succ]
                  refine wpAnyH_take (i := 6) (v := ?_) (oper_at rfl) (by kernel_rfl) (by kernel_rfl) (by kernel_rfl) (fun _ _ _ h => h) (Or.inl ⟨by rfl, ?_⟩) hHeld ?_
                  rotate_left
                  · (intro ww hSw; (try dsimp only at hSw); go_simp; try (with_reducible rfl))
                  try simp only [Act.put, List.setIfInBounds_toArray, List.set_cons_zero, List.set_cons_succ]
                  refine wpAnyH_ready (rs := [7]) (by kernel_rfl) (by simp) (AllReadyH.cons (oper_at rfl) (fun K hK => ?_) AllReadyH.nil)
                  go_simp
                  refine hK.out _ _ ?_ (fun hHeld => ?_)
                  · first | assumption | exact KB.out _ (by repeat (first | assumption | exact Ext.refl _ | apply Ext.alloc | apply Ext.drew | apply Ext.drewN))
                  clear hK K
                  try simp only [Act.put, List.setIfInBounds_toArray, List.set_cons_zero, List.set_cons_succ]
                  refine wpAnyH_done (by kernel_rfl) ?_ _
                  refine NoPanic.normal ?_
                  go_wp2_with fail
                  exact ⟨⟨k' + 1, _, qs ++ [((y1, y2, ys), .slice At ys.length ct)], by omega, by go_num, by rw [List.map_append, HAS.out, HTJ.out]; rfl, HC6.out⟩, by simp [intOf]; omega⟩
            · obtain rfl : k' = js.length := by omega
              rw [List.take_length] at HAS
              obtain ⟨Av, cv, ev, -, -⟩ := HC.out.row.form
              rw [List.length_map] at ev
              subst ev
              have q0 := HC.out.c0
              have q1 := HC.out.c1
              have q2 := HC.out.c2
              have q3 := HC.out.c3
              simp only [] at q0 q1 q2
              have hgcw : gc < wr.heap.size := HC.out.lt
              have hos8 : os.length ≤ 16 := by have h := congrArg List.length HOS.out; simp at h; omega
              have eor : Ext wo wr := HE2.out.trans HC.out.ext
              have ewr : Ext w wr := HX.out.trans eor
              have hgg : g < wo.heap.size := by omega
              have hgr2 : g < wr.heap.size := Nat.lt_of_lt_of_le hgg eor.size
              have gn : wr.cell? ⟨g, 1, none⟩ = some (.slice An os.length cn) := eor.cell (blkOf_cell (by rw [HG.out]; exact NV_1))
              have hgco : wo.heap.size ≤ gc := by have := HE2.out.size; omega
              have HQ3 : Hid (Row 3 wr (g + 1) 69 (.slice Av qs.length cv) (qs.map encJ)) := Lib.hid (HC.out.row.base (by omega))
              have HQ1 : Hid (∀ j ∈ qs, Row 1 wr (g + 1) 2 j.2 (j.1.2.2.map fun x => [iV x])) := Lib.hid (fun j hj => (HC.out.args j hj).base (by omega))
              have hn7 : some gc ≠ (Value.slice An os.length cn).ownBlock := fun e => by have := (HO.out.row.lt _ e.symm).2; omega
              go_upto_region 17 with fail
              have KB : Hid (∀ W, Ext wr W → (fun w' => Ext w w' ∧ w'.cell? ⟨gc, 0, none⟩ = some (iV m1) ∧ w'.cell? ⟨gc, 1, none⟩ = some (iV m2) ∧ w'.cell? ⟨gc, 2, none⟩ = some (iV m3) ∧ w'.cell? ⟨gc, 3, none⟩ = some (.slice Av qs.length cv)) W) := Lib.hid (fun W h => ⟨ewr.trans h, h.cell HC.out.c0, h.cell HC.out.c1, h.cell HC.out.c2, h.cell HC.out.c3⟩)
              refine wp_region_noPanic ?_
              refine wp_region_held_drew (S := (fun w' => Ext w w' ∧ w'.cell? ⟨gc, 0, none⟩ = some (iV m1) ∧ w'.cell? ⟨gc, 1, none⟩ = some (iV m2) ∧ w'.cell? ⟨gc, 2, none⟩ = some (iV m3) ∧ w'.cell? ⟨gc, 3, none⟩ = some (.slice Av qs.length cv))) (by kernel_rfl) ?_ (fun hHeld => ?_)
              · first | assumption | exact KB.out _ (by repeat (first | assumption | exact Ext.refl _ | apply Ext.alloc | apply Ext.drew | apply Ext.drewN))
              refine wpAnyH_take (i := 0) (v := ?_) (oper_at rfl) (by kernel_rfl) (by kernel_rfl) (by kernel_rfl) (fun _ _ _ h => h) (Or.inl ⟨by rfl, ?_⟩) hHeld ?_
              rotate_left
              · (intro ww hSw; (try dsimp only at hSw); go_simp; try (with_reducible rfl))
              try simp only [Act.put, List.setIfInBounds_toArray, List.set_cons_zero, List.set_cons_succ]
              refine wpAnyH_take (i := 1) (v := ?_) (oper_at rfl) (by kernel_rfl) (by kernel_rfl) (by kernel_rfl) (fun _ _ _ h => h) (Or.inl ⟨by rfl, ?_⟩) hHeld ?_
              rotate_left
              · (intro ww hSw; (try dsimp only at hSw); go_simp; try (with_reducible rfl))
              try simp only [Act.put, List.setIfInBounds_toArray, List.set_cons_zero, List.set_cons_succ]
              refine wpAnyH_take (i := 2) (v := ?_) (oper_at rfl) (by kernel_rfl) (by kernel_rfl) (by kernel_rfl) (fun _ _ _ h => h) (Or.inl ⟨by rfl, ?_⟩) hHeld ?_
              rotate_left
              · (intro ww hSw; (try dsimp only at hSw); go_simp; try (with_reducible rfl))
              try simp only [Act.put, List.setIfInBounds_toArray, List.set_cons_zero, List.set_cons_succ]
              refine wpAnyH_take (i := 3) (v := ?_) (oper_at rfl) (by kernel_rfl) (by kernel_rfl) (by kernel_rfl) (fun _ _ _ h => h) (Or.inl ⟨by rfl, ?_⟩) hHeld ?_
              rotate_left
              · (intro ww hSw; (try dsimp only at hSw); go_simp; try (with_reducible rfl))
              try simp only [Act.put, List.setIfInBounds_toArray, List.set_cons_zero, List.set_cons_succ]
              refine wpAnyH_take (i := 5) (v := ?_) (oper_at rfl) (by kernel_rfl) (by kernel_rfl) (by kernel_rfl) (fun _ _ _ h => h) (Or.inl ⟨by rfl, ?_⟩) hHeld ?_
              rotate_left
              · (intro ww hSw; (try dsimp only at hSw); go_simp; try (with_reducible rfl))
              try simp only [Act.put, List.setIfInBounds_toArray, List.set_cons_zero, List.set_cons_succ]
              refine wpAnyH_ready (rs := [4, 6]) (by kernel_rfl) (by simp) (AllReadyH.cons (oper_at rfl) (fun K hK => ?_) (AllReadyH.cons (oper_at rfl) (fun K hK => ?_) AllReadyH.nil))
              · go_simp
                refine hK.out _ _ ?_ (fun hHeld => ?_)
                · first | assumption | exact KB.out _ (by repeat (first | assumption | exact Ext.refl _ | apply Ext.alloc | apply Ext.drew | apply Ext.drewN))
                clear hK K
                try simp only [Act.put, List.setIfInBounds_toArray, List.set_cons_zero, List.set_cons_succ]
                refine wpAnyH_ready (rs := [6]) (by kernel_rfl) (by simp) (AllReadyH.cons (oper_at rfl) (fun K hK => ?_) AllReadyH.nil)
                go_simp
                refine hK.out _ _ ?_ (fun hHeld => ?_)
                · first | assumption | exact KB.out _ (by repeat (first | assumption | exact Ext.refl _ | apply Ext.alloc | apply Ext.drew | apply Ext.drewN))
                clear hK K
                try simp only [Act.put, List.setIfInBounds_toArray, List.set_cons_zero, List.set_cons_succ]
                refine wpAnyH_ready (rs := [7]) (by kernel_rfl) (by simp) (AllReadyH.cons (oper_at rfl) (fun K hK => ?_) AllReadyH.nil)
                refine sapp el23 (by rfl) (.tmp 54) (.tmp 56) (by rfl) (w5 := w) (vs := os.map encH) (us := [encH ((m1, m2, m3), qs, .slice Av qs.length cv)]) (by rfl) (by repeat (first | assumption | exact Ext.refl _ | apply Ext.alloc | apply Ext.drew | apply Ext.drewN)) ((HO.out.row.base (by omega)).ext (by repeat (first | assumption | exact Ext.refl _ | apply Ext.alloc | apply Ext.drew | apply Ext.drewN))) (by rfl) rfl (Wide.one rfl) (by first | exact vs1 _ _ _ | exact (vs1 _ _ _).ext (by repeat (first | assumption | exact Ext.refl _ | apply Ext.alloc | apply Ext.drew | apply Ext.drewN))) one_encH (by rw [List.length_map]; simp only [List.length_cons, List.length_nil]; omega) (by rw [List.length_map]; simp only [List.length_cons, List.length_nil]; omega) ?_
                intro v7 w7 hr7 hE7 hg7 hb7
                obtain ⟨hO7, hk7⟩ := HO.out.app (m := (m1, m2, m3)) (qs := qs) (av := .slice Av qs.length cv) (B0 := w.heap.size) (W := _) (by repeat (first | assumption | exact Ext.refl _ | apply Ext.alloc | apply Ext.drew | apply Ext.drewN)) hsz2 (HQ3.out.ext (by repeat (first | assumption | exact Ext.refl _ | apply Ext.alloc | apply Ext.drew | apply Ext.drewN))) (fun j hj => (HQ1.out j hj).ext (by repeat (first | assumption | exact Ext.refl _ | apply Ext.alloc | apply Ext.drew | apply Ext.drewN))) hr7 hg7 hb7
                have hq7 : ∀ o, w7.cell? ⟨gc, o, none⟩ = wr.cell? ⟨gc, o, none⟩ := fun o => (cell_kept (o := o) (hg7.block _ (Nat.lt_of_lt_of_le hgcw (Ext.size (a := wr) (by repeat (first | assumption | exact Ext.refl _ | apply Ext.alloc | apply Ext.drew | apply Ext.drewN)))) hn7)).trans (Ext.cells (w := wr) (by repeat (first | assumption | exact Ext.refl _ | apply Ext.alloc | apply Ext.drew | apply Ext.drewN)) _ _ hgcw)
                have hq8 : ∀ o, (w7.setCell ⟨g, 1, none⟩ v7).cell? ⟨gc, o, none⟩ = wr.cell? ⟨gc, o, none⟩ := fun o => (cell_kept (o := o) (Below.heap_setCell _ _ _ _ (by show gc ≠ g; omega))).trans (hq7 o)
                have s7 : (fun w' => Ext w w' ∧ w'.cell? ⟨gc, 0, none⟩ = some (iV m1) ∧ w'.cell? ⟨gc, 1, none⟩ = some (iV m2) ∧ w'.cell? ⟨gc, 2, none⟩ = some (iV m3) ∧ w'.cell? ⟨gc, 3, none⟩ = some (.slice Av qs.length cv)) w7 := ⟨hE7, (hq7 0).trans HC.out.c0, (hq7 1).trans HC.out.c1, (hq7 2).trans HC.out.c2, (hq7 3).trans HC.out.c3⟩
                have hE8 : Ext w (w7.setCell ⟨g, 1, none⟩ v7) := hE7.set (by show w.heap.size ≤ g; omega) _
                have s8 : (fun w' => Ext w w' ∧ w'.cell? ⟨gc, 0, none⟩ = some (iV m1) ∧ w'.cell? ⟨gc, 1, none⟩ = some (iV m2) ∧ w'.cell? ⟨gc, 2, none⟩ = some (iV m3) ∧ w'.cell? ⟨gc, 3, none⟩ = some (.slice Av qs.length cv)) (w7.setCell ⟨g, 1, none⟩ v7) := ⟨hE8, (hq8 0).trans HC.out.c0, (hq8 1).trans HC.out.c1, (hq8 2).trans HC.out.c2, (hq8 3).trans HC.out.c3⟩
                have hg8 : blkOf w7 g = NV (.slice A0 n0 c0) (.slice An os.length cn) (fun _ => 0) (fun _ => 0) (fun _ => 0) (.map (some r)) := (blkOf_kept (hk7 g (by omega))).trans HG.out
                have m7 : w7.cell? ⟨g, 1, none⟩ = some (.slice An os.length cn) := blkOf_cell (by rw [hg8]; exact NV_1)
                have f7 : ∀ i, w7.frozen? ⟨g, i, none⟩ = false := fun i => blkOf_frozen (by rw [hg8, NV_size]; omega)
                have HG8 : Hid (blkOf (w7.setCell ⟨g, 1, none⟩ v7) g = NV (.slice A0 n0 c0) v7 (fun _ => 0) (fun _ => 0) (fun _ => 0) (.map (some r))) := Lib.hid (by rw [blkOf_set (by rw [hg8, NV_size]; omega), hg8, NV_setH])
                have HM8 : Hid (Mk (w7.setCell ⟨g, 1, none⟩ v7) r []) := Lib.hid (HM.out.kept (by rw [Below.heap_setCell _ _ _ _ (by show r ≠ g; omega)]; exact hk7 r (by omega)))
                have HO8 : Hid (HsOwn (w7.setCell ⟨g, 1, none⟩ v7) (g + 1) v7 (os ++ [((m1, m2, m3), qs, .slice Av qs.length cv)])) := Lib.hid (hO7.kept (fun k hk _ => Below.heap_setCell _ _ _ _ (by show k ≠ g; omega)))
                have hs8 : g + 1 ≤ (w7.setCell ⟨g, 1, none⟩ v7).heap.size := by have := HM8.out.lt; have := blkOf_lt (w := w7) (g := g) (by rw [hg8, NV_size]; omega); simp; omega
                obtain ⟨A7, c7, e7, -, -⟩ := hr7.form
                rw [show (os.map encH ++ [encH ((m1, m2, m3), qs, .slice Av qs.length cv)]).length = os.length + 1 by simp] at e7
                subst e7
                have HE8 := Lib.hid hE8
                clear hr7 hg7 hb7 hO7 hk7 hq7 hq8 hg8 hE8
                refine hK.out _ _ ?_ (fun hHeld => ?_)
                · first | assumption | exact KB.out _ (by repeat (first | assumption | exact Ext.refl _ | apply Ext.alloc | apply Ext.drew | apply Ext.drewN))
                clear hK K
                try simp only [Act.put, List.setIfInBounds_toArray, List.set_cons_zero, List.set_cons_succ]
                refine wpAnyH_take (i := 8) (v := ?_) (oper_at rfl) (by kernel_rfl) (by kernel_rfl) (by kernel_rfl) (fun _ _ _ h => h) (Or.inl ⟨by rfl, ?_⟩) hHeld ?_
                rotate_left
                · (intro ww hSw; (try dsimp only at hSw); go_simp; try (with_reducible rfl))
                try simp only [Act.put, List.setIfInBounds_toArray, List.set_cons_zero, List.set_cons_succ]
                refine wpAnyH_take (i := 9) (v := ?_) (oper_at rfl) (by kernel_rfl) (by kernel_rfl) (by kernel_rfl) (fun _ _ _ h => h) (Or.inl ⟨by rfl, ?_⟩) hHeld ?_
                rotate_left
                · (intro ww hSw; (try dsimp only at hSw); go_simp; try (with_reducible rfl))
                try simp only [Act.put, List.setIfInBounds_toArray, List.set_cons_zero, List.set_cons_succ]
                refine wpAnyH_ready (rs := [10]) (by kernel_rfl) (by simp) (AllReadyH.cons (oper_at rfl) (fun K hK => ?_) AllReadyH.nil)
                go_simp
                refine hK.out _ _ ?_ (fun hHeld => ?_)
                · first | assumption | exact KB.out _ (by repeat (first | assumption | exact Ext.refl _ | apply Ext.alloc | apply Ext.drew | apply Ext.drewN))
                clear hK K
                try simp only [Act.put, List.setIfInBounds_toArray, List.set_cons_zero, List.set_cons_succ]
                refine wpAnyH_done (by kernel_rfl) ?_ _
                refine NoPanic.normal ?_
                go_wp2_with fail
                exact ⟨⟨k + 1, _, os ++ [((m1, m2, m3), qs, .slice Av qs.length cv)], by omega, by go_num, HFN.out, by rw [List.map_append, HOS.out, HTK.out]; exact congrArg _ (congrArg (fun z => [((m1, m2, m3), z)]) HAS.out), HG8.out, HM8.out, HO8.out, HE8.out, hs8⟩, by simp [intOf]; omega⟩
              · go_simp
                refine hK.out _ _ ?_ (fun hHeld => ?_)
                · first | assumption | exact KB.out _ (by repeat (first | assumption | exact Ext.refl _ | apply Ext.alloc | apply Ext.drew | apply Ext.drewN))
                clear hK K
                try simp only [Act.put, List.setIfInBounds_toArray, List.set_cons_zero, List.set_cons_succ]
                refine wpAnyH_ready (rs := [4]) (by kernel_rfl) (by simp) (AllReadyH.cons (oper_at rfl) (fun K hK => ?_) AllReadyH.nil)
                go_simp
                refine hK.out _ _ ?_ (fun hHeld => ?_)
                · first | assumption | exact KB.out _ (by repeat (first | assumption | exact Ext.refl _ | apply Ext.alloc | apply Ext.drew | apply Ext.drewN))
                clear hK K
                try simp only [Act.put, List.setIfInBounds_toArray, List.set_cons_zero, List.set_cons_succ]
                refine wpAnyH_ready (rs := [7]) (by kernel_rfl) (by simp) (AllReadyH.cons (oper_at rfl) (fun K hK => ?_) AllReadyH.nil)
                refine sapp el23 (by rfl) (.tmp 54) (.tmp 56) (by rfl) (w5 := w) (vs := os.map encH) (us := [encH ((m1, m2, m3), qs, .slice Av qs.length cv)]) (by rfl) (by repeat (first | assumption | exact Ext.refl _ | apply Ext.alloc | apply Ext.drew | apply Ext.drewN)) ((HO.out.row.base (by omega)).ext (by repeat (first | assumption | exact Ext.refl _ | apply Ext.alloc | apply Ext.drew | apply Ext.drewN))) (by rfl) rfl (Wide.one rfl) (by first | exact vs1 _ _ _ | exact (vs1 _ _ _).ext (by repeat (first | assumption | exact Ext.refl _ | apply Ext.alloc | apply Ext.drew | apply Ext.drewN))) one_encH (by rw [List.length_map]; simp only [List.length_cons, List.length_nil]; omega) (by rw [List.length_map]; simp only [List.length_cons, List.length_nil]; omega) ?_
                intro v7 w7 hr7 hE7 hg7 hb7
                obtain ⟨hO7, hk7⟩ := HO.out.app (m := (m1, m2, m3)) (qs := qs) (av := .slice Av qs.length cv) (B0 := w.heap.size) (W := _) (by repeat (first | assumption | exact Ext.refl _ | apply Ext.alloc | apply Ext.drew | apply Ext.drewN)) hsz2 (HQ3.out.ext (by repeat (first | assumption | exact Ext.refl _ | apply Ext.alloc | apply Ext.drew | apply Ext.drewN))) (fun j hj => (HQ1.out j hj).ext (by repeat (first | assumption | exact Ext.refl _ | apply Ext.alloc | apply Ext.drew | apply Ext.drewN))) hr7 hg7 hb7
                have hq7 : ∀ o, w7.cell? ⟨gc, o, none⟩ = wr.cell? ⟨gc, o, none⟩ := fun o => (cell_kept (o := o) (hg7.block _ (Nat.lt_of_lt_of_le hgcw (Ext.size (a := wr) (by repeat (first | assumption | exact Ext.refl _ | apply Ext.alloc | apply Ext.drew | apply Ext.drewN)))) hn7)).trans (Ext.cells (w := wr) (by repeat (first | assumption | exact Ext.refl _ | apply Ext.alloc | apply Ext.drew | apply Ext.drewN)) _ _ hgcw)
                have hq8 : ∀ o, (w7.setCell ⟨g, 1, none⟩ v7).cell? ⟨gc, o, none⟩ = wr.cell? ⟨gc, o, none⟩ := fun o => (cell_kept (o := o) (Below.heap_setCell _ _ _ _ (by show gc ≠ g; omega))).trans (hq7 o)
                have s7 : (fun w' => Ext w w' ∧ w'.cell? ⟨gc, 0, none⟩ = some (iV m1) ∧ w'.cell? ⟨gc, 1, none⟩ = some (iV m2) ∧ w'.cell? ⟨gc, 2, none⟩ = some (iV m3) ∧ w'.cell? ⟨gc, 3, none⟩ = some (.slice Av qs.length cv)) w7 := ⟨hE7, (hq7 0).trans HC.out.c0, (hq7 1).trans HC.out.c1, (hq7 2).trans HC.out.c2, (hq7 3).trans HC.out.c3⟩
                have hE8 : Ext w (w7.setCell ⟨g, 1, none⟩ v7) := hE7.set (by show w.heap.size ≤ g; omega) _
                have s8 : (fun w' => Ext w w' ∧ w'.cell? ⟨gc, 0, none⟩ = some (iV m1) ∧ w'.cell? ⟨gc, 1, none⟩ = some (iV m2) ∧ w'.cell? ⟨gc, 2, none⟩ = some (iV m3) ∧ w'.cell? ⟨gc, 3, none⟩ = some (.slice Av qs.length cv)) (w7.setCell ⟨g, 1, none⟩ v7) := ⟨hE8, (hq8 0).trans HC.out.c0, (hq8 1).trans HC.out.c1, (hq8 2).trans HC.out.c2, (hq8 3).trans HC.out.c3⟩
                have hg8 : blkOf w7 g = NV (.slice A0 n0 c0) (.slice An os.length cn) (fun _ => 0) (fun _ => 0) (fun _ => 0) (.map (some r)) := (blkOf_kept (hk7 g (by omega))).trans HG.out
                have m7 : w7.cell? ⟨g, 1, none⟩ = some (.slice An os.length cn) := blkOf_cell (by rw [hg8]; exact NV_1)
                have f7 : ∀ i, w7.frozen? ⟨g, i, none⟩ = false := fun i => blkOf_frozen (by rw [hg8, NV_size]; omega)
                have HG8 : Hid (blkOf (w7.setCell ⟨g, 1, none⟩ v7) g = NV (.slice A0 n0 c0) v7 (fun _ => 0) (fun _ => 0) (fun _ => 0) (.map (some r))) := Lib.hid (by rw [blkOf_set (by rw [hg8, NV_size]; omega), hg8, NV_setH])
                have HM8 : Hid (Mk (w7.setCell ⟨g, 1, none⟩ v7) r []) := Lib.hid (HM.out.kept (by rw [Below.heap_setCell _ _ _ _ (by show r ≠ g; omega)]; exact hk7 r (by omega)))
                have HO8 : Hid (HsOwn (w7.setCell ⟨g, 1, none⟩ v7) (g + 1) v7 (os ++ [((m1, m2, m3), qs, .slice Av qs.length cv)])) := Lib.hid (hO7.kept (fun k hk _ => Below.heap_setCell _ _ _ _ (by show k ≠ g; omega)))
                have hs8 : g + 1 ≤ (w7.setCell ⟨g, 1, none⟩ v7).heap.size := by have := HM8.out.lt; have := blkOf_lt (w := w7) (g := g) (by rw [hg8, NV_size]; omega); simp; omega
                obtain ⟨A7, c7, e7, -, -⟩ := hr7.form
                rw [show (os.map encH ++ [encH ((m1, m2, m3), qs, .slice Av qs.length cv)]).length = os.length + 1 by simp] at e7
                subst e7
                have HE8 := Lib.hid hE8
                clear hr7 hg7 hb7 hO7 hk7 hq7 hq8 hg8 hE8
                refine hK.out _ _ ?_ (fun hHeld => ?_)
                · first | assumption | exact KB.out _ (by repeat (first | assumption | exact Ext.refl _ | apply Ext.alloc | apply Ext.drew | apply Ext.drewN))
                clear hK K
                try simp only [Act.put, List.setIfInBounds_toArray, List.set_cons_zero, List.set_cons_succ]
                refine wpAnyH_take (i := 8) (v := ?_) (oper_at rfl) (by kernel_rfl) (by kernel_rfl) (by kernel_rfl) (fun _ _ _ h => h) (Or.inl ⟨by rfl, ?_⟩) hHeld ?_
                rotate_left
                · (intro ww hSw; (try dsimp only at hSw); go_simp; try (with_reducible rfl))
                try simp only [Act.put, List.setIfInBounds_toArray, List.set_cons_zero, List.set_cons_succ]
                refine wpAnyH_take (i := 9) (v := ?_) (oper_at rfl) (by kernel_rfl) (by kernel_rfl) (by kernel_rfl) (fun _ _ _ h => h) (Or.inl ⟨by rfl, ?_⟩) hHeld ?_
                rotate_left
                · (intro ww hSw; (try dsimp only at hSw); go_simp; try (with_reducible rfl))
                try simp only [Act.put, List.setIfInBounds_toArray, List.set_cons_zero, List.set_cons_succ]
                refine wpAnyH_ready (rs := [10]) (by kernel_rfl) (by simp) (AllReadyH.cons (oper_at rfl) (fun K hK => ?_) AllReadyH.nil)
                go_simp
                refine hK.out _ _ ?_ (fun hHeld => ?_)
                · first | assumption | exact KB.out _ (by repeat (first | assumption | exact Ext.refl _ | apply Ext.alloc | apply Ext.drew | apply Ext.drewN))
                clear hK K
                try simp only [Act.put, List.setIfInBounds_toArray, List.set_cons_zero, List.set_cons_succ]
                refine wpAnyH_done (by kernel_rfl) ?_ _
                refine NoPanic.normal ?_
                go_wp2_with fail
                exact ⟨⟨k + 1, _, os ++ [((m1, m2, m3), qs, .slice Av qs.length cv)], by omega, by go_num, HFN.out, by rw [List.map_append, HOS.out, HTK.out]; exact congrArg _ (congrArg (fun z => [((m1, m2, m3), z)]) HAS.out), HG8.out, HM8.out, HO8.out, HE8.out, hs8⟩, by simp [intOf]; omega⟩
    · obtain rfl : k = hs.length := by omega
      have HF' : Hid (er = 0) := by rw [HF.out, List.drop_eq_nil_of_le (Nat.le_refl _)]; exact rfl
      have HOS' : Hid (os.map plH = hs.map plH) := by rw [HOS.out, List.take_length]; exact Lib.hid rfl
      go_wp2_with fail
      go_ret2
      exact .inl ⟨g, r, nv, os, rfl, HF'.out, by omega, by omega, by omega, HG.out, HM.out, HO.out, HOS'.out, HX.out⟩
end Go.Proofs.YtehmpbaiefbemaaGreat
