/- The holds that the laws make. -/
import Derived.Test.YtehmpbaiefbemaaGreatNX
namespace Go.Proofs.YtehmpbaiefbemaaGreat
open Go.RowKit
attribute [local go_sem ↓] Go.wp_at_zero Go.wp_at_succ
/-- Arrivals that are being made, the last one at this tick. -/
structure OkQ (qs : List Ja) (m : Int) : Prop where
  len : qs.length ≤ 2
  hi : m ≤ 1 + 5 * qs.length
  lo : 1 ≤ m
  each : ∀ j ∈ qs, 1 ≤ j.1.1 ∧ j.1.1 ≤ m ∧ 0 ≤ j.1.2.1 ∧ j.1.2.1 ≤ 7 ∧ j.1.2.2.length ≤ 4
  asc : ∀ i k, i < k → k < qs.length → (qs.getD i Ja0).1.1 ≤ (qs.getD k Ja0).1.1
theorem OkQ.nil : OkQ [] 1 := ⟨by simp, by simp, by omega, by simp, fun i k _ h => by simp at h⟩
theorem getD_app_lt {a b : List Ja} {i : Nat} (h : i < a.length) : (a ++ b).getD i Ja0 = a.getD i Ja0 := by
  rw [List.getD_eq_getElem?_getD, List.getD_eq_getElem?_getD, List.getElem?_append_left h]
theorem OkQ.app {qs : List Ja} {m d : Int} (h : OkQ qs m) (hl : qs.length < 2) (h0 : 0 ≤ d) (h5 : d ≤ 5) {x : Int} {ys : List Int} {v : Value} (hx : 0 ≤ x ∧ x ≤ 7) (hy : ys.length ≤ 4) : OkQ (qs ++ [((m + d, x, ys), v)]) (m + d) := by
  have hi := h.hi
  have lo := h.lo
  refine ⟨by simp; omega, by simp; omega, by omega, fun j hj => ?_, fun i k hik hk => ?_⟩
  · rcases List.mem_append.1 hj with hj | hj
    · have := h.each j hj
      omega
    · rw [List.mem_singleton.1 hj]
      simp only []
      omega
  · rw [List.length_append, List.length_singleton] at hk
    rw [getD_app_lt (by omega)]
    rcases Nat.lt_or_ge k qs.length with hk' | hk'
    · rw [getD_app_lt hk']
      exact h.asc i k hik hk'
    · obtain rfl : k = qs.length := by omega
      have e : (qs ++ [((m + d, x, ys), v)]).getD qs.length Ja0 = ((m + d, x, ys), v) := by simp [List.getD_eq_getElem?_getD]
      rw [e]
      have := h.each _ (getD_memJ (show i < qs.length by omega))
      simp only []
      omega
theorem OkQ.hold {qs : List Ja} {m : Int} (h : OkQ qs m) {f t n : Int} {v : Value} (hf : 0 ≤ f ∧ f ≤ 2) (ht : 0 ≤ t ∧ t ≤ 2) (hn : 0 ≤ n ∧ n ≤ 3) : OkH ((f, t, n), qs, v) := by
  refine ⟨hf, ht, hn, h.len, fun j hj => ?_, h.asc⟩
  have h1 := h.each j hj
  have h2 := h.hi
  have h3 := h.len
  omega
/-- The arrivals that holds makes, plainly. -/
def arrS (js : List Ja) : Nat → Int × List (Int × Int × List Int)
  | 0 => (1, [])
  | k + 1 => ((arrS js k).1 + modF (js.getD k Ja0).1.1 6, (arrS js k).2 ++ [((arrS js k).1 + modF (js.getD k Ja0).1.1 6, modF (js.getD k Ja0).1.2.1 8, (js.getD k Ja0).1.2.2.take (min (js.getD k Ja0).1.2.2.length 4))])
theorem arrS_step {js qs : List Ja} {k mm : Nat} {m z1 z2 d6 d8 : Int} {ys : List Int} {yv v : Value} (h : (m, qs.map (·.1)) = arrS js k) (hy : js.getD k Ja0 = ((z1, z2, ys), yv)) (h6 : modF z1 6 = d6) (h8 : modF z2 8 = d8) (hm : min ys.length 4 = mm) :
    (m + d6, (qs ++ [((m + d6, d8, ys.take mm), v)]).map (·.1)) = arrS js (k + 1) := by
  subst h6 h8 hm
  rw [arrS, ← h, hy, List.map_append]
  rfl
/-- The holds that holds makes, plainly. -/
def newP (x : Jh) : Ph := ((modF x.1.1 3, modF x.1.2.1 3, modF x.1.2.2 4), (arrS x.2.1 (min x.2.1.length 2)).2)
def hsF (rs : List Jh) : Nat → List Ph
  | 0 => []
  | k + 1 => if k < rs.length ∧ (hsF rs k).length < 4 ∧ k < 20 then (if (newP (rs.getD k Jh0)).1 ∈ (hsF rs k).map (·.1) then hsF rs k else hsF rs k ++ [newP (rs.getD k Jh0)]) else hsF rs k
theorem hsF_end {rs : List Jh} {k : Nat} (h : ¬ (k < rs.length ∧ (hsF rs k).length < 4 ∧ k < 20)) : ∀ i, hsF rs (k + i) = hsF rs k
  | 0 => rfl
  | i + 1 => by
    have ih := hsF_end h i
    rw [← Nat.add_assoc, hsF, ih, if_neg (by omega)]
theorem plH_len {os : List Jh} {l : List Ph} (h : os.map plH = l) : l.length = os.length := by rw [← h, List.length_map]
theorem hsF_stop {rs os : List Jh} {k : Nat} (hp : os.map plH = hsF rs k) (hk : k ≤ 20) (h : ¬ (k < rs.length ∧ os.length < 4 ∧ k < 20)) : os.map plH = hsF rs 20 := by
  have e := hsF_end (rs := rs) (k := k) (by rw [plH_len hp]; exact h) (20 - k)
  rw [show k + (20 - k) = 20 by omega] at e
  rw [e, hp]
theorem plH_msgs (os : List Jh) : (os.map plH).map (·.1) = os.map (·.1) := by rw [List.map_map]; rfl
theorem Dis.last {os : List Jh} {h : Jh} (d : Dis (os ++ [h])) : h.1 ∉ os.map (·.1) := fun hm => by
  obtain ⟨x, hx, e⟩ := List.mem_map.1 hm
  obtain ⟨i, hi, e2⟩ := List.getElem_of_mem hx
  have h1 := d i os.length hi (by simp)
  rw [List.getD_eq_getElem?_getD, List.getElem?_append_left hi, List.getElem?_eq_getElem hi, List.getD_eq_getElem?_getD, List.getElem?_append_right (Nat.le_refl _)] at h1
  simp [e2, e] at h1
theorem Dis.more {os : List Jh} {h : Jh} (d : Dis os) (hn : h.1 ∉ os.map (·.1)) : Dis (os ++ [h]) := fun i k hik hk => by
  rw [List.length_append, List.length_singleton] at hk
  have hi : i < os.length := by omega
  rw [List.getD_eq_getElem?_getD, List.getElem?_append_left hi]
  rcases Nat.lt_or_ge k os.length with hk' | hk'
  · rw [List.getD_eq_getElem?_getD, List.getElem?_append_left hk', ← List.getD_eq_getElem?_getD, ← List.getD_eq_getElem?_getD]
    exact d i k hik hk'
  · obtain rfl : k = os.length := by omega
    rw [List.getD_eq_getElem?_getD, List.getElem?_append_right (Nat.le_refl _), List.getElem?_eq_getElem hi]
    simp only [Nat.sub_self, List.getElem?_cons_zero, Option.getD_some]
    exact fun e => hn (by rw [← e]; exact List.mem_map.2 ⟨_, List.getElem_mem hi, rfl⟩)
theorem newP_of {rs : List Jh} {k : Nat} {y1 y2 y3 m1 m2 m3 m : Int} {js qs : List Ja} {jv v : Value} {k' : Nat} (hx : rs.getD k Jh0 = ((y1, y2, y3), js, jv)) (h1 : modF y1 3 = m1) (h2 : modF y2 3 = m2) (h3 : modF y3 4 = m3)
    (hq : (m, qs.map (·.1)) = arrS js k') (hk' : k' = min js.length 2) : plH ((m1, m2, m3), qs, v) = newP (rs.getD k Jh0) := by
  subst h1 h2 h3 hk'
  rw [hx]
  unfold newP plH
  simp only []
  rw [← hq]
theorem hsF_add {rs os : List Jh} {k : Nat} {h : Jh} (hp : os.map plH = hsF rs k) (hc : k < rs.length ∧ os.length < 4 ∧ k < 20) (hn : plH h = newP (rs.getD k Jh0)) (hd : Dis (os ++ [h])) : (os ++ [h]).map plH = hsF rs (k + 1) := by
  have e1 : (newP (rs.getD k Jh0)).1 = h.1 := by rw [← hn]; rfl
  have hm : (newP (rs.getD k Jh0)).1 ∉ (hsF rs k).map (·.1) := by rw [e1, ← hp, plH_msgs]; exact hd.last
  rw [hsF, if_pos (by rw [plH_len hp]; exact hc), if_neg hm, List.map_append, hp, ← hn]
  rfl
theorem hsF_skip {rs os : List Jh} {k : Nat} {h : Jh} (hp : os.map plH = hsF rs k) (hc : k < rs.length ∧ os.length < 4 ∧ k < 20) (hn : plH h = newP (rs.getD k Jh0)) (hd : Dis os) (hd' : ¬ Dis (os ++ [h])) : os.map plH = hsF rs (k + 1) := by
  have e1 : (newP (rs.getD k Jh0)).1 = h.1 := by rw [← hn]; rfl
  have hm : (newP (rs.getD k Jh0)).1 ∈ (hsF rs k).map (·.1) := by
    rw [e1, ← hp, plH_msgs]
    by_cases h0 : h.1 ∈ os.map (·.1)
    · exact h0
    · exact absurd (hd.more h0) hd'
  rw [hsF, if_pos (by rw [plH_len hp]; exact hc), if_pos hm, hp]
def RetHs (n : Nat) (w : World) (e : Ending) (w' : World) : Prop := ∃ t hs, e = .returned t ∧ HsOwn w' w.heap.size t hs ∧ (∀ h ∈ hs, OkH h) ∧ Dis hs ∧ hs.length ≤ min 4 n ∧ Ext w w'
/-- As RetHs, and plainly which holds they are. -/
def RetHd (rs : List Jh) (w : World) (e : Ending) (w' : World) : Prop := ∃ t hs, e = .returned t ∧ HsOwn w' w.heap.size t hs ∧ (∀ h ∈ hs, OkH h) ∧ Dis hs ∧ hs.length ≤ min 4 rs.length ∧ hs.map plH = hsF rs 20 ∧ Ext w w'
theorem ones_encH {hs : List Jh} (h : ∀ x ∈ hs, x.2.2.oneCell' = true) : ∀ u ∈ (hs.map encH).flatten, u.oneCell' = true := by
  intro u hu
  obtain ⟨l, hl, hul⟩ := List.mem_flatten.1 hu
  obtain ⟨x, hx, rfl⟩ := List.mem_map.1 hl
  simp [encH] at hul
  rcases hul with rfl | rfl | rfl | rfl
  · rfl
  · rfl
  · rfl
  · exact h x hx
theorem take_args {w : World} {A : Option Addr} {ys : List Int} {k : Nat} (h : VsAt w A (ys.map fun x => [iV x]).flatten) : VsAt w A ((ys.take k).map fun x => [iV x]).flatten := by
  rw [List.map_take]
  exact take_at h (Wide.map (f := fun x : Int => [iV x]) (fun _ => rfl) _) k
theorem vs_kept {w w' : World} {b : Nat} {vs : List Value} (h : VsAt w (some ⟨b, 0, none⟩) vs) (hk : w'.heap[b]? = w.heap[b]?) (hb : b < w'.heap.size) : VsAt w' (some ⟨b, 0, none⟩) vs := fun h0 => by
  obtain ⟨b', o, e, _, hc⟩ := h h0
  cases e
  exact ⟨b, 0, rfl, hb, fun j u hj => (cell_kept hk).trans (hc j u hj)⟩
theorem SlAt.one {s : Nat} {w : World} {v : Value} {es : List (List Value)} (h : SlAt s w v es) : v.oneCell' = true := by
  obtain ⟨A, c, rfl, _⟩ := h.at_
  rfl
set_option maxRecDepth 100000 in
set_option maxHeartbeats 8000000 in
theorem holds28_det (rs : List Jh) (v : Value) (w : World) (hv : HsAt w v rs) : Calls Tryz.prog 15 #[v] w (RetHd rs w) := by
  obtain ⟨sl, ar⟩ := hv
  obtain ⟨A, c, rfl, a1, a2, RA⟩ := sl.read
  rw [List.length_map] at a1 RA ⊢
  have HR := Lib.hid RA
  have HA := Lib.hid ar
  have hl : rs.length ≤ 9223372036854775807 := by unfold maxLen at a2; omega
  clear RA ar sl a1 a2
  go_enter Tryz.func15, Tryz.ntmps15
  go_wp2_with fail
  go_loopw [3, 4] (fun t i wr => ∃ (k : Nat) (os : List Jh), k ≤ rs.length ∧ k ≤ 20 ∧ i = iV (k : Int) ∧ HsOwn wr w.heap.size t os ∧ (∀ h ∈ os, OkH h) ∧ Dis os ∧ os.length ≤ min 4 k ∧ os.map plH = hsF rs k ∧ Ext w wr) (fun _ i _ => 20 - (intOf i).toNat)
  case atStart => exact ⟨0, [], by omega, by omega, rfl, HsOwn.nil _ _, by simp, fun i k _ h => by simp at h, by simp, rfl, Ext.refl _⟩
  case round =>
    obtain ⟨k, os, hk, hk20, rfl, hO, hok, hd, h4, hP, hX⟩ := hrel
    obtain ⟨wo, rfl⟩ : ∃ wo, wo = wr := ⟨_, rfl⟩
    obtain ⟨An, cn, en, anl, anz⟩ := hO.row.form
    rw [List.length_map] at en anl anz
    subst en
    have HO := Lib.hid hO
    have HOK := Lib.hid hok
    have HD := Lib.hid hd
    have HX := Lib.hid hX
    have HPL := Lib.hid hP
    clear hO hok hd hX hP
    by_cases hlt : k < rs.length ∧ os.length < 4 ∧ k < 20
    · obtain ⟨hkl, ho4, hkt⟩ := hlt
      obtain ⟨b, o, rfl, hb, cR⟩ := HR.out wo HX.out k hkl (by omega)
      obtain ⟨x, hx⟩ : ∃ x, rs.getD k Jh0 = x := ⟨_, rfl⟩
      rw [encH_at hkl x hx] at cR
      have gx := HA.out _ (getD_memH hkl)
      rw [hx] at gx
      obtain ⟨Ax, dx, ex, ax1, ax2, RJ⟩ := gx.sl.read
      rw [List.length_map] at ex ax1 RJ
      have HRJ := Lib.hid RJ
      have HAJ := Lib.hid gx.args
      clear RJ gx
      obtain ⟨⟨y1, y2, y3⟩, js, jv⟩ := x
      simp only [] at ex ax1 HRJ HAJ
      subst ex
      have hjl : js.length ≤ 9223372036854775807 := by unfold maxLen at ax2; omega
      have r0 := cR 0 _ (by omega) rfl
      have r1 := cR 1 _ (by omega) rfl
      have r2 := cR 2 _ (by omega) rfl
      have r3 := cR 3 _ (by omega) rfl
      rw [Nat.add_zero] at r0
      have HRX := Lib.hid hx
      clear cR hx
      have M1 := Lib.hid (fun W => mod_any y1 3 W (by omega) (by omega))
      have M2 := Lib.hid (fun W => mod_any y2 3 W (by omega) (by omega))
      have M3 := Lib.hid (fun W => mod_any y3 4 W (by omega) (by omega))
      have n1 := modF_range (a := y1) (n := 3) (by omega)
      have n2 := modF_range (a := y2) (n := 3) (by omega)
      have n3 := modF_range (a := y3) (n := 4) (by omega)
      generalize hem1 : modF y1 3 = m1 at *
      have Em1 := Lib.hid hem1
      clear hem1
      generalize hem2 : modF y2 3 = m2 at *
      have Em2 := Lib.hid hem2
      clear hem2
      generalize hem3 : modF y3 4 = m3 at *
      have Em3 := Lib.hid hem3
      clear hem3
      have hk4 : ((os.length : Nat) : Int) < 4 := by omega
      have hkt' : (k : Int) < 20 := by omega
      go_upto_region 5 with fail
      go_cut [5] (fun s5 wx => s5 = .pointer (some ⟨wo.heap.size, 0, none⟩) ∧ wx = (wo.alloc (.cells #[iV m1, iV m2, iV m3, .slice none 0 0] 81)).drew)
      case first =>
        refine wp_region_noPanic ?_
        refine wp_region_held_drew (S := (fun w' => Ext wo w' ∧ ∀ b o, b < wo.heap.size → w'.cell? ⟨b, o, none⟩ = wo.cell? ⟨b, o, none⟩)) (by kernel_rfl) ?_ (fun hHeld => ?_)
        · exact Ext.held (by repeat (first | assumption | exact Ext.refl _ | apply Ext.alloc | apply Ext.drew | apply Ext.drewN))
        refine wpAnyH_take (i := 0) (v := ?_) (oper_at rfl) (by kernel_rfl) (by kernel_rfl) (by kernel_rfl) (fun _ _ _ h => h) (Or.inl ⟨by rfl, ?_⟩) hHeld ?_
        rotate_left
        · (intro ww hSw; (try dsimp only at hSw); go_simp; try (with_reducible rfl))
        try simp only [Act.put, List.setIfInBounds_toArray, List.set_cons_zero, List.set_cons_succ]
        refine wpAnyH_take (i := 1) (v := ?_) (oper_at rfl) (by kernel_rfl) (by kernel_rfl) (by kernel_rfl) (fun _ _ _ h => h) (Or.inl ⟨by rfl, ?_⟩) hHeld ?_
        rotate_left
        · (intro ww hSw; (try dsimp only at hSw); go_simp; try (with_reducible rfl))
        try simp only [Act.put, List.setIfInBounds_toArray, List.set_cons_zero, List.set_cons_succ]
        refine wpAnyH_take (i := 2) (v := ?_) (oper_at rfl) (by kernel_rfl) (by kernel_rfl) (by kernel_rfl) (fun _ _ _ h => h) (Or.inl ⟨by rfl, ?_⟩) hHeld ?_
        rotate_left
        · (intro ww hSw; (try dsimp only at hSw); go_simp; try (with_reducible rfl))
        try simp only [Act.put, List.setIfInBounds_toArray, List.set_cons_zero, List.set_cons_succ]
        refine wpAnyH_take (i := 3) (v := ?_) (oper_at rfl) (by kernel_rfl) (by kernel_rfl) (by kernel_rfl) (fun _ _ _ h => h) (Or.inl ⟨by rfl, ?_⟩) hHeld ?_
        rotate_left
        · (intro ww hSw; (try dsimp only at hSw); go_simp; try (with_reducible rfl))
        try simp only [Act.put, List.setIfInBounds_toArray, List.set_cons_zero, List.set_cons_succ]
        refine wpAnyH_take (i := 4) (v := ?_) (oper_at rfl) (by kernel_rfl) (by kernel_rfl) (by kernel_rfl) (fun _ _ _ h => h) (Or.inl ⟨by rfl, ?_⟩) hHeld ?_
        rotate_left
        · (intro ww hSw; (try dsimp only at hSw); go_simp; try (with_reducible rfl))
        try simp only [Act.put, List.setIfInBounds_toArray, List.set_cons_zero, List.set_cons_succ]
        refine wpAnyH_take (i := 5) (v := ?_) (oper_at rfl) (by kernel_rfl) (by kernel_rfl) (by kernel_rfl) (fun _ _ _ h => h) (Or.inl ⟨by rfl, ?_⟩) hHeld ?_
        rotate_left
        · (intro ww hSw; (try dsimp only at hSw); go_simp; try (with_reducible rfl))
        try simp only [Act.put, List.setIfInBounds_toArray, List.set_cons_zero, List.set_cons_succ]
        refine wpAnyH_take (i := 7) (v := ?_) (oper_at rfl) (by kernel_rfl) (by kernel_rfl) (by kernel_rfl) (fun _ _ _ h => h) (Or.inl ⟨by rfl, ?_⟩) hHeld ?_
        rotate_left
        · (intro ww hSw; (try dsimp only at hSw); go_simp; try (with_reducible rfl))
        try simp only [Act.put, List.setIfInBounds_toArray, List.set_cons_zero, List.set_cons_succ]
        refine wpAnyH_take (i := 8) (v := ?_) (oper_at rfl) (by kernel_rfl) (by kernel_rfl) (by kernel_rfl) (fun _ _ _ h => h) (Or.inl ⟨by rfl, ?_⟩) hHeld ?_
        rotate_left
        · (intro ww hSw; (try dsimp only at hSw); go_simp; try (with_reducible rfl))
        try simp only [Act.put, List.setIfInBounds_toArray, List.set_cons_zero, List.set_cons_succ]
        refine wpAnyH_take (i := 9) (v := ?_) (oper_at rfl) (by kernel_rfl) (by kernel_rfl) (by kernel_rfl) (fun _ _ _ h => h) (Or.inl ⟨by rfl, ?_⟩) hHeld ?_
        rotate_left
        · (intro ww hSw; (try dsimp only at hSw); go_simp; try (with_reducible rfl))
        try simp only [Act.put, List.setIfInBounds_toArray, List.set_cons_zero, List.set_cons_succ]
        refine wpAnyH_take (i := 10) (v := ?_) (oper_at rfl) (by kernel_rfl) (by kernel_rfl) (by kernel_rfl) (fun _ _ _ h => h) (Or.inl ⟨by rfl, ?_⟩) hHeld ?_
        rotate_left
        · (intro ww hSw; (try dsimp only at hSw); go_simp; try (with_reducible rfl))
        try simp only [Act.put, List.setIfInBounds_toArray, List.set_cons_zero, List.set_cons_succ]
        refine wpAnyH_take (i := 11) (v := ?_) (oper_at rfl) (by kernel_rfl) (by kernel_rfl) (by kernel_rfl) (fun _ _ _ h => h) (Or.inl ⟨by rfl, ?_⟩) hHeld ?_
        rotate_left
        · (intro ww hSw; (try dsimp only at hSw); go_simp; try (with_reducible rfl))
        try simp only [Act.put, List.setIfInBounds_toArray, List.set_cons_zero, List.set_cons_succ]
        refine wpAnyH_take (i := 12) (v := ?_) (oper_at rfl) (by kernel_rfl) (by kernel_rfl) (by kernel_rfl) (fun _ _ _ h => h) (Or.inl ⟨by rfl, ?_⟩) hHeld ?_
        rotate_left
        · (intro ww hSw; (try dsimp only at hSw); go_simp; try (with_reducible rfl))
        try simp only [Act.put, List.setIfInBounds_toArray, List.set_cons_zero, List.set_cons_succ]
        refine wpAnyH_take (i := 14) (v := ?_) (oper_at rfl) (by kernel_rfl) (by kernel_rfl) (by kernel_rfl) (fun _ _ _ h => h) (Or.inl ⟨by rfl, ?_⟩) hHeld ?_
        rotate_left
        · (intro ww hSw; (try dsimp only at hSw); go_simp; try (with_reducible rfl))
        try simp only [Act.put, List.setIfInBounds_toArray, List.set_cons_zero, List.set_cons_succ]
        refine wpAnyH_take (i := 15) (v := ?_) (oper_at rfl) (by kernel_rfl) (by kernel_rfl) (by kernel_rfl) (fun _ _ _ h => h) (Or.inl ⟨by rfl, ?_⟩) hHeld ?_
        rotate_left
        · (intro ww hSw; (try dsimp only at hSw); go_simp; try (with_reducible rfl))
        try simp only [Act.put, List.setIfInBounds_toArray, List.set_cons_zero, List.set_cons_succ]
        refine wpAnyH_take (i := 16) (v := ?_) (oper_at rfl) (by kernel_rfl) (by kernel_rfl) (by kernel_rfl) (fun _ _ _ h => h) (Or.inl ⟨by rfl, ?_⟩) hHeld ?_
        rotate_left
        · (intro ww hSw; (try dsimp only at hSw); go_simp; try (with_reducible rfl))
        try simp only [Act.put, List.setIfInBounds_toArray, List.set_cons_zero, List.set_cons_succ]
        refine wpAnyH_take (i := 17) (v := ?_) (oper_at rfl) (by kernel_rfl) (by kernel_rfl) (by kernel_rfl) (fun _ _ _ h => h) (Or.inl ⟨by rfl, ?_⟩) hHeld ?_
        rotate_left
        · (intro ww hSw; (try dsimp only at hSw); go_simp; try (with_reducible rfl))
        try simp only [Act.put, List.setIfInBounds_toArray, List.set_cons_zero, List.set_cons_succ]
        refine wpAnyH_take (i := 18) (v := ?_) (oper_at rfl) (by kernel_rfl) (by kernel_rfl) (by kernel_rfl) (fun _ _ _ h => h) (Or.inl ⟨by rfl, ?_⟩) hHeld ?_
        rotate_left
        · (intro ww hSw; (try dsimp only at hSw); go_simp; try (with_reducible rfl))
        try simp only [Act.put, List.setIfInBounds_toArray, List.set_cons_zero, List.set_cons_succ]
        refine wpAnyH_take (i := 19) (v := ?_) (oper_at rfl) (by kernel_rfl) (by kernel_rfl) (by kernel_rfl) (fun _ _ _ h => h) (Or.inl ⟨by rfl, ?_⟩) hHeld ?_
        rotate_left
        · (intro ww hSw; (try dsimp only at hSw); go_simp; try (with_reducible rfl))
        try simp only [Act.put, List.setIfInBounds_toArray, List.set_cons_zero, List.set_cons_succ]
        refine wpAnyH_ready (rs := [6, 23]) (by kernel_rfl) (by simp) (AllReadyH.cons (oper_at rfl) (fun K hK => ?_) (AllReadyH.cons (oper_at rfl) (fun K hK => ?_) AllReadyH.nil))
        · go_simp
          go_at_call 40
          refine (M1.out _).mono ?_
          rintro e1 w2 ⟨rfl, rfl⟩
          try go_wp2_with fail
          refine hK.out _ _ ?_ (fun hHeld => ?_)
          · exact Ext.held (by repeat (first | assumption | exact Ext.refl _ | apply Ext.alloc | apply Ext.drew | apply Ext.drewN))
          clear hK K
          try simp only [Act.put, List.setIfInBounds_toArray, List.set_cons_zero, List.set_cons_succ]
          refine wpAnyH_ready (rs := [13, 23]) (by kernel_rfl) (by simp) (AllReadyH.cons (oper_at rfl) (fun K hK => ?_) (AllReadyH.cons (oper_at rfl) (fun K hK => ?_) AllReadyH.nil))
          · go_simp
            go_at_call 40
            refine (M2.out _).mono ?_
            rintro e1 w2 ⟨rfl, rfl⟩
            try go_wp2_with fail
            refine hK.out _ _ ?_ (fun hHeld => ?_)
            · exact Ext.held (by repeat (first | assumption | exact Ext.refl _ | apply Ext.alloc | apply Ext.drew | apply Ext.drewN))
            clear hK K
            try simp only [Act.put, List.setIfInBounds_toArray, List.set_cons_zero, List.set_cons_succ]
            refine wpAnyH_ready (rs := [20, 23]) (by kernel_rfl) (by simp) (AllReadyH.cons (oper_at rfl) (fun K hK => ?_) (AllReadyH.cons (oper_at rfl) (fun K hK => ?_) AllReadyH.nil))
            · go_simp
              go_at_call 40
              refine (M3.out _).mono ?_
              rintro e1 w2 ⟨rfl, rfl⟩
              try go_wp2_with fail
              refine hK.out _ _ ?_ (fun hHeld => ?_)
              · exact Ext.held (by repeat (first | assumption | exact Ext.refl _ | apply Ext.alloc | apply Ext.drew | apply Ext.drewN))
              clear hK K
              try simp only [Act.put, List.setIfInBounds_toArray, List.set_cons_zero, List.set_cons_succ]
              refine wpAnyH_take (i := 21) (v := ?_) (oper_at rfl) (by kernel_rfl) (by kernel_rfl) (by kernel_rfl) (fun _ _ _ h => h) (Or.inl ⟨by rfl, ?_⟩) hHeld ?_
              rotate_left
              · (intro ww hSw; (try dsimp only at hSw); go_simp; try (with_reducible rfl))
              try simp only [Act.put, List.setIfInBounds_toArray, List.set_cons_zero, List.set_cons_succ]
              refine wpAnyH_take (i := 22) (v := ?_) (oper_at rfl) (by kernel_rfl) (by kernel_rfl) (by kernel_rfl) (fun _ _ _ h => h) (Or.inl ⟨by rfl, ?_⟩) hHeld ?_
              rotate_left
              · (intro ww hSw; (try dsimp only at hSw); go_simp; try (with_reducible rfl))
              try simp only [Act.put, List.setIfInBounds_toArray, List.set_cons_zero, List.set_cons_succ]
              refine wpAnyH_ready (rs := [23]) (by kernel_rfl) (by simp) (AllReadyH.cons (oper_at rfl) (fun K hK => ?_) AllReadyH.nil)
              go_simp
              refine hK.out _ _ ?_ (fun hHeld => ?_)
              · exact Ext.held (by repeat (first | assumption | exact Ext.refl _ | apply Ext.alloc | apply Ext.drew | apply Ext.drewN))
              clear hK K
              try simp only [Act.put, List.setIfInBounds_toArray, List.set_cons_zero, List.set_cons_succ]
              refine wpAnyH_ready (rs := [24]) (by kernel_rfl) (by simp) (AllReadyH.cons (oper_at rfl) (fun K hK => ?_) AllReadyH.nil)
              go_simp
              refine hK.out _ _ ?_ (fun hHeld => ?_)
              · exact Ext.held (by repeat (first | assumption | exact Ext.refl _ | apply Ext.alloc | apply Ext.drew | apply Ext.drewN))
              clear hK K
              try simp only [Act.put, List.setIfInBounds_toArray, List.set_cons_zero, List.set_cons_succ]
              refine wpAnyH_done (by kernel_rfl) ?_ _
              refine NoPanic.normal ?_
              go_wp2_with fail
              go_meet
              exact ⟨rfl, rfl⟩
            · go_simp
              refine hK.out _ _ ?_ (fun hHeld => ?_)
              · exact Ext.held (by repeat (first | assumption | exact Ext.refl _ | apply Ext.alloc | apply Ext.drew | apply Ext.drewN))
              clear hK K
              try simp only [Act.put, List.setIfInBounds_toArray, List.set_cons_zero, List.set_cons_succ]
              refine wpAnyH_ready (rs := [20]) (by kernel_rfl) (by simp) (AllReadyH.cons (oper_at rfl) (fun K hK => ?_) AllReadyH.nil)
              go_simp
              go_at_call 40
              refine (M3.out _).mono ?_
              rintro e1 w2 ⟨rfl, rfl⟩
              try go_wp2_with fail
              refine hK.out _ _ ?_ (fun hHeld => ?_)
              · exact Ext.held (by repeat (first | assumption | exact Ext.refl _ | apply Ext.alloc | apply Ext.drew | apply Ext.drewN))
              clear hK K
              try simp only [Act.put, List.setIfInBounds_toArray, List.set_cons_zero, List.set_cons_succ]
              refine wpAnyH_take (i := 21) (v := ?_) (oper_at rfl) (by kernel_rfl) (by kernel_rfl) (by kernel_rfl) (fun _ _ _ h => h) (Or.inl ⟨by rfl, ?_⟩) hHeld ?_
              rotate_left
              · (intro ww hSw; (try dsimp only at hSw); go_simp; try (with_reducible rfl))
              try simp only [Act.put, List.setIfInBounds_toArray, List.set_cons_zero, List.set_cons_succ]
              refine wpAnyH_take (i := 22) (v := ?_) (oper_at rfl) (by kernel_rfl) (by kernel_rfl) (by kernel_rfl) (fun _ _ _ h => h) (Or.inl ⟨by rfl, ?_⟩) hHeld ?_
              rotate_left
              · (intro ww hSw; (try dsimp only at hSw); go_simp; try (with_reducible rfl))
              try simp only [Act.put, List.setIfInBounds_toArray, List.set_cons_zero, List.set_cons_succ]
              refine wpAnyH_ready (rs := [24]) (by kernel_rfl) (by simp) (AllReadyH.cons (oper_at rfl) (fun K hK => ?_) AllReadyH.nil)
              go_simp
              refine hK.out _ _ ?_ (fun hHeld => ?_)
              · exact Ext.held (by repeat (first | assumption | exact Ext.refl _ | apply Ext.alloc | apply Ext.drew | apply Ext.drewN))
              clear hK K
              try simp only [Act.put, List.setIfInBounds_toArray, List.set_cons_zero, List.set_cons_succ]
              refine wpAnyH_done (by kernel_rfl) ?_ _
              refine NoPanic.normal ?_
              go_wp2_with fail
              go_meet
              exact ⟨rfl, rfl⟩
          · go_simp
            refine hK.out _ _ ?_ (fun hHeld => ?_)
            · exact Ext.held (by repeat (first | assumption | exact Ext.refl _ | apply Ext.alloc | apply Ext.drew | apply Ext.drewN))
            clear hK K
            try simp only [Act.put, List.setIfInBounds_toArray, List.set_cons_zero, List.set_cons_succ]
            refine wpAnyH_ready (rs := [13]) (by kernel_rfl) (by simp) (AllReadyH.cons (oper_at rfl) (fun K hK => ?_) AllReadyH.nil)
            go_simp
            go_at_call 40
            refine (M2.out _).mono ?_
            rintro e1 w2 ⟨rfl, rfl⟩
            try go_wp2_with fail
            refine hK.out _ _ ?_ (fun hHeld => ?_)
            · exact Ext.held (by repeat (first | assumption | exact Ext.refl _ | apply Ext.alloc | apply Ext.drew | apply Ext.drewN))
            clear hK K
            try simp only [Act.put, List.setIfInBounds_toArray, List.set_cons_zero, List.set_cons_succ]
            refine wpAnyH_ready (rs := [20]) (by kernel_rfl) (by simp) (AllReadyH.cons (oper_at rfl) (fun K hK => ?_) AllReadyH.nil)
            go_simp
            go_at_call 40
            refine (M3.out _).mono ?_
            rintro e1 w2 ⟨rfl, rfl⟩
            try go_wp2_with fail
            refine hK.out _ _ ?_ (fun hHeld => ?_)
            · exact Ext.held (by repeat (first | assumption | exact Ext.refl _ | apply Ext.alloc | apply Ext.drew | apply Ext.drewN))
            clear hK K
            try simp only [Act.put, List.setIfInBounds_toArray, List.set_cons_zero, List.set_cons_succ]
            refine wpAnyH_take (i := 21) (v := ?_) (oper_at rfl) (by kernel_rfl) (by kernel_rfl) (by kernel_rfl) (fun _ _ _ h => h) (Or.inl ⟨by rfl, ?_⟩) hHeld ?_
            rotate_left
            · (intro ww hSw; (try dsimp only at hSw); go_simp; try (with_reducible rfl))
            try simp only [Act.put, List.setIfInBounds_toArray, List.set_cons_zero, List.set_cons_succ]
            refine wpAnyH_take (i := 22) (v := ?_) (oper_at rfl) (by kernel_rfl) (by kernel_rfl) (by kernel_rfl) (fun _ _ _ h => h) (Or.inl ⟨by rfl, ?_⟩) hHeld ?_
            rotate_left
            · (intro ww hSw; (try dsimp only at hSw); go_simp; try (with_reducible rfl))
            try simp only [Act.put, List.setIfInBounds_toArray, List.set_cons_zero, List.set_cons_succ]
            refine wpAnyH_ready (rs := [24]) (by kernel_rfl) (by simp) (AllReadyH.cons (oper_at rfl) (fun K hK => ?_) AllReadyH.nil)
            go_simp
            refine hK.out _ _ ?_ (fun hHeld => ?_)
            · exact Ext.held (by repeat (first | assumption | exact Ext.refl _ | apply Ext.alloc | apply Ext.drew | apply Ext.drewN))
            clear hK K
            try simp only [Act.put, List.setIfInBounds_toArray, List.set_cons_zero, List.set_cons_succ]
            refine wpAnyH_done (by kernel_rfl) ?_ _
            refine NoPanic.normal ?_
            go_wp2_with fail
            go_meet
            exact ⟨rfl, rfl⟩
        · go_simp
          refine hK.out _ _ ?_ (fun hHeld => ?_)
          · exact Ext.held (by repeat (first | assumption | exact Ext.refl _ | apply Ext.alloc | apply Ext.drew | apply Ext.drewN))
          clear hK K
          try simp only [Act.put, List.setIfInBounds_toArray, List.set_cons_zero, List.set_cons_succ]
          refine wpAnyH_ready (rs := [6]) (by kernel_rfl) (by simp) (AllReadyH.cons (oper_at rfl) (fun K hK => ?_) AllReadyH.nil)
          go_simp
          go_at_call 40
          refine (M1.out _).mono ?_
          rintro e1 w2 ⟨rfl, rfl⟩
          try go_wp2_with fail
          refine hK.out _ _ ?_ (fun hHeld => ?_)
          · exact Ext.held (by repeat (first | assumption | exact Ext.refl _ | apply Ext.alloc | apply Ext.drew | apply Ext.drewN))
          clear hK K
          try simp only [Act.put, List.setIfInBounds_toArray, List.set_cons_zero, List.set_cons_succ]
          refine wpAnyH_ready (rs := [13]) (by kernel_rfl) (by simp) (AllReadyH.cons (oper_at rfl) (fun K hK => ?_) AllReadyH.nil)
          go_simp
          go_at_call 40
          refine (M2.out _).mono ?_
          rintro e1 w2 ⟨rfl, rfl⟩
          try go_wp2_with fail
          refine hK.out _ _ ?_ (fun hHeld => ?_)
          · exact Ext.held (by repeat (first | assumption | exact Ext.refl _ | apply Ext.alloc | apply Ext.drew | apply Ext.drewN))
          clear hK K
          try simp only [Act.put, List.setIfInBounds_toArray, List.set_cons_zero, List.set_cons_succ]
          refine wpAnyH_ready (rs := [20]) (by kernel_rfl) (by simp) (AllReadyH.cons (oper_at rfl) (fun K hK => ?_) AllReadyH.nil)
          go_simp
          go_at_call 40
          refine (M3.out _).mono ?_
          rintro e1 w2 ⟨rfl, rfl⟩
          try go_wp2_with fail
          refine hK.out _ _ ?_ (fun hHeld => ?_)
          · exact Ext.held (by repeat (first | assumption | exact Ext.refl _ | apply Ext.alloc | apply Ext.drew | apply Ext.drewN))
          clear hK K
          try simp only [Act.put, List.setIfInBounds_toArray, List.set_cons_zero, List.set_cons_succ]
          refine wpAnyH_take (i := 21) (v := ?_) (oper_at rfl) (by kernel_rfl) (by kernel_rfl) (by kernel_rfl) (fun _ _ _ h => h) (Or.inl ⟨by rfl, ?_⟩) hHeld ?_
          rotate_left
          · (intro ww hSw; (try dsimp only at hSw); go_simp; try (with_reducible rfl))
          try simp only [Act.put, List.setIfInBounds_toArray, List.set_cons_zero, List.set_cons_succ]
          refine wpAnyH_take (i := 22) (v := ?_) (oper_at rfl) (by kernel_rfl) (by kernel_rfl) (by kernel_rfl) (fun _ _ _ h => h) (Or.inl ⟨by rfl, ?_⟩) hHeld ?_
          rotate_left
          · (intro ww hSw; (try dsimp only at hSw); go_simp; try (with_reducible rfl))
          try simp only [Act.put, List.setIfInBounds_toArray, List.set_cons_zero, List.set_cons_succ]
          refine wpAnyH_ready (rs := [24]) (by kernel_rfl) (by simp) (AllReadyH.cons (oper_at rfl) (fun K hK => ?_) AllReadyH.nil)
          go_simp
          refine hK.out _ _ ?_ (fun hHeld => ?_)
          · exact Ext.held (by repeat (first | assumption | exact Ext.refl _ | apply Ext.alloc | apply Ext.drew | apply Ext.drewN))
          clear hK K
          try simp only [Act.put, List.setIfInBounds_toArray, List.set_cons_zero, List.set_cons_succ]
          refine wpAnyH_done (by kernel_rfl) ?_ _
          refine NoPanic.normal ?_
          go_wp2_with fail
          go_meet
          exact ⟨rfl, rfl⟩
      case rest =>
        obtain ⟨rfl, rfl⟩ := hcut
        simp only [] at r0 r1 r2 r3
        generalize hw3 : (wo.alloc (.cells #[iV m1, iV m2, iV m3, .slice none 0 0] 81)).drew = w3
        have HE3 : Ext wo w3 := by rw [← hw3]; exact ((Ext.refl _).alloc _).drew
        have k0 : w3.cell? ⟨wo.heap.size, 0, none⟩ = some (iV m1) := by rw [← hw3]; exact ((Ext.refl _).drew).cell (new_at _ _ _ 0 _ rfl)
        have k1 : w3.cell? ⟨wo.heap.size, 1, none⟩ = some (iV m2) := by rw [← hw3]; exact ((Ext.refl _).drew).cell (new_at _ _ _ 1 _ rfl)
        have k2 : w3.cell? ⟨wo.heap.size, 2, none⟩ = some (iV m3) := by rw [← hw3]; exact ((Ext.refl _).drew).cell (new_at _ _ _ 2 _ rfl)
        have k3 : w3.cell? ⟨wo.heap.size, 3, none⟩ = some (.slice none 0 0) := by rw [← hw3]; exact ((Ext.refl _).drew).cell (new_at _ _ _ 3 _ rfl)
        have kf : ∀ i, w3.frozen? ⟨wo.heap.size, i, none⟩ = false := fun i => by rw [← hw3]; exact World.frozen?_alloc_at _ _ _ _ rfl
        have hs3 : w3.heap.size = wo.heap.size + 1 := by rw [← hw3]; simp
        have C0 : Hid (InC wo w3 wo.heap.size (m1, m2, m3) (.slice none 0 0) []) := Lib.hid ⟨HE3, k0, k1, k2, k3, kf, by omega, Row.nil _ _ _ _, by simp⟩
        obtain ⟨gc, hgc⟩ : ∃ gc, wo.heap.size = gc := ⟨_, rfl⟩
        rw [hgc] at C0 ⊢
        clear hw3 k0 k1 k2 k3 kf HE3 hs3 M1 M2 M3
        go_wp2_with fail
        go_loopw [6, 7] (fun t i wr => ∃ (k' : Nat) (m : Int) (av : Value) (qs : List Ja), k' ≤ js.length ∧ k' ≤ 2 ∧ qs.length = k' ∧ i = iV (k' : Int) ∧ t = iV m ∧ OkQ qs m ∧ (m, qs.map (·.1)) = arrS js k' ∧ InC wo wr gc (m1, m2, m3) av qs) (fun _ i _ => 2 - (intOf i).toNat)
        case atStart => exact ⟨0, 1, _, [], by omega, by omega, rfl, rfl, rfl, OkQ.nil, rfl, C0.out⟩
        case round =>
          obtain ⟨k', m, av, qs, hk', hk2, hql, rfl, rfl, hQ, hAQ, hC⟩ := hrel
          have HAQ := Lib.hid hAQ
          have HQ := Lib.hid hQ
          have HC := Lib.hid hC
          have hm : m ≤ 1 + 5 * (k' : Int) := by have := hQ.hi; omega
          have hm1 := hQ.lo
          have hqb : qs.length ≤ 2 := hQ.len
          have HQL := Lib.hid hql
          clear hC C0 hQ hql hAQ
          have s3 := HC.out.ext.cell r3
          have hbw : b < wr.heap.size := Nat.lt_of_lt_of_le hb HC.out.ext.size
          by_cases hlt' : k' < js.length ∧ k' < 2
          · obtain ⟨hkj, hk2'⟩ := hlt'
            have hk2i : (k' : Int) < 2 := by omega
            obtain ⟨bj, oj, rfl, hbj, cJ⟩ := HRJ.out wr (HX.out.trans HC.out.ext) k' hkj (by omega)
            obtain ⟨y, hy⟩ : ∃ y, js.getD k' Ja0 = y := ⟨_, rfl⟩
            rw [encJ_at hkj y hy] at cJ
            have gy := HAJ.out _ (getD_memJ hkj)
            rw [hy] at gy
            obtain ⟨⟨z1, z2, ys⟩, yv⟩ := y
            obtain ⟨Ay, dy, ey, ay1, ay2, ayV⟩ := gy.at_
            rw [List.length_map] at ey ay1
            simp only [] at ey ay1 ay2 ayV
            subst ey
            have q0 := cJ 0 _ (by omega) rfl
            have q1 := cJ 1 _ (by omega) rfl
            have q2 := cJ 2 _ (by omega) rfl
            rw [Nat.add_zero] at q0
            simp only [] at q0 q1 q2
            have hyl : ys.length ≤ 9223372036854775807 := by unfold maxLen at ay2; omega
            have hdl : dy ≤ 9223372036854775807 := by unfold maxLen at ay2; omega
            have HYV := Lib.hid ayV
            have HYY := Lib.hid hy
            clear cJ hy gy ayV
            obtain ⟨Av, cv, ev, -, -⟩ := HC.out.row.form
            rw [List.length_map] at ev
            subst ev
            have M6 := Lib.hid (fun W => mod_any z1 6 W (by omega) (by omega))
            have M8 := Lib.hid (fun W => mod_any z2 8 W (by omega) (by omega))
            have n6 := modF_range (a := z1) (n := 6) (by omega)
            have n8 := modF_range (a := z2) (n := 8) (by omega)
            generalize he6 : modF z1 6 = d6 at *
            generalize he8 : modF z2 8 = d8 at *
            have E6 := Lib.hid he6
            have E8 := Lib.hid he8
            clear he6 he8
            have wk6 : IntKind.i64.wrap (m + d6) = m + d6 := IntWalk.i64_in _ (by omega)
            go_wp2_with fail
            refine (M6.out _).mono ?_
            rintro e1 w1 ⟨rfl, rfl⟩
            go_upto_region 12 with fail
            generalize hw4 : wr.alloc (.cells #[iV z1, iV z2, .slice Ay ys.length dy] 69) = w4
            have p1 : w4.cell? ⟨wr.heap.size, 1, none⟩ = some (iV z2) := by rw [← hw4]; exact new_at _ _ _ 1 _ rfl
            have p2 : w4.cell? ⟨wr.heap.size, 2, none⟩ = some (.slice Ay ys.length dy) := by rw [← hw4]; exact new_at _ _ _ 2 _ rfl
            have hs4 : wr.heap.size < w4.heap.size := by rw [← hw4]; simp
            have hE4 : Ext wr w4 := by rw [← hw4]; exact (Ext.refl _).alloc _
            have e24 : Ext wo w4 := HC.out.ext.trans hE4
            have p3 : w4.cell? ⟨gc, 3, none⟩ = some (.slice Av qs.length cv) := hE4.cell HC.out.c3
            have hgc4 : gc + 1 ≤ w4.heap.size := by have := HC.out.lt; omega
            have hgc5 : gc < w4.heap.size := hgc4
            have hgcw : gc < wr.heap.size := HC.out.lt
            have HE4 := Lib.hid hE4
            have HYV4 := Lib.hid (HYV.out.ext (HX.out.trans e24))
            have hn5 : some wr.heap.size ≠ (Value.slice Av qs.length cv).ownBlock := fun e => by have := (HC.out.row.lt _ e.symm).2; omega
            obtain ⟨mm, hmm⟩ : ∃ mm, min ys.length 4 = mm := ⟨_, rfl⟩
            have HMQ := Lib.hid hmm
            have hm4 : mm ≤ 4 := by omega
            have hmd : mm ≤ dy := by omega
            have hmi : min ((ys.length : Nat) : Int) 4 = (mm : Int) := by omega
            have hmq : (mm : Int) ≤ (dy : Int) := by omega
            have hm0 : (0 : Int) ≤ (mm : Int) := by omega
            have HTK : Hid (((ys.take mm).map fun x => [iV x]).length = mm) := Lib.hid (by rw [List.length_map, List.length_take]; omega)
            clear hw4 hE4 q0 q1 q2
            have KB : Hid (∀ W, Ext w4 W → (fun w' => Ext wo w' ∧ w'.cell? ⟨gc, 3, none⟩ = some (.slice Av qs.length cv) ∧ w'.cell? ⟨wr.heap.size, 1, none⟩ = some (iV z2) ∧ w'.cell? ⟨wr.heap.size, 2, none⟩ = some (.slice Ay ys.length dy)) W) := Lib.hid (fun W h => ⟨e24.trans h, h.cell p3, h.cell p1, h.cell p2⟩)
            refine wp_region_noPanic ?_
            refine wp_region_X (S := (fun w' => Ext wo w' ∧ w'.cell? ⟨gc, 3, none⟩ = some (.slice Av qs.length cv) ∧ w'.cell? ⟨wr.heap.size, 1, none⟩ = some (iV z2) ∧ w'.cell? ⟨wr.heap.size, 2, none⟩ = some (.slice Ay ys.length dy))) (z := 19) (by kernel_rfl) ?_ (fun hHeld => ?_)
            · first | assumption | exact KB.out _ (by (repeat (first | assumption | exact Ext.refl _ | apply Ext.alloc | apply Ext.drew | apply Ext.drewN)); first | done | fail)
            refine wpAnyX_take (i := 0) (v := ?_) (oper_at rfl) (by kernel_rfl) (by kernel_rfl) (by kernel_rfl) (by kernel_rfl) (fun _ _ _ h => h) (Or.inl ⟨by rfl, ?_⟩) hHeld ?_
            rotate_left
            · (intro ww hSw; (try dsimp only at hSw); go_simp; try (with_reducible rfl))
            try simp only [Act.put, List.setIfInBounds_toArray, List.set_cons_zero, List.set_cons_succ]
            refine wpAnyX_take (i := 1) (v := ?_) (oper_at rfl) (by kernel_rfl) (by kernel_rfl) (by kernel_rfl) (by kernel_rfl) (fun _ _ _ h => h) (Or.inl ⟨by rfl, ?_⟩) hHeld ?_
            rotate_left
            · (intro ww hSw; (try dsimp only at hSw); go_simp; try (with_reducible rfl))
            try simp only [Act.put, List.setIfInBounds_toArray, List.set_cons_zero, List.set_cons_succ]
            refine wpAnyX_take (i := 2) (v := ?_) (oper_at rfl) (by kernel_rfl) (by kernel_rfl) (by kernel_rfl) (by kernel_rfl) (fun _ _ _ h => h) (Or.inl ⟨by rfl, ?_⟩) hHeld ?_
            rotate_left
            · (intro ww hSw; (try dsimp only at hSw); go_simp; try (with_reducible rfl))
            try simp only [Act.put, List.setIfInBounds_toArray, List.set_cons_zero, List.set_cons_succ]
            refine wpAnyX_take (i := 3) (v := ?_) (oper_at rfl) (by kernel_rfl) (by kernel_rfl) (by kernel_rfl) (by kernel_rfl) (fun _ _ _ h => h) (Or.inl ⟨by rfl, ?_⟩) hHeld ?_
            rotate_left
            · (intro ww hSw; (try dsimp only at hSw); go_simp; try (with_reducible rfl))
            try simp only [Act.put, List.setIfInBounds_toArray, List.set_cons_zero, List.set_cons_succ]
            refine wpAnyX_take (i := 4) (v := ?_) (oper_at rfl) (by kernel_rfl) (by kernel_rfl) (by kernel_rfl) (by kernel_rfl) (fun _ _ _ h => h) (Or.inl ⟨by rfl, ?_⟩) hHeld ?_
            rotate_left
            · (intro ww hSw; (try dsimp only at hSw); go_simp; try (with_reducible rfl))
            try simp only [Act.put, List.setIfInBounds_toArray, List.set_cons_zero, List.set_cons_succ]
            refine wpAnyX_take (i := 7) (v := ?_) (oper_at rfl) (by kernel_rfl) (by kernel_rfl) (by kernel_rfl) (by kernel_rfl) (fun _ _ _ h => h) (Or.inl ⟨by rfl, ?_⟩) hHeld ?_
            rotate_left
            · (intro ww hSw; (try dsimp only at hSw); go_simp; try (with_reducible rfl))
            try simp only [Act.put, List.setIfInBounds_toArray, List.set_cons_zero, List.set_cons_succ]
            refine wpAnyX_take (i := 8) (v := ?_) (oper_at rfl) (by kernel_rfl) (by kernel_rfl) (by kernel_rfl) (by kernel_rfl) (fun _ _ _ h => h) (Or.inl ⟨by rfl, ?_⟩) hHeld ?_
            rotate_left
            · (intro ww hSw; (try dsimp only at hSw); go_simp; try (with_reducible rfl))
            try simp only [Act.put, List.setIfInBounds_toArray, List.set_cons_zero, List.set_cons_succ]
            refine wpAnyX_take (i := 9) (v := ?_) (oper_at rfl) (by kernel_rfl) (by kernel_rfl) (by kernel_rfl) (by kernel_rfl) (fun _ _ _ h => h) (Or.inl ⟨by rfl, ?_⟩) hHeld ?_
            rotate_left
            · (intro ww hSw; (try dsimp only at hSw); go_simp; try (with_reducible rfl))
            try simp only [Act.put, List.setIfInBounds_toArray, List.set_cons_zero, List.set_cons_succ]
            refine wpAnyX_take (i := 10) (v := ?_) (oper_at rfl) (by kernel_rfl) (by kernel_rfl) (by kernel_rfl) (by kernel_rfl) (fun _ _ _ h => h) (Or.inl ⟨by rfl, ?_⟩) hHeld ?_
            rotate_left
            · (intro ww hSw; (try dsimp only at hSw); go_simp; try (with_reducible rfl))
            try simp only [Act.put, List.setIfInBounds_toArray, List.set_cons_zero, List.set_cons_succ]
            refine wpAnyX_take (i := 11) (v := ?_) (oper_at rfl) (by kernel_rfl) (by kernel_rfl) (by kernel_rfl) (by kernel_rfl) (fun _ _ _ h => h) (Or.inl ⟨by rfl, ?_⟩) hHeld ?_
            rotate_left
            · (intro ww hSw; (try dsimp only at hSw); go_simp; try (with_reducible rfl))
            try simp only [Act.put, List.setIfInBounds_toArray, List.set_cons_zero, List.set_cons_succ]
            refine wpAnyX_take (i := 12) (v := ?_) (oper_at rfl) (by kernel_rfl) (by kernel_rfl) (by kernel_rfl) (by kernel_rfl) (fun _ _ _ h => h) (Or.inl ⟨by rfl, ?_⟩) hHeld ?_
            rotate_left
            · (intro ww hSw; (try dsimp only at hSw); go_simp; try (with_reducible rfl))
            try simp only [Act.put, List.setIfInBounds_toArray, List.set_cons_zero, List.set_cons_succ]
            refine wpAnyX_take (i := 13) (v := ?_) (oper_at rfl) (by kernel_rfl) (by kernel_rfl) (by kernel_rfl) (by kernel_rfl) (fun _ _ _ h => h) (Or.inl ⟨by rfl, ?_⟩) hHeld ?_
            rotate_left
            · (intro ww hSw; (try dsimp only at hSw); go_simp; try (with_reducible rfl))
            try simp only [Act.put, List.setIfInBounds_toArray, List.set_cons_zero, List.set_cons_succ]
            refine wpAnyX_ready (rs := [5, 6]) (by kernel_rfl) (by simp) (AllReadyX.cons (by decide) (oper_at rfl) (fun K hK => ?_) (AllReadyX.cons (by decide) (oper_at rfl) (fun K hK => ?_) AllReadyX.nil))
            · go_simp
              go_at_call 40
              refine (M8.out _).mono ?_
              rintro e1 w2 ⟨rfl, rfl⟩
              try go_wp2_with fail
              refine hK.out _ _ ?_ (fun hHeld => ?_)
              · first | assumption | exact KB.out _ (by (repeat (first | assumption | exact Ext.refl _ | apply Ext.alloc | apply Ext.drew | apply Ext.drewN)); first | done | fail)
              clear hK K
              try simp only [Act.put, List.setIfInBounds_toArray, List.set_cons_zero, List.set_cons_succ]
              refine wpAnyX_ready (rs := [6]) (by kernel_rfl) (by simp) (AllReadyX.cons (by decide) (oper_at rfl) (fun K hK => ?_) AllReadyX.nil)
              go_simp
              refine hK.out _ _ ?_ (fun hHeld => ?_)
              · first | assumption | exact KB.out _ (by (repeat (first | assumption | exact Ext.refl _ | apply Ext.alloc | apply Ext.drew | apply Ext.drewN)); first | done | fail)
              clear hK K
              try simp only [Act.put, List.setIfInBounds_toArray, List.set_cons_zero, List.set_cons_succ]
              refine wpAnyX_ready (rs := [14]) (by kernel_rfl) (by simp) (AllReadyX.cons (by decide) (oper_at rfl) (fun K hK => ?_) AllReadyX.nil)
              refine sapp el36 (by rfl) (.tmp 80) (.tmp 87) (by rfl) (w5 := w4) (vs := []) (us := (ys.take mm).map fun x => [iV x]) (by rfl) (by (repeat (first | assumption | exact Ext.refl _ | apply Ext.alloc | apply Ext.drew | apply Ext.drewN)); first | done | fail) ((row_new (Ext.size (a := w4) (by (repeat (first | assumption | exact Ext.refl _ | apply Ext.alloc | apply Ext.drew | apply Ext.drewN)); first | done | fail)) (Wide.nil 1) rfl (by simp)).ext (by (repeat (first | assumption | exact Ext.refl _ | apply Ext.alloc | apply Ext.drew | apply Ext.drewN)); first | done | fail)) (by rfl) HTK.out.symm (Wide.map (f := fun x : Int => [iV x]) (fun _ => rfl) _) (take_args (HYV4.out.ext (by (repeat (first | assumption | exact Ext.refl _ | apply Ext.alloc | apply Ext.drew | apply Ext.drewN)); first | done | fail))) (one_args _) (by rw [HTK.out]; simp only [List.length_nil]; omega) (by rw [HTK.out]; simp only [List.length_nil]; omega) ?_
              intro v5 w5 hr5 hE5 hg5 hb5
              rw [List.nil_append] at hr5
              obtain ⟨At, ct, et, -, -⟩ := hr5.form
              rw [HTK.out] at et
              subst et
              have hR5 := hr5.base (B' := gc + 1) (by omega)
              have z3 := hE5.cell p3
              have hz5 : gc < w5.heap.size := Nat.lt_of_lt_of_le hgc5 hE5.size
              have e25 : Ext wo w5 := e24.trans hE5
              have er5 : Ext wr w5 := HE4.out.trans hE5
              clear hr5 hg5 hb5
              refine hK.out _ _ ?_ (fun hHeld => ?_)
              · first | assumption | exact KB.out _ (by (repeat (first | assumption | exact Ext.refl _ | apply Ext.alloc | apply Ext.drew | apply Ext.drewN)); first | done | fail)
              clear hK K
              try simp only [Act.put, List.setIfInBounds_toArray, List.set_cons_zero, List.set_cons_succ]
              refine wpAnyX_take (i := 15) (v := ?_) (oper_at rfl) (by kernel_rfl) (by kernel_rfl) (by kernel_rfl) (by kernel_rfl) (fun _ _ _ h => h) (Or.inl ⟨by rfl, ?_⟩) hHeld ?_
              rotate_left
              · (intro ww hSw; (try dsimp only at hSw); go_simp; try (with_reducible rfl))
              try simp only [Act.put, List.setIfInBounds_toArray, List.set_cons_zero, List.set_cons_succ]
              refine wpAnyX_ready (rs := [16]) (by kernel_rfl) (by simp) (AllReadyX.cons (by decide) (oper_at rfl) (fun K hK => ?_) AllReadyX.nil)
              go_simp
              refine hK.out _ _ ?_ (fun hHeld => ?_)
              · first | assumption | exact KB.out _ (by (repeat (first | assumption | exact Ext.refl _ | apply Ext.alloc | apply Ext.drew | apply Ext.drewN)); first | done | fail)
              clear hK K
              try simp only [Act.put, List.setIfInBounds_toArray, List.set_cons_zero, List.set_cons_succ]
              refine wpAnyX_ready (rs := [17]) (by kernel_rfl) (by simp) (AllReadyX.cons (by decide) (oper_at rfl) (fun K hK => ?_) AllReadyX.nil)
              refine sapp el40 (by rfl) (.tmp 75) (.tmp 90) (by rfl) (w5 := wo) (vs := qs.map encJ) (us := [encJ ((m + d6, d8, ys.take mm), .slice At mm ct)]) (by rfl) (by (repeat (first | assumption | exact Ext.refl _ | apply Ext.alloc | apply Ext.drew | apply Ext.drewN)); first | done | fail) ((HC.out.row.base (by omega)).ext (by (repeat (first | assumption | exact Ext.refl _ | apply Ext.alloc | apply Ext.drew | apply Ext.drewN)); first | done | fail)) (by rfl) rfl (Wide.one rfl) (by first | exact vs1 _ _ _ | exact (vs1 _ _ _).ext (by (repeat (first | assumption | exact Ext.refl _ | apply Ext.alloc | apply Ext.drew | apply Ext.drewN)); first | done | fail)) one_encJ (by rw [List.length_map]; simp only [List.length_cons, List.length_nil]; omega) (by rw [List.length_map]; simp only [List.length_cons, List.length_nil]; omega) ?_
              intro v6 w6 hr6 hE6 hg6 hb6
              obtain ⟨m6, f6, C6⟩ := HC.out.app (j := ((m + d6, d8, ys.take mm), .slice At mm ct)) hgc (by (repeat (first | assumption | exact Ext.refl _ | apply Ext.alloc | apply Ext.drew | apply Ext.drewN)); first | done | fail) (hR5.ext (by (repeat (first | assumption | exact Ext.refl _ | apply Ext.alloc | apply Ext.drew | apply Ext.drewN)); first | done | fail)) hr6 hE6 hg6 hb6
              have hb6 : ∀ o, w6.cell? ⟨wr.heap.size, o, none⟩ = w4.cell? ⟨wr.heap.size, o, none⟩ := fun o => (cell_kept (o := o) (hg6.block _ (Nat.lt_of_lt_of_le hs4 (Ext.size (a := w4) (by (repeat (first | assumption | exact Ext.refl _ | apply Ext.alloc | apply Ext.drew | apply Ext.drewN)); first | done | fail))) hn5)).trans (Ext.cells (w := w4) (by (repeat (first | assumption | exact Ext.refl _ | apply Ext.alloc | apply Ext.drew | apply Ext.drewN)); first | done | fail) _ _ hs4)
              have s6 : (fun w' => Ext wo w' ∧ w'.cell? ⟨gc, 3, none⟩ = some (.slice Av qs.length cv) ∧ w'.cell? ⟨wr.heap.size, 1, none⟩ = some (iV z2) ∧ w'.cell? ⟨wr.heap.size, 2, none⟩ = some (.slice Ay ys.length dy)) w6 := ⟨hE6, m6, (hb6 1).trans p1, (hb6 2).trans p2⟩
              have HC6 := Lib.hid C6
              obtain ⟨A6, c6, e6, -, -⟩ := hr6.form
              rw [show (qs.map encJ ++ [encJ ((m + d6, d8, ys.take mm), .slice At mm ct)]).length = qs.length + 1 by simp] at e6
              subst e6
              clear hr6 hg6 hb6 C6
              refine hK.out _ _ ?_ (fun hHeld => ?_)
              · first | assumption | exact KB.out _ (by (repeat (first | assumption | exact Ext.refl _ | apply Ext.alloc | apply Ext.drew | apply Ext.drewN)); first | done | fail)
              clear hK K
              try simp only [Act.put, List.setIfInBounds_toArray, List.set_cons_zero, List.set_cons_succ]
              refine wpAnyX_take (i := 18) (v := ?_) (oper_at rfl) (by kernel_rfl) (by kernel_rfl) (by kernel_rfl) (by kernel_rfl) (fun _ _ _ h => h) (Or.inl ⟨by rfl, ?_⟩) hHeld ?_
              rotate_left
              · (intro ww hSw; (try dsimp only at hSw); go_simp; try (with_reducible rfl))
              try simp only [Act.put, List.setIfInBounds_toArray, List.set_cons_zero, List.set_cons_succ]
              refine wpAnyX_ready (rs := [19]) (by kernel_rfl) (by simp) (AllReadyX.last rfl (oper_at rfl) (fun K hK => ?_))
              go_simp
              refine hK.out _ _ ?_
              clear hK K
              try simp only [Act.put, List.setIfInBounds_toArray, List.set_cons_zero, List.set_cons_succ]
              refine wpAnyX_done (by kernel_rfl) ?_ _
              refine NoPanic.normal ?_
              go_wp2_with fail
              exact ⟨⟨k' + 1, m + d6, _, qs ++ [((m + d6, d8, ys.take mm), .slice At mm ct)], by omega, by omega, by rw [List.length_append, HQL.out]; rfl, by go_num, rfl, HQ.out.app (by have := HQL.out; omega) (by omega) (by omega) (by omega) (by rw [List.length_take]; omega), arrS_step HAQ.out HYY.out E6.out E8.out HMQ.out, HC6.out⟩, by simp [intOf]; omega⟩
            · go_simp
              refine hK.out _ _ ?_ (fun hHeld => ?_)
              · first | assumption | exact KB.out _ (by (repeat (first | assumption | exact Ext.refl _ | apply Ext.alloc | apply Ext.drew | apply Ext.drewN)); first | done | fail)
              clear hK K
              try simp only [Act.put, List.setIfInBounds_toArray, List.set_cons_zero, List.set_cons_succ]
              refine wpAnyX_ready (rs := [5]) (by kernel_rfl) (by simp) (AllReadyX.cons (by decide) (oper_at rfl) (fun K hK => ?_) AllReadyX.nil)
              go_simp
              go_at_call 40
              refine (M8.out _).mono ?_
              rintro e1 w2 ⟨rfl, rfl⟩
              try go_wp2_with fail
              refine hK.out _ _ ?_ (fun hHeld => ?_)
              · first | assumption | exact KB.out _ (by (repeat (first | assumption | exact Ext.refl _ | apply Ext.alloc | apply Ext.drew | apply Ext.drewN)); first | done | fail)
              clear hK K
              try simp only [Act.put, List.setIfInBounds_toArray, List.set_cons_zero, List.set_cons_succ]
              refine wpAnyX_ready (rs := [14]) (by kernel_rfl) (by simp) (AllReadyX.cons (by decide) (oper_at rfl) (fun K hK => ?_) AllReadyX.nil)
              refine sapp el36 (by rfl) (.tmp 80) (.tmp 87) (by rfl) (w5 := w4) (vs := []) (us := (ys.take mm).map fun x => [iV x]) (by rfl) (by (repeat (first | assumption | exact Ext.refl _ | apply Ext.alloc | apply Ext.drew | apply Ext.drewN)); first | done | fail) ((row_new (Ext.size (a := w4) (by (repeat (first | assumption | exact Ext.refl _ | apply Ext.alloc | apply Ext.drew | apply Ext.drewN)); first | done | fail)) (Wide.nil 1) rfl (by simp)).ext (by (repeat (first | assumption | exact Ext.refl _ | apply Ext.alloc | apply Ext.drew | apply Ext.drewN)); first | done | fail)) (by rfl) HTK.out.symm (Wide.map (f := fun x : Int => [iV x]) (fun _ => rfl) _) (take_args (HYV4.out.ext (by (repeat (first | assumption | exact Ext.refl _ | apply Ext.alloc | apply Ext.drew | apply Ext.drewN)); first | done | fail))) (one_args _) (by rw [HTK.out]; simp only [List.length_nil]; omega) (by rw [HTK.out]; simp only [List.length_nil]; omega) ?_
              intro v5 w5 hr5 hE5 hg5 hb5
              rw [List.nil_append] at hr5
              obtain ⟨At, ct, et, -, -⟩ := hr5.form
              rw [HTK.out] at et
              subst et
              have hR5 := hr5.base (B' := gc + 1) (by omega)
              have z3 := hE5.cell p3
              have hz5 : gc < w5.heap.size := Nat.lt_of_lt_of_le hgc5 hE5.size
              have e25 : Ext wo w5 := e24.trans hE5
              have er5 : Ext wr w5 := HE4.out.trans hE5
              clear hr5 hg5 hb5
              refine hK.out _ _ ?_ (fun hHeld => ?_)
              · first | assumption | exact KB.out _ (by (repeat (first | assumption | exact Ext.refl _ | apply Ext.alloc | apply Ext.drew | apply Ext.drewN)); first | done | fail)
              clear hK K
              try simp only [Act.put, List.setIfInBounds_toArray, List.set_cons_zero, List.set_cons_succ]
              refine wpAnyX_take (i := 15) (v := ?_) (oper_at rfl) (by kernel_rfl) (by kernel_rfl) (by kernel_rfl) (by kernel_rfl) (fun _ _ _ h => h) (Or.inl ⟨by rfl, ?_⟩) hHeld ?_
              rotate_left
              · (intro ww hSw; (try dsimp only at hSw); go_simp; try (with_reducible rfl))
              try simp only [Act.put, List.setIfInBounds_toArray, List.set_cons_zero, List.set_cons_succ]
              refine wpAnyX_ready (rs := [16]) (by kernel_rfl) (by simp) (AllReadyX.cons (by decide) (oper_at rfl) (fun K hK => ?_) AllReadyX.nil)
              go_simp
              refine hK.out _ _ ?_ (fun hHeld => ?_)
              · first | assumption | exact KB.out _ (by (repeat (first | assumption | exact Ext.refl _ | apply Ext.alloc | apply Ext.drew | apply Ext.drewN)); first | done | fail)
              clear hK K
              try simp only [Act.put, List.setIfInBounds_toArray, List.set_cons_zero, List.set_cons_succ]
              refine wpAnyX_ready (rs := [17]) (by kernel_rfl) (by simp) (AllReadyX.cons (by decide) (oper_at rfl) (fun K hK => ?_) AllReadyX.nil)
              refine sapp el40 (by rfl) (.tmp 75) (.tmp 90) (by rfl) (w5 := wo) (vs := qs.map encJ) (us := [encJ ((m + d6, d8, ys.take mm), .slice At mm ct)]) (by rfl) (by (repeat (first | assumption | exact Ext.refl _ | apply Ext.alloc | apply Ext.drew | apply Ext.drewN)); first | done | fail) ((HC.out.row.base (by omega)).ext (by (repeat (first | assumption | exact Ext.refl _ | apply Ext.alloc | apply Ext.drew | apply Ext.drewN)); first | done | fail)) (by rfl) rfl (Wide.one rfl) (by first | exact vs1 _ _ _ | exact (vs1 _ _ _).ext (by (repeat (first | assumption | exact Ext.refl _ | apply Ext.alloc | apply Ext.drew | apply Ext.drewN)); first | done | fail)) one_encJ (by rw [List.length_map]; simp only [List.length_cons, List.length_nil]; omega) (by rw [List.length_map]; simp only [List.length_cons, List.length_nil]; omega) ?_
              intro v6 w6 hr6 hE6 hg6 hb6
              obtain ⟨m6, f6, C6⟩ := HC.out.app (j := ((m + d6, d8, ys.take mm), .slice At mm ct)) hgc (by (repeat (first | assumption | exact Ext.refl _ | apply Ext.alloc | apply Ext.drew | apply Ext.drewN)); first | done | fail) (hR5.ext (by (repeat (first | assumption | exact Ext.refl _ | apply Ext.alloc | apply Ext.drew | apply Ext.drewN)); first | done | fail)) hr6 hE6 hg6 hb6
              have hb6 : ∀ o, w6.cell? ⟨wr.heap.size, o, none⟩ = w4.cell? ⟨wr.heap.size, o, none⟩ := fun o => (cell_kept (o := o) (hg6.block _ (Nat.lt_of_lt_of_le hs4 (Ext.size (a := w4) (by (repeat (first | assumption | exact Ext.refl _ | apply Ext.alloc | apply Ext.drew | apply Ext.drewN)); first | done | fail))) hn5)).trans (Ext.cells (w := w4) (by (repeat (first | assumption | exact Ext.refl _ | apply Ext.alloc | apply Ext.drew | apply Ext.drewN)); first | done | fail) _ _ hs4)
              have s6 : (fun w' => Ext wo w' ∧ w'.cell? ⟨gc, 3, none⟩ = some (.slice Av qs.length cv) ∧ w'.cell? ⟨wr.heap.size, 1, none⟩ = some (iV z2) ∧ w'.cell? ⟨wr.heap.size, 2, none⟩ = some (.slice Ay ys.length dy)) w6 := ⟨hE6, m6, (hb6 1).trans p1, (hb6 2).trans p2⟩
              have HC6 := Lib.hid C6
              obtain ⟨A6, c6, e6, -, -⟩ := hr6.form
              rw [show (qs.map encJ ++ [encJ ((m + d6, d8, ys.take mm), .slice At mm ct)]).length = qs.length + 1 by simp] at e6
              subst e6
              clear hr6 hg6 hb6 C6
              refine hK.out _ _ ?_ (fun hHeld => ?_)
              · first | assumption | exact KB.out _ (by (repeat (first | assumption | exact Ext.refl _ | apply Ext.alloc | apply Ext.drew | apply Ext.drewN)); first | done | fail)
              clear hK K
              try simp only [Act.put, List.setIfInBounds_toArray, List.set_cons_zero, List.set_cons_succ]
              refine wpAnyX_take (i := 18) (v := ?_) (oper_at rfl) (by kernel_rfl) (by kernel_rfl) (by kernel_rfl) (by kernel_rfl) (fun _ _ _ h => h) (Or.inl ⟨by rfl, ?_⟩) hHeld ?_
              rotate_left
              · (intro ww hSw; (try dsimp only at hSw); go_simp; try (with_reducible rfl))
              try simp only [Act.put, List.setIfInBounds_toArray, List.set_cons_zero, List.set_cons_succ]
              refine wpAnyX_ready (rs := [19]) (by kernel_rfl) (by simp) (AllReadyX.last rfl (oper_at rfl) (fun K hK => ?_))
              go_simp
              refine hK.out _ _ ?_
              clear hK K
              try simp only [Act.put, List.setIfInBounds_toArray, List.set_cons_zero, List.set_cons_succ]
              refine wpAnyX_done (by kernel_rfl) ?_ _
              refine NoPanic.normal ?_
              go_wp2_with fail
              exact ⟨⟨k' + 1, m + d6, _, qs ++ [((m + d6, d8, ys.take mm), .slice At mm ct)], by omega, by omega, by rw [List.length_append, HQL.out]; rfl, by go_num, rfl, HQ.out.app (by have := HQL.out; omega) (by omega) (by omega) (by omega) (by rw [List.length_take]; omega), arrS_step HAQ.out HYY.out E6.out E8.out HMQ.out, HC6.out⟩, by simp [intOf]; omega⟩
          · have hgcw : gc < wr.heap.size := HC.out.lt
            obtain ⟨Av, cv, ev, -, -⟩ := HC.out.row.form
            rw [List.length_map] at ev
            subst ev
            have q0 := HC.out.c0
            have q1 := HC.out.c1
            have q2 := HC.out.c2
            have q3 := HC.out.c3
            simp only [] at q0 q1 q2
            have hgo : w.heap.size ≤ gc := by have := HX.out.size; omega
            have hwo := HX.out.size
            have HQ3 : Hid (Row 3 wr w.heap.size 69 (.slice Av qs.length cv) (qs.map encJ)) := Lib.hid (HC.out.row.base (by omega))
            have HQ1 : Hid (∀ j ∈ qs, Row 1 wr w.heap.size 2 j.2 (j.1.2.2.map fun x => [iV x])) := Lib.hid (fun j hj => (HC.out.args j hj).base (by omega))
            have HOV : Hid (VsAt wr (An) (os.map encH).flatten) := Lib.hid (by
              obtain ⟨A', c', h1, h2, h3, h4⟩ := (HO.out.row.sl.ext HC.out.ext).at_
              rw [List.length_map] at h1
              cases h1
              exact h4)
            have HOO : Hid (∀ u ∈ (os.map encH).flatten, u.oneCell' = true) := Lib.hid (ones_encH fun x hx => (HO.out.arr x hx).sl.one)
            have HOW := Lib.hid HO.out.row.1
            have HNP : Hid (plH ((m1, m2, m3), qs, .slice Av qs.length cv) = newP (rs.getD k Jh0)) := Lib.hid (newP_of HRX.out Em1.out Em2.out Em3.out HAQ.out (by omega))
            have HKC : Hid (k < rs.length ∧ os.length < 4 ∧ k < 20) := Lib.hid ⟨hkl, ho4, hkt⟩
            have HNW : Hid (OkH ((m1, m2, m3), qs, .slice Av qs.length cv)) := Lib.hid (HQ.out.hold (by omega) (by omega) (by omega))
            have HALL : Hid (∀ h ∈ os ++ [((m1, m2, m3), qs, .slice Av qs.length cv)], OkH h) := Lib.hid (fun h hh => by
              rcases List.mem_append.1 hh with hh | hh
              · exact HOK.out h hh
              · rw [List.mem_singleton.1 hh]; exact HNW.out)
            have HARR : Hid (∀ W, Ext wr W → ∀ h ∈ os ++ [((m1, m2, m3), qs, Value.slice Av qs.length cv)], JaAt W h.2.2 h.2.1) := Lib.hid (fun W hW h hh => by
              rcases List.mem_append.1 hh with hh | hh
              · exact (HO.out.hs.arr h hh).ext (HC.out.ext.trans hW)
              · rw [List.mem_singleton.1 hh]
                exact ⟨(HQ3.out.sl).ext hW, fun j hj => (HQ1.out j hj).sl.ext hW⟩)
            have hr0 : Row 4 (wr.drew.alloc (.cells #[] 81)) wr.heap.size 81 (.slice (some ⟨wr.heap.size, 0, none⟩) 0 0) [] := row_new (Nat.le_refl _) (Wide.nil 4) rfl (by simp)
            have hr1 : Row 4 ((wr.drew.alloc (.cells #[iV m1, iV m2, iV m3, .slice Av qs.length cv] 81)).alloc (.cells #[] 81)) wr.heap.size 81 (.slice (some ⟨wr.heap.size + 1, 0, none⟩) 0 0) [] := by
              have h := row_new (w := wr.drew.alloc (.cells #[iV m1, iV m2, iV m3, .slice Av qs.length cv] 81)) (B := wr.heap.size) (e := 81) (cs := #[]) (us := []) (by simp) (Wide.nil 4) rfl (by simp)
              simpa using h
            have hb0 : VsAt ((wr.drew.alloc (.cells #[] 81)).alloc (.cells #[iV m1, iV m2, iV m3, .slice Av qs.length cv] 81)) (some ⟨wr.heap.size + 1, 0, none⟩) [iV m1, iV m2, iV m3, .slice Av qs.length cv] := by
              have h := vs1 (wr.drew.alloc (.cells #[] 81)) #[iV m1, iV m2, iV m3, .slice Av qs.length cv] 81
              rwa [show (wr.drew.alloc (.cells #[] 81)).heap.size = wr.heap.size + 1 by simp] at h
            have hb1 : VsAt ((wr.drew.alloc (.cells #[iV m1, iV m2, iV m3, .slice Av qs.length cv] 81)).alloc (.cells #[] 81)) (some ⟨wr.heap.size, 0, none⟩) [iV m1, iV m2, iV m3, .slice Av qs.length cv] :=
              (vs1 wr.drew #[iV m1, iV m2, iV m3, .slice Av qs.length cv] 81).ext ((Ext.refl _).alloc _)
            have HR0b : Hid (Row 4 (wr.alloc (.cells #[] 81)) wr.heap.size 81 (.slice (some ⟨wr.heap.size, 0, none⟩) 0 0) []) := Lib.hid (row_new (Nat.le_refl _) (Wide.nil 4) rfl (by simp))
            have HR1b : Hid (Row 4 ((wr.alloc (.cells #[iV m1, iV m2, iV m3, .slice Av qs.length cv] 81)).alloc (.cells #[] 81)) wr.heap.size 81 (.slice (some ⟨wr.heap.size + 1, 0, none⟩) 0 0) []) := Lib.hid (by
              have h := row_new (w := wr.alloc (.cells #[iV m1, iV m2, iV m3, .slice Av qs.length cv] 81)) (B := wr.heap.size) (e := 81) (cs := #[]) (us := []) (by simp) (Wide.nil 4) rfl (by simp)
              simpa using h)
            have HB0b : Hid (VsAt ((wr.alloc (.cells #[] 81)).alloc (.cells #[iV m1, iV m2, iV m3, .slice Av qs.length cv] 81)) (some ⟨wr.heap.size + 1, 0, none⟩) [iV m1, iV m2, iV m3, .slice Av qs.length cv]) := Lib.hid (by
              have h := vs1 (wr.alloc (.cells #[] 81)) #[iV m1, iV m2, iV m3, .slice Av qs.length cv] 81
              rwa [show (wr.alloc (.cells #[] 81)).heap.size = wr.heap.size + 1 by simp] at h)
            have HB1b : Hid (VsAt ((wr.alloc (.cells #[iV m1, iV m2, iV m3, .slice Av qs.length cv] 81)).alloc (.cells #[] 81)) (some ⟨wr.heap.size, 0, none⟩) [iV m1, iV m2, iV m3, .slice Av qs.length cv]) :=
              Lib.hid ((vs1 wr #[iV m1, iV m2, iV m3, .slice Av qs.length cv] 81).ext ((Ext.refl _).alloc _))
            have HR0 := Lib.hid hr0
            have HR1 := Lib.hid hr1
            have HB0 := Lib.hid hb0
            have HB1 := Lib.hid hb1
            clear hr0 hr1 hb0 hb1
            have hcs : (k' < js.length ∧ ¬ k' < 2) ∨ ¬ k' < js.length := by omega
            rcases hcs with ⟨hA, hB⟩ | hA
            · have hA' : (k' : Int) < ((js.length : Nat) : Int) := by omega
              have hB' : ¬ (k' : Int) < 2 := by omega
              go_upto_region 13 with fail
              have KB : Hid (∀ W, Ext wr W → (fun w' => Ext wr w' ∧ w'.cell? ⟨gc, 0, none⟩ = some (iV m1) ∧ w'.cell? ⟨gc, 1, none⟩ = some (iV m2) ∧ w'.cell? ⟨gc, 2, none⟩ = some (iV m3) ∧ w'.cell? ⟨gc, 3, none⟩ = some (.slice Av qs.length cv)) W) := Lib.hid (fun W h => ⟨h, h.cell q0, h.cell q1, h.cell q2, h.cell q3⟩)
              refine wp_region_noPanic ?_
              refine wp_region_held_drew (S := (fun w' => Ext wr w' ∧ w'.cell? ⟨gc, 0, none⟩ = some (iV m1) ∧ w'.cell? ⟨gc, 1, none⟩ = some (iV m2) ∧ w'.cell? ⟨gc, 2, none⟩ = some (iV m3) ∧ w'.cell? ⟨gc, 3, none⟩ = some (.slice Av qs.length cv))) (by kernel_rfl) ?_ (fun hHeld => ?_)
              · first | assumption | exact KB.out _ (by (repeat (first | assumption | exact Ext.refl _ | apply Ext.alloc | apply Ext.drew | apply Ext.drewN)); first | done | fail)
              refine wpAnyH_take (i := 1) (v := ?_) (oper_at rfl) (by kernel_rfl) (by kernel_rfl) (by kernel_rfl) (fun _ _ _ h => h) (Or.inl ⟨by rfl, ?_⟩) hHeld ?_
              rotate_left
              · (intro ww hSw; (try dsimp only at hSw); go_simp; try (with_reducible rfl))
              try simp only [Act.put, List.setIfInBounds_toArray, List.set_cons_zero, List.set_cons_succ]
              refine wpAnyH_take (i := 3) (v := ?_) (oper_at rfl) (by kernel_rfl) (by kernel_rfl) (by kernel_rfl) (fun _ _ _ h => h) (Or.inl ⟨by rfl, ?_⟩) hHeld ?_
              rotate_left
              · (intro ww hSw; (try dsimp only at hSw); go_simp; try (with_reducible rfl))
              try simp only [Act.put, List.setIfInBounds_toArray, List.set_cons_zero, List.set_cons_succ]
              refine wpAnyH_ready (rs := [0, 4]) (by kernel_rfl) (by simp) (AllReadyH.cons (oper_at rfl) (fun K hK => ?_) (AllReadyH.cons (oper_at rfl) (fun K hK => ?_) AllReadyH.nil))
              · go_simp
                refine hK.out _ _ ?_ (fun hHeld => ?_)
                · first | assumption | exact KB.out _ (by (repeat (first | assumption | exact Ext.refl _ | apply Ext.alloc | apply Ext.drew | apply Ext.drewN)); first | done | fail)
                clear hK K
                try simp only [Act.put, List.setIfInBounds_toArray, List.set_cons_zero, List.set_cons_succ]
                refine wpAnyH_ready (rs := [2, 4]) (by kernel_rfl) (by simp) (AllReadyH.cons (oper_at rfl) (fun K hK => ?_) (AllReadyH.cons (oper_at rfl) (fun K hK => ?_) AllReadyH.nil))
                · refine sapp el23 (by rfl) (.tmp 93) (.tmp 94) (by rfl) (w5 := wr) (v := (.slice (some ⟨wr.heap.size, 0, none⟩) 0 0)) (vs := []) (us := os.map encH) (by rfl) (by (repeat (first | assumption | exact Ext.refl _ | apply Ext.alloc | apply Ext.drew | apply Ext.drewN)); first | done | fail) (by first | exact HR0.out.ext (by (repeat (first | assumption | exact Ext.refl _ | apply Ext.alloc | apply Ext.drew | apply Ext.drewN)); first | done | fail) | exact HR0b.out.ext (by (repeat (first | assumption | exact Ext.refl _ | apply Ext.alloc | apply Ext.drew | apply Ext.drewN)); first | done | fail)) (by rfl) (List.length_map _).symm HOW.out (HOV.out.ext (by (repeat (first | assumption | exact Ext.refl _ | apply Ext.alloc | apply Ext.drew | apply Ext.drewN)); first | done | fail)) HOO.out (by rw [List.length_map]; simp only [List.length_nil]; omega) (by rw [List.length_map]; simp only [List.length_nil]; omega) ?_
                  intro v5 w5 hr5 hE5 hg5 hb5
                  rw [List.nil_append] at hr5
                  obtain ⟨At, ct, et, -, -⟩ := hr5.form
                  rw [List.length_map] at et
                  subst et
                  have HR5 := Lib.hid hr5
                  clear hr5 hg5 hb5
                  refine hK.out _ _ ?_ (fun hHeld => ?_)
                  · first | assumption | exact KB.out _ (by (repeat (first | assumption | exact Ext.refl _ | apply Ext.alloc | apply Ext.drew | apply Ext.drewN)); first | done | fail)
                  clear hK K
                  try simp only [Act.put, List.setIfInBounds_toArray, List.set_cons_zero, List.set_cons_succ]
                  refine wpAnyH_ready (rs := [4]) (by kernel_rfl) (by simp) (AllReadyH.cons (oper_at rfl) (fun K hK => ?_) AllReadyH.nil)
                  go_simp
                  refine hK.out _ _ ?_ (fun hHeld => ?_)
                  · first | assumption | exact KB.out _ (by (repeat (first | assumption | exact Ext.refl _ | apply Ext.alloc | apply Ext.drew | apply Ext.drewN)); first | done | fail)
                  clear hK K
                  try simp only [Act.put, List.setIfInBounds_toArray, List.set_cons_zero, List.set_cons_succ]
                  refine wpAnyH_ready (rs := [5]) (by kernel_rfl) (by simp) (AllReadyH.cons (oper_at rfl) (fun K hK => ?_) AllReadyH.nil)
                  refine sapp el23 (by rfl) (.tmp 95) (.tmp 97) (by rfl) (w5 := wr) (vs := os.map encH) (us := [encH ((m1, m2, m3), qs, .slice Av qs.length cv)]) (by rfl) (by (repeat (first | assumption | exact Ext.refl _ | apply Ext.alloc | apply Ext.drew | apply Ext.drewN)); first | done | fail) (HR5.out.ext (by (repeat (first | assumption | exact Ext.refl _ | apply Ext.alloc | apply Ext.drew | apply Ext.drewN)); first | done | fail)) (by rfl) rfl (Wide.one rfl) (by first | exact vs1 _ _ _ | exact (vs1 _ _ _).ext (by (repeat (first | assumption | exact Ext.refl _ | apply Ext.alloc | apply Ext.drew | apply Ext.drewN)); first | done | fail) | exact HBX.out.ext (by (repeat (first | assumption | exact Ext.refl _ | apply Ext.alloc | apply Ext.drew | apply Ext.drewN)); first | done | fail) | exact HBX.out) one_encH (by rw [List.length_map]; simp only [List.length_cons, List.length_nil]; omega) (by rw [List.length_map]; simp only [List.length_cons, List.length_nil]; omega) ?_
                  intro v6 w6 hr6 hE6 hg6 hb6
                  have hT : HsAt w6 v6 (os ++ [((m1, m2, m3), qs, .slice Av qs.length cv)]) := ⟨by rw [List.map_append]; exact hr6.sl, HARR.out w6 hE6⟩
                  have CK := Lib.hid (fun W (hW : Ext w6 W) => check_any (os ++ [((m1, m2, m3), qs, .slice Av qs.length cv)]) v6 W (hT.ext hW) HALL.out (by rw [List.length_append, List.length_singleton]; omega))
                  obtain ⟨A6, c6, e6, -, -⟩ := hr6.form
                  rw [show (os.map encH ++ [encH ((m1, m2, m3), qs, .slice Av qs.length cv)]).length = os.length + 1 by simp] at e6
                  subst e6
                  clear hr6 hg6 hb6 hT
                  refine hK.out _ _ ?_ (fun hHeld => ?_)
                  · first | assumption | exact KB.out _ (by (repeat (first | assumption | exact Ext.refl _ | apply Ext.alloc | apply Ext.drew | apply Ext.drewN)); first | done | fail)
                  clear hK K
                  try simp only [Act.put, List.setIfInBounds_toArray, List.set_cons_zero, List.set_cons_succ]
                  refine wpAnyH_ready (rs := [6]) (by kernel_rfl) (by simp) (AllReadyH.cons (oper_at rfl) (fun K hK => ?_) AllReadyH.nil)
                  go_simp
                  go_at_call 42
                  refine (CK.out _ (by (repeat (first | assumption | exact Ext.refl _ | apply Ext.alloc | apply Ext.drew | apply Ext.drewN)); first | done | fail)).mono ?_
                  rintro e7 w7 ⟨rr, rfl, hrr, hE67⟩
                  have hE7 : Ext wr w7 := hE6.trans (Ext.trans (by (repeat (first | assumption | exact Ext.refl _ | apply Ext.alloc | apply Ext.drew | apply Ext.drewN)); first | done | fail) hE67)
                  have HRR := Lib.hid hrr
                  clear hrr CK
                  refine hK.out _ _ ?_ (fun hHeld => ?_)
                  · first | assumption | exact KB.out _ (by (repeat (first | assumption | exact Ext.refl _ | apply Ext.alloc | apply Ext.drew | apply Ext.drewN)); first | done | fail)
                  clear hK K
                  try simp only [Act.put, List.setIfInBounds_toArray, List.set_cons_zero, List.set_cons_succ]
                  refine wpAnyH_take (i := 7) (v := ?_) (oper_at rfl) (by kernel_rfl) (by kernel_rfl) (by kernel_rfl) (fun _ _ _ h => h) (Or.inl ⟨by rfl, ?_⟩) hHeld ?_
                  rotate_left
                  · (intro ww hSw; (try dsimp only at hSw); go_simp; try (with_reducible rfl))
                  try simp only [Act.put, List.setIfInBounds_toArray, List.set_cons_zero, List.set_cons_succ]
                  refine wpAnyH_done (by kernel_rfl) ?_ _
                  refine NoPanic.normal ?_
                  have HRR2 := HRR.out
                  rcases HRR2 with ⟨rfl, hdd⟩ | ⟨rfl, hdd⟩
                  · have HDD := Lib.hid hdd
                    clear hdd HRR
                    go_wp2_with (at_builtin; refine wapp el23 rfl (.tmp 101) (.tmp 103) rfl (w5 := w) (vs := os.map encH) (us := [encH ((m1, m2, m3), qs, .slice Av qs.length cv)]) rfl ((HX.out.trans (HC.out.ext.trans hE7)).alloc _) (HO.out.row.ext ((HC.out.ext.trans hE7).alloc _)) rfl rfl (Wide.one rfl) (vs1 _ _ _) one_encH (by rw [List.length_map]; simp only [List.length_cons, List.length_nil]; omega) (by rw [List.length_map]; simp only [List.length_cons, List.length_nil]; omega) ?_; intro v8 w8 hr8 hE8 hg8 hb8; obtain ⟨hO8, -⟩ := HO.out.app (m := (m1, m2, m3)) (qs := qs) (av := .slice Av qs.length cv) (B0 := w.heap.size) ((HC.out.ext.trans hE7).alloc _) hwo (HQ3.out.ext (hE7.alloc _)) (fun j hj => (HQ1.out j hj).ext (hE7.alloc _)) hr8 hg8 hb8; have HO8 := Lib.hid hO8; clear hr8 hg8 hb8 hO8)
                    exact ⟨⟨k + 1, os ++ [((m1, m2, m3), qs, .slice Av qs.length cv)], by omega, by omega, by go_num, HO8.out, HALL.out, HDD.out, by rw [List.length_append, List.length_singleton]; omega, hsF_add HPL.out HKC.out HNP.out HDD.out, hE8⟩, by simp [intOf]; omega⟩
                  · have HDD := Lib.hid hdd
                    clear hdd HRR
                    go_wp2_with fail
                    exact ⟨⟨k + 1, os, by omega, by omega, by go_num, HO.out.ext (HC.out.ext.trans hE7), HOK.out, HD.out, by omega, hsF_skip HPL.out HKC.out HNP.out HD.out HDD.out, HX.out.trans (HC.out.ext.trans hE7)⟩, by simp [intOf]; omega⟩
                · go_simp
                  refine hK.out _ _ ?_ (fun hHeld => ?_)
                  · first | assumption | exact KB.out _ (by (repeat (first | assumption | exact Ext.refl _ | apply Ext.alloc | apply Ext.drew | apply Ext.drewN)); first | done | fail)
                  clear hK K
                  try simp only [Act.put, List.setIfInBounds_toArray, List.set_cons_zero, List.set_cons_succ]
                  refine wpAnyH_ready (rs := [2]) (by kernel_rfl) (by simp) (AllReadyH.cons (oper_at rfl) (fun K hK => ?_) AllReadyH.nil)
                  refine sapp el23 (by rfl) (.tmp 93) (.tmp 94) (by rfl) (w5 := wr) (v := (.slice (some ⟨wr.heap.size, 0, none⟩) 0 0)) (vs := []) (us := os.map encH) (by rfl) (by (repeat (first | assumption | exact Ext.refl _ | apply Ext.alloc | apply Ext.drew | apply Ext.drewN)); first | done | fail) (by first | exact HR0.out.ext (by (repeat (first | assumption | exact Ext.refl _ | apply Ext.alloc | apply Ext.drew | apply Ext.drewN)); first | done | fail) | exact HR0b.out.ext (by (repeat (first | assumption | exact Ext.refl _ | apply Ext.alloc | apply Ext.drew | apply Ext.drewN)); first | done | fail)) (by rfl) (List.length_map _).symm HOW.out (HOV.out.ext (by (repeat (first | assumption | exact Ext.refl _ | apply Ext.alloc | apply Ext.drew | apply Ext.drewN)); first | done | fail)) HOO.out (by rw [List.length_map]; simp only [List.length_nil]; omega) (by rw [List.length_map]; simp only [List.length_nil]; omega) ?_
                  intro v5 w5 hr5 hE5 hg5 hb5
                  rw [List.nil_append] at hr5
                  have HBX := Lib.hid (vs_kept (by first | exact HB0b.out.ext (by (repeat (first | assumption | exact Ext.refl _ | apply Ext.alloc | apply Ext.drew | apply Ext.drewN)); first | done | fail) | exact HB0.out.ext (by (repeat (first | assumption | exact Ext.refl _ | apply Ext.alloc | apply Ext.drew | apply Ext.drewN)); first | done | fail)) (hg5.block _ (by first | (simp; done) | (simp; omega)) (by simp [Value.ownBlock])) (Nat.lt_of_lt_of_le (by first | (simp; done) | (simp; omega)) hg5.size))
                  obtain ⟨At, ct, et, -, -⟩ := hr5.form
                  rw [List.length_map] at et
                  subst et
                  have HR5 := Lib.hid hr5
                  clear hr5 hg5 hb5
                  refine hK.out _ _ ?_ (fun hHeld => ?_)
                  · first | assumption | exact KB.out _ (by (repeat (first | assumption | exact Ext.refl _ | apply Ext.alloc | apply Ext.drew | apply Ext.drewN)); first | done | fail)
                  clear hK K
                  try simp only [Act.put, List.setIfInBounds_toArray, List.set_cons_zero, List.set_cons_succ]
                  refine wpAnyH_ready (rs := [5]) (by kernel_rfl) (by simp) (AllReadyH.cons (oper_at rfl) (fun K hK => ?_) AllReadyH.nil)
                  refine sapp el23 (by rfl) (.tmp 95) (.tmp 97) (by rfl) (w5 := wr) (vs := os.map encH) (us := [encH ((m1, m2, m3), qs, .slice Av qs.length cv)]) (by rfl) (by (repeat (first | assumption | exact Ext.refl _ | apply Ext.alloc | apply Ext.drew | apply Ext.drewN)); first | done | fail) (HR5.out.ext (by (repeat (first | assumption | exact Ext.refl _ | apply Ext.alloc | apply Ext.drew | apply Ext.drewN)); first | done | fail)) (by rfl) rfl (Wide.one rfl) (by first | exact vs1 _ _ _ | exact (vs1 _ _ _).ext (by (repeat (first | assumption | exact Ext.refl _ | apply Ext.alloc | apply Ext.drew | apply Ext.drewN)); first | done | fail) | exact HBX.out.ext (by (repeat (first | assumption | exact Ext.refl _ | apply Ext.alloc | apply Ext.drew | apply Ext.drewN)); first | done | fail) | exact HBX.out) one_encH (by rw [List.length_map]; simp only [List.length_cons, List.length_nil]; omega) (by rw [List.length_map]; simp only [List.length_cons, List.length_nil]; omega) ?_
                  intro v6 w6 hr6 hE6 hg6 hb6
                  have hT : HsAt w6 v6 (os ++ [((m1, m2, m3), qs, .slice Av qs.length cv)]) := ⟨by rw [List.map_append]; exact hr6.sl, HARR.out w6 hE6⟩
                  have CK := Lib.hid (fun W (hW : Ext w6 W) => check_any (os ++ [((m1, m2, m3), qs, .slice Av qs.length cv)]) v6 W (hT.ext hW) HALL.out (by rw [List.length_append, List.length_singleton]; omega))
                  obtain ⟨A6, c6, e6, -, -⟩ := hr6.form
                  rw [show (os.map encH ++ [encH ((m1, m2, m3), qs, .slice Av qs.length cv)]).length = os.length + 1 by simp] at e6
                  subst e6
                  clear hr6 hg6 hb6 hT
                  refine hK.out _ _ ?_ (fun hHeld => ?_)
                  · first | assumption | exact KB.out _ (by (repeat (first | assumption | exact Ext.refl _ | apply Ext.alloc | apply Ext.drew | apply Ext.drewN)); first | done | fail)
                  clear hK K
                  try simp only [Act.put, List.setIfInBounds_toArray, List.set_cons_zero, List.set_cons_succ]
                  refine wpAnyH_ready (rs := [6]) (by kernel_rfl) (by simp) (AllReadyH.cons (oper_at rfl) (fun K hK => ?_) AllReadyH.nil)
                  go_simp
                  go_at_call 42
                  refine (CK.out _ (by (repeat (first | assumption | exact Ext.refl _ | apply Ext.alloc | apply Ext.drew | apply Ext.drewN)); first | done | fail)).mono ?_
                  rintro e7 w7 ⟨rr, rfl, hrr, hE67⟩
                  have hE7 : Ext wr w7 := hE6.trans (Ext.trans (by (repeat (first | assumption | exact Ext.refl _ | apply Ext.alloc | apply Ext.drew | apply Ext.drewN)); first | done | fail) hE67)
                  have HRR := Lib.hid hrr
                  clear hrr CK
                  refine hK.out _ _ ?_ (fun hHeld => ?_)
                  · first | assumption | exact KB.out _ (by (repeat (first | assumption | exact Ext.refl _ | apply Ext.alloc | apply Ext.drew | apply Ext.drewN)); first | done | fail)
                  clear hK K
                  try simp only [Act.put, List.setIfInBounds_toArray, List.set_cons_zero, List.set_cons_succ]
                  refine wpAnyH_take (i := 7) (v := ?_) (oper_at rfl) (by kernel_rfl) (by kernel_rfl) (by kernel_rfl) (fun _ _ _ h => h) (Or.inl ⟨by rfl, ?_⟩) hHeld ?_
                  rotate_left
                  · (intro ww hSw; (try dsimp only at hSw); go_simp; try (with_reducible rfl))
                  try simp only [Act.put, List.setIfInBounds_toArray, List.set_cons_zero, List.set_cons_succ]
                  refine wpAnyH_done (by kernel_rfl) ?_ _
                  refine NoPanic.normal ?_
                  have HRR2 := HRR.out
                  rcases HRR2 with ⟨rfl, hdd⟩ | ⟨rfl, hdd⟩
                  · have HDD := Lib.hid hdd
                    clear hdd HRR
                    go_wp2_with (at_builtin; refine wapp el23 rfl (.tmp 101) (.tmp 103) rfl (w5 := w) (vs := os.map encH) (us := [encH ((m1, m2, m3), qs, .slice Av qs.length cv)]) rfl ((HX.out.trans (HC.out.ext.trans hE7)).alloc _) (HO.out.row.ext ((HC.out.ext.trans hE7).alloc _)) rfl rfl (Wide.one rfl) (vs1 _ _ _) one_encH (by rw [List.length_map]; simp only [List.length_cons, List.length_nil]; omega) (by rw [List.length_map]; simp only [List.length_cons, List.length_nil]; omega) ?_; intro v8 w8 hr8 hE8 hg8 hb8; obtain ⟨hO8, -⟩ := HO.out.app (m := (m1, m2, m3)) (qs := qs) (av := .slice Av qs.length cv) (B0 := w.heap.size) ((HC.out.ext.trans hE7).alloc _) hwo (HQ3.out.ext (hE7.alloc _)) (fun j hj => (HQ1.out j hj).ext (hE7.alloc _)) hr8 hg8 hb8; have HO8 := Lib.hid hO8; clear hr8 hg8 hb8 hO8)
                    exact ⟨⟨k + 1, os ++ [((m1, m2, m3), qs, .slice Av qs.length cv)], by omega, by omega, by go_num, HO8.out, HALL.out, HDD.out, by rw [List.length_append, List.length_singleton]; omega, hsF_add HPL.out HKC.out HNP.out HDD.out, hE8⟩, by simp [intOf]; omega⟩
                  · have HDD := Lib.hid hdd
                    clear hdd HRR
                    go_wp2_with fail
                    exact ⟨⟨k + 1, os, by omega, by omega, by go_num, HO.out.ext (HC.out.ext.trans hE7), HOK.out, HD.out, by omega, hsF_skip HPL.out HKC.out HNP.out HD.out HDD.out, HX.out.trans (HC.out.ext.trans hE7)⟩, by simp [intOf]; omega⟩
              · go_simp
                refine hK.out _ _ ?_ (fun hHeld => ?_)
                · first | assumption | exact KB.out _ (by (repeat (first | assumption | exact Ext.refl _ | apply Ext.alloc | apply Ext.drew | apply Ext.drewN)); first | done | fail)
                clear hK K
                try simp only [Act.put, List.setIfInBounds_toArray, List.set_cons_zero, List.set_cons_succ]
                refine wpAnyH_ready (rs := [0]) (by kernel_rfl) (by simp) (AllReadyH.cons (oper_at rfl) (fun K hK => ?_) AllReadyH.nil)
                go_simp
                refine hK.out _ _ ?_ (fun hHeld => ?_)
                · first | assumption | exact KB.out _ (by (repeat (first | assumption | exact Ext.refl _ | apply Ext.alloc | apply Ext.drew | apply Ext.drewN)); first | done | fail)
                clear hK K
                try simp only [Act.put, List.setIfInBounds_toArray, List.set_cons_zero, List.set_cons_succ]
                refine wpAnyH_ready (rs := [2]) (by kernel_rfl) (by simp) (AllReadyH.cons (oper_at rfl) (fun K hK => ?_) AllReadyH.nil)
                refine sapp el23 (by rfl) (.tmp 93) (.tmp 94) (by rfl) (w5 := wr) (v := (.slice (some ⟨wr.heap.size + 1, 0, none⟩) 0 0)) (vs := []) (us := os.map encH) (by rfl) (by (repeat (first | assumption | exact Ext.refl _ | apply Ext.alloc | apply Ext.drew | apply Ext.drewN)); first | done | fail) (by first | exact HR1.out.ext (by (repeat (first | assumption | exact Ext.refl _ | apply Ext.alloc | apply Ext.drew | apply Ext.drewN)); first | done | fail) | exact HR1b.out.ext (by (repeat (first | assumption | exact Ext.refl _ | apply Ext.alloc | apply Ext.drew | apply Ext.drewN)); first | done | fail)) (by rfl) (List.length_map _).symm HOW.out (HOV.out.ext (by (repeat (first | assumption | exact Ext.refl _ | apply Ext.alloc | apply Ext.drew | apply Ext.drewN)); first | done | fail)) HOO.out (by rw [List.length_map]; simp only [List.length_nil]; omega) (by rw [List.length_map]; simp only [List.length_nil]; omega) ?_
                intro v5 w5 hr5 hE5 hg5 hb5
                rw [List.nil_append] at hr5
                have HBX := Lib.hid (vs_kept (by first | exact HB1b.out.ext (by (repeat (first | assumption | exact Ext.refl _ | apply Ext.alloc | apply Ext.drew | apply Ext.drewN)); first | done | fail) | exact HB1.out.ext (by (repeat (first | assumption | exact Ext.refl _ | apply Ext.alloc | apply Ext.drew | apply Ext.drewN)); first | done | fail)) (hg5.block _ (by first | (simp; done) | (simp; omega)) (by simp [Value.ownBlock])) (Nat.lt_of_lt_of_le (by first | (simp; done) | (simp; omega)) hg5.size))
                obtain ⟨At, ct, et, -, -⟩ := hr5.form
                rw [List.length_map] at et
                subst et
                have HR5 := Lib.hid hr5
                clear hr5 hg5 hb5
                refine hK.out _ _ ?_ (fun hHeld => ?_)
                · first | assumption | exact KB.out _ (by (repeat (first | assumption | exact Ext.refl _ | apply Ext.alloc | apply Ext.drew | apply Ext.drewN)); first | done | fail)
                clear hK K
                try simp only [Act.put, List.setIfInBounds_toArray, List.set_cons_zero, List.set_cons_succ]
                refine wpAnyH_ready (rs := [5]) (by kernel_rfl) (by simp) (AllReadyH.cons (oper_at rfl) (fun K hK => ?_) AllReadyH.nil)
                refine sapp el23 (by rfl) (.tmp 95) (.tmp 97) (by rfl) (w5 := wr) (vs := os.map encH) (us := [encH ((m1, m2, m3), qs, .slice Av qs.length cv)]) (by rfl) (by (repeat (first | assumption | exact Ext.refl _ | apply Ext.alloc | apply Ext.drew | apply Ext.drewN)); first | done | fail) (HR5.out.ext (by (repeat (first | assumption | exact Ext.refl _ | apply Ext.alloc | apply Ext.drew | apply Ext.drewN)); first | done | fail)) (by rfl) rfl (Wide.one rfl) (by first | exact vs1 _ _ _ | exact (vs1 _ _ _).ext (by (repeat (first | assumption | exact Ext.refl _ | apply Ext.alloc | apply Ext.drew | apply Ext.drewN)); first | done | fail) | exact HBX.out.ext (by (repeat (first | assumption | exact Ext.refl _ | apply Ext.alloc | apply Ext.drew | apply Ext.drewN)); first | done | fail) | exact HBX.out) one_encH (by rw [List.length_map]; simp only [List.length_cons, List.length_nil]; omega) (by rw [List.length_map]; simp only [List.length_cons, List.length_nil]; omega) ?_
                intro v6 w6 hr6 hE6 hg6 hb6
                have hT : HsAt w6 v6 (os ++ [((m1, m2, m3), qs, .slice Av qs.length cv)]) := ⟨by rw [List.map_append]; exact hr6.sl, HARR.out w6 hE6⟩
                have CK := Lib.hid (fun W (hW : Ext w6 W) => check_any (os ++ [((m1, m2, m3), qs, .slice Av qs.length cv)]) v6 W (hT.ext hW) HALL.out (by rw [List.length_append, List.length_singleton]; omega))
                obtain ⟨A6, c6, e6, -, -⟩ := hr6.form
                rw [show (os.map encH ++ [encH ((m1, m2, m3), qs, .slice Av qs.length cv)]).length = os.length + 1 by simp] at e6
                subst e6
                clear hr6 hg6 hb6 hT
                refine hK.out _ _ ?_ (fun hHeld => ?_)
                · first | assumption | exact KB.out _ (by (repeat (first | assumption | exact Ext.refl _ | apply Ext.alloc | apply Ext.drew | apply Ext.drewN)); first | done | fail)
                clear hK K
                try simp only [Act.put, List.setIfInBounds_toArray, List.set_cons_zero, List.set_cons_succ]
                refine wpAnyH_ready (rs := [6]) (by kernel_rfl) (by simp) (AllReadyH.cons (oper_at rfl) (fun K hK => ?_) AllReadyH.nil)
                go_simp
                go_at_call 42
                refine (CK.out _ (by (repeat (first | assumption | exact Ext.refl _ | apply Ext.alloc | apply Ext.drew | apply Ext.drewN)); first | done | fail)).mono ?_
                rintro e7 w7 ⟨rr, rfl, hrr, hE67⟩
                have hE7 : Ext wr w7 := hE6.trans (Ext.trans (by (repeat (first | assumption | exact Ext.refl _ | apply Ext.alloc | apply Ext.drew | apply Ext.drewN)); first | done | fail) hE67)
                have HRR := Lib.hid hrr
                clear hrr CK
                refine hK.out _ _ ?_ (fun hHeld => ?_)
                · first | assumption | exact KB.out _ (by (repeat (first | assumption | exact Ext.refl _ | apply Ext.alloc | apply Ext.drew | apply Ext.drewN)); first | done | fail)
                clear hK K
                try simp only [Act.put, List.setIfInBounds_toArray, List.set_cons_zero, List.set_cons_succ]
                refine wpAnyH_take (i := 7) (v := ?_) (oper_at rfl) (by kernel_rfl) (by kernel_rfl) (by kernel_rfl) (fun _ _ _ h => h) (Or.inl ⟨by rfl, ?_⟩) hHeld ?_
                rotate_left
                · (intro ww hSw; (try dsimp only at hSw); go_simp; try (with_reducible rfl))
                try simp only [Act.put, List.setIfInBounds_toArray, List.set_cons_zero, List.set_cons_succ]
                refine wpAnyH_done (by kernel_rfl) ?_ _
                refine NoPanic.normal ?_
                have HRR2 := HRR.out
                rcases HRR2 with ⟨rfl, hdd⟩ | ⟨rfl, hdd⟩
                · have HDD := Lib.hid hdd
                  clear hdd HRR
                  go_wp2_with (at_builtin; refine wapp el23 rfl (.tmp 101) (.tmp 103) rfl (w5 := w) (vs := os.map encH) (us := [encH ((m1, m2, m3), qs, .slice Av qs.length cv)]) rfl ((HX.out.trans (HC.out.ext.trans hE7)).alloc _) (HO.out.row.ext ((HC.out.ext.trans hE7).alloc _)) rfl rfl (Wide.one rfl) (vs1 _ _ _) one_encH (by rw [List.length_map]; simp only [List.length_cons, List.length_nil]; omega) (by rw [List.length_map]; simp only [List.length_cons, List.length_nil]; omega) ?_; intro v8 w8 hr8 hE8 hg8 hb8; obtain ⟨hO8, -⟩ := HO.out.app (m := (m1, m2, m3)) (qs := qs) (av := .slice Av qs.length cv) (B0 := w.heap.size) ((HC.out.ext.trans hE7).alloc _) hwo (HQ3.out.ext (hE7.alloc _)) (fun j hj => (HQ1.out j hj).ext (hE7.alloc _)) hr8 hg8 hb8; have HO8 := Lib.hid hO8; clear hr8 hg8 hb8 hO8)
                  exact ⟨⟨k + 1, os ++ [((m1, m2, m3), qs, .slice Av qs.length cv)], by omega, by omega, by go_num, HO8.out, HALL.out, HDD.out, by rw [List.length_append, List.length_singleton]; omega, hsF_add HPL.out HKC.out HNP.out HDD.out, hE8⟩, by simp [intOf]; omega⟩
                · have HDD := Lib.hid hdd
                  clear hdd HRR
                  go_wp2_with fail
                  exact ⟨⟨k + 1, os, by omega, by omega, by go_num, HO.out.ext (HC.out.ext.trans hE7), HOK.out, HD.out, by omega, hsF_skip HPL.out HKC.out HNP.out HD.out HDD.out, HX.out.trans (HC.out.ext.trans hE7)⟩, by simp [intOf]; omega⟩
            · have hA' : ¬ (k' : Int) < ((js.length : Nat) : Int) := by omega
              go_upto_region 13 with fail
              have KB : Hid (∀ W, Ext wr W → (fun w' => Ext wr w' ∧ w'.cell? ⟨gc, 0, none⟩ = some (iV m1) ∧ w'.cell? ⟨gc, 1, none⟩ = some (iV m2) ∧ w'.cell? ⟨gc, 2, none⟩ = some (iV m3) ∧ w'.cell? ⟨gc, 3, none⟩ = some (.slice Av qs.length cv)) W) := Lib.hid (fun W h => ⟨h, h.cell q0, h.cell q1, h.cell q2, h.cell q3⟩)
              refine wp_region_noPanic ?_
              refine wp_region_held_drew (S := (fun w' => Ext wr w' ∧ w'.cell? ⟨gc, 0, none⟩ = some (iV m1) ∧ w'.cell? ⟨gc, 1, none⟩ = some (iV m2) ∧ w'.cell? ⟨gc, 2, none⟩ = some (iV m3) ∧ w'.cell? ⟨gc, 3, none⟩ = some (.slice Av qs.length cv))) (by kernel_rfl) ?_ (fun hHeld => ?_)
              · first | assumption | exact KB.out _ (by (repeat (first | assumption | exact Ext.refl _ | apply Ext.alloc | apply Ext.drew | apply Ext.drewN)); first | done | fail)
              refine wpAnyH_take (i := 1) (v := ?_) (oper_at rfl) (by kernel_rfl) (by kernel_rfl) (by kernel_rfl) (fun _ _ _ h => h) (Or.inl ⟨by rfl, ?_⟩) hHeld ?_
              rotate_left
              · (intro ww hSw; (try dsimp only at hSw); go_simp; try (with_reducible rfl))
              try simp only [Act.put, List.setIfInBounds_toArray, List.set_cons_zero, List.set_cons_succ]
              refine wpAnyH_take (i := 3) (v := ?_) (oper_at rfl) (by kernel_rfl) (by kernel_rfl) (by kernel_rfl) (fun _ _ _ h => h) (Or.inl ⟨by rfl, ?_⟩) hHeld ?_
              rotate_left
              · (intro ww hSw; (try dsimp only at hSw); go_simp; try (with_reducible rfl))
              try simp only [Act.put, List.setIfInBounds_toArray, List.set_cons_zero, List.set_cons_succ]
              refine wpAnyH_ready (rs := [0, 4]) (by kernel_rfl) (by simp) (AllReadyH.cons (oper_at rfl) (fun K hK => ?_) (AllReadyH.cons (oper_at rfl) (fun K hK => ?_) AllReadyH.nil))
              · go_simp
                refine hK.out _ _ ?_ (fun hHeld => ?_)
                · first | assumption | exact KB.out _ (by (repeat (first | assumption | exact Ext.refl _ | apply Ext.alloc | apply Ext.drew | apply Ext.drewN)); first | done | fail)
                clear hK K
                try simp only [Act.put, List.setIfInBounds_toArray, List.set_cons_zero, List.set_cons_succ]
                refine wpAnyH_ready (rs := [2, 4]) (by kernel_rfl) (by simp) (AllReadyH.cons (oper_at rfl) (fun K hK => ?_) (AllReadyH.cons (oper_at rfl) (fun K hK => ?_) AllReadyH.nil))
                · refine sapp el23 (by rfl) (.tmp 93) (.tmp 94) (by rfl) (w5 := wr) (v := (.slice (some ⟨wr.heap.size, 0, none⟩) 0 0)) (vs := []) (us := os.map encH) (by rfl) (by (repeat (first | assumption | exact Ext.refl _ | apply Ext.alloc | apply Ext.drew | apply Ext.drewN)); first | done | fail) (by first | exact HR0.out.ext (by (repeat (first | assumption | exact Ext.refl _ | apply Ext.alloc | apply Ext.drew | apply Ext.drewN)); first | done | fail) | exact HR0b.out.ext (by (repeat (first | assumption | exact Ext.refl _ | apply Ext.alloc | apply Ext.drew | apply Ext.drewN)); first | done | fail)) (by rfl) (List.length_map _).symm HOW.out (HOV.out.ext (by (repeat (first | assumption | exact Ext.refl _ | apply Ext.alloc | apply Ext.drew | apply Ext.drewN)); first | done | fail)) HOO.out (by rw [List.length_map]; simp only [List.length_nil]; omega) (by rw [List.length_map]; simp only [List.length_nil]; omega) ?_
                  intro v5 w5 hr5 hE5 hg5 hb5
                  rw [List.nil_append] at hr5
                  obtain ⟨At, ct, et, -, -⟩ := hr5.form
                  rw [List.length_map] at et
                  subst et
                  have HR5 := Lib.hid hr5
                  clear hr5 hg5 hb5
                  refine hK.out _ _ ?_ (fun hHeld => ?_)
                  · first | assumption | exact KB.out _ (by (repeat (first | assumption | exact Ext.refl _ | apply Ext.alloc | apply Ext.drew | apply Ext.drewN)); first | done | fail)
                  clear hK K
                  try simp only [Act.put, List.setIfInBounds_toArray, List.set_cons_zero, List.set_cons_succ]
                  refine wpAnyH_ready (rs := [4]) (by kernel_rfl) (by simp) (AllReadyH.cons (oper_at rfl) (fun K hK => ?_) AllReadyH.nil)
                  go_simp
                  refine hK.out _ _ ?_ (fun hHeld => ?_)
                  · first | assumption | exact KB.out _ (by (repeat (first | assumption | exact Ext.refl _ | apply Ext.alloc | apply Ext.drew | apply Ext.drewN)); first | done | fail)
                  clear hK K
                  try simp only [Act.put, List.setIfInBounds_toArray, List.set_cons_zero, List.set_cons_succ]
                  refine wpAnyH_ready (rs := [5]) (by kernel_rfl) (by simp) (AllReadyH.cons (oper_at rfl) (fun K hK => ?_) AllReadyH.nil)
                  refine sapp el23 (by rfl) (.tmp 95) (.tmp 97) (by rfl) (w5 := wr) (vs := os.map encH) (us := [encH ((m1, m2, m3), qs, .slice Av qs.length cv)]) (by rfl) (by (repeat (first | assumption | exact Ext.refl _ | apply Ext.alloc | apply Ext.drew | apply Ext.drewN)); first | done | fail) (HR5.out.ext (by (repeat (first | assumption | exact Ext.refl _ | apply Ext.alloc | apply Ext.drew | apply Ext.drewN)); first | done | fail)) (by rfl) rfl (Wide.one rfl) (by first | exact vs1 _ _ _ | exact (vs1 _ _ _).ext (by (repeat (first | assumption | exact Ext.refl _ | apply Ext.alloc | apply Ext.drew | apply Ext.drewN)); first | done | fail) | exact HBX.out.ext (by (repeat (first | assumption | exact Ext.refl _ | apply Ext.alloc | apply Ext.drew | apply Ext.drewN)); first | done | fail) | exact HBX.out) one_encH (by rw [List.length_map]; simp only [List.length_cons, List.length_nil]; omega) (by rw [List.length_map]; simp only [List.length_cons, List.length_nil]; omega) ?_
                  intro v6 w6 hr6 hE6 hg6 hb6
                  have hT : HsAt w6 v6 (os ++ [((m1, m2, m3), qs, .slice Av qs.length cv)]) := ⟨by rw [List.map_append]; exact hr6.sl, HARR.out w6 hE6⟩
                  have CK := Lib.hid (fun W (hW : Ext w6 W) => check_any (os ++ [((m1, m2, m3), qs, .slice Av qs.length cv)]) v6 W (hT.ext hW) HALL.out (by rw [List.length_append, List.length_singleton]; omega))
                  obtain ⟨A6, c6, e6, -, -⟩ := hr6.form
                  rw [show (os.map encH ++ [encH ((m1, m2, m3), qs, .slice Av qs.length cv)]).length = os.length + 1 by simp] at e6
                  subst e6
                  clear hr6 hg6 hb6 hT
                  refine hK.out _ _ ?_ (fun hHeld => ?_)
                  · first | assumption | exact KB.out _ (by (repeat (first | assumption | exact Ext.refl _ | apply Ext.alloc | apply Ext.drew | apply Ext.drewN)); first | done | fail)
                  clear hK K
                  try simp only [Act.put, List.setIfInBounds_toArray, List.set_cons_zero, List.set_cons_succ]
                  refine wpAnyH_ready (rs := [6]) (by kernel_rfl) (by simp) (AllReadyH.cons (oper_at rfl) (fun K hK => ?_) AllReadyH.nil)
                  go_simp
                  go_at_call 42
                  refine (CK.out _ (by (repeat (first | assumption | exact Ext.refl _ | apply Ext.alloc | apply Ext.drew | apply Ext.drewN)); first | done | fail)).mono ?_
                  rintro e7 w7 ⟨rr, rfl, hrr, hE67⟩
                  have hE7 : Ext wr w7 := hE6.trans (Ext.trans (by (repeat (first | assumption | exact Ext.refl _ | apply Ext.alloc | apply Ext.drew | apply Ext.drewN)); first | done | fail) hE67)
                  have HRR := Lib.hid hrr
                  clear hrr CK
                  refine hK.out _ _ ?_ (fun hHeld => ?_)
                  · first | assumption | exact KB.out _ (by (repeat (first | assumption | exact Ext.refl _ | apply Ext.alloc | apply Ext.drew | apply Ext.drewN)); first | done | fail)
                  clear hK K
                  try simp only [Act.put, List.setIfInBounds_toArray, List.set_cons_zero, List.set_cons_succ]
                  refine wpAnyH_take (i := 7) (v := ?_) (oper_at rfl) (by kernel_rfl) (by kernel_rfl) (by kernel_rfl) (fun _ _ _ h => h) (Or.inl ⟨by rfl, ?_⟩) hHeld ?_
                  rotate_left
                  · (intro ww hSw; (try dsimp only at hSw); go_simp; try (with_reducible rfl))
                  try simp only [Act.put, List.setIfInBounds_toArray, List.set_cons_zero, List.set_cons_succ]
                  refine wpAnyH_done (by kernel_rfl) ?_ _
                  refine NoPanic.normal ?_
                  have HRR2 := HRR.out
                  rcases HRR2 with ⟨rfl, hdd⟩ | ⟨rfl, hdd⟩
                  · have HDD := Lib.hid hdd
                    clear hdd HRR
                    go_wp2_with (at_builtin; refine wapp el23 rfl (.tmp 101) (.tmp 103) rfl (w5 := w) (vs := os.map encH) (us := [encH ((m1, m2, m3), qs, .slice Av qs.length cv)]) rfl ((HX.out.trans (HC.out.ext.trans hE7)).alloc _) (HO.out.row.ext ((HC.out.ext.trans hE7).alloc _)) rfl rfl (Wide.one rfl) (vs1 _ _ _) one_encH (by rw [List.length_map]; simp only [List.length_cons, List.length_nil]; omega) (by rw [List.length_map]; simp only [List.length_cons, List.length_nil]; omega) ?_; intro v8 w8 hr8 hE8 hg8 hb8; obtain ⟨hO8, -⟩ := HO.out.app (m := (m1, m2, m3)) (qs := qs) (av := .slice Av qs.length cv) (B0 := w.heap.size) ((HC.out.ext.trans hE7).alloc _) hwo (HQ3.out.ext (hE7.alloc _)) (fun j hj => (HQ1.out j hj).ext (hE7.alloc _)) hr8 hg8 hb8; have HO8 := Lib.hid hO8; clear hr8 hg8 hb8 hO8)
                    exact ⟨⟨k + 1, os ++ [((m1, m2, m3), qs, .slice Av qs.length cv)], by omega, by omega, by go_num, HO8.out, HALL.out, HDD.out, by rw [List.length_append, List.length_singleton]; omega, hsF_add HPL.out HKC.out HNP.out HDD.out, hE8⟩, by simp [intOf]; omega⟩
                  · have HDD := Lib.hid hdd
                    clear hdd HRR
                    go_wp2_with fail
                    exact ⟨⟨k + 1, os, by omega, by omega, by go_num, HO.out.ext (HC.out.ext.trans hE7), HOK.out, HD.out, by omega, hsF_skip HPL.out HKC.out HNP.out HD.out HDD.out, HX.out.trans (HC.out.ext.trans hE7)⟩, by simp [intOf]; omega⟩
                · go_simp
                  refine hK.out _ _ ?_ (fun hHeld => ?_)
                  · first | assumption | exact KB.out _ (by (repeat (first | assumption | exact Ext.refl _ | apply Ext.alloc | apply Ext.drew | apply Ext.drewN)); first | done | fail)
                  clear hK K
                  try simp only [Act.put, List.setIfInBounds_toArray, List.set_cons_zero, List.set_cons_succ]
                  refine wpAnyH_ready (rs := [2]) (by kernel_rfl) (by simp) (AllReadyH.cons (oper_at rfl) (fun K hK => ?_) AllReadyH.nil)
                  refine sapp el23 (by rfl) (.tmp 93) (.tmp 94) (by rfl) (w5 := wr) (v := (.slice (some ⟨wr.heap.size, 0, none⟩) 0 0)) (vs := []) (us := os.map encH) (by rfl) (by (repeat (first | assumption | exact Ext.refl _ | apply Ext.alloc | apply Ext.drew | apply Ext.drewN)); first | done | fail) (by first | exact HR0.out.ext (by (repeat (first | assumption | exact Ext.refl _ | apply Ext.alloc | apply Ext.drew | apply Ext.drewN)); first | done | fail) | exact HR0b.out.ext (by (repeat (first | assumption | exact Ext.refl _ | apply Ext.alloc | apply Ext.drew | apply Ext.drewN)); first | done | fail)) (by rfl) (List.length_map _).symm HOW.out (HOV.out.ext (by (repeat (first | assumption | exact Ext.refl _ | apply Ext.alloc | apply Ext.drew | apply Ext.drewN)); first | done | fail)) HOO.out (by rw [List.length_map]; simp only [List.length_nil]; omega) (by rw [List.length_map]; simp only [List.length_nil]; omega) ?_
                  intro v5 w5 hr5 hE5 hg5 hb5
                  rw [List.nil_append] at hr5
                  have HBX := Lib.hid (vs_kept (by first | exact HB0b.out.ext (by (repeat (first | assumption | exact Ext.refl _ | apply Ext.alloc | apply Ext.drew | apply Ext.drewN)); first | done | fail) | exact HB0.out.ext (by (repeat (first | assumption | exact Ext.refl _ | apply Ext.alloc | apply Ext.drew | apply Ext.drewN)); first | done | fail)) (hg5.block _ (by first | (simp; done) | (simp; omega)) (by simp [Value.ownBlock])) (Nat.lt_of_lt_of_le (by first | (simp; done) | (simp; omega)) hg5.size))
                  obtain ⟨At, ct, et, -, -⟩ := hr5.form
                  rw [List.length_map] at et
                  subst et
                  have HR5 := Lib.hid hr5
                  clear hr5 hg5 hb5
                  refine hK.out _ _ ?_ (fun hHeld => ?_)
                  · first | assumption | exact KB.out _ (by (repeat (first | assumption | exact Ext.refl _ | apply Ext.alloc | apply Ext.drew | apply Ext.drewN)); first | done | fail)
                  clear hK K
                  try simp only [Act.put, List.setIfInBounds_toArray, List.set_cons_zero, List.set_cons_succ]
                  refine wpAnyH_ready (rs := [5]) (by kernel_rfl) (by simp) (AllReadyH.cons (oper_at rfl) (fun K hK => ?_) AllReadyH.nil)
                  refine sapp el23 (by rfl) (.tmp 95) (.tmp 97) (by rfl) (w5 := wr) (vs := os.map encH) (us := [encH ((m1, m2, m3), qs, .slice Av qs.length cv)]) (by rfl) (by (repeat (first | assumption | exact Ext.refl _ | apply Ext.alloc | apply Ext.drew | apply Ext.drewN)); first | done | fail) (HR5.out.ext (by (repeat (first | assumption | exact Ext.refl _ | apply Ext.alloc | apply Ext.drew | apply Ext.drewN)); first | done | fail)) (by rfl) rfl (Wide.one rfl) (by first | exact vs1 _ _ _ | exact (vs1 _ _ _).ext (by (repeat (first | assumption | exact Ext.refl _ | apply Ext.alloc | apply Ext.drew | apply Ext.drewN)); first | done | fail) | exact HBX.out.ext (by (repeat (first | assumption | exact Ext.refl _ | apply Ext.alloc | apply Ext.drew | apply Ext.drewN)); first | done | fail) | exact HBX.out) one_encH (by rw [List.length_map]; simp only [List.length_cons, List.length_nil]; omega) (by rw [List.length_map]; simp only [List.length_cons, List.length_nil]; omega) ?_
                  intro v6 w6 hr6 hE6 hg6 hb6
                  have hT : HsAt w6 v6 (os ++ [((m1, m2, m3), qs, .slice Av qs.length cv)]) := ⟨by rw [List.map_append]; exact hr6.sl, HARR.out w6 hE6⟩
                  have CK := Lib.hid (fun W (hW : Ext w6 W) => check_any (os ++ [((m1, m2, m3), qs, .slice Av qs.length cv)]) v6 W (hT.ext hW) HALL.out (by rw [List.length_append, List.length_singleton]; omega))
                  obtain ⟨A6, c6, e6, -, -⟩ := hr6.form
                  rw [show (os.map encH ++ [encH ((m1, m2, m3), qs, .slice Av qs.length cv)]).length = os.length + 1 by simp] at e6
                  subst e6
                  clear hr6 hg6 hb6 hT
                  refine hK.out _ _ ?_ (fun hHeld => ?_)
                  · first | assumption | exact KB.out _ (by (repeat (first | assumption | exact Ext.refl _ | apply Ext.alloc | apply Ext.drew | apply Ext.drewN)); first | done | fail)
                  clear hK K
                  try simp only [Act.put, List.setIfInBounds_toArray, List.set_cons_zero, List.set_cons_succ]
                  refine wpAnyH_ready (rs := [6]) (by kernel_rfl) (by simp) (AllReadyH.cons (oper_at rfl) (fun K hK => ?_) AllReadyH.nil)
                  go_simp
                  go_at_call 42
                  refine (CK.out _ (by (repeat (first | assumption | exact Ext.refl _ | apply Ext.alloc | apply Ext.drew | apply Ext.drewN)); first | done | fail)).mono ?_
                  rintro e7 w7 ⟨rr, rfl, hrr, hE67⟩
                  have hE7 : Ext wr w7 := hE6.trans (Ext.trans (by (repeat (first | assumption | exact Ext.refl _ | apply Ext.alloc | apply Ext.drew | apply Ext.drewN)); first | done | fail) hE67)
                  have HRR := Lib.hid hrr
                  clear hrr CK
                  refine hK.out _ _ ?_ (fun hHeld => ?_)
                  · first | assumption | exact KB.out _ (by (repeat (first | assumption | exact Ext.refl _ | apply Ext.alloc | apply Ext.drew | apply Ext.drewN)); first | done | fail)
                  clear hK K
                  try simp only [Act.put, List.setIfInBounds_toArray, List.set_cons_zero, List.set_cons_succ]
                  refine wpAnyH_take (i := 7) (v := ?_) (oper_at rfl) (by kernel_rfl) (by kernel_rfl) (by kernel_rfl) (fun _ _ _ h => h) (Or.inl ⟨by rfl, ?_⟩) hHeld ?_
                  rotate_left
                  · (intro ww hSw; (try dsimp only at hSw); go_simp; try (with_reducible rfl))
                  try simp only [Act.put, List.setIfInBounds_toArray, List.set_cons_zero, List.set_cons_succ]
                  refine wpAnyH_done (by kernel_rfl) ?_ _
                  refine NoPanic.normal ?_
                  have HRR2 := HRR.out
                  rcases HRR2 with ⟨rfl, hdd⟩ | ⟨rfl, hdd⟩
                  · have HDD := Lib.hid hdd
                    clear hdd HRR
                    go_wp2_with (at_builtin; refine wapp el23 rfl (.tmp 101) (.tmp 103) rfl (w5 := w) (vs := os.map encH) (us := [encH ((m1, m2, m3), qs, .slice Av qs.length cv)]) rfl ((HX.out.trans (HC.out.ext.trans hE7)).alloc _) (HO.out.row.ext ((HC.out.ext.trans hE7).alloc _)) rfl rfl (Wide.one rfl) (vs1 _ _ _) one_encH (by rw [List.length_map]; simp only [List.length_cons, List.length_nil]; omega) (by rw [List.length_map]; simp only [List.length_cons, List.length_nil]; omega) ?_; intro v8 w8 hr8 hE8 hg8 hb8; obtain ⟨hO8, -⟩ := HO.out.app (m := (m1, m2, m3)) (qs := qs) (av := .slice Av qs.length cv) (B0 := w.heap.size) ((HC.out.ext.trans hE7).alloc _) hwo (HQ3.out.ext (hE7.alloc _)) (fun j hj => (HQ1.out j hj).ext (hE7.alloc _)) hr8 hg8 hb8; have HO8 := Lib.hid hO8; clear hr8 hg8 hb8 hO8)
                    exact ⟨⟨k + 1, os ++ [((m1, m2, m3), qs, .slice Av qs.length cv)], by omega, by omega, by go_num, HO8.out, HALL.out, HDD.out, by rw [List.length_append, List.length_singleton]; omega, hsF_add HPL.out HKC.out HNP.out HDD.out, hE8⟩, by simp [intOf]; omega⟩
                  · have HDD := Lib.hid hdd
                    clear hdd HRR
                    go_wp2_with fail
                    exact ⟨⟨k + 1, os, by omega, by omega, by go_num, HO.out.ext (HC.out.ext.trans hE7), HOK.out, HD.out, by omega, hsF_skip HPL.out HKC.out HNP.out HD.out HDD.out, HX.out.trans (HC.out.ext.trans hE7)⟩, by simp [intOf]; omega⟩
              · go_simp
                refine hK.out _ _ ?_ (fun hHeld => ?_)
                · first | assumption | exact KB.out _ (by (repeat (first | assumption | exact Ext.refl _ | apply Ext.alloc | apply Ext.drew | apply Ext.drewN)); first | done | fail)
                clear hK K
                try simp only [Act.put, List.setIfInBounds_toArray, List.set_cons_zero, List.set_cons_succ]
                refine wpAnyH_ready (rs := [0]) (by kernel_rfl) (by simp) (AllReadyH.cons (oper_at rfl) (fun K hK => ?_) AllReadyH.nil)
                go_simp
                refine hK.out _ _ ?_ (fun hHeld => ?_)
                · first | assumption | exact KB.out _ (by (repeat (first | assumption | exact Ext.refl _ | apply Ext.alloc | apply Ext.drew | apply Ext.drewN)); first | done | fail)
                clear hK K
                try simp only [Act.put, List.setIfInBounds_toArray, List.set_cons_zero, List.set_cons_succ]
                refine wpAnyH_ready (rs := [2]) (by kernel_rfl) (by simp) (AllReadyH.cons (oper_at rfl) (fun K hK => ?_) AllReadyH.nil)
                refine sapp el23 (by rfl) (.tmp 93) (.tmp 94) (by rfl) (w5 := wr) (v := (.slice (some ⟨wr.heap.size + 1, 0, none⟩) 0 0)) (vs := []) (us := os.map encH) (by rfl) (by (repeat (first | assumption | exact Ext.refl _ | apply Ext.alloc | apply Ext.drew | apply Ext.drewN)); first | done | fail) (by first | exact HR1.out.ext (by (repeat (first | assumption | exact Ext.refl _ | apply Ext.alloc | apply Ext.drew | apply Ext.drewN)); first | done | fail) | exact HR1b.out.ext (by (repeat (first | assumption | exact Ext.refl _ | apply Ext.alloc | apply Ext.drew | apply Ext.drewN)); first | done | fail)) (by rfl) (List.length_map _).symm HOW.out (HOV.out.ext (by (repeat (first | assumption | exact Ext.refl _ | apply Ext.alloc | apply Ext.drew | apply Ext.drewN)); first | done | fail)) HOO.out (by rw [List.length_map]; simp only [List.length_nil]; omega) (by rw [List.length_map]; simp only [List.length_nil]; omega) ?_
                intro v5 w5 hr5 hE5 hg5 hb5
                rw [List.nil_append] at hr5
                have HBX := Lib.hid (vs_kept (by first | exact HB1b.out.ext (by (repeat (first | assumption | exact Ext.refl _ | apply Ext.alloc | apply Ext.drew | apply Ext.drewN)); first | done | fail) | exact HB1.out.ext (by (repeat (first | assumption | exact Ext.refl _ | apply Ext.alloc | apply Ext.drew | apply Ext.drewN)); first | done | fail)) (hg5.block _ (by first | (simp; done) | (simp; omega)) (by simp [Value.ownBlock])) (Nat.lt_of_lt_of_le (by first | (simp; done) | (simp; omega)) hg5.size))
                obtain ⟨At, ct, et, -, -⟩ := hr5.form
                rw [List.length_map] at et
                subst et
                have HR5 := Lib.hid hr5
                clear hr5 hg5 hb5
                refine hK.out _ _ ?_ (fun hHeld => ?_)
                · first | assumption | exact KB.out _ (by (repeat (first | assumption | exact Ext.refl _ | apply Ext.alloc | apply Ext.drew | apply Ext.drewN)); first | done | fail)
                clear hK K
                try simp only [Act.put, List.setIfInBounds_toArray, List.set_cons_zero, List.set_cons_succ]
                refine wpAnyH_ready (rs := [5]) (by kernel_rfl) (by simp) (AllReadyH.cons (oper_at rfl) (fun K hK => ?_) AllReadyH.nil)
                refine sapp el23 (by rfl) (.tmp 95) (.tmp 97) (by rfl) (w5 := wr) (vs := os.map encH) (us := [encH ((m1, m2, m3), qs, .slice Av qs.length cv)]) (by rfl) (by (repeat (first | assumption | exact Ext.refl _ | apply Ext.alloc | apply Ext.drew | apply Ext.drewN)); first | done | fail) (HR5.out.ext (by (repeat (first | assumption | exact Ext.refl _ | apply Ext.alloc | apply Ext.drew | apply Ext.drewN)); first | done | fail)) (by rfl) rfl (Wide.one rfl) (by first | exact vs1 _ _ _ | exact (vs1 _ _ _).ext (by (repeat (first | assumption | exact Ext.refl _ | apply Ext.alloc | apply Ext.drew | apply Ext.drewN)); first | done | fail) | exact HBX.out.ext (by (repeat (first | assumption | exact Ext.refl _ | apply Ext.alloc | apply Ext.drew | apply Ext.drewN)); first | done | fail) | exact HBX.out) one_encH (by rw [List.length_map]; simp only [List.length_cons, List.length_nil]; omega) (by rw [List.length_map]; simp only [List.length_cons, List.length_nil]; omega) ?_
                intro v6 w6 hr6 hE6 hg6 hb6
                have hT : HsAt w6 v6 (os ++ [((m1, m2, m3), qs, .slice Av qs.length cv)]) := ⟨by rw [List.map_append]; exact hr6.sl, HARR.out w6 hE6⟩
                have CK := Lib.hid (fun W (hW : Ext w6 W) => check_any (os ++ [((m1, m2, m3), qs, .slice Av qs.length cv)]) v6 W (hT.ext hW) HALL.out (by rw [List.length_append, List.length_singleton]; omega))
                obtain ⟨A6, c6, e6, -, -⟩ := hr6.form
                rw [show (os.map encH ++ [encH ((m1, m2, m3), qs, .slice Av qs.length cv)]).length = os.length + 1 by simp] at e6
                subst e6
                clear hr6 hg6 hb6 hT
                refine hK.out _ _ ?_ (fun hHeld => ?_)
                · first | assumption | exact KB.out _ (by (repeat (first | assumption | exact Ext.refl _ | apply Ext.alloc | apply Ext.drew | apply Ext.drewN)); first | done | fail)
                clear hK K
                try simp only [Act.put, List.setIfInBounds_toArray, List.set_cons_zero, List.set_cons_succ]
                refine wpAnyH_ready (rs := [6]) (by kernel_rfl) (by simp) (AllReadyH.cons (oper_at rfl) (fun K hK => ?_) AllReadyH.nil)
                go_simp
                go_at_call 42
                refine (CK.out _ (by (repeat (first | assumption | exact Ext.refl _ | apply Ext.alloc | apply Ext.drew | apply Ext.drewN)); first | done | fail)).mono ?_
                rintro e7 w7 ⟨rr, rfl, hrr, hE67⟩
                have hE7 : Ext wr w7 := hE6.trans (Ext.trans (by (repeat (first | assumption | exact Ext.refl _ | apply Ext.alloc | apply Ext.drew | apply Ext.drewN)); first | done | fail) hE67)
                have HRR := Lib.hid hrr
                clear hrr CK
                refine hK.out _ _ ?_ (fun hHeld => ?_)
                · first | assumption | exact KB.out _ (by (repeat (first | assumption | exact Ext.refl _ | apply Ext.alloc | apply Ext.drew | apply Ext.drewN)); first | done | fail)
                clear hK K
                try simp only [Act.put, List.setIfInBounds_toArray, List.set_cons_zero, List.set_cons_succ]
                refine wpAnyH_take (i := 7) (v := ?_) (oper_at rfl) (by kernel_rfl) (by kernel_rfl) (by kernel_rfl) (fun _ _ _ h => h) (Or.inl ⟨by rfl, ?_⟩) hHeld ?_
                rotate_left
                · (intro ww hSw; (try dsimp only at hSw); go_simp; try (with_reducible rfl))
                try simp only [Act.put, List.setIfInBounds_toArray, List.set_cons_zero, List.set_cons_succ]
                refine wpAnyH_done (by kernel_rfl) ?_ _
                refine NoPanic.normal ?_
                have HRR2 := HRR.out
                rcases HRR2 with ⟨rfl, hdd⟩ | ⟨rfl, hdd⟩
                · have HDD := Lib.hid hdd
                  clear hdd HRR
                  go_wp2_with (at_builtin; refine wapp el23 rfl (.tmp 101) (.tmp 103) rfl (w5 := w) (vs := os.map encH) (us := [encH ((m1, m2, m3), qs, .slice Av qs.length cv)]) rfl ((HX.out.trans (HC.out.ext.trans hE7)).alloc _) (HO.out.row.ext ((HC.out.ext.trans hE7).alloc _)) rfl rfl (Wide.one rfl) (vs1 _ _ _) one_encH (by rw [List.length_map]; simp only [List.length_cons, List.length_nil]; omega) (by rw [List.length_map]; simp only [List.length_cons, List.length_nil]; omega) ?_; intro v8 w8 hr8 hE8 hg8 hb8; obtain ⟨hO8, -⟩ := HO.out.app (m := (m1, m2, m3)) (qs := qs) (av := .slice Av qs.length cv) (B0 := w.heap.size) ((HC.out.ext.trans hE7).alloc _) hwo (HQ3.out.ext (hE7.alloc _)) (fun j hj => (HQ1.out j hj).ext (hE7.alloc _)) hr8 hg8 hb8; have HO8 := Lib.hid hO8; clear hr8 hg8 hb8 hO8)
                  exact ⟨⟨k + 1, os ++ [((m1, m2, m3), qs, .slice Av qs.length cv)], by omega, by omega, by go_num, HO8.out, HALL.out, HDD.out, by rw [List.length_append, List.length_singleton]; omega, hsF_add HPL.out HKC.out HNP.out HDD.out, hE8⟩, by simp [intOf]; omega⟩
                · have HDD := Lib.hid hdd
                  clear hdd HRR
                  go_wp2_with fail
                  exact ⟨⟨k + 1, os, by omega, by omega, by go_num, HO.out.ext (HC.out.ext.trans hE7), HOK.out, HD.out, by omega, hsF_skip HPL.out HKC.out HNP.out HD.out HDD.out, HX.out.trans (HC.out.ext.trans hE7)⟩, by simp [intOf]; omega⟩
    · by_cases h1 : k < rs.length
      · by_cases h2 : os.length < 4
        · obtain rfl : k = 20 := by omega
          have h1' : ((20 : Nat) : Int) < ((rs.length : Nat) : Int) := by omega
          have h2' : ((os.length : Nat) : Int) < 4 := by omega
          go_wp2_with fail
          go_ret
          exact ⟨_, os, rfl, HO.out, HOK.out, HD.out, by omega, hsF_stop HPL.out hk20 (by omega), HX.out⟩
        · have h1' : (k : Int) < ((rs.length : Nat) : Int) := by omega
          have h2' : ¬ ((os.length : Nat) : Int) < 4 := by omega
          go_wp2_with fail
          go_ret
          exact ⟨_, os, rfl, HO.out, HOK.out, HD.out, by omega, hsF_stop HPL.out hk20 (by omega), HX.out⟩
      · have h1' : ¬ (k : Int) < ((rs.length : Nat) : Int) := by omega
        go_wp2_with fail
        go_ret
        exact ⟨_, os, rfl, HO.out, HOK.out, HD.out, by omega, hsF_stop HPL.out hk20 (by omega), HX.out⟩
theorem holds28_any (rs : List Jh) (v : Value) (w : World) (hv : HsAt w v rs) : Calls Tryz.prog 15 #[v] w (RetHs rs.length w) :=
  (holds28_det rs v w hv).mono fun _ _ ⟨t, hs, h1, h2, h3, h4, h5, _, h6⟩ => ⟨t, hs, h1, h2, h3, h4, h5, h6⟩
end Go.Proofs.YtehmpbaiefbemaaGreat
