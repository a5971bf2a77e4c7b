/- The law's fields. -/
import Derived.Test.YtjedhndhdkiidaaDoorV18
namespace Go.Proofs.YtjedhndhdkiidaaDoor
open Go.RowKit
attribute [local go_sem ↓] Go.wp_at_zero Go.wp_at_succ
attribute [local go_sem] baSize baList
/-- An entry of the law's input. -/
structure Rw where
  nm : List UInt8
  vl : List UInt8
  sl : List UInt8
  pl : Bool
abbrev Rw0 : Rw := ⟨[], [], [], false⟩
def RwAt (w : World) (u : List Value) (r : Rw) : Prop := ∃ v s, u = [sV r.nm, v, s, .bool r.pl] ∧ SlB w v r.vl ∧ SlB w s r.sl
theorem RwAt.ext {w w' : World} {u : List Value} {r : Rw} (h : RwAt w u r) (k : Ext w w') : RwAt w' u r := by
  obtain ⟨v, s, e, h1, h2⟩ := h
  exact ⟨v, s, e, h1.ext k, h2.ext k⟩
/-- The law's input. -/
def RsAt (w : World) (v : Value) (rs : List Rw) : Prop := ∃ us, SlAt 4 w v us ∧ us.length = rs.length ∧ ∀ j, j < rs.length → RwAt w (us.getD j []) (rs.getD j Rw0)
theorem RsAt.ext {w w' : World} {v : Value} {rs : List Rw} (h : RsAt w v rs) (k : Ext w w') : RsAt w' v rs := by
  obtain ⟨us, h1, h2, h3⟩ := h
  exact ⟨us, h1.ext k, h2, fun j hj => (h3 j hj).ext k⟩
theorem RsAt.read {w : World} {v : Value} {rs : List Rw} (h : RsAt w v rs) : ∃ A c, v = .slice A rs.length c ∧ rs.length ≤ c ∧ c ≤ maxLen ∧ ∀ W, Ext w W → ∀ j, j < rs.length → ∃ (b o : Nat) (A1 : Option Addr) (c1 : Nat) (A2 : Option Addr) (c2 : Nat), A = some ⟨b, o, none⟩ ∧ b < W.heap.size ∧
    W.cell? ⟨b, o + j * 4, none⟩ = some (sV (rs.getD j Rw0).nm) ∧ W.cell? ⟨b, o + j * 4 + 1, none⟩ = some (.slice A1 (rs.getD j Rw0).vl.length c1) ∧ W.cell? ⟨b, o + j * 4 + 2, none⟩ = some (.slice A2 (rs.getD j Rw0).sl.length c2) ∧ W.cell? ⟨b, o + j * 4 + 3, none⟩ = some (.bool (rs.getD j Rw0).pl) ∧
    SlB w (.slice A1 (rs.getD j Rw0).vl.length c1) (rs.getD j Rw0).vl ∧ SlB w (.slice A2 (rs.getD j Rw0).sl.length c2) (rs.getD j Rw0).sl := by
  obtain ⟨us, h1, h2, h3⟩ := h
  obtain ⟨A, c, e, k1, k2, k3⟩ := h1.read
  refine ⟨A, c, by rw [e, h2], by omega, k2, fun W hW j hj => ?_⟩
  obtain ⟨b, o, e2, hb, hc⟩ := k3 W hW j (by omega) (by omega)
  obtain ⟨v, s, e3, h4, h5⟩ := h3 j hj
  rw [e3] at hc
  have k4 := h4
  have k5 := h5
  obtain ⟨A1, c1, rfl, -, -, -⟩ := h4
  obtain ⟨A2, c2, rfl, -, -, -⟩ := h5
  exact ⟨b, o, A1, c1, A2, c2, e2, hb, hc 0 _ (by omega) rfl, hc 1 _ (by omega) rfl, hc 2 _ (by omega) rfl, hc 3 _ (by omega) rfl, k4, k5⟩
/-- A plain name, a plain salt. -/
def nameF (i : Nat) : List UInt8 := [UInt8.ofNat (97 + i % 9), UInt8.ofNat (97 + i / 9)]
def saltF (s : List UInt8) (i : Nat) : List UInt8 := (List.range 16).map fun j => if j = 15 then UInt8.ofNat i else s.getD j 0
/-- A field of the law. -/
def fdOf (i : Nat) (r : Rw) : Fd := if r.pl = true then ⟨nameF i, r.vl.take 100, saltF r.sl i⟩ else ⟨r.nm.take 60, r.vl, r.sl⟩
/-- The first k fields. -/
def fsF (rs : List Rw) (k : Nat) : List Fd := (List.range k).map fun i => fdOf i (rs.getD i Rw0)
theorem fsF_succ (rs : List Rw) (k : Nat) : fsF rs (k + 1) = fsF rs k ++ [fdOf k (rs.getD k Rw0)] := by unfold fsF; rw [List.range_succ, List.map_append]; rfl
/-- Three cells. -/
def f3 (a b c : Value) : Nat → Value := fun i => if i = 0 then a else if i = 1 then b else c
theorem el24 : El 24 40 (.agg #[.string ⟨#[]⟩, .slice none 0 0, .slice none 0 0]) 3 64 := ⟨Tryd.underlying24, by kernel_rfl, rfl, by decide, by decide⟩
/-- Fields of one's own: values of the input, salts of the input or of one's own. -/
def PnAt (w0 w : World) (ps : List PF) : Prop := ∀ p ∈ ps, SlB w0 (.slice p.2.1.1 p.1.vl.length p.2.1.2) p.1.vl ∧ (SlB w0 (.slice p.2.2.1 p.1.sl.length p.2.2.2) p.1.sl ∨ SlN w w0.heap.size (.slice p.2.2.1 p.1.sl.length p.2.2.2) p.1.sl)
theorem PnAt.fp {w0 w : World} {ps : List PF} (h : PnAt w0 w ps) (k : Ext w0 w) : FpAt w ps := fun p hp => ⟨(h p hp).1.ext k, (h p hp).2.elim (fun h => h.ext k) fun h => h.sl⟩
theorem Row.apart {s s' : Nat} {w w' : World} {B B' e1 e2 : Nat} {v1 v2 : Value} {us us' : List (List Value)} (h1 : Row s w B e1 v1 us) (h2 : Row s' w B' e2 v2 us') (he : e1 ≠ e2) (hg : w.grownBy w' v1.ownBlock) : Row s' w' B' e2 v2 us' :=
  h2.kept fun k hk => hg.block k (h2.lt k hk).2 fun e => ((h1.ty k e.symm).ne (h2.ty k hk) he) rfl
theorem PnAt.grown {s : Nat} {w0 w w' : World} {B T : Nat} {t : Value} {us : List (List Value)} {ps : List PF} (h : PnAt w0 w ps) (hr : Row s w B T t us) (hT : T ≠ 5) (hg : w.grownBy w' t.ownBlock) : PnAt w0 w' ps := fun p hp => ⟨(h p hp).1, (h p hp).2.imp id fun h => h.grown hg hr.ty hT⟩
theorem PnAt.ext {w0 w w' : World} {ps : List PF} (h : PnAt w0 w ps) (k : Ext w w') : PnAt w0 w' ps := fun p hp => ⟨(h p hp).1, (h p hp).2.imp id fun h => h.ext k⟩
theorem baTake (l : List UInt8) (n : Nat) : (⟨l.toArray⟩ : ByteArray).extract 0 n = ⟨(l.take n).toArray⟩ := by
  apply ByteArray.ext
  simp [ByteArray.data_extract]
theorem nameCv (w : World) {k : Nat} (hk : k < 70) : (convert 38 9 (.slice (some ⟨w.heap.size, 0, none⟩) 2 2)).run Tryd.prog (w.alloc (.cells #[.int .u8 (97 + (k : Int) % 9), .int .u8 (97 + (k : Int) / 9)] 5)) = .ok (sV (nameF k)) (w.alloc (.cells #[.int .u8 (97 + (k : Int) % 9), .int .u8 (97 + (k : Int) / 9)] 5)) := by
  refine conv389 (xs := nameF k) ⟨_, 2, rfl, Nat.le_refl 2, by decide, bytes_of_cells (n := 2) rfl fun i hi => ?_⟩
  have h1 : ((UInt8.ofNat (97 + k % 9)).toNat : Int) = 97 + (k : Int) % 9 := by
    have : (UInt8.ofNat (97 + k % 9)).toNat = 97 + k % 9 := by simp; omega
    rw [this]; omega
  have h2 : ((UInt8.ofNat (97 + k / 9)).toNat : Int) = 97 + (k : Int) / 9 := by
    have : (UInt8.ofNat (97 + k / 9)).toNat = 97 + k / 9 := by simp; omega
    rw [this]; omega
  rw [Nat.zero_add]
  match i, hi with
  | 0, _ => rw [idF_at (b := UInt8.ofNat (97 + k % 9)) rfl, h1]; exact new_at _ _ _ 0 _ rfl
  | 1, _ => rw [idF_at (b := UInt8.ofNat (97 + k / 9)) rfl, h2]; exact new_at _ _ _ 1 _ rfl
theorem copy38_ok {w : World} {g : Nat} {f : Nat → Value} (hb : Bk w g 16 f) {A : Option Addr} {c : Nat} {xs : List UInt8} (hs : SlB w (.slice A xs.length c) xs) : ∃ n : Int, (Builtin.copy_ #[38, 38] 3 #[.slice (some ⟨g, 0, none⟩) 16 16, .slice A xs.length c]).run Tryd.prog w = .ok (iV n) (w.setCells g 0 (bytesV (xs.take 16))) := by
  obtain ⟨A', c', e, h1, h2, h3⟩ := hs
  rw [Value.slice.injEq] at e
  obtain ⟨rfl, -, rfl⟩ := e
  rcases Nat.eq_zero_or_pos xs.length with h0 | h0
  · have hx : xs = [] := List.eq_nil_of_length_eq_zero h0
    subst hx
    exact ⟨0, run_copy_none (P := Tryd.prog) w 38 38 3 5 _ _ _ _ _ _ Tryd.underlying38 (by kernel_rfl) rfl⟩
  · obtain ⟨ad, rfl, hl, hc⟩ := h3 h0
    have hn : (bytesV (xs.take 16)).length = Nat.min xs.length 16 := by rw [bytesV_length, List.length_take, Nat.min_comm]
    refine ⟨_, run_copy_cells (P := Tryd.prog) w 38 38 3 5 g 0 16 16 ad xs.length c (bytesV (xs.take 16)) Tryd.underlying38 (by kernel_rfl) hn (fun j v hj => ?_) (fun j hj => ?_) (fun j _ => hb.frozen _) (bytesV_plain _)⟩
    · rw [bytesV_get, List.getElem?_take] at hj
      split at hj
      · cases hq : xs[j]? with
        | none => rw [hq] at hj; cases hj
        | some b =>
          rw [hq] at hj
          cases hj
          exact hc j b hq
      · cases hj
    · rw [hn] at hj
      have : Nat.min xs.length 16 ≤ 16 := Nat.min_le_right _ _
      rw [hb.cell (k := 0 + j) (by omega)]
      rfl
theorem TyB.set {w : World} {T b : Nat} (h : TyB w T b) (a : Addr) (v : Value) : TyB (w.setCell a v) T b := by
  obtain ⟨cs, fr, e⟩ := h
  obtain ⟨g, o, sp⟩ := a
  by_cases hg : g = b
  · subst hg
    cases sp with
    | none => exact ⟨cs.setIfInBounds o v, fr, by simp [World.setCell, Array.getElem?_modify, e]⟩
    | some x => exact ⟨cs, fr, by simp [World.setCell, Array.getElem?_modify, e]⟩
  · exact ⟨cs, fr, by rw [Below.heap_setCell w ⟨g, o, sp⟩ v b (Ne.symm hg)]; exact e⟩
theorem TyB.setCells {w : World} {T b : Nat} (h : TyB w T b) (vs : List Value) (o : Nat) : TyB (w.setCells b o vs) T b := by
  obtain ⟨cs, fr, e⟩ := h
  obtain ⟨cs', e'⟩ := setCells_obj vs o e
  exact ⟨cs', fr, e'⟩
theorem saltF_len (s : List UInt8) (k : Nat) : (saltF s k).length = 16 := by unfold saltF; simp
theorem salt_cells {s : List UInt8} {k : Nat} (hk : k < 70) {i : Nat} (hi : i < 16) : upd (updR (fun _ => vU8 0) 0 (bytesV (s.take 16)).length fun j => (bytesV (s.take 16)).getD j undef) 15 (vU8 (k : Int)) i = idF (saltF s k) i := by
  have e : (saltF s k)[i]? = some (if i = 15 then UInt8.ofNat k else s.getD i 0) := by unfold saltF; rw [List.getElem?_map, List.getElem?_range hi]; rfl
  rw [idF_at e]
  unfold upd
  by_cases h : i = 15
  · rw [if_pos h, if_pos h]
    have : (UInt8.ofNat k).toNat = k := by simp; omega
    rw [this]
  · rw [if_neg h, if_neg h]
    unfold updR
    rw [bytesV_length, List.length_take]
    by_cases h2 : i < s.length
    · rw [if_pos ⟨by omega, by omega⟩]
      show (bytesV (List.take 16 s)).getD (i - 0) undef = _
      rw [Nat.sub_zero, List.getD_eq_getElem?_getD, bytesV_get, List.getElem?_take, if_pos hi, List.getElem?_eq_getElem h2, List.getD_eq_getElem?_getD, List.getElem?_eq_getElem h2]
      rfl
    · rw [if_neg (by omega), List.getD_eq_getElem?_getD, List.getElem?_eq_none (by omega)]
      rfl
/-- Two slices of fields. -/
def RetFF (fs : List Fd) (w : World) (e : Ending) (w' : World) : Prop := ∃ v u, e = .returned (.tuple #[v, u]) ∧ FsAt w' v fs ∧ FsAt w' u fs ∧ Ext w w'
set_option maxRecDepth 100000 in
set_option maxHeartbeats 4000000 in
theorem fields16_ok (rs : List Rw) (v : Value) (w : World) (h : RsAt w v rs) : Calls Tryd.prog 16 #[v] w (RetFF (fsF rs (min rs.length 70)) w) := by
  obtain ⟨A, c, rfl, h1, h2, h3⟩ := h.read
  have HR := Lib.hid h3
  have HL : Hid (rs.length ≤ 9223372036854775807) := Lib.hid (by unfold maxLen at h2; omega)
  clear h h3 h2 h1
  go_enter Tryd.func16, Tryd.ntmps16
  go_wp2_with fail
  go_loopw [4, 5, 6] (fun t u i wr => ∃ (k : Nat) (ps : List PF) (v1 v2 : Value), k ≤ rs.length ∧ k ≤ 70 ∧ i = iV (k : Int) ∧ t = v1 ∧ u = v2 ∧ ps.map (·.1) = fsF rs k ∧ Row 3 wr w.heap.size 40 v1 (ps.map encF) ∧ Row 3 wr w.heap.size 58 v2 (ps.map encF) ∧ PnAt w wr ps ∧ Ext w wr) (fun _ _ i _ => 70 - (intOf i).toNat)
  case atStart => exact ⟨0, [], nilV, nilV, by omega, by omega, rfl, rfl, rfl, rfl, Row.nil _ _ _ _, Row.nil _ _ _ _, (fun p hp => by cases hp), Ext.refl _⟩
  case round =>
    obtain ⟨k, ps, v1, v2, hk, hk7, rfl, rfl, rfl, hps, hr1, hr2, hpn, hX⟩ := hrel
    have HPS := Lib.hid hps
    have HR1 := Lib.hid hr1
    have HR2 := Lib.hid hr2
    have HPN := Lib.hid hpn
    have HX := Lib.hid hX
    have HPL : Hid (ps.length = k) := Lib.hid (by have := congrArg List.length hps; simpa [fsF] using this)
    clear hps hr1 hr2 hpn hX
    by_cases hlt : k < rs.length ∧ k < 70
    · obtain ⟨hlt, hlt7⟩ := hlt
      have q1 : (k : Int) < (rs.length : Int) := by omega
      have q0 : (0 : Int) ≤ (k : Int) := by omega
      have q7 : (k : Int) < 70 := by omega
      obtain ⟨b, o, A1, c1, A2, c2, rfl, hb, hn, hv, hs, hp, hsv, hss⟩ := HR.out wr HX.out k hlt
      obtain ⟨r, hr⟩ : ∃ r, rs.getD k Rw0 = r := ⟨_, rfl⟩
      rw [hr] at hn hv hs hp hsv hss
      have HRK := Lib.hid hr
      have HSV := Lib.hid hsv
      have HSS := Lib.hid hss
      have HN := Lib.hid hn
      have HV := Lib.hid hv
      have HS := Lib.hid hs
      have HPP := Lib.hid hp
      clear hr hsv hss
      go_upto_region 6 with fail
      have KB : Hid (∀ W, Ext wr W → (fun w' => Ext wr w' ∧ w'.cell? ⟨b, o + k * 4, none⟩ = some (sV r.nm) ∧ w'.cell? ⟨b, o + k * 4 + 1, none⟩ = some (.slice A1 r.vl.length c1) ∧ w'.cell? ⟨b, o + k * 4 + 2, none⟩ = some (.slice A2 r.sl.length c2)) W) := Lib.hid (fun W h => ⟨h, h.cell HN.out, h.cell HV.out, h.cell HS.out⟩)
      refine wp_region_noPanic ?_
      refine wp_region_X (S := (fun w' => Ext wr w' ∧ w'.cell? ⟨b, o + k * 4, none⟩ = some (sV r.nm) ∧ w'.cell? ⟨b, o + k * 4 + 1, none⟩ = some (.slice A1 r.vl.length c1) ∧ w'.cell? ⟨b, o + k * 4 + 2, none⟩ = some (.slice A2 r.sl.length c2))) (z := 17) (by kernel_rfl) ?_ (fun hHeld => ?_)
      · first | assumption | exact KB.out _ (by repeat (first | assumption | exact Ext.refl _ | apply Ext.alloc | apply Ext.drew | apply Ext.drewN))
      refine wpAnyX_take (i := 0) (v := ?_) (oper_at rfl) (by kernel_rfl) (by kernel_rfl) (by kernel_rfl) (by kernel_rfl) (fun _ _ _ h => h) (Or.inl ⟨by rfl, ?_⟩) hHeld ?_
      rotate_left
      · (intro ww hSw; (try dsimp only at hSw); go_simp; try (with_reducible rfl))
      try simp only [Act.put, List.setIfInBounds_toArray, List.set_cons_zero, List.set_cons_succ]
      refine wpAnyX_take (i := 1) (v := ?_) (oper_at rfl) (by kernel_rfl) (by kernel_rfl) (by kernel_rfl) (by kernel_rfl) (fun _ _ _ h => h) (Or.inl ⟨by rfl, ?_⟩) hHeld ?_
      rotate_left
      · (intro ww hSw; (try dsimp only at hSw); go_simp; try (with_reducible rfl))
      try simp only [Act.put, List.setIfInBounds_toArray, List.set_cons_zero, List.set_cons_succ]
      refine wpAnyX_take (i := 2) (v := ?_) (oper_at rfl) (by kernel_rfl) (by kernel_rfl) (by kernel_rfl) (by kernel_rfl) (fun _ _ _ h => h) (Or.inl ⟨by rfl, ?_⟩) hHeld ?_
      rotate_left
      · (intro ww hSw; (try dsimp only at hSw); go_simp; try (with_reducible rfl))
      try simp only [Act.put, List.setIfInBounds_toArray, List.set_cons_zero, List.set_cons_succ]
      refine wpAnyX_take (i := 3) (v := ?_) (oper_at rfl) (by kernel_rfl) (by kernel_rfl) (by kernel_rfl) (by kernel_rfl) (fun _ _ _ h => h) (Or.inl ⟨by rfl, ?_⟩) hHeld ?_
      rotate_left
      · (intro ww hSw; (try dsimp only at hSw); go_simp; try (with_reducible rfl))
      try simp only [Act.put, List.setIfInBounds_toArray, List.set_cons_zero, List.set_cons_succ]
      refine wpAnyX_take (i := 4) (v := ?_) (oper_at rfl) (by kernel_rfl) (by kernel_rfl) (by kernel_rfl) (by kernel_rfl) (fun _ _ _ h => h) (Or.inl ⟨by rfl, ?_⟩) hHeld ?_
      rotate_left
      · (intro ww hSw; (try dsimp only at hSw); go_simp; try (with_reducible rfl))
      try simp only [Act.put, List.setIfInBounds_toArray, List.set_cons_zero, List.set_cons_succ]
      refine wpAnyX_take (i := 5) (v := ?_) (oper_at rfl) (by kernel_rfl) (by kernel_rfl) (by kernel_rfl) (by kernel_rfl) (fun _ _ _ h => h) (Or.inl ⟨by rfl, ?_⟩) hHeld ?_
      rotate_left
      · (intro ww hSw; (try dsimp only at hSw); go_simp; try (with_reducible rfl))
      try simp only [Act.put, List.setIfInBounds_toArray, List.set_cons_zero, List.set_cons_succ]
      refine wpAnyX_take (i := 6) (v := ?_) (oper_at rfl) (by kernel_rfl) (by kernel_rfl) (by kernel_rfl) (by kernel_rfl) (fun _ _ _ h => h) (Or.inl ⟨by rfl, ?_⟩) hHeld ?_
      rotate_left
      · (intro ww hSw; (try dsimp only at hSw); go_simp; try (with_reducible rfl))
      try simp only [Act.put, List.setIfInBounds_toArray, List.set_cons_zero, List.set_cons_succ]
      refine wpAnyX_take (i := 7) (v := ?_) (oper_at rfl) (by kernel_rfl) (by kernel_rfl) (by kernel_rfl) (by kernel_rfl) (fun _ _ _ h => h) (Or.inl ⟨by rfl, ?_⟩) hHeld ?_
      rotate_left
      · (intro ww hSw; (try dsimp only at hSw); go_simp; try (with_reducible rfl))
      try simp only [Act.put, List.setIfInBounds_toArray, List.set_cons_zero, List.set_cons_succ]
      refine wpAnyX_take (i := 8) (v := ?_) (oper_at rfl) (by kernel_rfl) (by kernel_rfl) (by kernel_rfl) (by kernel_rfl) (fun _ _ _ h => h) (Or.inl ⟨by rfl, ?_⟩) hHeld ?_
      rotate_left
      · (intro ww hSw; (try dsimp only at hSw); go_simp; try (with_reducible rfl))
      try simp only [Act.put, List.setIfInBounds_toArray, List.set_cons_zero, List.set_cons_succ]
      refine wpAnyX_take (i := 9) (v := ?_) (oper_at rfl) (by kernel_rfl) (by kernel_rfl) (by kernel_rfl) (by kernel_rfl) (fun _ _ _ h => h) (Or.inl ⟨by rfl, ?_⟩) hHeld ?_
      rotate_left
      · (intro ww hSw; (try dsimp only at hSw); go_simp; try (with_reducible rfl))
      try simp only [Act.put, List.setIfInBounds_toArray, List.set_cons_zero, List.set_cons_succ]
      refine wpAnyX_take (i := 10) (v := ?_) (oper_at rfl) (by kernel_rfl) (by kernel_rfl) (by kernel_rfl) (by kernel_rfl) (fun _ _ _ h => h) (Or.inl ⟨by rfl, ?_⟩) hHeld ?_
      rotate_left
      · (intro ww hSw; (try dsimp only at hSw); go_simp; try (with_reducible rfl))
      try simp only [Act.put, List.setIfInBounds_toArray, List.set_cons_zero, List.set_cons_succ]
      refine wpAnyX_take (i := 11) (v := ?_) (oper_at rfl) (by kernel_rfl) (by kernel_rfl) (by kernel_rfl) (by kernel_rfl) (fun _ _ _ h => h) (Or.inl ⟨by rfl, ?_⟩) hHeld ?_
      rotate_left
      · (intro ww hSw; (try dsimp only at hSw); go_simp; try (with_reducible rfl))
      try simp only [Act.put, List.setIfInBounds_toArray, List.set_cons_zero, List.set_cons_succ]
      refine wpAnyX_take (i := 12) (v := ?_) (oper_at rfl) (by kernel_rfl) (by kernel_rfl) (by kernel_rfl) (by kernel_rfl) (fun _ _ _ h => h) (Or.inl ⟨by rfl, ?_⟩) hHeld ?_
      rotate_left
      · (intro ww hSw; (try dsimp only at hSw); go_simp; try (with_reducible rfl))
      try simp only [Act.put, List.setIfInBounds_toArray, List.set_cons_zero, List.set_cons_succ]
      refine wpAnyX_take (i := 13) (v := ?_) (oper_at rfl) (by kernel_rfl) (by kernel_rfl) (by kernel_rfl) (by kernel_rfl) (fun _ _ _ h => h) (Or.inl ⟨by rfl, ?_⟩) hHeld ?_
      rotate_left
      · (intro ww hSw; (try dsimp only at hSw); go_simp; try (with_reducible rfl))
      try simp only [Act.put, List.setIfInBounds_toArray, List.set_cons_zero, List.set_cons_succ]
      refine wpAnyX_take (i := 14) (v := ?_) (oper_at rfl) (by kernel_rfl) (by kernel_rfl) (by kernel_rfl) (by kernel_rfl) (fun _ _ _ h => h) (Or.inl ⟨by rfl, ?_⟩) hHeld ?_
      rotate_left
      · (intro ww hSw; (try dsimp only at hSw); go_simp; try (with_reducible rfl))
      try simp only [Act.put, List.setIfInBounds_toArray, List.set_cons_zero, List.set_cons_succ]
      refine wpAnyX_take (i := 15) (v := ?_) (oper_at rfl) (by kernel_rfl) (by kernel_rfl) (by kernel_rfl) (by kernel_rfl) (fun _ _ _ h => h) (Or.inl ⟨by rfl, ?_⟩) hHeld ?_
      rotate_left
      · (intro ww hSw; (try dsimp only at hSw); go_simp; try (with_reducible rfl))
      try simp only [Act.put, List.setIfInBounds_toArray, List.set_cons_zero, List.set_cons_succ]
      refine wpAnyX_ready (rs := [16]) (by kernel_rfl) (by simp) (AllReadyX.cons (by decide) (oper_at rfl) (fun K hK => ?_) AllReadyX.nil)
      go_simp
      refine hK.out _ _ ?_ (fun hHeld => ?_)
      · first | assumption | exact KB.out _ (by repeat (first | assumption | exact Ext.refl _ | apply Ext.alloc | apply Ext.drew | apply Ext.drewN))
      clear hK K
      try simp only [Act.put, List.setIfInBounds_toArray, List.set_cons_zero, List.set_cons_succ]
      refine wpAnyX_ready (rs := [17]) (by kernel_rfl) (by simp) (AllReadyX.last rfl (oper_at rfl) (fun K hK => ?_))
      go_simp
      refine hK.out _ _ ?_
      clear hK K
      try simp only [Act.put, List.setIfInBounds_toArray, List.set_cons_zero, List.set_cons_succ]
      refine wpAnyX_done (by kernel_rfl) ?_ _
      refine NoPanic.normal ?_
      generalize hw5 : World.drew _ = w5
      have HB5 : Hid (Bk w5 wr.heap.size 3 (f3 (sV r.nm) (.slice A1 r.vl.length c1) (.slice A2 r.sl.length c2))) := Lib.hid (by rw [← hw5]; exact Bk.drew ⟨by decide, by rw [blkOf_new]; exact arV_ext rfl (fun i hi => by match i, hi with | 0, _ => rfl | 1, _ => rfl | 2, _ => rfl)⟩)
      have HE5 : Hid (Ext wr w5) := Lib.hid (by rw [← hw5]; exact ((Ext.refl _).alloc _).drew)
      clear hw5 hn hv hs hp
      have a0 : w5.cell? ⟨wr.heap.size, 0, none⟩ = some (sV r.nm) := HB5.out.cell (by decide)
      have f0 := HB5.out.frozen 0
      by_cases hcut : 60 < r.nm.length
      · have q6 : (60 : Int) < (r.nm.length : Int) := by omega
        go_upto_region 9 with fail
        rw [baTake]
        generalize hw6 : w5.setCell ⟨wr.heap.size, 0, none⟩ _ = w6
        have HB6 : Hid (Bk w6 wr.heap.size 3 (f3 (sV (r.nm.take 60)) (.slice A1 r.vl.length c1) (.slice A2 r.sl.length c2))) := Lib.hid (by rw [← hw6]; exact (HB5.out.set 0 _).congr (fun i hi => by match i, hi with | 0, _ => rfl | 1, _ => rfl | 2, _ => rfl))
        have HE6 : Hid (Ext wr w6) := Lib.hid (by rw [← hw6]; exact HE5.out.set (Nat.le_refl _) _)
        clear hw6 a0 f0
        have p6 := HE6.out.cell HPP.out
        by_cases hpl : r.pl = true
        · rw [hpl] at p6
          have cv9 := nameCv w6 hlt7
          have n0 : w6.cell? ⟨wr.heap.size, 0, none⟩ = some (sV (r.nm.take 60)) := HB6.out.cell (by decide)
          have n0f := HB6.out.frozen 0
          have hz6 := HB6.out.lt
          go_upto_region 11 with fail
          generalize hw7 : World.alloc _ _ = w7
          have HB7 : Hid (Bk w7 wr.heap.size 3 (f3 (sV (nameF k)) (.slice A1 r.vl.length c1) (.slice A2 r.sl.length c2))) := Lib.hid (by rw [← hw7]; exact ((HB6.out.set 0 _).congr (fun i hi => by match i, hi with | 0, _ => rfl | 1, _ => rfl | 2, _ => rfl)).ext ((Ext.refl _).alloc _))
          have HE7 : Hid (Ext wr w7) := Lib.hid (by rw [← hw7]; exact (HE6.out.set (Nat.le_refl _) _).alloc _)
          clear hw7 cv9 n0 n0f hz6 p6
          have m16 : (Instr.makeSlice 38 (.int .i64 16) (.int .i64 16)).run Tryd.prog w7 = .ok (.slice (some ⟨w7.heap.size, 0, none⟩) 16 16) (w7.alloc (.cells (arV (fun _ => vU8 0) 16) 5)) := run_mk38 w7 16 16 (by decide) (by decide)
          have n2 : w7.cell? ⟨wr.heap.size, 2, none⟩ = some (.slice A2 r.sl.length c2) := HB7.out.cell (by decide)
          have n2f := HB7.out.frozen 2
          have hz7 := HB7.out.lt
          go_upto_region 12 with fail
          generalize hw8 : World.alloc _ _ = w8
          obtain ⟨s5, hs5⟩ : ∃ s5, w7.heap.size = s5 := ⟨_, rfl⟩
          rw [hs5] at hw8 ⊢
          have HB8 : Hid (Bk w8 wr.heap.size 3 (f3 (sV (nameF k)) (.slice A1 r.vl.length c1) (.slice (some ⟨s5, 0, none⟩) 16 16))) := Lib.hid (by rw [← hw8]; exact ((HB7.out.set 2 _).congr (fun i hi => by match i, hi with | 0, _ => rfl | 1, _ => rfl | 2, _ => rfl)).ext ((Ext.refl _).alloc _))
          have hsz : (w7.setCell ⟨wr.heap.size, 2, none⟩ (.slice (some ⟨s5, 0, none⟩) 16 16)).heap.size = s5 := by rw [← hs5]; simp
          have HS8 : Hid (Bk w8 s5 16 (fun _ => vU8 0)) := Lib.hid (by rw [← hw8]; have := Bk.new (w := w7.setCell ⟨wr.heap.size, 2, none⟩ (.slice (some ⟨s5, 0, none⟩) 16 16)) (n := 16) (T := 5) (f := fun _ => vU8 0) (by decide); rw [hsz] at this; exact this)
          have HT8 : Hid (TyB w8 5 s5) := Lib.hid (by rw [← hw8]; have := heap_alloc_new (w7.setCell ⟨wr.heap.size, 2, none⟩ (.slice (some ⟨s5, 0, none⟩) 16 16)) (.cells (arV (fun _ => vU8 0) 16) 5); rw [hsz] at this; exact ⟨_, _, this⟩)
          have HE8 : Hid (Ext wr w8) := Lib.hid (by rw [← hw8]; exact (HE7.out.set (Nat.le_refl _) _).alloc _)
          have hz8 : wr.heap.size < s5 := by rw [← hs5]; exact HB7.out.lt
          have hz8' : s5 < w8.heap.size := HS8.out.lt
          clear hw8 hs5 hsz n2 n2f hz7 m16
          have KB8 : Hid ((fun w' => w'.cell? ⟨wr.heap.size, 2, none⟩ = some (.slice (some ⟨s5, 0, none⟩) 16 16) ∧ w'.cell? ⟨b, o + k * 4 + 2, none⟩ = some (.slice A2 r.sl.length c2)) w8.drew) := Lib.hid ⟨HB8.out.drew.cell (k := 2) (by decide), (HE8.out.drew).cell HS.out⟩
          have KB9 : Hid ((fun w' => w'.cell? ⟨wr.heap.size, 2, none⟩ = some (.slice (some ⟨s5, 0, none⟩) 16 16) ∧ w'.cell? ⟨b, o + k * 4 + 2, none⟩ = some (.slice A2 r.sl.length c2)) (w8.drew.setCells s5 0 (bytesV (r.sl.take 16)))) := Lib.hid ⟨cell_far (by omega) KB8.out.1, cell_far (by omega) KB8.out.2⟩
          obtain ⟨cnd, cpd⟩ := copy38_ok HS8.out.drew (HSS.out.ext ((HX.out.trans HE8.out).drew))
          refine wp_region_noPanic ?_
          refine wp_region_held_drew (S := (fun w' => w'.cell? ⟨wr.heap.size, 2, none⟩ = some (.slice (some ⟨s5, 0, none⟩) 16 16) ∧ w'.cell? ⟨b, o + k * 4 + 2, none⟩ = some (.slice A2 r.sl.length c2))) (by kernel_rfl) ?_ (fun hHeld => ?_)
          · first | assumption | exact KB8.out | exact KB9.out
          refine wpAnyH_take (i := 0) (v := ?_) (oper_at rfl) (by kernel_rfl) (by kernel_rfl) (by kernel_rfl) (fun _ _ _ h => h) (Or.inl ⟨by rfl, ?_⟩) hHeld ?_
          rotate_left
          · (intro ww hSw; (try dsimp only at hSw); go_simp; try (with_reducible rfl))
          try simp only [Act.put, List.setIfInBounds_toArray, List.set_cons_zero, List.set_cons_succ]
          refine wpAnyH_take (i := 1) (v := ?_) (oper_at rfl) (by kernel_rfl) (by kernel_rfl) (by kernel_rfl) (fun _ _ _ h => h) (Or.inl ⟨by rfl, ?_⟩) hHeld ?_
          rotate_left
          · (intro ww hSw; (try dsimp only at hSw); go_simp; try (with_reducible rfl))
          try simp only [Act.put, List.setIfInBounds_toArray, List.set_cons_zero, List.set_cons_succ]
          refine wpAnyH_take (i := 2) (v := ?_) (oper_at rfl) (by kernel_rfl) (by kernel_rfl) (by kernel_rfl) (fun _ _ _ h => h) (Or.inl ⟨by rfl, ?_⟩) hHeld ?_
          rotate_left
          · (intro ww hSw; (try dsimp only at hSw); go_simp; try (with_reducible rfl))
          try simp only [Act.put, List.setIfInBounds_toArray, List.set_cons_zero, List.set_cons_succ]
          refine wpAnyH_take (i := 3) (v := ?_) (oper_at rfl) (by kernel_rfl) (by kernel_rfl) (by kernel_rfl) (fun _ _ _ h => h) (Or.inl ⟨by rfl, ?_⟩) hHeld ?_
          rotate_left
          · (intro ww hSw; (try dsimp only at hSw); go_simp; try (with_reducible rfl))
          try simp only [Act.put, List.setIfInBounds_toArray, List.set_cons_zero, List.set_cons_succ]
          refine wpAnyH_take (i := 4) (v := ?_) (oper_at rfl) (by kernel_rfl) (by kernel_rfl) (by kernel_rfl) (fun _ _ _ h => h) (Or.inl ⟨by rfl, ?_⟩) hHeld ?_
          rotate_left
          · (intro ww hSw; (try dsimp only at hSw); go_simp; try (with_reducible rfl))
          try simp only [Act.put, List.setIfInBounds_toArray, List.set_cons_zero, List.set_cons_succ]
          refine wpAnyH_take (i := 5) (v := ?_) (oper_at rfl) (by kernel_rfl) (by kernel_rfl) (by kernel_rfl) (fun _ _ _ h => h) (Or.inl ⟨by rfl, ?_⟩) hHeld ?_
          rotate_left
          · (intro ww hSw; (try dsimp only at hSw); go_simp; try (with_reducible rfl))
          try simp only [Act.put, List.setIfInBounds_toArray, List.set_cons_zero, List.set_cons_succ]
          refine wpAnyH_take (i := 6) (v := ?_) (oper_at rfl) (by kernel_rfl) (by kernel_rfl) (by kernel_rfl) (fun _ _ _ h => h) (Or.inl ⟨by rfl, ?_⟩) hHeld ?_
          rotate_left
          · (intro ww hSw; (try dsimp only at hSw); go_simp; try (with_reducible rfl))
          try simp only [Act.put, List.setIfInBounds_toArray, List.set_cons_zero, List.set_cons_succ]
          refine wpAnyH_ready (rs := [7]) (by kernel_rfl) (by simp) (AllReadyH.cons (oper_at rfl) (fun K hK => ?_) AllReadyH.nil)
          go_simp
          refine hK.out _ _ ?_ (fun hHeld => ?_)
          · first | assumption | exact KB8.out | exact KB9.out
          clear hK K
          try simp only [Act.put, List.setIfInBounds_toArray, List.set_cons_zero, List.set_cons_succ]
          refine wpAnyH_done (by kernel_rfl) ?_ _
          refine NoPanic.normal ?_
          generalize hw9 : World.setCells _ _ _ _ = w9
          have HB9 : Hid (Bk w9 wr.heap.size 3 (f3 (sV (nameF k)) (.slice A1 r.vl.length c1) (.slice (some ⟨s5, 0, none⟩) 16 16))) := Lib.hid (by rw [← hw9]; exact HB8.out.drew.kept (setCells_far (by omega) _ _ _))
          have HS9 := Lib.hid (HS8.out.drew.setCells (bytesV (r.sl.take 16)) 0)
          have HT9 : Hid (TyB w9 5 s5) := Lib.hid (by rw [← hw9]; exact (HT8.out.kept (w' := w8.drew) rfl).setCells _ _)
          have HE9 : Hid (Ext wr w9) := Lib.hid (by rw [← hw9]; exact Ext.setCells (by omega) _ _ HE8.out.drew)
          rw [hw9] at HS9
          clear hw9 cpd KB8 KB9 hz8'
          have n2 : w9.cell? ⟨wr.heap.size, 2, none⟩ = some (.slice (some ⟨s5, 0, none⟩) 16 16) := HB9.out.cell (by decide)
          have n15 := HS9.out.cell (k := 15) (by decide)
          have nf := HS9.out.frozen 15
          go_upto_region 14 with fail
          generalize hw10 : World.setCell _ _ _ = w10
          have HB10 : Hid (Bk w10 wr.heap.size 3 (f3 (sV (nameF k)) (.slice A1 r.vl.length c1) (.slice (some ⟨s5, 0, none⟩) 16 16))) := Lib.hid (by rw [← hw10]; exact HB9.out.far (by show s5 ≠ wr.heap.size; omega) _)
          have HS10 : Hid (Bk w10 s5 16 (idF (saltF r.sl k))) := Lib.hid (by rw [← hw10]; exact (HS9.out.set 15 _).congr (fun i hi => salt_cells hlt7 hi))
          have HT10 : Hid (TyB w10 5 s5) := Lib.hid (by rw [← hw10]; exact HT9.out.set _ _)
          have HE10 : Hid (Ext wr w10) := Lib.hid (by rw [← hw10]; exact HE9.out.set (by show wr.heap.size ≤ s5; omega) _)
          clear hw10 n2 n15 nf
          have n1 : w10.cell? ⟨wr.heap.size, 1, none⟩ = some (.slice A1 r.vl.length c1) := HB10.out.cell (by decide)
          have n1f := HB10.out.frozen 1
          have hvc : r.vl.length ≤ c1 := by obtain ⟨A', c', e, k1, -, -⟩ := HSV.out; cases e; exact k1
          go_upto_region 15 with fail
          have emin : (min (r.vl.length : Int) 100).toNat = (r.vl.take 100).length := by rw [List.length_take]; omega
          rw [emin]
          generalize hw11 : World.setCell _ _ _ = w11
          obtain ⟨fd, hfd⟩ : ∃ fd : Fd, fdOf k r = fd := ⟨_, rfl⟩
          have HFD := Lib.hid hfd
          have e0 : fd = ⟨nameF k, r.vl.take 100, saltF r.sl k⟩ := by rw [← hfd]; unfold fdOf; rw [if_pos hpl]
          obtain ⟨Av, hAv⟩ : ∃ Av, A1 = Av := ⟨_, rfl⟩
          obtain ⟨As, hAs⟩ : ∃ As : Option Addr, some ⟨s5, 0, none⟩ = As := ⟨_, rfl⟩
          obtain ⟨cv, hcv⟩ : ∃ cv, c1 = cv := ⟨_, rfl⟩
          obtain ⟨cs, hcs⟩ : ∃ cs, 16 = cs := ⟨_, rfl⟩
          have HBF : Hid (Bk w11 wr.heap.size 3 (f3 (sV fd.nm) (.slice Av fd.vl.length cv) (.slice As fd.sl.length cs))) := Lib.hid (by rw [e0, ← hAv, ← hAs, ← hcv, ← hcs, ← hw11]; exact (HB10.out.set 1 _).congr (fun i hi => by match i, hi with | 0, _ => rfl | 1, _ => rfl | 2, _ => (show Value.slice (some ⟨s5, 0, none⟩) 16 16 = .slice (some ⟨s5, 0, none⟩) (saltF r.sl k).length 16; rw [saltF_len])))
          have HEF : Hid (Ext wr w11) := Lib.hid (by rw [← hw11]; exact HE10.out.set (Nat.le_refl _) _)
          have HFV : Hid (SlB w (.slice Av fd.vl.length cv) fd.vl) := Lib.hid (by
            rw [e0, ← hAv, ← hcv]
            obtain ⟨A', c', e, k1, k2, k3⟩ := HSV.out
            cases e
            exact ⟨_, _, rfl, by rw [List.length_take]; omega, k2, k3.take 100⟩)
          have HFS : Hid (SlB w (.slice As fd.sl.length cs) fd.sl ∨ SlN w11 w.heap.size (.slice As fd.sl.length cs) fd.sl) := Lib.hid (by
            rw [e0, ← hAs, ← hcs]
            refine .inr ⟨_, _, rfl, by rw [saltF_len]; decide, by decide, bytes_of_cells (saltF_len _ _) fun i hi => ?_, fun ad e => ?_⟩
            · rw [Nat.zero_add, ← hw11]
              exact (HS10.out.far (by show wr.heap.size ≠ s5; omega) _).cell hi
            · cases e
              exact ⟨by have := HX.out.size; show w.heap.size ≤ s5; omega, by rw [← hw11]; exact HT10.out.set _ _⟩)
          clear hfd e0 hAv hAs hcv hcs hw11 emin n1 n1f hvc hpl
          have HX6 := Lib.hid (HX.out.trans HEF.out)
          have HRA := Lib.hid (HR1.out.ext HEF.out)
          have HRB := Lib.hid (HR2.out.ext HEF.out)
          have HPF : Hid (PnAt w w11 (ps ++ [(fd, (Av, cv), (As, cs))])) := Lib.hid (fun p hp => by
            rcases List.mem_append.1 hp with h5 | h5
            · exact (HPN.out.ext HEF.out) p h5
            · rw [List.mem_singleton] at h5
              subst h5
              exact ⟨HFV.out, HFS.out⟩)
          have c0 : w11.cell? ⟨wr.heap.size, 0, none⟩ = some (sV fd.nm) := HBF.out.cell (k := 0) (by decide)
          have c1 : w11.cell? ⟨wr.heap.size, 1, none⟩ = some (.slice Av fd.vl.length cv) := HBF.out.cell (k := 1) (by decide)
          have c2 : w11.cell? ⟨wr.heap.size, 2, none⟩ = some (.slice As fd.sl.length cs) := HBF.out.cell (k := 2) (by decide)
          go_wp2_with (first
            | (at_builtin; (refine wapp el24 rfl (.tmp 81) (.tmp 83) rfl (w5 := w) (vs := ps.map encF) (us := [encF (fd, (Av, cv), (As, cs))]) rfl (HX6.out.alloc _) (HRA.out.ext ((Ext.refl _).alloc _)) rfl rfl (Wide.one rfl) (vs1 _ _ _) (encF_one [(fd, (Av, cv), (As, cs))]) (by rw [List.length_map, HPL.out]; simp; omega) (by rw [List.length_map, HPL.out]; simp; omega) ?_; intro v7 w7 hr7 hE7 hg7 hb7; rw [← List.map_singleton (f := encF), ← List.map_append] at hr7; have HR7 := Lib.hid hr7; have HE7 := Lib.hid hE7; have HB7 := Lib.hid ((HBF.out.ext ((Ext.refl _).alloc _)).kept (hg7.block _ (HBF.out.ext ((Ext.refl _).alloc _)).lt fun e => Nat.lt_irrefl _ (HR1.out.lt _ e.symm).2)); have HRB7 := Lib.hid ((HRA.out.ext ((Ext.refl _).alloc _)).apart (HRB.out.ext ((Ext.refl _).alloc _)) (by decide) hg7); have HPF7 := Lib.hid ((HPF.out.ext ((Ext.refl _).alloc _)).grown (HRA.out.ext ((Ext.refl _).alloc _)) (by decide) hg7); clear hr7 hE7 hg7 hb7 c0 c1 c2; have c0 : w7.cell? ⟨wr.heap.size, 0, none⟩ = some (sV fd.nm) := HB7.out.cell (k := 0) (by decide); have c1 : w7.cell? ⟨wr.heap.size, 1, none⟩ = some (.slice Av fd.vl.length cv) := HB7.out.cell (k := 1) (by decide); have c2 : w7.cell? ⟨wr.heap.size, 2, none⟩ = some (.slice As fd.sl.length cs) := HB7.out.cell (k := 2) (by decide)))
            | (at_builtin; (refine wapp el25 rfl (.tmp 85) (.tmp 87) rfl (w5 := w) (vs := ps.map encF) (us := [encF (fd, (Av, cv), (As, cs))]) rfl (HE7.out.alloc _) (HRB7.out.ext ((Ext.refl _).alloc _)) rfl rfl (Wide.one rfl) (vs1 _ _ _) (encF_one [(fd, (Av, cv), (As, cs))]) (by rw [List.length_map, HPL.out]; simp; omega) (by rw [List.length_map, HPL.out]; simp; omega) ?_; intro v8 w8 hr8 hE8 hg8 hb8; rw [← List.map_singleton (f := encF), ← List.map_append] at hr8; have HR8 := Lib.hid hr8; have HE8 := Lib.hid hE8; have HR78 := Lib.hid ((HRB7.out.ext ((Ext.refl _).alloc _)).apart (HR7.out.ext ((Ext.refl _).alloc _)) (by decide) hg8); have HPF8 := Lib.hid ((HPF7.out.ext ((Ext.refl _).alloc _)).grown (HRB7.out.ext ((Ext.refl _).alloc _)) (by decide) hg8); clear hr8 hE8 hg8 hb8 c0 c1 c2)))
          refine ⟨⟨k + 1, ps ++ [(fd, (Av, cv), (As, cs))], _, _, by omega, by omega, by go_num, rfl, rfl, ?_, HR78.out, HR8.out, HPF8.out, HE8.out⟩, by simp [intOf]; omega⟩
          rw [List.map_append, HPS.out, fsF_succ, HRK.out, HFD.out]
          rfl
        · have hpl' : r.pl = false := by simpa using hpl
          rw [hpl'] at p6
          obtain ⟨fd, hfd⟩ : ∃ fd : Fd, fdOf k r = fd := ⟨_, rfl⟩
          have HFD := Lib.hid hfd
          have e0 : fd = ⟨r.nm.take 60, r.vl, r.sl⟩ := by rw [← hfd]; unfold fdOf; rw [if_neg hpl]
          obtain ⟨Av, hAv⟩ : ∃ Av, A1 = Av := ⟨_, rfl⟩
          obtain ⟨As, hAs⟩ : ∃ As, A2 = As := ⟨_, rfl⟩
          obtain ⟨cv, hcv⟩ : ∃ cv, c1 = cv := ⟨_, rfl⟩
          obtain ⟨cs, hcs⟩ : ∃ cs, c2 = cs := ⟨_, rfl⟩
          have HBF : Hid (Bk w6 wr.heap.size 3 (f3 (sV fd.nm) (.slice Av fd.vl.length cv) (.slice As fd.sl.length cs))) := Lib.hid (by rw [e0, ← hAv, ← hAs, ← hcv, ← hcs]; exact HB6.out)
          have HEF := Lib.hid HE6.out
          have HFV : Hid (SlB w (.slice Av fd.vl.length cv) fd.vl) := Lib.hid (by rw [e0, ← hAv, ← hcv]; exact HSV.out)
          have HFS : Hid (SlB w (.slice As fd.sl.length cs) fd.sl ∨ SlN w6 w.heap.size (.slice As fd.sl.length cs) fd.sl) := Lib.hid (by rw [e0, ← hAs, ← hcs]; exact .inl HSS.out)
          clear hfd e0 hAv hAs hcv hcs hpl hpl'
          have HX6 := Lib.hid (HX.out.trans HEF.out)
          have HRA := Lib.hid (HR1.out.ext HEF.out)
          have HRB := Lib.hid (HR2.out.ext HEF.out)
          have HPF : Hid (PnAt w w6 (ps ++ [(fd, (Av, cv), (As, cs))])) := Lib.hid (fun p hp => by
            rcases List.mem_append.1 hp with h5 | h5
            · exact (HPN.out.ext HEF.out) p h5
            · rw [List.mem_singleton] at h5
              subst h5
              exact ⟨HFV.out, HFS.out⟩)
          have c0 : w6.cell? ⟨wr.heap.size, 0, none⟩ = some (sV fd.nm) := HBF.out.cell (k := 0) (by decide)
          have c1 : w6.cell? ⟨wr.heap.size, 1, none⟩ = some (.slice Av fd.vl.length cv) := HBF.out.cell (k := 1) (by decide)
          have c2 : w6.cell? ⟨wr.heap.size, 2, none⟩ = some (.slice As fd.sl.length cs) := HBF.out.cell (k := 2) (by decide)
          go_wp2_with (first
            | (at_builtin; (refine wapp el24 rfl (.tmp 81) (.tmp 83) rfl (w5 := w) (vs := ps.map encF) (us := [encF (fd, (Av, cv), (As, cs))]) rfl (HX6.out.alloc _) (HRA.out.ext ((Ext.refl _).alloc _)) rfl rfl (Wide.one rfl) (vs1 _ _ _) (encF_one [(fd, (Av, cv), (As, cs))]) (by rw [List.length_map, HPL.out]; simp; omega) (by rw [List.length_map, HPL.out]; simp; omega) ?_; intro v7 w7 hr7 hE7 hg7 hb7; rw [← List.map_singleton (f := encF), ← List.map_append] at hr7; have HR7 := Lib.hid hr7; have HE7 := Lib.hid hE7; have HB7 := Lib.hid ((HBF.out.ext ((Ext.refl _).alloc _)).kept (hg7.block _ (HBF.out.ext ((Ext.refl _).alloc _)).lt fun e => Nat.lt_irrefl _ (HR1.out.lt _ e.symm).2)); have HRB7 := Lib.hid ((HRA.out.ext ((Ext.refl _).alloc _)).apart (HRB.out.ext ((Ext.refl _).alloc _)) (by decide) hg7); have HPF7 := Lib.hid ((HPF.out.ext ((Ext.refl _).alloc _)).grown (HRA.out.ext ((Ext.refl _).alloc _)) (by decide) hg7); clear hr7 hE7 hg7 hb7 c0 c1 c2; have c0 : w7.cell? ⟨wr.heap.size, 0, none⟩ = some (sV fd.nm) := HB7.out.cell (k := 0) (by decide); have c1 : w7.cell? ⟨wr.heap.size, 1, none⟩ = some (.slice Av fd.vl.length cv) := HB7.out.cell (k := 1) (by decide); have c2 : w7.cell? ⟨wr.heap.size, 2, none⟩ = some (.slice As fd.sl.length cs) := HB7.out.cell (k := 2) (by decide)))
            | (at_builtin; (refine wapp el25 rfl (.tmp 85) (.tmp 87) rfl (w5 := w) (vs := ps.map encF) (us := [encF (fd, (Av, cv), (As, cs))]) rfl (HE7.out.alloc _) (HRB7.out.ext ((Ext.refl _).alloc _)) rfl rfl (Wide.one rfl) (vs1 _ _ _) (encF_one [(fd, (Av, cv), (As, cs))]) (by rw [List.length_map, HPL.out]; simp; omega) (by rw [List.length_map, HPL.out]; simp; omega) ?_; intro v8 w8 hr8 hE8 hg8 hb8; rw [← List.map_singleton (f := encF), ← List.map_append] at hr8; have HR8 := Lib.hid hr8; have HE8 := Lib.hid hE8; have HR78 := Lib.hid ((HRB7.out.ext ((Ext.refl _).alloc _)).apart (HR7.out.ext ((Ext.refl _).alloc _)) (by decide) hg8); have HPF8 := Lib.hid ((HPF7.out.ext ((Ext.refl _).alloc _)).grown (HRB7.out.ext ((Ext.refl _).alloc _)) (by decide) hg8); clear hr8 hE8 hg8 hb8 c0 c1 c2)))
          refine ⟨⟨k + 1, ps ++ [(fd, (Av, cv), (As, cs))], _, _, by omega, by omega, by go_num, rfl, rfl, ?_, HR78.out, HR8.out, HPF8.out, HE8.out⟩, by simp [intOf]; omega⟩
          rw [List.map_append, HPS.out, fsF_succ, HRK.out, HFD.out]
          rfl
      · have q6 : ¬ (60 : Int) < (r.nm.length : Int) := by omega
        have etk : r.nm.take 60 = r.nm := List.take_of_length_le (by omega)
        go_upto_region 9 with fail
        obtain ⟨w6, hw6⟩ : ∃ w6, w5 = w6 := ⟨_, rfl⟩
        rw [hw6]
        have HB6 : Hid (Bk w6 wr.heap.size 3 (f3 (sV (r.nm.take 60)) (.slice A1 r.vl.length c1) (.slice A2 r.sl.length c2))) := Lib.hid (by rw [← hw6, etk]; exact HB5.out)
        have HE6 : Hid (Ext wr w6) := Lib.hid (by rw [← hw6]; exact HE5.out)
        clear hw6 a0 f0 etk
        have p6 := HE6.out.cell HPP.out
        by_cases hpl : r.pl = true
        · rw [hpl] at p6
          have cv9 := nameCv w6 hlt7
          have n0 : w6.cell? ⟨wr.heap.size, 0, none⟩ = some (sV (r.nm.take 60)) := HB6.out.cell (by decide)
          have n0f := HB6.out.frozen 0
          have hz6 := HB6.out.lt
          go_upto_region 11 with fail
          generalize hw7 : World.alloc _ _ = w7
          have HB7 : Hid (Bk w7 wr.heap.size 3 (f3 (sV (nameF k)) (.slice A1 r.vl.length c1) (.slice A2 r.sl.length c2))) := Lib.hid (by rw [← hw7]; exact ((HB6.out.set 0 _).congr (fun i hi => by match i, hi with | 0, _ => rfl | 1, _ => rfl | 2, _ => rfl)).ext ((Ext.refl _).alloc _))
          have HE7 : Hid (Ext wr w7) := Lib.hid (by rw [← hw7]; exact (HE6.out.set (Nat.le_refl _) _).alloc _)
          clear hw7 cv9 n0 n0f hz6 p6
          have m16 : (Instr.makeSlice 38 (.int .i64 16) (.int .i64 16)).run Tryd.prog w7 = .ok (.slice (some ⟨w7.heap.size, 0, none⟩) 16 16) (w7.alloc (.cells (arV (fun _ => vU8 0) 16) 5)) := run_mk38 w7 16 16 (by decide) (by decide)
          have n2 : w7.cell? ⟨wr.heap.size, 2, none⟩ = some (.slice A2 r.sl.length c2) := HB7.out.cell (by decide)
          have n2f := HB7.out.frozen 2
          have hz7 := HB7.out.lt
          go_upto_region 12 with fail
          generalize hw8 : World.alloc _ _ = w8
          obtain ⟨s5, hs5⟩ : ∃ s5, w7.heap.size = s5 := ⟨_, rfl⟩
          rw [hs5] at hw8 ⊢
          have HB8 : Hid (Bk w8 wr.heap.size 3 (f3 (sV (nameF k)) (.slice A1 r.vl.length c1) (.slice (some ⟨s5, 0, none⟩) 16 16))) := Lib.hid (by rw [← hw8]; exact ((HB7.out.set 2 _).congr (fun i hi => by match i, hi with | 0, _ => rfl | 1, _ => rfl | 2, _ => rfl)).ext ((Ext.refl _).alloc _))
          have hsz : (w7.setCell ⟨wr.heap.size, 2, none⟩ (.slice (some ⟨s5, 0, none⟩) 16 16)).heap.size = s5 := by rw [← hs5]; simp
          have HS8 : Hid (Bk w8 s5 16 (fun _ => vU8 0)) := Lib.hid (by rw [← hw8]; have := Bk.new (w := w7.setCell ⟨wr.heap.size, 2, none⟩ (.slice (some ⟨s5, 0, none⟩) 16 16)) (n := 16) (T := 5) (f := fun _ => vU8 0) (by decide); rw [hsz] at this; exact this)
          have HT8 : Hid (TyB w8 5 s5) := Lib.hid (by rw [← hw8]; have := heap_alloc_new (w7.setCell ⟨wr.heap.size, 2, none⟩ (.slice (some ⟨s5, 0, none⟩) 16 16)) (.cells (arV (fun _ => vU8 0) 16) 5); rw [hsz] at this; exact ⟨_, _, this⟩)
          have HE8 : Hid (Ext wr w8) := Lib.hid (by rw [← hw8]; exact (HE7.out.set (Nat.le_refl _) _).alloc _)
          have hz8 : wr.heap.size < s5 := by rw [← hs5]; exact HB7.out.lt
          have hz8' : s5 < w8.heap.size := HS8.out.lt
          clear hw8 hs5 hsz n2 n2f hz7 m16
          have KB8 : Hid ((fun w' => w'.cell? ⟨wr.heap.size, 2, none⟩ = some (.slice (some ⟨s5, 0, none⟩) 16 16) ∧ w'.cell? ⟨b, o + k * 4 + 2, none⟩ = some (.slice A2 r.sl.length c2)) w8.drew) := Lib.hid ⟨HB8.out.drew.cell (k := 2) (by decide), (HE8.out.drew).cell HS.out⟩
          have KB9 : Hid ((fun w' => w'.cell? ⟨wr.heap.size, 2, none⟩ = some (.slice (some ⟨s5, 0, none⟩) 16 16) ∧ w'.cell? ⟨b, o + k * 4 + 2, none⟩ = some (.slice A2 r.sl.length c2)) (w8.drew.setCells s5 0 (bytesV (r.sl.take 16)))) := Lib.hid ⟨cell_far (by omega) KB8.out.1, cell_far (by omega) KB8.out.2⟩
          obtain ⟨cnd, cpd⟩ := copy38_ok HS8.out.drew (HSS.out.ext ((HX.out.trans HE8.out).drew))
          refine wp_region_noPanic ?_
          refine wp_region_held_drew (S := (fun w' => w'.cell? ⟨wr.heap.size, 2, none⟩ = some (.slice (some ⟨s5, 0, none⟩) 16 16) ∧ w'.cell? ⟨b, o + k * 4 + 2, none⟩ = some (.slice A2 r.sl.length c2))) (by kernel_rfl) ?_ (fun hHeld => ?_)
          · first | assumption | exact KB8.out | exact KB9.out
          refine wpAnyH_take (i := 0) (v := ?_) (oper_at rfl) (by kernel_rfl) (by kernel_rfl) (by kernel_rfl) (fun _ _ _ h => h) (Or.inl ⟨by rfl, ?_⟩) hHeld ?_
          rotate_left
          · (intro ww hSw; (try dsimp only at hSw); go_simp; try (with_reducible rfl))
          try simp only [Act.put, List.setIfInBounds_toArray, List.set_cons_zero, List.set_cons_succ]
          refine wpAnyH_take (i := 1) (v := ?_) (oper_at rfl) (by kernel_rfl) (by kernel_rfl) (by kernel_rfl) (fun _ _ _ h => h) (Or.inl ⟨by rfl, ?_⟩) hHeld ?_
          rotate_left
          · (intro ww hSw; (try dsimp only at hSw); go_simp; try (with_reducible rfl))
          try simp only [Act.put, List.setIfInBounds_toArray, List.set_cons_zero, List.set_cons_succ]
          refine wpAnyH_take (i := 2) (v := ?_) (oper_at rfl) (by kernel_rfl) (by kernel_rfl) (by kernel_rfl) (fun _ _ _ h => h) (Or.inl ⟨by rfl, ?_⟩) hHeld ?_
          rotate_left
          · (intro ww hSw; (try dsimp only at hSw); go_simp; try (with_reducible rfl))
          try simp only [Act.put, List.setIfInBounds_toArray, List.set_cons_zero, List.set_cons_succ]
          refine wpAnyH_take (i := 3) (v := ?_) (oper_at rfl) (by kernel_rfl) (by kernel_rfl) (by kernel_rfl) (fun _ _ _ h => h) (Or.inl ⟨by rfl, ?_⟩) hHeld ?_
          rotate_left
          · (intro ww hSw; (try dsimp only at hSw); go_simp; try (with_reducible rfl))
          try simp only [Act.put, List.setIfInBounds_toArray, List.set_cons_zero, List.set_cons_succ]
          refine wpAnyH_take (i := 4) (v := ?_) (oper_at rfl) (by kernel_rfl) (by kernel_rfl) (by kernel_rfl) (fun _ _ _ h => h) (Or.inl ⟨by rfl, ?_⟩) hHeld ?_
          rotate_left
          · (intro ww hSw; (try dsimp only at hSw); go_simp; try (with_reducible rfl))
          try simp only [Act.put, List.setIfInBounds_toArray, List.set_cons_zero, List.set_cons_succ]
          refine wpAnyH_take (i := 5) (v := ?_) (oper_at rfl) (by kernel_rfl) (by kernel_rfl) (by kernel_rfl) (fun _ _ _ h => h) (Or.inl ⟨by rfl, ?_⟩) hHeld ?_
          rotate_left
          · (intro ww hSw; (try dsimp only at hSw); go_simp; try (with_reducible rfl))
          try simp only [Act.put, List.setIfInBounds_toArray, List.set_cons_zero, List.set_cons_succ]
          refine wpAnyH_take (i := 6) (v := ?_) (oper_at rfl) (by kernel_rfl) (by kernel_rfl) (by kernel_rfl) (fun _ _ _ h => h) (Or.inl ⟨by rfl, ?_⟩) hHeld ?_
          rotate_left
          · (intro ww hSw; (try dsimp only at hSw); go_simp; try (with_reducible rfl))
          try simp only [Act.put, List.setIfInBounds_toArray, List.set_cons_zero, List.set_cons_succ]
          refine wpAnyH_ready (rs := [7]) (by kernel_rfl) (by simp) (AllReadyH.cons (oper_at rfl) (fun K hK => ?_) AllReadyH.nil)
          go_simp
          refine hK.out _ _ ?_ (fun hHeld => ?_)
          · first | assumption | exact KB8.out | exact KB9.out
          clear hK K
          try simp only [Act.put, List.setIfInBounds_toArray, List.set_cons_zero, List.set_cons_succ]
          refine wpAnyH_done (by kernel_rfl) ?_ _
          refine NoPanic.normal ?_
          generalize hw9 : World.setCells _ _ _ _ = w9
          have HB9 : Hid (Bk w9 wr.heap.size 3 (f3 (sV (nameF k)) (.slice A1 r.vl.length c1) (.slice (some ⟨s5, 0, none⟩) 16 16))) := Lib.hid (by rw [← hw9]; exact HB8.out.drew.kept (setCells_far (by omega) _ _ _))
          have HS9 := Lib.hid (HS8.out.drew.setCells (bytesV (r.sl.take 16)) 0)
          have HT9 : Hid (TyB w9 5 s5) := Lib.hid (by rw [← hw9]; exact (HT8.out.kept (w' := w8.drew) rfl).setCells _ _)
          have HE9 : Hid (Ext wr w9) := Lib.hid (by rw [← hw9]; exact Ext.setCells (by omega) _ _ HE8.out.drew)
          rw [hw9] at HS9
          clear hw9 cpd KB8 KB9 hz8'
          have n2 : w9.cell? ⟨wr.heap.size, 2, none⟩ = some (.slice (some ⟨s5, 0, none⟩) 16 16) := HB9.out.cell (by decide)
          have n15 := HS9.out.cell (k := 15) (by decide)
          have nf := HS9.out.frozen 15
          go_upto_region 14 with fail
          generalize hw10 : World.setCell _ _ _ = w10
          have HB10 : Hid (Bk w10 wr.heap.size 3 (f3 (sV (nameF k)) (.slice A1 r.vl.length c1) (.slice (some ⟨s5, 0, none⟩) 16 16))) := Lib.hid (by rw [← hw10]; exact HB9.out.far (by show s5 ≠ wr.heap.size; omega) _)
          have HS10 : Hid (Bk w10 s5 16 (idF (saltF r.sl k))) := Lib.hid (by rw [← hw10]; exact (HS9.out.set 15 _).congr (fun i hi => salt_cells hlt7 hi))
          have HT10 : Hid (TyB w10 5 s5) := Lib.hid (by rw [← hw10]; exact HT9.out.set _ _)
          have HE10 : Hid (Ext wr w10) := Lib.hid (by rw [← hw10]; exact HE9.out.set (by show wr.heap.size ≤ s5; omega) _)
          clear hw10 n2 n15 nf
          have n1 : w10.cell? ⟨wr.heap.size, 1, none⟩ = some (.slice A1 r.vl.length c1) := HB10.out.cell (by decide)
          have n1f := HB10.out.frozen 1
          have hvc : r.vl.length ≤ c1 := by obtain ⟨A', c', e, k1, -, -⟩ := HSV.out; cases e; exact k1
          go_upto_region 15 with fail
          have emin : (min (r.vl.length : Int) 100).toNat = (r.vl.take 100).length := by rw [List.length_take]; omega
          rw [emin]
          generalize hw11 : World.setCell _ _ _ = w11
          obtain ⟨fd, hfd⟩ : ∃ fd : Fd, fdOf k r = fd := ⟨_, rfl⟩
          have HFD := Lib.hid hfd
          have e0 : fd = ⟨nameF k, r.vl.take 100, saltF r.sl k⟩ := by rw [← hfd]; unfold fdOf; rw [if_pos hpl]
          obtain ⟨Av, hAv⟩ : ∃ Av, A1 = Av := ⟨_, rfl⟩
          obtain ⟨As, hAs⟩ : ∃ As : Option Addr, some ⟨s5, 0, none⟩ = As := ⟨_, rfl⟩
          obtain ⟨cv, hcv⟩ : ∃ cv, c1 = cv := ⟨_, rfl⟩
          obtain ⟨cs, hcs⟩ : ∃ cs, 16 = cs := ⟨_, rfl⟩
          have HBF : Hid (Bk w11 wr.heap.size 3 (f3 (sV fd.nm) (.slice Av fd.vl.length cv) (.slice As fd.sl.length cs))) := Lib.hid (by rw [e0, ← hAv, ← hAs, ← hcv, ← hcs, ← hw11]; exact (HB10.out.set 1 _).congr (fun i hi => by match i, hi with | 0, _ => rfl | 1, _ => rfl | 2, _ => (show Value.slice (some ⟨s5, 0, none⟩) 16 16 = .slice (some ⟨s5, 0, none⟩) (saltF r.sl k).length 16; rw [saltF_len])))
          have HEF : Hid (Ext wr w11) := Lib.hid (by rw [← hw11]; exact HE10.out.set (Nat.le_refl _) _)
          have HFV : Hid (SlB w (.slice Av fd.vl.length cv) fd.vl) := Lib.hid (by
            rw [e0, ← hAv, ← hcv]
            obtain ⟨A', c', e, k1, k2, k3⟩ := HSV.out
            cases e
            exact ⟨_, _, rfl, by rw [List.length_take]; omega, k2, k3.take 100⟩)
          have HFS : Hid (SlB w (.slice As fd.sl.length cs) fd.sl ∨ SlN w11 w.heap.size (.slice As fd.sl.length cs) fd.sl) := Lib.hid (by
            rw [e0, ← hAs, ← hcs]
            refine .inr ⟨_, _, rfl, by rw [saltF_len]; decide, by decide, bytes_of_cells (saltF_len _ _) fun i hi => ?_, fun ad e => ?_⟩
            · rw [Nat.zero_add, ← hw11]
              exact (HS10.out.far (by show wr.heap.size ≠ s5; omega) _).cell hi
            · cases e
              exact ⟨by have := HX.out.size; show w.heap.size ≤ s5; omega, by rw [← hw11]; exact HT10.out.set _ _⟩)
          clear hfd e0 hAv hAs hcv hcs hw11 emin n1 n1f hvc hpl
          have HX6 := Lib.hid (HX.out.trans HEF.out)
          have HRA := Lib.hid (HR1.out.ext HEF.out)
          have HRB := Lib.hid (HR2.out.ext HEF.out)
          have HPF : Hid (PnAt w w11 (ps ++ [(fd, (Av, cv), (As, cs))])) := Lib.hid (fun p hp => by
            rcases List.mem_append.1 hp with h5 | h5
            · exact (HPN.out.ext HEF.out) p h5
            · rw [List.mem_singleton] at h5
              subst h5
              exact ⟨HFV.out, HFS.out⟩)
          have c0 : w11.cell? ⟨wr.heap.size, 0, none⟩ = some (sV fd.nm) := HBF.out.cell (k := 0) (by decide)
          have c1 : w11.cell? ⟨wr.heap.size, 1, none⟩ = some (.slice Av fd.vl.length cv) := HBF.out.cell (k := 1) (by decide)
          have c2 : w11.cell? ⟨wr.heap.size, 2, none⟩ = some (.slice As fd.sl.length cs) := HBF.out.cell (k := 2) (by decide)
          go_wp2_with (first
            | (at_builtin; (refine wapp el24 rfl (.tmp 81) (.tmp 83) rfl (w5 := w) (vs := ps.map encF) (us := [encF (fd, (Av, cv), (As, cs))]) rfl (HX6.out.alloc _) (HRA.out.ext ((Ext.refl _).alloc _)) rfl rfl (Wide.one rfl) (vs1 _ _ _) (encF_one [(fd, (Av, cv), (As, cs))]) (by rw [List.length_map, HPL.out]; simp; omega) (by rw [List.length_map, HPL.out]; simp; omega) ?_; intro v7 w7 hr7 hE7 hg7 hb7; rw [← List.map_singleton (f := encF), ← List.map_append] at hr7; have HR7 := Lib.hid hr7; have HE7 := Lib.hid hE7; have HB7 := Lib.hid ((HBF.out.ext ((Ext.refl _).alloc _)).kept (hg7.block _ (HBF.out.ext ((Ext.refl _).alloc _)).lt fun e => Nat.lt_irrefl _ (HR1.out.lt _ e.symm).2)); have HRB7 := Lib.hid ((HRA.out.ext ((Ext.refl _).alloc _)).apart (HRB.out.ext ((Ext.refl _).alloc _)) (by decide) hg7); have HPF7 := Lib.hid ((HPF.out.ext ((Ext.refl _).alloc _)).grown (HRA.out.ext ((Ext.refl _).alloc _)) (by decide) hg7); clear hr7 hE7 hg7 hb7 c0 c1 c2; have c0 : w7.cell? ⟨wr.heap.size, 0, none⟩ = some (sV fd.nm) := HB7.out.cell (k := 0) (by decide); have c1 : w7.cell? ⟨wr.heap.size, 1, none⟩ = some (.slice Av fd.vl.length cv) := HB7.out.cell (k := 1) (by decide); have c2 : w7.cell? ⟨wr.heap.size, 2, none⟩ = some (.slice As fd.sl.length cs) := HB7.out.cell (k := 2) (by decide)))
            | (at_builtin; (refine wapp el25 rfl (.tmp 85) (.tmp 87) rfl (w5 := w) (vs := ps.map encF) (us := [encF (fd, (Av, cv), (As, cs))]) rfl (HE7.out.alloc _) (HRB7.out.ext ((Ext.refl _).alloc _)) rfl rfl (Wide.one rfl) (vs1 _ _ _) (encF_one [(fd, (Av, cv), (As, cs))]) (by rw [List.length_map, HPL.out]; simp; omega) (by rw [List.length_map, HPL.out]; simp; omega) ?_; intro v8 w8 hr8 hE8 hg8 hb8; rw [← List.map_singleton (f := encF), ← List.map_append] at hr8; have HR8 := Lib.hid hr8; have HE8 := Lib.hid hE8; have HR78 := Lib.hid ((HRB7.out.ext ((Ext.refl _).alloc _)).apart (HR7.out.ext ((Ext.refl _).alloc _)) (by decide) hg8); have HPF8 := Lib.hid ((HPF7.out.ext ((Ext.refl _).alloc _)).grown (HRB7.out.ext ((Ext.refl _).alloc _)) (by decide) hg8); clear hr8 hE8 hg8 hb8 c0 c1 c2)))
          refine ⟨⟨k + 1, ps ++ [(fd, (Av, cv), (As, cs))], _, _, by omega, by omega, by go_num, rfl, rfl, ?_, HR78.out, HR8.out, HPF8.out, HE8.out⟩, by simp [intOf]; omega⟩
          rw [List.map_append, HPS.out, fsF_succ, HRK.out, HFD.out]
          rfl
        · have hpl' : r.pl = false := by simpa using hpl
          rw [hpl'] at p6
          obtain ⟨fd, hfd⟩ : ∃ fd : Fd, fdOf k r = fd := ⟨_, rfl⟩
          have HFD := Lib.hid hfd
          have e0 : fd = ⟨r.nm.take 60, r.vl, r.sl⟩ := by rw [← hfd]; unfold fdOf; rw [if_neg hpl]
          obtain ⟨Av, hAv⟩ : ∃ Av, A1 = Av := ⟨_, rfl⟩
          obtain ⟨As, hAs⟩ : ∃ As, A2 = As := ⟨_, rfl⟩
          obtain ⟨cv, hcv⟩ : ∃ cv, c1 = cv := ⟨_, rfl⟩
          obtain ⟨cs, hcs⟩ : ∃ cs, c2 = cs := ⟨_, rfl⟩
          have HBF : Hid (Bk w6 wr.heap.size 3 (f3 (sV fd.nm) (.slice Av fd.vl.length cv) (.slice As fd.sl.length cs))) := Lib.hid (by rw [e0, ← hAv, ← hAs, ← hcv, ← hcs]; exact HB6.out)
          have HEF := Lib.hid HE6.out
          have HFV : Hid (SlB w (.slice Av fd.vl.length cv) fd.vl) := Lib.hid (by rw [e0, ← hAv, ← hcv]; exact HSV.out)
          have HFS : Hid (SlB w (.slice As fd.sl.length cs) fd.sl ∨ SlN w6 w.heap.size (.slice As fd.sl.length cs) fd.sl) := Lib.hid (by rw [e0, ← hAs, ← hcs]; exact .inl HSS.out)
          clear hfd e0 hAv hAs hcv hcs hpl hpl'
          have HX6 := Lib.hid (HX.out.trans HEF.out)
          have HRA := Lib.hid (HR1.out.ext HEF.out)
          have HRB := Lib.hid (HR2.out.ext HEF.out)
          have HPF : Hid (PnAt w w6 (ps ++ [(fd, (Av, cv), (As, cs))])) := Lib.hid (fun p hp => by
            rcases List.mem_append.1 hp with h5 | h5
            · exact (HPN.out.ext HEF.out) p h5
            · rw [List.mem_singleton] at h5
              subst h5
              exact ⟨HFV.out, HFS.out⟩)
          have c0 : w6.cell? ⟨wr.heap.size, 0, none⟩ = some (sV fd.nm) := HBF.out.cell (k := 0) (by decide)
          have c1 : w6.cell? ⟨wr.heap.size, 1, none⟩ = some (.slice Av fd.vl.length cv) := HBF.out.cell (k := 1) (by decide)
          have c2 : w6.cell? ⟨wr.heap.size, 2, none⟩ = some (.slice As fd.sl.length cs) := HBF.out.cell (k := 2) (by decide)
          go_wp2_with (first
            | (at_builtin; (refine wapp el24 rfl (.tmp 81) (.tmp 83) rfl (w5 := w) (vs := ps.map encF) (us := [encF (fd, (Av, cv), (As, cs))]) rfl (HX6.out.alloc _) (HRA.out.ext ((Ext.refl _).alloc _)) rfl rfl (Wide.one rfl) (vs1 _ _ _) (encF_one [(fd, (Av, cv), (As, cs))]) (by rw [List.length_map, HPL.out]; simp; omega) (by rw [List.length_map, HPL.out]; simp; omega) ?_; intro v7 w7 hr7 hE7 hg7 hb7; rw [← List.map_singleton (f := encF), ← List.map_append] at hr7; have HR7 := Lib.hid hr7; have HE7 := Lib.hid hE7; have HB7 := Lib.hid ((HBF.out.ext ((Ext.refl _).alloc _)).kept (hg7.block _ (HBF.out.ext ((Ext.refl _).alloc _)).lt fun e => Nat.lt_irrefl _ (HR1.out.lt _ e.symm).2)); have HRB7 := Lib.hid ((HRA.out.ext ((Ext.refl _).alloc _)).apart (HRB.out.ext ((Ext.refl _).alloc _)) (by decide) hg7); have HPF7 := Lib.hid ((HPF.out.ext ((Ext.refl _).alloc _)).grown (HRA.out.ext ((Ext.refl _).alloc _)) (by decide) hg7); clear hr7 hE7 hg7 hb7 c0 c1 c2; have c0 : w7.cell? ⟨wr.heap.size, 0, none⟩ = some (sV fd.nm) := HB7.out.cell (k := 0) (by decide); have c1 : w7.cell? ⟨wr.heap.size, 1, none⟩ = some (.slice Av fd.vl.length cv) := HB7.out.cell (k := 1) (by decide); have c2 : w7.cell? ⟨wr.heap.size, 2, none⟩ = some (.slice As fd.sl.length cs) := HB7.out.cell (k := 2) (by decide)))
            | (at_builtin; (refine wapp el25 rfl (.tmp 85) (.tmp 87) rfl (w5 := w) (vs := ps.map encF) (us := [encF (fd, (Av, cv), (As, cs))]) rfl (HE7.out.alloc _) (HRB7.out.ext ((Ext.refl _).alloc _)) rfl rfl (Wide.one rfl) (vs1 _ _ _) (encF_one [(fd, (Av, cv), (As, cs))]) (by rw [List.length_map, HPL.out]; simp; omega) (by rw [List.length_map, HPL.out]; simp; omega) ?_; intro v8 w8 hr8 hE8 hg8 hb8; rw [← List.map_singleton (f := encF), ← List.map_append] at hr8; have HR8 := Lib.hid hr8; have HE8 := Lib.hid hE8; have HR78 := Lib.hid ((HRB7.out.ext ((Ext.refl _).alloc _)).apart (HR7.out.ext ((Ext.refl _).alloc _)) (by decide) hg8); have HPF8 := Lib.hid ((HPF7.out.ext ((Ext.refl _).alloc _)).grown (HRB7.out.ext ((Ext.refl _).alloc _)) (by decide) hg8); clear hr8 hE8 hg8 hb8 c0 c1 c2)))
          refine ⟨⟨k + 1, ps ++ [(fd, (Av, cv), (As, cs))], _, _, by omega, by omega, by go_num, rfl, rfl, ?_, HR78.out, HR8.out, HPF8.out, HE8.out⟩, by simp [intOf]; omega⟩
          rw [List.map_append, HPS.out, fsF_succ, HRK.out, HFD.out]
          rfl
    · have hend : k = min rs.length 70 := by omega
      have q5 : (decide ((k : Int) < (rs.length : Int)) && decide ((k : Int) < 70)) = false := by
        by_cases h5 : k < rs.length
        · have : ¬ (k : Int) < 70 := by omega
          simp [this]
        · have : ¬ (k : Int) < (rs.length : Int) := by omega
          simp [this]
      by_cases h5 : k < rs.length
      · have q1 : (k : Int) < (rs.length : Int) := by omega
        have q7 : ¬ (k : Int) < 70 := by omega
        go_wp2_with fail
        go_ret2
        exact ⟨_, _, rfl, by rw [← hend, ← HPS.out]; exact FsAt.of_row HR1.out.sl (HPN.out.fp HX.out), by rw [← hend, ← HPS.out]; exact FsAt.of_row HR2.out.sl (HPN.out.fp HX.out), HX.out⟩
      · have q1 : ¬ (k : Int) < (rs.length : Int) := by omega
        go_wp2_with fail
        go_ret2
        exact ⟨_, _, rfl, by rw [← hend, ← HPS.out]; exact FsAt.of_row HR1.out.sl (HPN.out.fp HX.out), by rw [← hend, ← HPS.out]; exact FsAt.of_row HR2.out.sl (HPN.out.fp HX.out), HX.out⟩
end Go.Proofs.YtjedhndhdkiidaaDoor
