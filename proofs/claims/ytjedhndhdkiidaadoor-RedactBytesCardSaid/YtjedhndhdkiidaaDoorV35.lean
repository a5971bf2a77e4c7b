/- The reader with its errors: byte strings, many bytes. -/
import Derived.Test.YtjedhndhdkiidaaDoorV34
namespace Go.Proofs.YtjedhndhdkiidaaDoor
open Go.RowKit
attribute [local go_sem ↓] Go.wp_at_zero Go.wp_at_succ
theorem lt_of_same {w w' : World} {g : Nat} (h : w'.heap[g]? = w.heap[g]?) (hg : g < w.heap.size) : g < w'.heap.size := by
  rcases Nat.lt_or_ge g w'.heap.size with h' | h'
  · exact h'
  · rw [Array.getElem?_eq_none h', Array.getElem?_eq_getElem hg] at h; cases h
theorem Rd.kept {w w' : World} {N : Nat → Prop} {b : Nat} {xs : List UInt8} (h : Rd w N b xs) (k : ∀ g, (N g ∨ g = b) → w'.heap[g]? = w.heap[g]?) : Rd w' N b xs := by
  obtain ⟨A, c, h0, h1, hf, hb, hc, hm, hn⟩ := h
  have e : ∀ o, w'.cell? ⟨b, o, none⟩ = w.cell? ⟨b, o, none⟩ := fun o => by
    unfold World.cell?
    dsimp only
    rw [k b (.inr rfl)]
  refine ⟨A, c, by rw [e, h0], by rw [e, h1], fun i => ?_, fun h0 => ?_, hc, hm, hn⟩
  · rw [← hf i]
    unfold World.frozen?
    dsimp only
    rw [k b (.inr rfl)]
  · obtain ⟨ad, ea, hl, hcell⟩ := hb h0
    have hs := k ad.block (.inl (hn ad ea).2)
    refine ⟨ad, ea, lt_of_same hs hl, fun j y hj => ?_⟩
    rw [← hcell j y hj]
    unfold World.cell?
    rw [block_of_add, hs]
theorem RdX.kept {w w' : World} {b : Nat} (h : RdX w b) (k : w'.heap[b]? = w.heap[b]?) : RdX w' b := by
  obtain ⟨A, n, c, er, h0, h1, he, hf⟩ := h
  have e : ∀ o, w'.cell? ⟨b, o, none⟩ = w.cell? ⟨b, o, none⟩ := fun o => by
    unfold World.cell?
    dsimp only
    rw [k]
  refine ⟨A, n, c, er, by rw [e, h0], by rw [e, h1], he, fun i => ?_⟩
  rw [← hf i]
  unfold World.frozen?
  dsimp only
  rw [k]
theorem St.kept {w w' : World} {N : Nat → Prop} {b : Nat} {s : Sg} (h : St w N b s) (k : ∀ g, (N g ∨ g = b) → w'.heap[g]? = w.heap[g]?) : St w' N b s := by
  cases s with
  | none => exact RdX.kept h (k b (.inr rfl))
  | some xs => exact Rd.kept h k
theorem St.ext {w w' : World} {N : Nat → Prop} {b : Nat} {s : Sg} (h : St w N b s) (hE : Ext w w') (hb : b < w.heap.size) (hN : ∀ g, N g → g < w.heap.size) : St w' N b s := h.kept fun g hg => hE.block g (by
  rcases hg with h | rfl
  · exact hN g h
  · exact hb)
theorem run_slice38lh (w : World) (A A2 : Option Addr) (len c l h : Nat) (h1 : l ≤ h) (h2 : h ≤ c) (hA : (if c = l then A else A.map (·.add l)) = A2) : (Instr.slice 38 (.slice A len c) (some (.int .i64 (l : Int))) (some (.int .i64 (h : Int))) none).run Tryd.prog w = .ok (.slice A2 (h - l) (c - l)) w := by
  subst hA
  have e2 : Tryd.prog.elem 38 = 5 := by kernel_rfl
  have hs : (sizeOf 5).run Tryd.prog w = .ok 1 w := by kernel_rfl
  rw [run_slice_lh w 38 A len c (by rw [e2]; exact Tryd.underlying38) .i64 .i64 (l : Int) (h : Int) (by omega) (by omega) (by omega), e2, hs]
  simp [Result.andThen, sliced]
/-- num.Bytes refuses. -/
def RetNo (w : World) (e : Ending) (w' : World) : Prop := (∃ er : Int, e = .returned (.tuple #[nilV, .int .i64 0, .int .i64 er]) ∧ er ≠ 0) ∧ w = w'
/-- num.Bytes accepts. -/
def RetYes (bs : List UInt8) (m : Nat) (w : World) (e : Ending) (w' : World) : Prop := ∃ v, e = .returned (.tuple #[v, .int .i64 (m : Int), .int .i64 0]) ∧ SlN w' w.heap.size v bs ∧ Ext w w'
set_option maxRecDepth 100000 in
set_option maxHeartbeats 1000000 in
theorem nbytes70_no (xs : List UInt8) (A : Option Addr) (c most : Nat) (w : World) (hb : BytesAt w A xs) (hlen : xs.length ≤ 9223372036854775807) (hm : most ≤ 1000000) (h : (bytesR most (some xs)).2 = none) : Calls Tryd.prog 70 #[.slice A xs.length c, .int .i64 (most : Int)] w (RetNo w) := by
  have HU := uint_any _ A c w hb hlen
  have q0 : (0 : Int) ≤ (most : Int) := by omega
  have qw : IntKind.u64.wrap (most : Int) = (most : Int) := by simp [IntKind.wrap, IntKind.bits, IntKind.signed]; omega
  cases hu : uintF xs with
  | none =>
    rw [hu] at HU
    have HUI := Lib.hid HU
    clear HU hb hu h
    go_enter Tryd.func70, Tryd.ntmps70
    go_wp2_with fail
    refine HUI.out.mono ?_
    rintro _ _ ⟨rfl, rfl⟩
    go_wp2_with fail
    go_ret3
    exact ⟨⟨6, rfl, by decide⟩, rfl⟩
  | some p =>
    obtain ⟨v, n⟩ := p
    rw [hu] at HU
    have HUI := Lib.hid HU
    have hf := uintF_facts hu
    by_cases hv : most < v
    · have q1 : (most : Int) < (v : Int) := by omega
      clear HU hb hu h
      go_enter Tryd.func70, Tryd.ntmps70
      go_wp2_with fail
      refine HUI.out.mono ?_
      rintro _ _ ⟨rfl, rfl⟩
      go_wp2_with fail
      go_ret3
      exact ⟨⟨3, rfl, by decide⟩, rfl⟩
    · have q1 : ¬ (most : Int) < (v : Int) := by omega
      have hl : xs.length - n < v := by
        refine Classical.byContradiction fun hl => ?_
        unfold bytesR at h
        simp only at h
        rw [hu] at h
        simp only at h
        rw [if_neg hv, if_neg hl] at h
        cases h
      obtain ⟨d, hd⟩ : ∃ d : Nat, xs.length - n = d := ⟨_, rfl⟩
      have q2 : (xs.length : Int) - (n : Int) = (d : Int) := by omega
      have q3 : IntKind.u64.wrap (d : Int) = (d : Int) := by simp [IntKind.wrap, IntKind.bits, IntKind.signed]; omega
      have q4 : (d : Int) < (v : Int) := by omega
      clear HU hb hu h hl
      go_enter Tryd.func70, Tryd.ntmps70
      go_wp2_with fail
      refine HUI.out.mono ?_
      rintro _ _ ⟨rfl, rfl⟩
      go_wp2_with fail
      go_ret3
      exact ⟨⟨6, rfl, by decide⟩, rfl⟩
set_option maxRecDepth 100000 in
set_option maxHeartbeats 1000000 in
theorem nbytes70_yes (xs : List UInt8) (A : Option Addr) (c most v n : Nat) (w : World) (hb : BytesAt w A xs) (hlen : xs.length ≤ 9223372036854775807) (hc : xs.length ≤ c) (hm : most ≤ 1000000) (hu : uintF xs = some (v, n)) (hv : v ≤ most) (hl : v ≤ xs.length - n) : Calls Tryd.prog 70 #[.slice A xs.length c, .int .i64 (most : Int)] w (RetYes ((xs.drop n).take v) (n + v) w) := by
  have HU := uint_any _ A c w hb hlen
  rw [hu] at HU
  have HUI := Lib.hid HU
  obtain ⟨hf1, hf2, -⟩ := uintF_facts hu
  obtain ⟨bs, hbs⟩ : ∃ bs, (xs.drop n).take v = bs := ⟨_, rfl⟩
  have hbl : bs.length = v := by rw [← hbs, List.length_take, List.length_drop]; omega
  obtain ⟨A2, hA2⟩ : ∃ A2, (if c = n then A else A.map (·.add n)) = A2 := ⟨_, rfl⟩
  obtain ⟨d, hd⟩ : ∃ d : Nat, xs.length - n = d := ⟨_, rfl⟩
  obtain ⟨m, hmn⟩ : ∃ m : Nat, n + v = m := ⟨_, rfl⟩
  obtain ⟨c2, hc2⟩ : ∃ c2 : Nat, c - n = c2 := ⟨_, rfl⟩
  have HVS : Hid (VsAt w A2 (bv bs).flatten) := Lib.hid (by rw [← hbs, ← hA2]; exact ((hb.cut hc).take v).vs)
  have s2 : ∀ W, (Instr.slice 38 (.slice A xs.length c) (some (.int .i64 (n : Int))) (some (.int .i64 (m : Int))) none).run Tryd.prog W = .ok (.slice A2 v c2) W := fun W => by
    rw [run_slice38lh W A A2 xs.length c n m (by omega) (by omega) hA2, hc2, show m - n = v by omega]
  have q0 : (0 : Int) ≤ (most : Int) := by omega
  have qw : IntKind.u64.wrap (most : Int) = (most : Int) := by simp [IntKind.wrap, IntKind.bits, IntKind.signed]; omega
  have q1 : ¬ (most : Int) < (v : Int) := by omega
  have q2 : (xs.length : Int) - (n : Int) = (d : Int) := by omega
  have q3 : IntKind.u64.wrap (d : Int) = (d : Int) := by simp [IntKind.wrap, IntKind.bits, IntKind.signed]; omega
  have q4 : ¬ (d : Int) < (v : Int) := by omega
  have q6 : (n : Int) + (v : Int) = (m : Int) := by omega
  have HBL := Lib.hid hbl
  have HVM := Lib.hid (show v ≤ 1000000 by omega)
  rw [hbs, hmn]
  clear HU hb hu hl hbs hbl hA2 hd hc2 hmn
  go_enter Tryd.func70, Tryd.ntmps70
  go_wp2_with fail
  refine HUI.out.mono ?_
  rintro _ _ ⟨rfl, rfl⟩
  go_wp2_with (at_builtin; (refine wapp el38 rfl (.tmp 38) (.tmp 42) rfl (w5 := w) (vs := []) (us := bv bs) rfl ((Ext.refl _).alloc _) (row_new (Nat.le_refl _) (Wide.nil 1) rfl (by simp)) rfl (by rw [bv_len]; exact HBL.out.symm) (bv_wide _) (HVS.out.ext ((Ext.refl _).alloc _)) (bv_one _) (by have := HVM.out; rw [bv_len, HBL.out]; simp; omega) (by have := HVM.out; rw [bv_len, HBL.out]; simp; omega) ?_; intro v5 w5 hr5 hE5 hg5 hb5; rw [List.nil_append] at hr5; have HR5 := Lib.hid hr5; have HE5 := Lib.hid hE5; clear hr5 hE5 hg5 hb5))
  go_ret3
  obtain ⟨A5, c5, e5, k5, k6, k7, k8⟩ := HR5.out.bytes
  exact ⟨_, rfl, ⟨A5, c5, e5, k6, k7, k5, fun ad ha => ⟨(k8 ad ha).1, HR5.out.ty _ (by rw [e5, ha]; rfl)⟩⟩, HE5.out⟩
/-- A byte string is handed back, newly made. -/
def RetBs (N : Nat → Prop) (b : Nat) (bs : List UInt8) (s : Sg) (w : World) (e : Ending) (w' : World) : Prop := ∃ v, e = .returned v ∧ SlN w' w.heap.size v bs ∧ St w' N b s ∧ Exg b w w'
theorem bytesR_none (m : Nat) (xs : List UInt8) (h : (bytesR m (some xs)).2 = none) : (bytesR m (some xs)).1 = [] := by
  unfold bytesR at h ⊢
  simp only at h ⊢
  cases hu : uintF xs with
  | none => rfl
  | some p =>
    rw [hu] at h
    simp only at h ⊢
    split
    · rfl
    · split
      · rfl
      · rename_i h1 h2
        rw [if_neg h1, if_neg h2] at h
        cases h
set_option maxRecDepth 100000 in
set_option maxHeartbeats 1000000 in
theorem bytes48_st (N : Nat → Prop) (b most : Nat) (s : Sg) (w : World) (h : St w N b s) (hb : b < w.heap.size) (hN : ∀ g, N g → g < w.heap.size) (hm : most ≤ 1000000) : Calls Tryd.prog 48 #[.pointer (some ⟨b, 0, none⟩), .int .i64 (most : Int)] w (RetBs N b (bytesR most s).1 (bytesR most s).2 w) := by
  cases s with
  | none =>
    have HX := Lib.hid (show RdX w b from h)
    clear h
    go_enter Tryd.func48, Tryd.ntmps48
    go_wp2_with fail
    refine (open67_x b w HX.out).mono ?_
    rintro _ _ ⟨rfl, rfl⟩
    go_wp2_with fail
    go_ret
    exact ⟨nilV, rfl, SlN.nil _ _, HX.out, Exg.refl _ _⟩
  | some xs =>
    have hr : Rd w N b xs := h
    have hlen := hr.len
    have HO := Lib.hid (open67_ok N b _ w hr)
    have HR := Lib.hid hr
    have HN := Lib.hid hN
    have HBW := Lib.hid hb
    obtain ⟨A, c, h0, h1, hf, hby, hc, -⟩ := hr
    clear h
    cases hs : (bytesR most (some xs)).2 with
    | none =>
      have C70 := Lib.hid (nbytes70_no xs A c most w hby hlen hm hs)
      rw [bytesR_none _ _ hs]
      clear hby hs hlen hN hf h1
      go_enter Tryd.func48, Tryd.ntmps48
      go_wp2_with fail
      refine HO.out.mono ?_
      rintro _ _ ⟨rfl, rfl⟩
      go_wp2_with fail
      refine C70.out.mono ?_
      rintro _ _ ⟨⟨er, rfl, he⟩, rfl⟩
      go_wp2_with fail
      refine (take69_x N b 0 er xs w HR.out he).mono ?_
      rintro _ w3 ⟨rfl, hX, hE⟩
      have HX := Lib.hid hX
      have HE := Lib.hid hE
      clear hX hE
      go_wp2_with fail
      go_ret
      exact ⟨nilV, rfl, SlN.nil _ _, HX.out, HE.out⟩
    | some rest =>
      obtain ⟨v, n, hu, hv, hl, e1, e2⟩ : ∃ v n, uintF xs = some (v, n) ∧ v ≤ most ∧ v ≤ xs.length - n ∧ (bytesR most (some xs)).1 = (xs.drop n).take v ∧ rest = xs.drop (n + v) := by
        unfold bytesR at hs ⊢
        simp only at hs ⊢
        cases hu : uintF xs with
        | none => rw [hu] at hs; cases hs
        | some p =>
          obtain ⟨v, n⟩ := p
          rw [hu] at hs
          simp only at hs ⊢
          split at hs
          · cases hs
          · split at hs
            · cases hs
            · rename_i k1 k2
              rw [if_neg k1, if_neg k2]
              exact ⟨v, n, rfl, by omega, by omega, rfl, (Option.some.inj hs).symm⟩
      have hn := (uintF_facts hu).2.1
      have C70 := Lib.hid (nbytes70_yes xs A c most v n w hby hlen hc hm hu hv hl)
      have HNV := Lib.hid (show n + v ≤ xs.length by omega)
      rw [e1]
      obtain ⟨bs, hbs⟩ : ∃ bs, (xs.drop n).take v = bs := ⟨_, rfl⟩
      obtain ⟨m, hmn⟩ : ∃ m, n + v = m := ⟨_, rfl⟩
      rw [hbs, hmn] at C70
      rw [hmn] at HNV e2
      rw [hbs]
      subst e2
      clear hby hs hlen hN hf h1 hu hv hl e1 hbs hmn hn hb
      go_enter Tryd.func48, Tryd.ntmps48
      go_wp2_with fail
      refine HO.out.mono ?_
      rintro _ _ ⟨rfl, rfl⟩
      go_wp2_with fail
      refine C70.out.mono ?_
      rintro _ w2 ⟨v2, rfl, hs2, hE2⟩
      have HS2 := Lib.hid hs2
      have HE2 := Lib.hid hE2
      have HR2 : Hid (Rd w2 N b xs) := Lib.hid (St.ext (s := some xs) HR.out hE2 HBW.out HN.out)
      clear hs2 hE2
      go_wp2_with fail
      refine (take69_ok N b m xs w2 HR2.out HNV.out).mono ?_
      intro e3 w3 h3
      obtain ⟨rfl, hR, hE⟩ := ret_st h3
      have HR3 := Lib.hid hR
      have HE3 := Lib.hid hE
      clear hR hE h3
      go_wp2_with fail
      go_ret
      exact ⟨_, rfl, HS2.out.far HE3.out HBW.out, HR3.out, (HE2.out.exg b).trans HE3.out⟩
end Go.Proofs.YtjedhndhdkiidaaDoor
