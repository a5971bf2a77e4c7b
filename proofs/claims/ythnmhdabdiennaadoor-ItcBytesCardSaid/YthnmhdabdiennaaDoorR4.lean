/- The walk over the reference's fill. The walk over the reference's grow. The walk over the reference's Event. -/
import Derived.Test.YthnmhdabdiennaaDoorR0
import Derived.IntWalk
import Derived.ChangeKeysEq
namespace Go.Proofs.YthnmhdabdiennaaDoor
open Go.RowKit
attribute [local go_sem ↓] Go.wp_at_zero Go.wp_at_succ
attribute [local go_sem ↓] ld36 ld34 ld38 st36 st38 st32 al36 al38 bu36 bu32 bu38 bs23
attribute [local go_sem] run_ld36 run_st36 run_al36 blkOf_drew blkOf_setRow_same blkOf_setRow_other RV_size run_bu36
def Big (s : Nat → Nat) : Prop := ∀ k, k < 256 → s k ≤ 4611686018427387904
theorem Big.u {s : Nat → Nat} (h : Big s) : ∀ k, k < 256 → s k ≤ 9223372036854775807 := fun k hk => Nat.le_trans (h k hk) (by decide)
theorem Big.set {s : Nat → Nat} (h : Big s) {low n v : Nat} (hv : v ≤ 4611686018427387904) : Big (setR s low n v) := fun k hk => by unfold setR; split; exact hv; exact h k hk
theorem Big.bd {s : Nat → Nat} (h : Big s) {low n : Nat} (h' : low + n ≤ 256) (h0 : low < 256) : lst s low n ≤ 4611686018427387904 ∧ mst s low n ≤ 4611686018427387904 := lst_bound s low n _ h h' h0
theorem Big.fill {o : Nat → Bool} : ∀ {d low : Nat} {s : Nat → Nat}, Big s → low + 2 ^ d ≤ 256 → Big (fillR o d low s)
  | 0, _, _, h, _ => h
  | e + 1, low, s, h, hl => by
    have hp := pow_half e
    have hq := pow_pos2 e
    unfold fillR
    split
    · exact h
    · split
      · exact h.set (h.bd hl (by omega)).2
      · split
        · have f := Big.fill (o := o) (d := e) (low := low + 2 ^ e) h (by omega)
          exact f.set (Nat.max_le.2 ⟨(f.bd (by omega) (by omega)).2, (f.bd (by omega) (by omega)).1⟩)
        · split
          · have f := Big.fill (o := o) (d := e) (low := low) h (by omega)
            exact f.set (Nat.max_le.2 ⟨(f.bd (by omega) (by omega)).2, (f.bd (by omega) (by omega)).1⟩)
          · exact Big.fill (Big.fill h (by omega)) (by omega)
theorem Ext.heldB {w w' : World} (h : Ext w w') : Ext w w' ∧ ∀ b, b < w.heap.size → blkOf w' b = blkOf w b := ⟨h, fun _ hb => blkOf_ext h hb⟩
theorem beqT {a b : Nat} (h : a = b) : (((a : Nat) : Int) == ((b : Nat) : Int)) = true := by simp [h]
theorem beqF {a b : Nat} (h : a ≠ b) : (((a : Nat) : Int) == ((b : Nat) : Int)) = false := by simp; omega
theorem beq0T {a : Nat} (h : a = 0) : (((a : Nat) : Int) == 0) = true := by simp [h]
theorem beq0F {a : Nat} (h : a ≠ 0) : (((a : Nat) : Int) == 0) = false := by simp; omega
theorem ownedI (o : Nat → Bool) (s : Nat → Nat) (low n : Nat) (i : Int) (w : World) (hi : i = ((low : Nat) : Int)) (h : low + n ≤ 256) : Calls Tryd.prog 67 #[.agg (RV o s), .int .i64 i, .int .i64 (n : Int)] w (RetN (cnt o low n) w) := by rw [hi]; exact owned_any o s low n w h
theorem boundsI (o : Nat → Bool) (s : Nat → Nat) (low n : Nat) (i : Int) (w : World) (hi : i = ((low : Nat) : Int)) (h : low + n ≤ 256) (h0 : 0 < n) (hs : Big s) : Calls Tryd.prog 68 #[.agg (RV o s), .int .i64 i, .int .i64 (n : Int)] w (RetNN (lst s low n) (mst s low n) w) := by rw [hi]; exact bounds_any o s low n w h h0 hs.u
theorem setI (o : Nat → Bool) (s : Nat → Nat) (low n v : Nat) (i j : Int) (w : World) (hi : i = ((low : Nat) : Int)) (hj : j = ((v : Nat) : Int)) (h : low + n ≤ 256) : Calls Tryd.prog 81 #[.agg (RV o s), .int .i64 i, .int .i64 (n : Int), .int .u64 j] w (RetR o (setR s low n v) w) := by rw [hi, hj]; exact set_any o s low n v w h
set_option maxRecDepth 100000 in
set_option maxHeartbeats 8000000 in
theorem rfill_any (o : Nat → Bool) : ∀ (d low n : Nat) (s : Nat → Nat) (w : World), n = 2 ^ d → low + n ≤ 256 → Big s → Calls Tryd.prog 74 #[.agg (RV o s), .int .i64 (low : Int), .int .i64 (n : Int)] w (RetR o (fillR o d low s) w) := by
  intro d
  induction d with
  | zero =>
    intro low n s w hn h hs
    obtain rfl : n = 1 := hn
    have e1 : lst s low 1 = s low := by simp [lst]
    have e2 : mst s low 1 = s low := by simp [mst]
    have OW := Lib.hid (fun w => owned_any o s low 1 w h)
    have BD := Lib.hid (fun w => bounds_any o s low 1 w h (by omega) hs.u)
    rw [e1, e2] at BD
    have CL := cnt_le o low 1
    clear e1 e2
    have HF : Hid (fillR o 0 low s = s) := Lib.hid rfl
    have bl := hs low (by omega)
    have HS := Lib.hid hs
    clear hs
    generalize cnt o low 1 = c at *
    generalize s low = a at *
    have tab : (((a : Nat) : Int) == ((a : Nat) : Int)) = true := beqT rfl
    rcases Nat.eq_zero_or_pos c with c0 | c0
    · have tc := beq0T c0
      clear c0
      go_enter Tryd.func74, Tryd.ntmps74
      go_upto_region 1 with (fail)
      generalize hW : (w.alloc (.cells (RV o s) 36)).alloc (.cells RV0 36) = w0
      obtain ⟨E, hb, hb', hg⟩ := letterRR hW
      clear hW
      go_wp2_with fail
      refine (OW.out _).mono ?_
      rintro e1 w1 ⟨rfl, hE1⟩
      have z1 := hE1.size
      rw [← blkOf_ext hE1 (by omega)] at hb hb'
      go_wp2_with fail
      refine (BD.out _).mono ?_
      rintro e2 w2 ⟨rfl, hE2⟩
      have z2 := hE2.size
      rw [← blkOf_ext hE2 (by omega)] at hb hb'
      have E2 := (E.trans hE1).trans hE2
      clear hE1 hE2
      go_wp2_with fail
      rw [HF.out]
      exact bodyPost_ret (v := .agg (RV o s)) (res36 Tryd.results74 (g := w.heap.size + 1) rfl (blkOf_setRow_same (by rw [hb', RV_size]))) rfl ⟨rfl, E2.setRow (by omega) _⟩
    · have tc := beq0F (show c ≠ 0 by omega)
      go_enter Tryd.func74, Tryd.ntmps74
      go_upto_region 1 with (fail)
      generalize hW : (w.alloc (.cells (RV o s) 36)).alloc (.cells RV0 36) = w0
      obtain ⟨E, hb, hb', hg⟩ := letterRR hW
      clear hW
      go_wp2_with fail
      refine (OW.out _).mono ?_
      rintro e1 w1 ⟨rfl, hE1⟩
      have z1 := hE1.size
      rw [← blkOf_ext hE1 (by omega)] at hb hb'
      go_wp2_with fail
      refine (BD.out _).mono ?_
      rintro e2 w2 ⟨rfl, hE2⟩
      have z2 := hE2.size
      rw [← blkOf_ext hE2 (by omega)] at hb hb'
      have E2 := (E.trans hE1).trans hE2
      clear hE1 hE2
      go_wp2_with fail
      rw [HF.out]
      exact bodyPost_ret (v := .agg (RV o s)) (res36 Tryd.results74 (g := w.heap.size + 1) rfl (blkOf_setRow_same (by rw [hb', RV_size]))) rfl ⟨rfl, E2.setRow (by omega) _⟩
  | succ e ih =>
    intro low n s w hn h hs
    have hp := pow_half e
    have hq := pow_pos2 e
    have CL := cnt_le o low n
    have LM := lst_le_mst s low n
    obtain ⟨bl, bm⟩ := hs.bd h (by omega)
    have OW := Lib.hid (fun w => owned_any o s low n w h)
    have BD := Lib.hid (fun w => bounds_any o s low n w h (by omega) hs.u)
    have FE : Hid (fillR o (e + 1) low s = if cnt o low n = 0 ∨ lst s low n = mst s low n then s
      else if cnt o low n = n then setR s low n (mst s low n)
      else if cnt o low (2 ^ e) = 2 ^ e then
        setR (fillR o e (low + 2 ^ e) s) low (2 ^ e) (max (mst (fillR o e (low + 2 ^ e) s) low (2 ^ e)) (lst (fillR o e (low + 2 ^ e) s) (low + 2 ^ e) (2 ^ e)))
      else if cnt o (low + 2 ^ e) (2 ^ e) = 2 ^ e then
        setR (fillR o e low s) (low + 2 ^ e) (2 ^ e) (max (mst (fillR o e low s) (low + 2 ^ e) (2 ^ e)) (lst (fillR o e low s) low (2 ^ e)))
      else fillR o e (low + 2 ^ e) (fillR o e low s)) := Lib.hid (by rw [hn]; rfl)
    by_cases c0 : cnt o low n = 0
    · have FS : Hid (fillR o (e + 1) low s = s) := Lib.hid (by rw [FE.out, if_pos (.inl c0)])
      clear FE ih
      have tc := beq0T c0
      clear c0
      generalize cnt o low n = c at *
      generalize lst s low n = a at *
      generalize mst s low n = b at *
      clear hn hp hs
      go_enter Tryd.func74, Tryd.ntmps74
      go_upto_region 1 with (fail)
      generalize hW : (w.alloc (.cells (RV o s) 36)).alloc (.cells RV0 36) = w0
      obtain ⟨E, hb, hb', hg⟩ := letterRR hW
      clear hW
      go_wp2_with fail
      refine (OW.out _).mono ?_
      rintro e1 w1 ⟨rfl, hE1⟩
      have z1 := hE1.size
      rw [← blkOf_ext hE1 (by omega)] at hb hb'
      go_wp2_with fail
      refine (BD.out _).mono ?_
      rintro e2 w2 ⟨rfl, hE2⟩
      have z2 := hE2.size
      rw [← blkOf_ext hE2 (by omega)] at hb hb'
      have E2 := (E.trans hE1).trans hE2
      clear hE1 hE2
      go_wp2_with fail
      rw [FS.out]
      exact bodyPost_ret (v := .agg (RV o s)) (res36 Tryd.results74 (g := w.heap.size + 1) rfl (blkOf_setRow_same (by rw [hb', RV_size]))) rfl ⟨rfl, E2.setRow (by omega) _⟩
    have tc := beq0F c0
    by_cases c1 : lst s low n = mst s low n
    · have FS : Hid (fillR o (e + 1) low s = s) := Lib.hid (by rw [FE.out, if_pos (.inr c1)])
      clear FE ih
      have tab := beqT c1
      clear c0 c1
      generalize cnt o low n = c at *
      generalize lst s low n = a at *
      generalize mst s low n = b at *
      clear hn hp hs
      go_enter Tryd.func74, Tryd.ntmps74
      go_upto_region 1 with (fail)
      generalize hW : (w.alloc (.cells (RV o s) 36)).alloc (.cells RV0 36) = w0
      obtain ⟨E, hb, hb', hg⟩ := letterRR hW
      clear hW
      go_wp2_with fail
      refine (OW.out _).mono ?_
      rintro e1 w1 ⟨rfl, hE1⟩
      have z1 := hE1.size
      rw [← blkOf_ext hE1 (by omega)] at hb hb'
      go_wp2_with fail
      refine (BD.out _).mono ?_
      rintro e2 w2 ⟨rfl, hE2⟩
      have z2 := hE2.size
      rw [← blkOf_ext hE2 (by omega)] at hb hb'
      have E2 := (E.trans hE1).trans hE2
      clear hE1 hE2
      go_wp2_with fail
      rw [FS.out]
      exact bodyPost_ret (v := .agg (RV o s)) (res36 Tryd.results74 (g := w.heap.size + 1) rfl (blkOf_setRow_same (by rw [hb', RV_size]))) rfl ⟨rfl, E2.setRow (by omega) _⟩
    have tab := beqF c1
    by_cases c2 : cnt o low n = n
    · have FS : Hid (fillR o (e + 1) low s = setR s low n (mst s low n)) := Lib.hid (by rw [FE.out, if_neg (by omega), if_pos c2])
      clear FE ih
      have tcn := beqT c2
      clear c0 c1 c2
      generalize cnt o low n = c at *
      generalize lst s low n = a at *
      generalize mst s low n = b at *
      clear hn hp hs
      go_enter Tryd.func74, Tryd.ntmps74
      go_upto_region 1 with (fail)
      generalize hW : (w.alloc (.cells (RV o s) 36)).alloc (.cells RV0 36) = w0
      obtain ⟨E, hb, hb', hg⟩ := letterRR hW
      clear hW
      go_wp2_with fail
      refine (OW.out _).mono ?_
      rintro e1 w1 ⟨rfl, hE1⟩
      have z1 := hE1.size
      rw [← blkOf_ext hE1 (by omega)] at hb hb'
      go_wp2_with fail
      refine (BD.out _).mono ?_
      rintro e2 w2 ⟨rfl, hE2⟩
      have z2 := hE2.size
      rw [← blkOf_ext hE2 (by omega)] at hb hb'
      have E2 := (E.trans hE1).trans hE2
      clear hE1 hE2
      go_wp2_with fail
      refine (set_any o s low n b w2 h).mono ?_
      rintro e3 w3 ⟨rfl, hE3⟩
      have z3 := hE3.size
      rw [← blkOf_ext hE3 (by omega)] at hb hb'
      go_wp2_with fail
      rw [FS.out]
      exact bodyPost_ret (v := .agg (RV o (setR s low n b))) (res36 Tryd.results74 (g := w.heap.size + 1) rfl (blkOf_setRow_same (by rw [hb', RV_size]))) rfl ⟨rfl, (E2.trans hE3).setRow (by omega) _⟩
    have tcn := beqF c2
    have F3 : Hid (fillR o (e + 1) low s = if cnt o low (2 ^ e) = 2 ^ e then
        setR (fillR o e (low + 2 ^ e) s) low (2 ^ e) (max (mst (fillR o e (low + 2 ^ e) s) low (2 ^ e)) (lst (fillR o e (low + 2 ^ e) s) (low + 2 ^ e) (2 ^ e)))
      else if cnt o (low + 2 ^ e) (2 ^ e) = 2 ^ e then
        setR (fillR o e low s) (low + 2 ^ e) (2 ^ e) (max (mst (fillR o e low s) (low + 2 ^ e) (2 ^ e)) (lst (fillR o e low s) low (2 ^ e)))
      else fillR o e (low + 2 ^ e) (fillR o e low s)) := Lib.hid (by rw [FE.out, if_neg (by omega), if_neg c2])
    clear FE
    have IL := Lib.hid (fun (s : Nat → Nat) (w : World) (hs : Big s) => ih low (2 ^ e) s w rfl (by omega) hs)
    have IR := Lib.hid (fun (s : Nat → Nat) (w : World) (hs : Big s) => show Calls Tryd.prog 74 #[.agg (RV o s), .int .i64 ((low : Int) + ((2 ^ e : Nat) : Int)), .int .i64 ((2 ^ e : Nat) : Int)] w (RetR o (fillR o e (low + 2 ^ e) s) w) from by
      have := ih (low + 2 ^ e) (2 ^ e) s w rfl (by omega) hs
      rwa [Int.natCast_add] at this)
    have BL : Hid (Big (fillR o e low s)) := Lib.hid (hs.fill (by omega))
    have BR : Hid (Big (fillR o e (low + 2 ^ e) s)) := Lib.hid (hs.fill (by omega))
    have HS := Lib.hid hs
    clear ih hs
    have hnm : n = 2 ^ e + 2 ^ e := by omega
    clear hn hp
    generalize 2 ^ e = m at *
    have CLL := cnt_le o low m
    have CLR := cnt_le o (low + m) m
    have OWL := Lib.hid (fun w => owned_any o s low m w (by omega))
    have OWR := Lib.hid (fun w => ownedI o s (low + m) m ((low : Int) + (m : Int)) w (by omega) (by omega))
    have hdiv : ((n : Nat) : Int) / 2 = ((m : Nat) : Int) := by omega
    have HNM := Lib.hid hnm
    have hmm : n ≤ m + m := by omega
    have hmm' : m + m ≤ n := by omega
    clear hnm c0 c1 c2
    generalize cnt o low n = c at *
    generalize lst s low n = a at *
    generalize mst s low n = b at *
    generalize cnt o low m = cl at *
    generalize cnt o (low + m) m = cr at *
    go_enter Tryd.func74, Tryd.ntmps74
    go_upto_region 1 with (fail)
    generalize hW : (w.alloc (.cells (RV o s) 36)).alloc (.cells RV0 36) = w0
    obtain ⟨E, hb, hb', hg⟩ := letterRR hW
    clear hW
    go_wp2_with fail
    refine (OW.out _).mono ?_
    rintro e1 w1 ⟨rfl, hE1⟩
    have z1 := hE1.size
    rw [← blkOf_ext hE1 (by omega)] at hb hb'
    go_wp2_with fail
    refine (BD.out _).mono ?_
    rintro e2 w2 ⟨rfl, hE2⟩
    have z2 := hE2.size
    rw [← blkOf_ext hE2 (by omega)] at hb hb'
    have E2 := (E.trans hE1).trans hE2
    clear hE1 hE2
    go_wp2_with fail
    have zA : w.heap.size < w2.heap.size := by omega
    have zB : w.heap.size + 1 < w2.heap.size := by omega
    have wr : IntKind.i64.wrap ((low : Int) + (m : Int)) = (low : Int) + (m : Int) := IntWalk.i64_in _ (by omega)
    go_region_held3 (fun w' => Ext w2 w' ∧ ∀ b, b < w2.heap.size → blkOf w' b = blkOf w2 b)
      (refine Ext.heldB ?_ <;> repeat (first | assumption | exact Ext.refl _ | apply Ext.drew | apply Ext.drewN))
      (first
        | (go_at_call 67; go_split_ands; (with_reducible refine (OWL.out _).mono ?_); rintro e3 w3 ⟨rfl, hbb⟩; have hE3 : Ext w2 w3 := Ext.trans (by assumption) hbb)
        | (go_at_call 67; go_split_ands; (with_reducible refine (OWR.out _).mono ?_); rintro e4 w4 ⟨rfl, hbb⟩; have hE4 : Ext w2 w4 := Ext.trans (by assumption) hbb))
    clear wr OWL OWR OW BD
    have z4 := hE4.size
    rw [← blkOf_ext hE4 (by omega)] at hb hb'
    replace E2 := E2.trans hE4
    clear hbb hE4
    by_cases c3 : cl = m
    · have FS : Hid (fillR o (e + 1) low s = setR (fillR o e (low + m) s) low m (max (mst (fillR o e (low + m) s) low m) (lst (fillR o e (low + m) s) (low + m) m))) := Lib.hid (by rw [F3.out, if_pos c3])
      have tl := beqT c3
      clear c3 F3
      go_wp2_with fail
      refine (IR.out s w4 HS.out).mono ?_
      rintro e5 w5 ⟨rfl, hE5⟩
      have z5 := hE5.size
      rw [← blkOf_ext hE5 (by omega)] at hb hb'
      replace E2 := (E2.trans hE5).setRow (g := w.heap.size) (Nat.le_refl _) (RV o (fillR o e (low + m) s))
      generalize fillR o e (low + m) s = s1 at *
      go_wp2_with fail
      refine (bounds_any o s1 low m _ (by omega) (by omega) BR.out.u).mono ?_
      rintro e6 w6 ⟨rfl, hE6⟩
      have z6 := hE6.size
      rw [setRow_size] at z6
      replace hb : blkOf w6 w.heap.size = RV o s1 := by rw [blkOf_ext hE6 (by rw [setRow_size]; omega), blkOf_setRow_same (by rw [hb, RV_size])]
      replace hb' : blkOf w6 (w.heap.size + 1) = RV0 := by rw [blkOf_ext hE6 (by rw [setRow_size]; omega), blkOf_setRow_other (by simp)]; exact hb'
      replace E2 := E2.trans hE6
      clear hE6 hE5
      go_wp2_with fail
      refine (boundsI o s1 (low + m) m _ w6 (by omega) (by omega) (by omega) BR.out).mono ?_
      rintro e7 w7 ⟨rfl, hE7⟩
      have z7 := hE7.size
      rw [← blkOf_ext hE7 (by omega)] at hb hb'
      replace E2 := E2.trans hE7
      clear hE7
      have b1 := (BR.out.bd (low := low) (n := m) (by omega) (by omega)).2
      have b2 := (BR.out.bd (low := low + m) (n := m) (by omega) (by omega)).1
      generalize mst s1 low m = x at *
      generalize lst s1 (low + m) m = y at *
      go_wp2_with fail
      all_goals
        refine (setI o s1 low m (max x y) _ _ w7 rfl (by first | (split <;> omega) | omega) (by omega)).mono ?_
        rintro e8 w8 ⟨rfl, hE8⟩
        have z8 := hE8.size
        rw [← blkOf_ext hE8 (by omega)] at hb hb'
        go_wp2_with fail
        rw [FS.out]
        exact bodyPost_ret (v := .agg (RV o (setR s1 low m (max x y)))) (res36 Tryd.results74 (g := w.heap.size + 1) rfl (blkOf_setRow_same (by rw [hb', RV_size]))) rfl ⟨rfl, (E2.trans hE8).setRow (by omega) _⟩
    have tl := beqF c3
    by_cases c4 : cr = m
    · have FS : Hid (fillR o (e + 1) low s = setR (fillR o e low s) (low + m) m (max (mst (fillR o e low s) (low + m) m) (lst (fillR o e low s) low m))) := Lib.hid (by rw [F3.out, if_neg c3, if_pos c4])
      have tr := beqT c4
      clear c3 c4 F3
      go_wp2_with fail
      refine (IL.out s w4 HS.out).mono ?_
      rintro e5 w5 ⟨rfl, hE5⟩
      have z5 := hE5.size
      rw [← blkOf_ext hE5 (by omega)] at hb hb'
      replace E2 := (E2.trans hE5).setRow (g := w.heap.size) (Nat.le_refl _) (RV o (fillR o e low s))
      generalize fillR o e low s = s1 at *
      go_wp2_with fail
      refine (boundsI o s1 (low + m) m _ _ (by omega) (by omega) (by omega) BL.out).mono ?_
      rintro e6 w6 ⟨rfl, hE6⟩
      have z6 := hE6.size
      rw [setRow_size] at z6
      replace hb : blkOf w6 w.heap.size = RV o s1 := by rw [blkOf_ext hE6 (by rw [setRow_size]; omega), blkOf_setRow_same (by rw [hb, RV_size])]
      replace hb' : blkOf w6 (w.heap.size + 1) = RV0 := by rw [blkOf_ext hE6 (by rw [setRow_size]; omega), blkOf_setRow_other (by simp)]; exact hb'
      replace E2 := E2.trans hE6
      clear hE6 hE5
      go_wp2_with fail
      refine (bounds_any o s1 low m w6 (by omega) (by omega) BL.out.u).mono ?_
      rintro e7 w7 ⟨rfl, hE7⟩
      have z7 := hE7.size
      rw [← blkOf_ext hE7 (by omega)] at hb hb'
      replace E2 := E2.trans hE7
      clear hE7
      have b1 := (BL.out.bd (low := low) (n := m) (by omega) (by omega)).1
      have b2 := (BL.out.bd (low := low + m) (n := m) (by omega) (by omega)).2
      generalize mst s1 (low + m) m = x at *
      generalize lst s1 low m = y at *
      go_wp2_with fail
      all_goals
        refine (setI o s1 (low + m) m (max x y) _ _ w7 (by omega) (by first | (split <;> omega) | omega) (by omega)).mono ?_
        rintro e8 w8 ⟨rfl, hE8⟩
        have z8 := hE8.size
        rw [← blkOf_ext hE8 (by omega)] at hb hb'
        go_wp2_with fail
        rw [FS.out]
        exact bodyPost_ret (v := .agg (RV o (setR s1 (low + m) m (max x y)))) (res36 Tryd.results74 (g := w.heap.size + 1) rfl (blkOf_setRow_same (by rw [hb', RV_size]))) rfl ⟨rfl, (E2.trans hE8).setRow (by omega) _⟩
    have tr := beqF c4
    have FS : Hid (fillR o (e + 1) low s = fillR o e (low + m) (fillR o e low s)) := Lib.hid (by rw [F3.out, if_neg c3, if_neg c4])
    clear c3 c4 F3
    go_wp2_with fail
    refine (IL.out s w4 HS.out).mono ?_
    rintro e5 w5 ⟨rfl, hE5⟩
    have z5 := hE5.size
    rw [← blkOf_ext hE5 (by omega)] at hb hb'
    replace E2 := E2.trans hE5
    clear hE5
    generalize fillR o e low s = s1 at *
    go_wp2_with fail
    refine (IR.out s1 w5 BL.out).mono ?_
    rintro e6 w6 ⟨rfl, hE6⟩
    have z6 := hE6.size
    rw [← blkOf_ext hE6 (by omega)] at hb hb'
    generalize fillR o e (low + m) s1 = s2 at *
    go_wp2_with fail
    rw [FS.out]
    exact bodyPost_ret (v := .agg (RV o s2)) (res36 Tryd.results74 (g := w.heap.size + 1) rfl (blkOf_setRow_same (by rw [hb', RV_size]))) rfl ⟨rfl, (E2.trans hE6).setRow (by omega) _⟩
end Go.Proofs.YthnmhdabdiennaaDoor
namespace Go.Proofs.YthnmhdabdiennaaDoor
open Go.RowKit
attribute [local go_sem ↓] Go.wp_at_zero Go.wp_at_succ
attribute [local go_sem ↓] ld36 ld34 ld38 st36 st38 st32 al36 al38 bu36 bu32 bu38 bs23
attribute [local go_sem] run_ld36 run_st36 run_al36 blkOf_drew blkOf_setRow_same blkOf_setRow_other RV_size run_bu36
theorem blkOf_old {w : World} {o : Obj} {g : Nat} (h : g < w.heap.size) : blkOf (w.alloc o) g = blkOf w g := blkOf_ext ((Ext.refl _).alloc _) h
attribute [local go_sem] blkOf_new blkOf_old
theorem growR_cost (o : Nat → Bool) : ∀ (d low : Nat) (s : Nat → Nat), (growR o d low s).2 ≤ 1001 * d
  | 0, _, _ => Nat.le_refl _
  | e + 1, low, s => by
    have h1 := growR_cost o e low s
    have h2 := growR_cost o e (low + 2 ^ e) s
    unfold growR
    split
    · simp
    · split
      · simp only []; split <;> omega
      · split
        · simp only []; split <;> omega
        · split <;> simp only [] <;> split <;> omega
def RetRN (o : Nat → Bool) (r : (Nat → Nat) × Nat) (w : World) (e : Ending) (w' : World) : Prop := e = .returned (.tuple #[.agg (RV o r.1), .int .i64 (r.2 : Int)]) ∧ Ext w w'
set_option maxRecDepth 100000 in
set_option maxHeartbeats 16000000 in
theorem rgrow_any (o : Nat → Bool) : ∀ (d low n : Nat) (s : Nat → Nat) (w : World), n = 2 ^ d → d ≤ 8 → low + n ≤ 256 → Big s → 0 < cnt o low n → Calls Tryd.prog 75 #[.agg (RV o s), .int .i64 (low : Int), .int .i64 (n : Int)] w (RetRN o (growR o d low s) w) := by
  intro d
  induction d with
  | zero =>
    intro low n s w hn _ h hs hpos
    obtain rfl : n = 1 := hn
    have OW := Lib.hid (fun w => owned_any o s low 1 w h)
    have BD := Lib.hid (fun w => bounds_any o s low 1 w h (by omega) hs.u)
    have CL := cnt_le o low 1
    have bl := (hs.bd h (by omega)).1
    have FS : Hid (growR o 0 low s = (setR s low 1 (lst s low 1 + 1), 0)) := Lib.hid rfl
    have tcn := beqT (show cnt o low 1 = 1 by omega)
    clear hs hpos
    generalize cnt o low 1 = c at *
    generalize lst s low 1 = a at *
    generalize mst s low 1 = b at *
    go_enter Tryd.func75, Tryd.ntmps75
    go_upto_region 1 with (fail)
    generalize hW : (w.alloc (.cells (RV o s) 36)).alloc (.cells RV0 36) = w0
    obtain ⟨E, hb, hb', hg⟩ := letterRR hW
    clear hW
    go_wp2_with fail
    refine (BD.out _).mono ?_
    rintro e1 w1 ⟨rfl, hE1⟩
    have z1 := hE1.size
    rw [← blkOf_ext hE1 (by omega)] at hb hb'
    go_wp2_with fail
    refine (OW.out _).mono ?_
    rintro e2 w2 ⟨rfl, hE2⟩
    have z2 := hE2.size
    rw [← blkOf_ext hE2 (by omega)] at hb hb'
    have E2 := (E.trans hE1).trans hE2
    clear hE1 hE2
    go_wp2_with fail
    refine (setI o s low 1 (a + 1) _ _ w2 rfl (by omega) h).mono ?_
    rintro e3 w3 ⟨rfl, hE3⟩
    have z3 := hE3.size
    rw [← blkOf_ext hE3 (by omega)] at hb hb'
    go_wp2_with fail
    rw [FS.out]
    exact bodyPost_ret (v := .tuple #[.agg (RV o (setR s low 1 (a + 1))), .int .i64 0]) (res36b Tryd.results75 (g := w.heap.size + 1) rfl rfl (blkOf_setRow_same (by rw [hb', RV_size]))) rfl ⟨rfl, (E2.trans hE3).setRow (by omega) _⟩
  | succ e ih =>
    intro low n s w hn hd h hs hpos
    have hp := pow_half e
    have hq := pow_pos2 e
    have CL := cnt_le o low n
    obtain ⟨bl, bm⟩ := hs.bd h (by omega)
    have OW := Lib.hid (fun w => owned_any o s low n w h)
    have BD := Lib.hid (fun w => bounds_any o s low n w h (by omega) hs.u)
    have FE : Hid (growR o (e + 1) low s = if cnt o low n = n then (setR s low n (lst s low n + 1), 0) else
      if cnt o low (2 ^ e) = 0 then ((growR o e (low + 2 ^ e) s).1, (growR o e (low + 2 ^ e) s).2 + (if lst s low n = mst s low n then 1001 else 1))
      else if cnt o (low + 2 ^ e) (2 ^ e) = 0 then ((growR o e low s).1, (growR o e low s).2 + (if lst s low n = mst s low n then 1001 else 1))
      else if (growR o e low s).2 < (growR o e (low + 2 ^ e) s).2 then ((growR o e low s).1, (growR o e low s).2 + (if lst s low n = mst s low n then 1001 else 1))
      else ((growR o e (low + 2 ^ e) s).1, (growR o e (low + 2 ^ e) s).2 + (if lst s low n = mst s low n then 1001 else 1))) := Lib.hid (by rw [hn]; rfl)
    by_cases c2 : cnt o low n = n
    · have FS : Hid (growR o (e + 1) low s = (setR s low n (lst s low n + 1), 0)) := Lib.hid (by rw [FE.out, if_pos c2])
      have tcn := beqT c2
      clear FE ih hs hp c2 hn hpos
      generalize cnt o low n = c at *
      generalize lst s low n = a at *
      generalize mst s low n = b at *
      go_enter Tryd.func75, Tryd.ntmps75
      go_upto_region 1 with (fail)
      generalize hW : (w.alloc (.cells (RV o s) 36)).alloc (.cells RV0 36) = w0
      obtain ⟨E, hb, hb', hg⟩ := letterRR hW
      clear hW
      go_wp2_with fail
      refine (BD.out _).mono ?_
      rintro e1 w1 ⟨rfl, hE1⟩
      have z1 := hE1.size
      rw [← blkOf_ext hE1 (by omega)] at hb hb'
      go_wp2_with fail
      refine (OW.out _).mono ?_
      rintro e2 w2 ⟨rfl, hE2⟩
      have z2 := hE2.size
      rw [← blkOf_ext hE2 (by omega)] at hb hb'
      have E2 := (E.trans hE1).trans hE2
      clear hE1 hE2
      go_wp2_with fail
      refine (setI o s low n (a + 1) _ _ w2 rfl (by omega) h).mono ?_
      rintro e3 w3 ⟨rfl, hE3⟩
      have z3 := hE3.size
      rw [← blkOf_ext hE3 (by omega)] at hb hb'
      go_wp2_with fail
      rw [FS.out]
      exact bodyPost_ret (v := .tuple #[.agg (RV o (setR s low n (a + 1))), .int .i64 0]) (res36b Tryd.results75 (g := w.heap.size + 1) rfl rfl (blkOf_setRow_same (by rw [hb', RV_size]))) rfl ⟨rfl, (E2.trans hE3).setRow (by omega) _⟩
    have tcn := beqF c2
    have hlr : 0 < cnt o low (2 ^ e) ∨ 0 < cnt o (low + 2 ^ e) (2 ^ e) := by
      rcases Nat.eq_zero_or_pos (cnt o low (2 ^ e)) with h1 | h1
      · rcases Nat.eq_zero_or_pos (cnt o (low + 2 ^ e) (2 ^ e)) with h2 | h2
        · exfalso
          have : cnt o low n = 0 := cnt_zero.2 fun k hk => by
            rcases Nat.lt_or_ge k (2 ^ e) with g | g
            · exact cnt_zero.1 h1 k g
            · have := cnt_zero.1 h2 (k - 2 ^ e) (by omega)
              rw [Nat.add_assoc low, show 2 ^ e + (k - 2 ^ e) = k by omega] at this
              exact this
          omega
        · exact .inr h2
      · exact .inl h1
    obtain ⟨K, HK, hK⟩ : ∃ K, Hid ((if lst s low n = mst s low n then 1001 else 1) = K) ∧ ((((lst s low n : Nat) : Int) == ((mst s low n : Nat) : Int)) = true ∧ K = 1001 ∨ (((lst s low n : Nat) : Int) == ((mst s low n : Nat) : Int)) = false ∧ K = 1) := by
      by_cases c : lst s low n = mst s low n
      · exact ⟨1001, Lib.hid (if_pos c), .inl ⟨beqT c, rfl⟩⟩
      · exact ⟨1, Lib.hid (if_neg c), .inr ⟨beqF c, rfl⟩⟩
    rw [HK.out, if_neg c2] at FE
    have IL' := Lib.hid (fun (hc : 0 < cnt o low (2 ^ e)) (w : World) => ih low (2 ^ e) s w rfl (by omega) (by omega) hs hc)
    have IR' := Lib.hid (fun (hc : 0 < cnt o (low + 2 ^ e) (2 ^ e)) (w : World) => show Calls Tryd.prog 75 #[.agg (RV o s), .int .i64 ((low : Int) + ((2 ^ e : Nat) : Int)), .int .i64 ((2 ^ e : Nat) : Int)] w (RetRN o (growR o e (low + 2 ^ e) s) w) from by
      have := ih (low + 2 ^ e) (2 ^ e) s w rfl (by omega) (by omega) hs hc
      rwa [Int.natCast_add] at this)
    clear ih hs HK c2 hpos
    have hnm : n = 2 ^ e + 2 ^ e := by omega
    clear hn hp
    generalize 2 ^ e = m at *
    have CLL := cnt_le o low m
    have CLR := cnt_le o (low + m) m
    have OWL := Lib.hid (fun w => owned_any o s low m w (by omega))
    have OWR := Lib.hid (fun w => ownedI o s (low + m) m ((low : Int) + (m : Int)) w (by omega) (by omega))
    have hdiv : ((n : Nat) : Int) / 2 = ((m : Nat) : Int) := by omega
    have hmm : n ≤ m + m := by omega
    have hmm' : m + m ≤ n := by omega
    clear hnm
    generalize cnt o low n = c at *
    generalize lst s low n = a at *
    generalize mst s low n = b at *
    by_cases c3 : cnt o low m = 0
    · have IR := Lib.hid (IR'.out (by omega))
      have FS : Hid (growR o (e + 1) low s = ((growR o e (low + m) s).1, (growR o e (low + m) s).2 + K)) := Lib.hid (by rw [FE.out, if_pos c3])
      have tl := beq0T c3
      clear FE IL' IR' hlr c3 OWR
      generalize cnt o low m = cl at *
      rcases hK with ⟨tab, rfl⟩ | ⟨tab, rfl⟩
      all_goals
        go_enter Tryd.func75, Tryd.ntmps75
        go_upto_region 1 with (fail)
        generalize hW : (w.alloc (.cells (RV o s) 36)).alloc (.cells RV0 36) = w0
        obtain ⟨E, hb, hb', hg⟩ := letterRR hW
        clear hW
        go_wp2_with fail
        refine (BD.out _).mono ?_
        rintro e1 w1 ⟨rfl, hE1⟩
        have z1 := hE1.size
        rw [← blkOf_ext hE1 (by omega)] at hb hb'
        go_wp2_with fail
        refine (OW.out _).mono ?_
        rintro e2 w2 ⟨rfl, hE2⟩
        have z2 := hE2.size
        rw [← blkOf_ext hE2 (by omega)] at hb hb'
        have E2 := (E.trans hE1).trans hE2
        clear hE1 hE2
        go_wp2_with fail
        refine (OWL.out _).mono ?_
        rintro e3 w3 ⟨rfl, hE3⟩
        have z3 := hE3.size
        rw [← blkOf_ext hE3 (by omega)] at hb hb'
        replace E2 := E2.trans hE3
        clear hE3
        go_wp2_with fail
        refine (IR.out w3).mono ?_
        rintro e4 w4 ⟨rfl, hE4⟩
        have z4 := hE4.size
        rw [← blkOf_ext hE4 (by omega)] at hb hb'
        replace E2 := E2.trans hE4
        clear hE4
        have B4 := growR_cost o e (low + m) s
        generalize (growR o e (low + m) s).1 = s1 at *
        generalize (growR o e (low + m) s).2 = k1 at *
        have zz4 : w.heap.size + 1 < w4.heap.size := by omega
        have zn4 : w.heap.size + 1 ≠ w4.heap.size := by omega
        have zm4 : w.heap.size < w4.heap.size := by omega
        have zo4 : w.heap.size ≠ w4.heap.size := by omega
        go_wp2_with fail
        rw [FS.out]
        refine bodyPost_ret (v := .tuple #[.agg (RV o s1), .int .i64 _]) (res36b Tryd.results75 (g := w.heap.size + 1) rfl rfl (blkOf_setRow_same ?_)) rfl ⟨?_, ?_⟩
        · rw [blkOf_setRow_other (by omega), blkOf_old (by omega), hb', RV_size]
        · rfl
        · exact ((E2.alloc _).setRow (by omega) _).setRow (by omega) _
    have tl := beq0F c3
    by_cases c4 : cnt o (low + m) m = 0
    · have IL := Lib.hid (IL'.out (by omega))
      have FS : Hid (growR o (e + 1) low s = ((growR o e low s).1, (growR o e low s).2 + K)) := Lib.hid (by rw [FE.out, if_neg c3, if_pos c4])
      have tr := beq0T c4
      clear FE IL' IR' hlr c3 c4
      generalize cnt o low m = cl at *
      generalize cnt o (low + m) m = cr at *
      rcases hK with ⟨tab, rfl⟩ | ⟨tab, rfl⟩
      all_goals
        go_enter Tryd.func75, Tryd.ntmps75
        go_upto_region 1 with (fail)
        generalize hW : (w.alloc (.cells (RV o s) 36)).alloc (.cells RV0 36) = w0
        obtain ⟨E, hb, hb', hg⟩ := letterRR hW
        clear hW
        go_wp2_with fail
        refine (BD.out _).mono ?_
        rintro e1 w1 ⟨rfl, hE1⟩
        have z1 := hE1.size
        rw [← blkOf_ext hE1 (by omega)] at hb hb'
        go_wp2_with fail
        refine (OW.out _).mono ?_
        rintro e2 w2 ⟨rfl, hE2⟩
        have z2 := hE2.size
        rw [← blkOf_ext hE2 (by omega)] at hb hb'
        have E2 := (E.trans hE1).trans hE2
        clear hE1 hE2
        go_wp2_with fail
        refine (OWL.out _).mono ?_
        rintro e3 w3 ⟨rfl, hE3⟩
        have z3 := hE3.size
        rw [← blkOf_ext hE3 (by omega)] at hb hb'
        replace E2 := E2.trans hE3
        clear hE3
        go_wp2_with fail
        refine (OWR.out _).mono ?_
        rintro e4 w4 ⟨rfl, hE4⟩
        have z4 := hE4.size
        rw [← blkOf_ext hE4 (by omega)] at hb hb'
        replace E2 := E2.trans hE4
        clear hE4
        go_wp2_with fail
        refine (IL.out w4).mono ?_
        rintro e5 w5 ⟨rfl, hE5⟩
        have z5 := hE5.size
        rw [← blkOf_ext hE5 (by omega)] at hb hb'
        replace E2 := E2.trans hE5
        clear hE5
        have B5 := growR_cost o e low s
        generalize (growR o e low s).1 = s1 at *
        generalize (growR o e low s).2 = k1 at *
        have zz5 : w.heap.size + 1 < w5.heap.size := by omega
        have zn5 : w.heap.size + 1 ≠ w5.heap.size := by omega
        have zm5 : w.heap.size < w5.heap.size := by omega
        have zo5 : w.heap.size ≠ w5.heap.size := by omega
        go_wp2_with fail
        rw [FS.out]
        refine bodyPost_ret (v := .tuple #[.agg (RV o s1), .int .i64 _]) (res36b Tryd.results75 (g := w.heap.size + 1) rfl rfl (blkOf_setRow_same ?_)) rfl ⟨?_, ?_⟩
        · rw [blkOf_setRow_other (by omega), blkOf_old (by omega), hb', RV_size]
        · rfl
        · exact ((E2.alloc _).setRow (by omega) _).setRow (by omega) _
    have tr := beq0F c4
    have IL := Lib.hid (IL'.out (by omega))
    have IR := Lib.hid (IR'.out (by omega))
    have FS : Hid (growR o (e + 1) low s = if (growR o e low s).2 < (growR o e (low + m) s).2 then ((growR o e low s).1, (growR o e low s).2 + K)
      else ((growR o e (low + m) s).1, (growR o e (low + m) s).2 + K)) := Lib.hid (by rw [FE.out, if_neg c3, if_neg c4])
    clear FE IL' IR' hlr c3 c4
    generalize cnt o low m = cl at *
    generalize cnt o (low + m) m = cr at *
    rcases hK with ⟨tab, rfl⟩ | ⟨tab, rfl⟩
    all_goals
      go_enter Tryd.func75, Tryd.ntmps75
      go_upto_region 1 with (fail)
      generalize hW : (w.alloc (.cells (RV o s) 36)).alloc (.cells RV0 36) = w0
      obtain ⟨E, hb, hb', hg⟩ := letterRR hW
      clear hW
      go_wp2_with fail
      refine (BD.out _).mono ?_
      rintro e1 w1 ⟨rfl, hE1⟩
      have z1 := hE1.size
      rw [← blkOf_ext hE1 (by omega)] at hb hb'
      go_wp2_with fail
      refine (OW.out _).mono ?_
      rintro e2 w2 ⟨rfl, hE2⟩
      have z2 := hE2.size
      rw [← blkOf_ext hE2 (by omega)] at hb hb'
      have E2 := (E.trans hE1).trans hE2
      clear hE1 hE2
      go_wp2_with fail
      refine (OWL.out _).mono ?_
      rintro e3 w3 ⟨rfl, hE3⟩
      have z3 := hE3.size
      rw [← blkOf_ext hE3 (by omega)] at hb hb'
      replace E2 := E2.trans hE3
      clear hE3
      go_wp2_with fail
      refine (OWR.out _).mono ?_
      rintro e4 w4 ⟨rfl, hE4⟩
      have z4 := hE4.size
      rw [← blkOf_ext hE4 (by omega)] at hb hb'
      replace E2 := E2.trans hE4
      clear hE4
      go_wp2_with fail
      refine (IL.out w4).mono ?_
      rintro e5 w5 ⟨rfl, hE5⟩
      have z5 := hE5.size
      rw [← blkOf_ext hE5 (by omega)] at hb hb'
      replace E2 := E2.trans hE5
      clear hE5
      have B5 := growR_cost o e low s
      generalize (growR o e low s).1 = s1 at *
      generalize (growR o e low s).2 = k1 at *
      have zz5 : w.heap.size + 1 < w5.heap.size := by omega
      have zn5 : w.heap.size + 1 ≠ w5.heap.size := by omega
      have zm5 : w.heap.size < w5.heap.size := by omega
      have zo5 : w.heap.size ≠ w5.heap.size := by omega
      go_wp2_with fail
      generalize hW5 : (w5.alloc (.cells RV0 36)).setRow w5.heap.size (RV o s1) = v5
      have q1 : blkOf v5 w5.heap.size = RV o s1 := by rw [← hW5]; exact blkOf_setRow_same (by rw [blkOf_new, RV_size])
      have q2 : blkOf v5 (w.heap.size + 1) = RV0 := by rw [← hW5, blkOf_setRow_other (by omega), blkOf_old (by omega)]; exact hb'
      have q4 : Ext w v5 := by rw [← hW5]; exact (E2.alloc _).setRow (by omega) _
      have q5 : w5.heap.size < v5.heap.size := by rw [← hW5]; simp
      clear hW5 hb hb' E2
      generalize w5.heap.size = G at *
      refine (IR.out v5).mono ?_
      rintro e6 w6 ⟨rfl, hE6⟩
      have z6 := hE6.size
      rw [← blkOf_ext hE6 (by omega)] at q1 q2
      have E6 := q4.trans hE6
      clear hE6 q4
      have B6 := growR_cost o e (low + m) s
      generalize (growR o e (low + m) s).1 = s2 at *
      generalize (growR o e (low + m) s).2 = k2 at *
      have y1 : G < w6.heap.size := by omega
      have y2 : G ≠ w6.heap.size := by omega
      have y3 : w.heap.size + 1 < w6.heap.size := by omega
      have y4 : w.heap.size + 1 ≠ w6.heap.size := by omega
      by_cases ck : k1 < k2
      · rw [if_pos ck] at FS
        go_wp2_with fail
        rw [FS.out]
        refine bodyPost_ret (v := .tuple #[.agg (RV o s1), .int .i64 _]) (res36b Tryd.results75 (g := w.heap.size + 1) rfl rfl (blkOf_setRow_same ?_)) rfl ⟨?_, ?_⟩
        · rw [blkOf_setRow_other (by omega), blkOf_old (by omega), q2, RV_size]
        · rfl
        · exact ((E6.alloc _).setRow (by omega) _).setRow (by omega) _
      · rw [if_neg ck] at FS
        go_wp2_with fail
        rw [FS.out]
        refine bodyPost_ret (v := .tuple #[.agg (RV o s2), .int .i64 _]) (res36b Tryd.results75 (g := w.heap.size + 1) rfl rfl (blkOf_setRow_same ?_)) rfl ⟨?_, ?_⟩
        · rw [blkOf_setRow_other (by omega), blkOf_old (by omega), q2, RV_size]
        · rfl
        · exact ((E6.alloc _).setRow (by omega) _).setRow (by omega) _
end Go.Proofs.YthnmhdabdiennaaDoor
namespace Go.Proofs.YthnmhdabdiennaaDoor
open Go.RowKit
attribute [local go_sem ↓] Go.wp_at_zero Go.wp_at_succ
attribute [local go_sem ↓] ld36 ld34 ld38 st36 st38 st32 al36 al38 bu36 bu32 bu38 bs23
attribute [local go_sem] run_ld36 run_st36 run_al36 blkOf_drew blkOf_setRow_same blkOf_setRow_other RV_size run_bu36 blkOf_new blkOf_old
/-- The numbers that were seen, as an array. -/
@[irreducible] def SV (s : Nat → Nat) : Array Value := ((List.range 256).map fun k => Value.int .u64 ((s k : Nat) : Int)).toArray
theorem SV_get {s : Nat → Nat} {k : Nat} (h : k < 256) : (SV s)[k]? = some (.int .u64 ((s k : Nat) : Int)) := by unfold SV; simp [h]
theorem run_ld34 {w : World} {g : Nat} {o : Nat → Bool} {s : Nat → Nat} (h : blkOf w g = RV o s) : (ldS 34 (.pointer (some ⟨g, 256, none⟩))).run Tryd.prog w = .ok (.agg (SV s)) w := by
  have hl := run_loadCells_list (P := Tryd.prog) w ⟨g, 256, none⟩ (SV s).toList (fun j v hv => by
    have hj : j < 256 := by
      rcases Nat.lt_or_ge j 256 with h | h
      · exact h
      · unfold SV at hv; simp [h] at hv
    have hadd : (⟨g, 256, none⟩ : Addr).add j = ⟨g, 256 + j, none⟩ := by unfold Addr.add; split <;> simp_all
    rw [hadd, seenAt h hj, ← SV_get hj]
    simpa using hv)
  have hz : (SV s).size = 256 := by unfold SV; simp
  have h34 := Tryd.size34
  unfold ldS Instr.loadAt Instr.sureAddr
  rw [Sem.run_bind, Sem.run_pure, Result.andThen_ok]
  cases hq : Tryd.prog.info? 34 with
  | none => rw [hq] at h34; cases h34
  | some i =>
    rw [hq] at h34
    have hs : i.size = 256 := by simpa using h34
    have hagg : (isAgg 34).run Tryd.prog w = .ok true w := by
      unfold isAgg
      rw [Sem.run_bind, run_underlying Tryd.underlying34 w]
      simp
    simp only [Array.length_toList, Array.toArray_toList, hz] at hl
    simp [loadVar, Sem.run_bind, hagg, sizeOf, typeInfo, hq, hs, hl]
def sameR (s s' : Nat → Nat) : Bool := decide (∀ k ∈ List.range 256, s k = s' k)
theorem sameR_iff (s s' : Nat → Nat) : sameR s s' = true ↔ ∀ k, k < 256 → s k = s' k := by simp [sameR]
theorem run_eq33 (d a b : Nat) (w : World) : (Op.equalIn (d + 1) 33 (.int .u64 ((a : Nat) : Int)) (.int .u64 ((b : Nat) : Int))).run Tryd.prog w = .ok (decide (a = b)) w := by
  simp only [Op.equalIn, Sem.run_bind, run_underlying Tryd.underlying33 w, Result.andThen_ok]
  by_cases e : a = b
  · simp [e]
  · simp [e]; omega
theorem run_items (s s' : Nat → Nat) (w : World) : ∀ is : List Nat, (∀ i ∈ is, i < 256) → (Op.eqItems 9999 33 1 (SV s) (SV s') is).run Tryd.prog w = .ok (decide (∀ i ∈ is, s i = s' i)) w
  | [], _ => by simp [Op.eqItems]
  | i :: is, h => by
    have hi := h i (by simp)
    have ih := run_items s s' w is (fun j hj => h j (by simp [hj]))
    have p1 : ∀ s : Nat → Nat, (part 33 (SV s) (i * 1)).run Tryd.prog w = .ok (.int .u64 ((s i : Nat) : Int)) w := fun s => by
      have hagg : (isAgg 33).run Tryd.prog w = .ok false w := by
        unfold isAgg
        rw [Sem.run_bind, run_underlying Tryd.underlying33 w]
        simp
      unfold part
      rw [Sem.run_bind, hagg]
      simp [SV_get hi]
    have p2 : (Op.equalIn 9999 33 (.int .u64 ((s i : Nat) : Int)) (.int .u64 ((s' i : Nat) : Int))).run Tryd.prog w = .ok (decide (s i = s' i)) w := by
      exact run_eq33 9998 _ _ w
    simp only [Op.eqItems, Sem.run_bind, p1, p2, Result.andThen_ok]
    by_cases e : s i = s' i
    · simp [e, ih]
    · simp [e]
theorem run_equal34 (s s' : Nat → Nat) (w : World) : (Op.equalIn 10000 34 (.agg (SV s)) (.agg (SV s'))).run Tryd.prog w = .ok (sameR s s') w := by
  have hu : ∃ i, Tryd.prog.info? 33 = some i := by
    have : (Tryd.prog.info? 33).isSome = true := by kernel_rfl
    exact Option.isSome_iff_exists.1 this
  obtain ⟨i, hi⟩ := hu
  have hc : Tryd.prog.cellsOf 33 = 1 := by kernel_rfl
  rw [show (10000 : Nat) = 9999 + 1 from rfl, run_equalIn_array w 9999 _ _ Tryd.underlying34 hi, hc, run_items s s' w _ (by simp)]
  rfl
def eventR (o : Nat → Bool) (s : Nat → Nat) : Nat → Nat := if sameR (fillR o 8 0 s) s then (growR o 8 0 s).1 else fillR o 8 0 s
def RetEv (o : Nat → Bool) (s : Nat → Nat) (w : World) (e : Ending) (w' : World) : Prop := (cnt o 0 256 = 0 ∧ RetRB o s false w e w') ∨ (0 < cnt o 0 256 ∧ RetRB o (eventR o s) true w e w')
theorem two8 : (256 : Nat) = 2 ^ 8 := by decide
theorem owned256 (o : Nat → Bool) (s : Nat → Nat) (w : World) : Calls Tryd.prog 67 #[.agg (RV o s), .int .i64 0, .int .i64 256] w (RetN (cnt o 0 256) w) := owned_any o s 0 256 w (by omega)
theorem fill256 (o : Nat → Bool) (s : Nat → Nat) (w : World) (hs : Big s) : Calls Tryd.prog 74 #[.agg (RV o s), .int .i64 0, .int .i64 256] w (RetR o (fillR o 8 0 s) w) := rfill_any o 8 0 256 s w two8 (by omega) hs
theorem grow256 (o : Nat → Bool) (s : Nat → Nat) (w : World) (hs : Big s) (hc : 0 < cnt o 0 256) : Calls Tryd.prog 75 #[.agg (RV o s), .int .i64 0, .int .i64 256] w (RetRN o (growR o 8 0 s) w) := rgrow_any o 8 0 256 s w two8 (by omega) (by omega) hs hc
set_option maxRecDepth 100000 in
set_option maxHeartbeats 4000000 in
theorem revent_any (o : Nat → Bool) (s : Nat → Nat) (w : World) (hs : Big s) : Calls Tryd.prog 55 #[.agg (RV o s)] w (RetEv o s w) := by
  have OW := Lib.hid (owned256 o s)
  have FI := Lib.hid (fun w => fill256 o s w hs)
  have GR := Lib.hid (fun w hc => grow256 o s w hs hc)
  have CL := cnt_le o 0 256
  clear hs
  rcases Nat.eq_zero_or_pos (cnt o 0 256) with c0 | c0
  · have HC := Lib.hid c0
    have tc := beq0T c0
    clear c0 FI GR
    generalize cnt o 0 256 = c at OW tc CL
    go_enter Tryd.func55, Tryd.ntmps55
    go_upto_region 1 with (fail)
    generalize hW : (w.alloc (.cells (RV o s) 36)).alloc (.cells RV0 36) = w0
    obtain ⟨E, hb, hb', hg⟩ := letterRR hW
    clear hW
    go_wp2_with fail
    refine (OW.out _).mono ?_
    rintro e1 w1 ⟨rfl, hE1⟩
    have z1 := hE1.size
    rw [← blkOf_ext hE1 (by omega)] at hb hb'
    go_wp2_with fail
    exact bodyPost_ret (v := .tuple #[.agg (RV o s), .bool false]) (res36b Tryd.results55 (g := w.heap.size + 1) rfl rfl (blkOf_setRow_same (by rw [hb', RV_size]))) rfl (.inl ⟨HC.out, rfl, (E.trans hE1).setRow (by omega) _⟩)
  · have HC := Lib.hid c0
    have tc := beq0F (show cnt o 0 256 ≠ 0 by omega)
    have GR' := Lib.hid (fun w => GR.out w c0)
    have EV : Hid (eventR o s = if sameR (fillR o 8 0 s) s then (growR o 8 0 s).1 else fillR o 8 0 s) := Lib.hid rfl
    clear c0 GR
    generalize cnt o 0 256 = c at OW tc CL
    generalize fillR o 8 0 s = s1 at *
    generalize growR o 8 0 s = r at *
    obtain ⟨s2, k2⟩ := r
    go_enter Tryd.func55, Tryd.ntmps55
    go_upto_region 1 with (fail)
    generalize hW : (w.alloc (.cells (RV o s) 36)).alloc (.cells RV0 36) = w0
    obtain ⟨E, hb, hb', hg⟩ := letterRR hW
    clear hW
    go_wp2_with fail
    refine (OW.out _).mono ?_
    rintro e1 w1 ⟨rfl, hE1⟩
    have z1 := hE1.size
    rw [← blkOf_ext hE1 (by omega)] at hb hb'
    replace E := E.trans hE1
    clear hE1
    go_wp2_with fail
    refine (FI.out _).mono ?_
    rintro e2 w2 ⟨rfl, hE2⟩
    have z2 := hE2.size
    rw [← blkOf_ext hE2 (by omega)] at hb hb'
    replace E := E.trans hE2
    clear hE2
    go_upto_region 4 with (fail)
    generalize hW5 : (w2.alloc (.cells RV0 36)).setRow w2.heap.size (RV o s1) = v5
    have q1 : blkOf v5 w2.heap.size = RV o s1 := by rw [← hW5]; exact blkOf_setRow_same (by rw [blkOf_new, RV_size])
    have q2 : blkOf v5 (w.heap.size + 1) = RV0 := by rw [← hW5, blkOf_setRow_other (by omega), blkOf_old (by omega)]; exact hb'
    have q3 : blkOf v5 w.heap.size = RV o s := by rw [← hW5, blkOf_setRow_other (by omega), blkOf_old (by omega)]; exact hb
    have q4 : Ext w v5 := by rw [← hW5]; exact (E.alloc _).setRow (by omega) _
    have q5 : w2.heap.size < v5.heap.size := by rw [← hW5]; simp
    clear hW5 hb hb' E
    generalize w2.heap.size = G at *
    have L1 := run_ld34 q1
    have L2 := run_ld34 q3
    have L3 := run_equal34 s1 s v5
    have n1 : w.heap.size + 1 ≠ G := by omega
    have n2 : G ≠ w.heap.size + 1 := by omega
    cases hsm : sameR s1 s with
    | false =>
      rw [hsm] at L3 EV
      clear hsm
      go_wp2_with fail
      refine bodyPost_ret (v := .tuple #[.agg (RV o s1), .bool true]) (res36b Tryd.results55 (g := w.heap.size + 1) rfl rfl (blkOf_setRow_same (by rw [q2, RV_size]))) rfl (.inr ⟨HC.out, ?_, q4.setRow (by omega) _⟩)
      rw [EV.out]; rfl
    | true =>
      rw [hsm] at L3 EV
      clear hsm
      go_wp2_with fail
      refine (GR'.out _).mono ?_
      rintro e3 w3 ⟨rfl, hE3⟩
      have z3 := hE3.size
      rw [← blkOf_ext hE3 (by omega)] at q1 q2 q3
      replace q4 := q4.trans hE3
      clear hE3 L1 L2 L3
      go_wp2_with fail
      refine bodyPost_ret (v := .tuple #[.agg (RV o s2), .bool true]) (res36b Tryd.results55 (g := w.heap.size + 1) rfl rfl (blkOf_setRow_same ?_)) rfl (.inr ⟨HC.out, ?_, (q4.setRow (by omega) _).setRow (by omega) _⟩)
      · rw [blkOf_setRow_other n1, q2, RV_size]
      · rw [EV.out]; rfl
end Go.Proofs.YthnmhdabdiennaaDoor
