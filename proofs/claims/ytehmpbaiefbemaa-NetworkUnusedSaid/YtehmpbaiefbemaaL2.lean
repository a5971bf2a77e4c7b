/- The law NetworkConsumed, walked. -/
import Derived.Test.YtehmpbaiefbemaaL1
namespace Go.Proofs.Ytehmpbaiefbemaa
open Go.RowKit
attribute [local go_sem ↓] Go.wp_at_zero Go.wp_at_succ
attribute [local go_sem ↓] eq73 ld32 st32 al32
attribute [local go_sem] run_eq73 run_ld32 run_st32n run_al32 blkOf_drew blkOf_setRow_same blkOf_setRow_other NV_size blkOf_alloc blkOf_new
/-- A consumed key is of a kind that a network consumes, and not of a held message. -/
def PK (hs : List Jh) (k : Ky) : Prop := 5 ≤ k.1 ∧ (k.1 ≤ 7 → hasB hs (k.2.1, k.2.2.1, k.2.2.2) = false)
theorem pk_eat {cs : List Ch} {hs : List Jh} {ks : List Ky} {k : Ky} (h : ∀ y ∈ ks, PK hs y) (hk : PK hs k) : ∀ y ∈ eatF cs ks k, PK hs y := fun y hy => by
  rcases mem_eatF.1 hy with ⟨rfl, _⟩ | h1
  · exact hk
  · exact h y h1
theorem pk_ins {hs : List Jh} {ks : List Ky} {k : Ky} (h : ∀ y ∈ ks, PK hs y) (hk : PK hs k) : ∀ y ∈ insK k ks, PK hs y := fun y hy => by
  rcases mem_insK.1 hy with rfl | h1
  · exact hk
  · exact h y h1
theorem doF_pk {cs : List Ch} {hs : List Jh} {a : Ac} {x : St} (hk : modF a.kd 6 ≠ 5) (h : ∀ y ∈ x.ks, PK hs y) : ∀ y ∈ (doF cs hs a x).ks, PK hs y := by
  unfold doF
  split
  · unfold timF
    split
    · exact pk_eat h ⟨by show 5 ≤ 9; omega, fun h => absurd h (by show ¬ (9 ≤ 7); omega)⟩
    · exact h
  · split
    · unfold exeF
      split
      · intro y hy
        rcases (mem_foldI _ _).1 hy with h4 | h4
        · unfold failK at h4
          have := (of_decide_eq_true (List.mem_filter.1 h4).2).1
          exact ⟨by omega, fun h => by omega⟩
        · exact h y h4
      · exact h
    · unfold sendF
      split
      · split
        · exact h
        · rename_i hb
          have hb : hasB hs (cF a, modF a.b 3, ↑(x.s (ix (cF a) (modF a.b 3)))) = false := by
            cases hh : hasB hs (cF a, modF a.b 3, ↑(x.s (ix (cF a) (modF a.b 3)))) with
            | true => exact absurd hh hb
            | false => rfl
          split
          · exact pk_ins h ⟨by show 5 ≤ 5; omega, fun _ => hb⟩
          · split
            · exact pk_ins (pk_eat h ⟨by show 5 ≤ 6; omega, fun _ => hb⟩) ⟨by show 5 ≤ 7; omega, fun _ => hb⟩
            · exact pk_eat h ⟨by show 5 ≤ 6; omega, fun _ => hb⟩
      · exact h
theorem stF_pk {cs : List Ch} {hs : List Jh} {al : List (Ac × Value)} (hk : ∀ a ∈ al, modF a.1.kd 6 ≠ 5) : ∀ i, i ≤ al.length → ∀ y ∈ (stF cs hs al St0 i).ks, PK hs y
  | 0, _ => by simp [stF]
  | i + 1, hi => by
    rw [stF_succ (by omega)]
    exact doF_pk (hk _ (getD_memA (by omega))) (stF_pk hk i (by omega))
theorem el26 : El 26 38 (.agg #[iV 0, iV 0, iV 0, iV 0, iV 0, .slice none 0 0]) 6 64 := ⟨Try.underlying26, by kernel_rfl, rfl, by omega, by omega⟩
theorem one_encA {a : Ac} {A : Option Addr} {n c : Nat} : ∀ u ∈ [encA (a, .slice A n c)].flatten, u.oneCell' = true := by
  intro u hu
  simp [encA] at hu
  rcases hu with rfl | rfl | rfl | rfl | rfl | rfl <;> rfl
def notC (a : Ac × Value) : Bool := decide (modF a.1.kd 6 ≠ 5)
theorem filtA_step {al : List (Ac × Value)} {k : Nat} (h : k < al.length) : (al.take (k + 1)).filter notC = (al.take k).filter notC ++ (if notC (al.getD k Ac0) then [al.getD k Ac0] else []) := by
  rw [List.take_succ_eq_append_getElem h, List.filter_append, List.getD_eq_getElem?_getD, List.getElem?_eq_getElem h]
  show _ ++ List.filter notC [al[k]] = _ ++ if notC al[k] then [al[k]] else []
  congr 1
  cases hp : notC al[k]
  · rw [List.filter_cons_of_neg (by rw [hp]; decide)]; rfl
  · rw [List.filter_cons_of_pos hp]; rfl
set_option maxRecDepth 100000 in
set_option maxHeartbeats 8000000 in
theorem consumed_law (rs : List Raw) (ds : List Jh) (al : List (Ac × Value)) (cV hV lV : Value) (w : World) (hc : Raws w cV rs) (hk : ∀ r ∈ rs, r.kd < 256) (hh : HsAt w hV ds) (ha : AsAt w lV al) (hal : al.length ≤ 2199023255488) : Calls Try.prog 6 #[.agg #[cV, hV], lV] w (RetV (.bool true) w) := by
  have CB := Lib.hid (fun W (hW : Ext w W) => begin9_any rs ds cV hV W (hc.ext hW) hk (hh.ext hW))
  have HA := Lib.hid ha
  obtain ⟨Ac', cc, rfl, -, -, -⟩ := hc.read
  obtain ⟨Ah', ch, rfl, -, -, -⟩ := hh.sl.read
  obtain ⟨Aa, ca, rfl, -, -, RAL⟩ := ha.sl.read
  rw [List.length_map] at *
  rw [List.length_map] at *
  rw [List.length_map] at *
  have HRAL := Lib.hid RAL
  clear hc hh ha RAL
  go_enter Try.func6, Try.ntmps6
  go_wp2_with fail
  generalize hwB : w.alloc _ = wB
  have hE : Ext w wB := by rw [← hwB]; exact (Ext.refl _).alloc _
  have HE := Lib.hid hE
  clear hwB hE
  refine (CB.out _ HE.out).mono ?_
  rintro e2 w2 ⟨g, r, cv, hv, lv, kh, os, hs, rfl, hN, hrc, hrh, hpl, hok, hdis, hln, hg, hr, hE⟩
  have HBO := Lib.hid (both0 hN hrc hrh)
  obtain ⟨cs, hcs⟩ : ∃ cs, chsF rs = cs := ⟨_, rfl⟩
  have hokc := chsF_ok rs
  rw [hcs] at HBO hokc hN hrc
  have HST := Lib.hid (hokc.1.sta (by have := hokc.2; omega))
  have HOKC := Lib.hid hokc.1
  have HRC := Lib.hid hrc
  have HRH := Lib.hid hrh
  have hcl := hokc.2
  obtain ⟨Al, cl, rfl, -, -, -⟩ := hrc.now.read
  obtain ⟨Ak, ck, rfl, -, -, -⟩ := hrh.now.sl.read
  have hgw : w.heap.size ≤ g := Nat.le_trans HE.out.size hg
  have hrw : w.heap.size ≤ r := Nat.le_trans HE.out.size hr
  have HE2 := Lib.hid (HE.out.trans hE)
  have HPL := Lib.hid hpl
  have hgl := hN.lt
  have hrl := hN.rlt
  rw [List.length_map, List.length_map] at *
  clear hN hrc hrh hpl hok hdis hln hE CB hcs hokc
  go_upto_region 2 with fail
  generalize hw3 : (w2.alloc (.cells NV0 32)).setRow w2.heap.size _ = w3
  have hE3 : Ext w2 w3 := by rw [← hw3]; exact ((Ext.refl _).alloc _).setRow (Nat.le_refl _) _
  have d3 : blkOf w3 w2.heap.size = NV (.slice Al cs.length cl) (.slice Ak hs.length ck) Z Z Z nilS := by rw [← hw3]; exact blkOf_setRow_same (by rw [blkOf_new, NV_size])
  have hz3 : w2.heap.size < w3.heap.size := blkOf_lt (by rw [d3, NV_size]; omega)
  have HE23 := Lib.hid hE3
  clear hw3 hE3
  go_wp2_with fail
  refine (awake10_any w3).mono ?_
  rintro e4 w4 ⟨rfl, hE4⟩
  have d4 := (blkOf_ext hE4 hz3).trans d3
  have hz4 : w2.heap.size < w4.heap.size := Nat.lt_of_lt_of_le hz3 hE4.size
  have HE24 := Lib.hid (HE23.out.trans hE4)
  have HE4 := Lib.hid (HE2.out.trans HE24.out)
  clear hE4 d3 HE23 hz3
  go_wp2_with fail
  go_loopw [7, 29] (fun l i wr => ∃ (j : Nat) (xs : List (Ac × Value)), j ≤ al.length ∧ i = iV (j : Int) ∧ xs = (al.take j).filter notC ∧ Row 6 wr w4.heap.size 38 l (xs.map encA) ∧ Ext w4 wr) (fun _ i _ => al.length - (intOf i).toNat)
  case atStart => exact ⟨0, [], by omega, rfl, rfl, Row.nil _ _ _ _, Ext.refl _⟩
  case round =>
    obtain ⟨j, xs, hj, rfl, hxs, hr6, hX⟩ := hrel
    obtain ⟨Ax, cx, ex, -, -⟩ := hr6.form
    rw [List.length_map] at ex
    subst ex
    have hxl : xs.length ≤ 2199023255488 := by rw [hxs]; exact Nat.le_trans (List.length_filter_le _ _) (by rw [List.length_take]; omega)
    have HXS := Lib.hid hxs
    have HR6 := Lib.hid hr6
    have HX := Lib.hid hX
    have HBk : Hid (w4.heap.size ≤ wr.heap.size) := Lib.hid hX.size
    have d4 := (blkOf_ext hX hz4).trans d4
    have hzr : w2.heap.size < wr.heap.size := Nat.lt_of_lt_of_le hz4 hX.size
    clear hxs hr6 hX
    by_cases hlt : j < al.length
    · obtain ⟨ba, oa, rfl, hba, cA⟩ := HRAL.out wr (HE4.out.trans HX.out) j hlt (by omega)
      obtain ⟨ac, hac⟩ : ∃ ac, al.getD j Ac0 = ac := ⟨_, rfl⟩
      rw [encA_at hlt ac hac] at cA
      have HST2 : Hid ((al.take (j + 1)).filter notC = xs ++ (if notC ac then [ac] else [])) := Lib.hid (by rw [filtA_step hlt, ← HXS.out, hac])
      have AC := (HA.out.ext (HE4.out.trans HX.out)).args _ (getD_memA hlt)
      rw [hac] at AC
      obtain ⟨Av, cva, eva, -, -, -⟩ := AC.at_
      rw [List.length_map] at eva
      obtain ⟨⟨kd, aa, ab, an, act, args⟩, av⟩ := ac
      simp only [] at eva
      subst eva
      have M6 := Lib.hid (fun W => mod_any kd 6 W (by omega) (by omega))
      have HNC : Hid (notC (⟨kd, aa, ab, an, act, args⟩, .slice Av args.length cva) = decide (modF kd 6 ≠ 5)) := Lib.hid rfl
      obtain ⟨m6, hm6⟩ : ∃ m, modF kd 6 = m := ⟨_, rfl⟩
      rw [hm6] at M6 HNC
      have r0 := cA 0 _ (by omega) rfl
      have r1 := cA 1 _ (by omega) rfl
      have r2 := cA 2 _ (by omega) rfl
      have r3 := cA 3 _ (by omega) rfl
      have r4 := cA 4 _ (by omega) rfl
      have r5 := cA 5 _ (by omega) rfl
      rw [Nat.add_zero] at r0
      clear cA AC hac hm6 d4
      go_wp2_with fail
      refine (M6.out _).mono ?_
      rintro em wm ⟨rfl, rfl⟩
      by_cases h5 : m6 = 5
      · subst h5
        have HF : Hid (notC (⟨kd, aa, ab, an, act, args⟩, .slice Av args.length cva) = false) := Lib.hid HNC.out
        go_wp2_with fail
        exact ⟨⟨j + 1, xs, by omega, by go_num, by rw [HST2.out, HF.out]; simp, HR6.out.ext ((Ext.refl _).alloc _), HX.out.alloc _⟩, by simp [intOf]; omega⟩
      · have HF : Hid (notC (⟨kd, aa, ab, an, act, args⟩, .slice Av args.length cva) = true) := Lib.hid (by rw [HNC.out]; exact decide_eq_true h5)
        go_wp2_with (at_builtin; refine wappB el26 rfl (.tmp 37) (.tmp 39) rfl (B := w4.heap.size) (vs := xs.map encA) (us := [encA (⟨kd, aa, ab, an, act, args⟩, .slice Av args.length cva)]) rfl (by have := HBk.out; simp; omega) ((HR6.out.ext ((Ext.refl _).alloc _)).ext ((Ext.refl _).alloc _)) rfl rfl (Wide.one rfl) (vs1n (by simp)) one_encA (by rw [List.length_map, List.length_singleton]; omega) (by rw [List.length_map, List.length_singleton]; omega) ?_; intro v5 w5 hr5 hg5 hb5; have HR5 := Lib.hid hr5; have HX5 := Lib.hid (ext_grow ((HX.out.alloc _).alloc _) hg5 (fun k hk => (HR6.out.lt k hk).1)); clear hr5 hg5 hb5)
        exact ⟨⟨j + 1, xs ++ [(⟨kd, aa, ab, an, act, args⟩, .slice Av args.length cva)], by omega, by go_num, by rw [HST2.out, HF.out]; rfl, by rw [List.map_append]; exact HR5.out, HX5.out⟩, by simp [intOf]; omega⟩
    · obtain rfl : j = al.length := by omega
      have HXA : Hid (xs = al.filter notC) := Lib.hid (by rw [HXS.out, List.take_length])
      have HER := Lib.hid (HE4.out.trans HX.out)
      have HBR := Lib.hid (HBO.out.ext (HE24.out.trans HX.out))
      have CP := Lib.hid (play20_any g r w2.heap.size cv hv (.slice Al cs.length cl) (.slice Ak hs.length ck) nilS (.slice Ax xs.length cx) cs cs os hs St0 0 xs wr HBR.out HST.out (inv0 cs) (by omega) (fun W hW => ⟨(HR6.out.exc hW (by omega) (by omega)).sl, fun a haa => (HA.out.ext (hW.ext HER.out hgw hrw)).args a (by rw [HXA.out] at haa; exact (List.mem_filter.1 haa).1)⟩) (fun i _ _ => agrF_same HPL.out _ _))
      have HINV := Lib.hid (stF_inv (hs := hs) (al := xs) (inv0 cs) (min xs.length 30) (by omega))
      have HPK := Lib.hid (stF_pk (cs := cs) (hs := hs) (al := xs) (fun a haa => by rw [HXA.out] at haa; exact of_decide_eq_true (List.mem_filter.1 haa).2) (min xs.length 30) (by omega))
      clear HRAL
      go_wp2_with fail
      refine CP.out.mono ?_
      rintro e5 w5 ⟨kv5, rfl, hB5, hE5⟩
      have d5 := (hE5.blk hzr (by omega) (by omega)).trans d4
      have hz5 : w2.heap.size < w5.heap.size := Nat.lt_of_lt_of_le hzr hE5.size
      have HE5 := Lib.hid (hE5.ext HER.out hgw hrw)
      have HB5 := Lib.hid hB5
      clear hB5 hE5 CP d4 HBR HR6 HX
      generalize stF cs hs xs St0 (min xs.length 30) = y at *
      have CC := Lib.hid (consumed19_any g r cv hv cs os y w5 HB5.out.net HINV.out.asc (by have := HINV.out.len; omega))
      have hkl : y.ks.length ≤ 1000 := by have := HINV.out.len; omega
      have HMEM := Lib.hid HINV.out.mem
      have HRC5 : Hid (CsAt w5 (.slice Al cs.length cl) cs) := Lib.hid HB5.out.rc.now
      have HRH5 : Hid (HsAt w5 (.slice Ak hs.length ck) hs) := Lib.hid HB5.out.rh.now
      clear HINV HB5 HA
      go_wp2_with fail
      refine CC.out.mono ?_
      rintro e6 w6 ⟨t6, rfl, hr6, hE6⟩
      obtain ⟨A6, c6, rfl, -, -, R6⟩ := hr6.sl.read
      rw [List.length_map] at R6 ⊢
      have HRK := Lib.hid R6
      have d6 := (blkOf_ext hE6 hz5).trans d5
      have hz6 : w2.heap.size < w6.heap.size := Nat.lt_of_lt_of_le hz5 hE6.size
      have HE6 := Lib.hid (HE5.out.trans hE6)
      have HC6 := Lib.hid (HRC5.out.ext hE6)
      have HH6 := Lib.hid (HRH5.out.ext hE6)
      have D6 := Lib.hid d6
      clear hr6 hE6 R6 CC HE5 HRC5 HRH5 d5 d6
      go_wp2_with fail
      go_loopw [49] (fun i wr => ∃ j : Nat, j ≤ y.ks.length ∧ i = iV (j : Int) ∧ Ext w6 wr) (fun i _ => y.ks.length - (intOf i).toNat)
      case atStart => exact ⟨0, by omega, rfl, Ext.refl _⟩
      case round =>
        obtain ⟨j, hj, rfl, hX⟩ := hrel
        obtain ⟨wo, rfl⟩ : ∃ wo, wo = wr := ⟨_, rfl⟩
        have HX := Lib.hid hX
        have hzo : w2.heap.size < wo.heap.size := Nat.lt_of_lt_of_le hz6 hX.size
        have n0 : wo.cell? ⟨w2.heap.size, 0, none⟩ = some (.slice Al cs.length cl) := blkOf_cell (by rw [blkOf_ext hX hz6, D6.out]; exact NV_0)
        clear hX
        by_cases hlt : j < y.ks.length
        · obtain ⟨bk, ok, rfl, hbk, cK⟩ := HRK.out wo HX.out j hlt (by omega)
          obtain ⟨key, hkey⟩ : ∃ key, y.ks.getD j (0, 0, 0, 0) = key := ⟨_, rfl⟩
          rw [keysAt hlt key hkey] at cK
          have hkm : key ∈ y.ks := by
            rw [← hkey, List.getD_eq_getElem?_getD, List.getElem?_eq_getElem hlt]
            exact List.getElem_mem hlt
          have hmem := HMEM.out key hkm
          have hpk := HPK.out key hkm
          have hk9 : key.1 ≤ 9 := by
            obtain ⟨c, hc, rfl⟩ := List.mem_map.1 hmem
            exact (HOKC.out.ok c hc).key.kind.2
          obtain ⟨kn, ka, kb, ki⟩ := key
          have HMK := Lib.hid hmem
          obtain ⟨hk5, hkh⟩ := hpk
          simp only [] at hk5 hkh hk9
          have HKH := Lib.hid hkh
          have k0 := cK 0 _ (by omega) rfl
          have k1 := cK 1 _ (by omega) rfl
          have k2 := cK 2 _ (by omega) rfl
          have k3 := cK 3 _ (by omega) rfl
          rw [Nat.add_zero] at k0
          clear cK hkey hkm hmem hkh
          go_upto_region 17 with fail
          generalize hwk : wo.alloc _ = wk
          have hEk : Ext wo wk := by rw [← hwk]; exact (Ext.refl _).alloc _
          have q0 : wk.cell? ⟨wo.heap.size, 0, none⟩ = some (kV kn) := by rw [← hwk]; exact new_at _ _ _ 0 _ rfl
          have q1 : wk.cell? ⟨wo.heap.size, 1, none⟩ = some (iV ka) := by rw [← hwk]; exact new_at _ _ _ 1 _ rfl
          have q2 : wk.cell? ⟨wo.heap.size, 2, none⟩ = some (iV kb) := by rw [← hwk]; exact new_at _ _ _ 2 _ rfl
          have q3 : wk.cell? ⟨wo.heap.size, 3, none⟩ = some (iV ki) := by rw [← hwk]; exact new_at _ _ _ 3 _ rfl
          have hzk : wo.heap.size < wk.heap.size := World.block_lt_of_cell? wk _ q0
          have n0 : wk.cell? ⟨w2.heap.size, 0, none⟩ = some (.slice Al cs.length cl) := blkOf_cell (by rw [blkOf_ext hEk hzo, blkOf_ext HX.out hz6, D6.out]; exact NV_0)
          have hzk2 : w2.heap.size < wk.heap.size := Nat.lt_of_lt_of_le hzo hEk.size
          have HDK : Hid (blkOf wk w2.heap.size = NV (.slice Al cs.length cl) (.slice Ak hs.length ck) Z Z Z nilS) := Lib.hid (by rw [blkOf_ext hEk hzo, blkOf_ext HX.out hz6, D6.out])
          have HHK := Lib.hid (HH6.out.ext (HX.out.trans hEk))
          have HXK := Lib.hid (HX.out.trans hEk)
          have HQ := Lib.hid (⟨q0, q1, q2, q3⟩ : _ ∧ _ ∧ _ ∧ _)
          have HRCK := Lib.hid (HC6.out.ext (HX.out.trans hEk))
          clear hwk hEk k0 k1 k2 k3 q0 q1 q2 q3
          go_upto_region 20 with fail
          go_loopw [12, 56] (fun is i wr => ∃ (q : Nat) (b : Bool), q ≤ cs.length ∧ is = .bool b ∧ i = iV (q : Int) ∧ (b = true ↔ (kn, ka, kb, ki) ∈ (cs.take q).map (·.1)) ∧ Ext wk wr) (fun _ i _ => cs.length - (intOf i).toNat)
          case atStart => exact ⟨0, false, by omega, rfl, rfl, by simp, Ext.refl _⟩
          case round =>
            obtain ⟨q, b, hq, rfl, rfl, hb, hX⟩ := hrel
            obtain ⟨wi, rfl⟩ : ∃ wi, wi = wr := ⟨_, rfl⟩
            have HB := Lib.hid hb
            have HX2 := Lib.hid hX
            obtain ⟨Ac2, cc2, ec2, -, -, RC2⟩ := HRCK.out.read
            rw [List.length_map] at ec2 RC2
            obtain ⟨q0, q1, q2, q3⟩ := HQ.out
            have q0 := hX.cell q0
            have q1 := hX.cell q1
            have q2 := hX.cell q2
            have q3 := hX.cell q3
            have hzki : wo.heap.size < wi.heap.size := Nat.lt_of_lt_of_le hzk hX.size
            obtain ⟨rfl, -, rfl⟩ : Al = Ac2 ∧ cs.length = cs.length ∧ cl = cc2 := by injection ec2; exact ⟨by assumption, rfl, by assumption⟩
            clear hb ec2
            by_cases hlt2 : q < cs.length
            · obtain ⟨gc, oc, rfl, hbc, cR⟩ := RC2 wi hX q hlt2 (by omega)
              obtain ⟨x, hx⟩ : ∃ x, cs.getD q Ch0 = x := ⟨_, rfl⟩
              rw [encC_at hlt2 x hx] at cR
              have HTK : Hid ((cs.take (q + 1)).map (·.1) = (cs.take q).map (·.1) ++ [x.1]) := Lib.hid (by
                rw [List.take_succ_eq_append_getElem hlt2, List.map_append, ← hx, List.getD_eq_getElem?_getD, List.getElem?_eq_getElem hlt2]; rfl)
              obtain ⟨⟨x1, x2, x3, x4⟩, x5⟩ := x
              have r0 := cR 0 _ (by omega) rfl
              have r1 := cR 1 _ (by omega) rfl
              have r2 := cR 2 _ (by omega) rfl
              have r3 := cR 3 _ (by omega) rfl
              have r4 := cR 4 _ (by omega) rfl
              have r5 := cR 5 _ (by omega) rfl
              have r6 := cR 6 _ (by omega) rfl
              rw [Nat.add_zero] at r0
              clear cR hx hX RC2
              cases b with
              | true =>
                go_wp2_with fail
                exact ⟨⟨q + 1, true, by omega, rfl, by go_num, by rw [HTK.out, List.mem_append]; exact ⟨fun _ => Or.inl (HB.out.1 rfl), fun _ => rfl⟩, HX2.out.alloc _⟩, by simp [intOf]; omega⟩
              | false =>
                cases hbb : eqB (x1, x2, x3, x4) (kn, ka, kb, ki) with
                | true =>
                  have HBB := Lib.hid hbb
                  have HKE := Lib.hid (eqB_true hbb)
                  go_wp2_with fail
                  exact ⟨⟨q + 1, true, by omega, rfl, by go_num, by rw [HTK.out, List.mem_append]; exact ⟨fun _ => Or.inr (by rw [HKE.out]; exact List.mem_singleton.2 rfl), fun _ => rfl⟩, HX2.out.alloc _⟩, by simp [intOf]; omega⟩
                | false =>
                  have HBB := Lib.hid hbb
                  have HKE := Lib.hid (eqB_false hbb)
                  go_wp2_with fail
                  exact ⟨⟨q + 1, false, by omega, rfl, by go_num, by rw [HTK.out, List.mem_append]; exact ⟨fun h => absurd h (by decide), fun h => by
                    rcases h with h | h
                    · exact HB.out.2 h
                    · exact absurd (List.mem_singleton.1 h).symm HKE.out⟩, HX2.out.alloc _⟩, by simp [intOf]; omega⟩
            · obtain rfl : q = cs.length := by omega
              obtain rfl : b = true := HB.out.2 (by rw [List.take_length]; exact HMK.out)
              have HXW := Lib.hid (HXK.out.trans hX)
              have d7 : blkOf wi w2.heap.size = NV (.slice Al cs.length cl) (.slice Ak hs.length ck) Z Z Z nilS := (blkOf_ext hX hzk2).trans HDK.out
              have hzi : w2.heap.size < wi.heap.size := Nat.lt_of_lt_of_le hzk2 hX.size
              have HHW := Lib.hid (HHK.out.ext hX)
              clear hX RC2 HB HX2
              have hcase : kn = 5 ∨ kn = 6 ∨ kn = 7 ∨ kn = 8 ∨ kn = 9 := by omega
              rcases hcase with rfl | rfl | rfl | rfl | rfl
              · have HNB : Hid (hasB hs (ka, kb, ki) = false) := Lib.hid (HKH.out (by omega))
                have CHe := Lib.hid (held21_any hs (NV (.slice Al cs.length cl) (.slice Ak hs.length ck) Z Z Z nilS) (.slice Ak hs.length ck) (ka, kb, ki) wi NV_size NV_1 HHW.out)
                go_wp2_with fail
                refine CHe.out.mono ?_
                rintro e8 w8 ⟨rb, rfl, hrb, hE8⟩
                obtain rfl : rb = false := by
                  cases hrr : rb with
                  | false => rfl
                  | true => exact absurd (hasB_iff.2 (hrb.1 hrr)) (by rw [HNB.out]; decide)
                have HX8 := Lib.hid (HXW.out.trans hE8)
                clear hrb hE8
                go_wp2_with fail
                exact ⟨⟨j + 1, by omega, by go_num, HX8.out⟩, by simp [intOf]; omega⟩
              · have HNB : Hid (hasB hs (ka, kb, ki) = false) := Lib.hid (HKH.out (by omega))
                have CHe := Lib.hid (held21_any hs (NV (.slice Al cs.length cl) (.slice Ak hs.length ck) Z Z Z nilS) (.slice Ak hs.length ck) (ka, kb, ki) wi NV_size NV_1 HHW.out)
                go_wp2_with fail
                refine CHe.out.mono ?_
                rintro e8 w8 ⟨rb, rfl, hrb, hE8⟩
                obtain rfl : rb = false := by
                  cases hrr : rb with
                  | false => rfl
                  | true => exact absurd (hasB_iff.2 (hrb.1 hrr)) (by rw [HNB.out]; decide)
                have HX8 := Lib.hid (HXW.out.trans hE8)
                clear hrb hE8
                go_wp2_with fail
                exact ⟨⟨j + 1, by omega, by go_num, HX8.out⟩, by simp [intOf]; omega⟩
              · have HNB : Hid (hasB hs (ka, kb, ki) = false) := Lib.hid (HKH.out (by omega))
                have CHe := Lib.hid (held21_any hs (NV (.slice Al cs.length cl) (.slice Ak hs.length ck) Z Z Z nilS) (.slice Ak hs.length ck) (ka, kb, ki) wi NV_size NV_1 HHW.out)
                go_wp2_with fail
                refine CHe.out.mono ?_
                rintro e8 w8 ⟨rb, rfl, hrb, hE8⟩
                obtain rfl : rb = false := by
                  cases hrr : rb with
                  | false => rfl
                  | true => exact absurd (hasB_iff.2 (hrb.1 hrr)) (by rw [HNB.out]; decide)
                have HX8 := Lib.hid (HXW.out.trans hE8)
                clear hrb hE8
                go_wp2_with fail
                exact ⟨⟨j + 1, by omega, by go_num, HX8.out⟩, by simp [intOf]; omega⟩
              · go_wp2_with fail
                exact ⟨⟨j + 1, by omega, by go_num, HXW.out⟩, by simp [intOf]; omega⟩
              · go_wp2_with fail
                exact ⟨⟨j + 1, by omega, by go_num, HXW.out⟩, by simp [intOf]; omega⟩
        · obtain rfl : j = y.ks.length := by omega
          go_wp2_with fail
          go_ret
          exact ⟨rfl, HE6.out.trans HX.out⟩
end Go.Proofs.Ytehmpbaiefbemaa
