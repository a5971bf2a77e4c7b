/- The law NetworkUnused, walked. -/
import Derived.Test.YtehmpbaiefbemaaL2
namespace Go.Proofs.Ytehmpbaiefbemaa
open Go.RowKit
attribute [local go_sem ↓] Go.wp_at_zero Go.wp_at_succ
attribute [local go_sem ↓] eq73 ld32 st32 al32
attribute [local go_sem] run_eq73 run_ld32 run_st32n run_al32 blkOf_drew blkOf_setRow_same blkOf_setRow_other NV_size blkOf_alloc blkOf_new
/-- The choices whose keys are among some. -/
def usedF (cs : List Ch) (K : List Ky) : List Ch := cs.filter fun c => decide (c.1 ∈ K)
theorem getF_used {cs : List Ch} {K : List Ky} {k : Ky} (h : k ∈ cs.map (·.1) → k ∈ K) : getF (usedF cs K) k = getF cs k := by
  unfold getF usedF
  congr 1
  rw [List.find?_filter]
  by_cases hk : k ∈ K
  · congr 1
    funext c
    by_cases hc : c.1 = k
    · simp [hc, hk]
    · simp [hc]
  · have hn : ∀ c ∈ cs, ¬ c.1 = k := fun c hc e => hk (h (List.mem_map.2 ⟨c, hc, e⟩))
    rw [List.find?_eq_none.2 (fun c hc => by simp [hn c hc]), List.find?_eq_none.2 (fun c hc => by simp [hn c hc])]
theorem eatF_used {cs : List Ch} {K ks : List Ky} {k : Ky} (h : k ∈ cs.map (·.1) → k ∈ K) : eatF (usedF cs K) ks k = eatF cs ks k := by
  unfold eatF
  rw [getF_used h]
theorem used_keys (cs : List Ch) (K : List Ky) : (usedF cs K).map (·.1) = (cs.map (·.1)).filter fun k => decide (k ∈ K) := by
  unfold usedF
  rw [List.filter_map]
  rfl
theorem fail_used {cs : List Ch} {K : List Ky} {c : Int} {n : Nat} {count : Int} (h : ∀ k ∈ failK cs c n count, k ∈ K) : failK (usedF cs K) c n count = failK cs c n count := by
  unfold failK at *
  rw [used_keys, List.filter_filter]
  refine List.filter_congr fun k hk => ?_
  by_cases hq : k.1 = 8 ∧ k.2.1 = c ∧ (n : Int) ≤ k.2.2.2 ∧ k.2.2.2 - n < count
  · have := h k (List.mem_filter.2 ⟨hk, decide_eq_true hq⟩)
    rw [decide_eq_true hq, decide_eq_true this]; rfl
  · rw [decide_eq_false hq]; rfl
theorem fail_none {cs : List Ch} {c : Int} {n : Nat} {count : Int} (h : ¬ 0 < count) : failK cs c n count = [] := by
  unfold failK
  rw [List.filter_eq_nil_iff]
  intro k _ hq
  have := of_decide_eq_true hq
  omega
theorem usedF_ok {cs : List Ch} {K : List Ky} (h : OkL cs) : OkL (usedF cs K) :=
  ⟨fun c hc => h.ok c (List.mem_filter.1 hc).1, by unfold AscC; rw [used_keys]; exact List.Pairwise.filter _ h.asc⟩
theorem usedF_len (cs : List Ch) (K : List Ky) : (usedF cs K).length ≤ cs.length := List.length_filter_le _ _
/-- A call whose keys are all among some is answered alike. -/
theorem agr_used {cs : List Ch} {os hs : List Jh} {a : Ac} {x : St} {K : List Ky} (hp : os.map plH = hs.map plH) (hK : ∀ y ∈ (doF cs hs a x).ks, y ∈ K) (h4 : modF a.kd 6 = 4 → modF a.ct 8 = modF a.b 4) : agrF (usedF cs K) os cs hs a x := by
  unfold agrF
  unfold doF at hK
  split
  · rename_i h3
    rw [if_pos h3] at hK
    unfold timF at hK ⊢
    split
    · rename_i hc
      rw [if_pos hc] at hK
      have e : ((9, cF a, 0, ((x.t (cF a).toNat : Nat) : Int)) : Ky) ∈ cs.map (·.1) → ((9, cF a, 0, ((x.t (cF a).toNat : Nat) : Int)) : Ky) ∈ K := fun h => hK _ (mem_eatF.2 (Or.inl ⟨rfl, h⟩))
      rw [eatF_used e, getF_used e]
    · rfl
  · rename_i h3
    rw [if_neg h3] at hK
    split
    · rename_i h44
      rw [if_pos h44] at hK
      rw [h4 h44]
      unfold exeF at hK ⊢
      unfold diskF
      by_cases hc : inC (cF a)
      · by_cases h0 : 0 < modF a.b 4 - 1
        · rw [if_pos ⟨hc, h0⟩] at hK
          have e : failK (usedF cs K) (cF a) (x.d (cF a).toNat) (modF a.b 4 - 1) = failK cs (cF a) (x.d (cF a).toNat) (modF a.b 4 - 1) := fail_used fun k hk => hK k ((mem_foldI _ _).2 (Or.inl hk))
          have hcc : inC (cF a) ∧ 0 < modF a.b 4 - 1 := ⟨hc, h0⟩
          refine ⟨?_, ?_⟩
          · rw [if_pos hc, if_pos hc, e]
          · rw [if_pos hcc, if_pos hcc, e]
        · have hcc : ¬ (inC (cF a) ∧ 0 < modF a.b 4 - 1) := fun h => h0 h.2
          refine ⟨?_, ?_⟩
          · rw [if_pos hc, if_pos hc, fail_none h0, fail_none h0]
          · rw [if_neg hcc, if_neg hcc]
      · have hcc : ¬ (inC (cF a) ∧ 0 < modF a.b 4 - 1) := fun h => hc h.1
        refine ⟨?_, ?_⟩
        · rw [if_neg hc, if_neg hc]
        · rw [if_neg hcc, if_neg hcc]
    · rename_i h44
      rw [if_neg h44] at hK
      split
      · rename_i h5
        rw [if_pos h5] at hK
        unfold eatS at hK ⊢
        rw [eatF_used fun h => hK _ (mem_eatF.2 (Or.inl ⟨rfl, h⟩))]
      · rename_i h5
        rw [if_neg h5] at hK
        rw [sendF_pl hp]
        unfold sendF at hK ⊢
        split
        · rename_i hc
          rw [if_pos hc] at hK
          split
          · rfl
          · rename_i hb
            rw [if_neg hb] at hK
            generalize hn : ((x.s (ix (cF a) (modF a.b 3)) : Nat) : Int) = n at *
            cases h5' : getF cs (5, cF a, modF a.b 3, n) with
            | some d =>
              rw [h5'] at hK
              rw [getF_used (fun _ => hK _ (mem_insK.2 (Or.inl rfl))), h5']
            | none =>
              rw [h5'] at hK
              rw [getF_used (fun h => absurd h (getF_none.1 h5')), h5']
              cases h7' : getF cs (7, cF a, modF a.b 3, n) with
              | some d =>
                rw [h7'] at hK
                have e6 : ((6, cF a, modF a.b 3, n) : Ky) ∈ cs.map (·.1) → ((6, cF a, modF a.b 3, n) : Ky) ∈ K := fun h => hK _ (mem_insK.2 (Or.inr (mem_eatF.2 (Or.inl ⟨rfl, h⟩))))
                simp only []
                rw [getF_used (k := (7, cF a, modF a.b 3, n)) (fun _ => hK _ (mem_insK.2 (Or.inl rfl))), h7', getF_used e6, eatF_used e6]
              | none =>
                rw [h7'] at hK
                have e6 : ((6, cF a, modF a.b 3, n) : Ky) ∈ cs.map (·.1) → ((6, cF a, modF a.b 3, n) : Ky) ∈ K := fun h => hK _ (mem_eatF.2 (Or.inl ⟨rfl, h⟩))
                simp only []
                rw [getF_used (k := (7, cF a, modF a.b 3, n)) (fun h => absurd h (getF_none.1 h7')), h7', getF_used e6, eatF_used e6]
        · rfl
theorem doF_mono {cs : List Ch} {hs : List Jh} {a : Ac} {x : St} : ∀ y ∈ x.ks, y ∈ (doF cs hs a x).ks := by
  intro y hy
  have E : ∀ k, y ∈ eatF cs x.ks k := fun k => mem_eatF.2 (Or.inr hy)
  unfold doF
  split
  · unfold timF
    split
    · exact E _
    · exact hy
  · split
    · unfold exeF
      split
      · exact (mem_foldI _ _).2 (Or.inr hy)
      · exact hy
    · split
      · exact E _
      · unfold sendF
        split
        · split
          · exact hy
          · split
            · exact mem_insK.2 (Or.inr hy)
            · split
              · exact mem_insK.2 (Or.inr (E _))
              · exact E _
        · exact hy
theorem stF_mono {cs : List Ch} {hs : List Jh} {al : List (Ac × Value)} {x : St} {i : Nat} : ∀ d, i + d ≤ al.length → ∀ y ∈ (stF cs hs al x i).ks, y ∈ (stF cs hs al x (i + d)).ks
  | 0, _, _, hy => hy
  | d + 1, hd, y, hy => by
    have h1 := stF_mono (i := i) d (by omega) y hy
    show y ∈ (stF cs hs al x (i + d + 1)).ks
    rw [stF_succ (by omega)]
    exact doF_mono y h1
def cntA (a : Ac × Value) : Ac × Value := if modF a.1.kd 6 = 4 then (⟨a.1.kd, a.1.a, a.1.b, a.1.n, modF a.1.b 4, a.1.args⟩, a.2) else a
theorem cnt_four {al : List (Ac × Value)} : ∀ a ∈ al.map cntA, modF a.1.kd 6 = 4 → modF a.1.ct 8 = modF a.1.b 4 := by
  intro a ha h4
  obtain ⟨b, _, rfl⟩ := List.mem_map.1 ha
  unfold cntA at h4 ⊢
  split
  · show modF (modF b.1.b 4) 8 = modF b.1.b 4
    have := modF_range (a := b.1.b) (n := 4) (by omega)
    unfold modF at this ⊢
    have e : Int.tmod ((Int.tmod b.1.b 4 + 4) % 4) 8 = (Int.tmod b.1.b 4 + 4) % 4 := Int.tmod_eq_of_lt this.1 (by omega)
    omega
  · rename_i hn
    rw [if_neg hn] at h4
    exact absurd h4 hn
theorem cnt_args {W : World} {al : List (Ac × Value)} (h : ∀ a ∈ al, ArgsAt W a.2 a.1.args) : ∀ a ∈ al.map cntA, ArgsAt W a.2 a.1.args := by
  intro a ha
  obtain ⟨b, hb, rfl⟩ := List.mem_map.1 ha
  have := h b hb
  unfold cntA
  split <;> exact this
theorem cnt_step {al : List (Ac × Value)} {k : Nat} (h : k < al.length) (a : Ac × Value) (e : al.getD k Ac0 = a) : (al.take (k + 1)).map cntA = (al.take k).map cntA ++ [cntA a] := by
  rw [List.take_succ_eq_append_getElem h, List.map_append, ← e, List.getD_eq_getElem?_getD, List.getElem?_eq_getElem h]
  rfl
theorem used_step {cs : List Ch} {K : List Ky} {k : Nat} (h : k < cs.length) (c : Ch) (e : cs.getD k Ch0 = c) : usedF (cs.take (k + 1)) K = usedF (cs.take k) K ++ (if c.1 ∈ K then [c] else []) := by
  unfold usedF
  rw [List.take_succ_eq_append_getElem h, List.filter_append, ← e, List.getD_eq_getElem?_getD, List.getElem?_eq_getElem h]
  show _ ++ List.filter _ [cs[k]] = _ ++ if cs[k].1 ∈ K then [cs[k]] else []
  congr 1
  by_cases hp : cs[k].1 ∈ K
  · rw [List.filter_cons_of_pos (by simpa using hp), if_pos hp]; rfl
  · rw [List.filter_cons_of_neg (by simpa using hp), if_neg hp]; rfl
set_option maxRecDepth 100000 in
set_option maxHeartbeats 8000000 in
theorem unused_law (rs : List Raw) (ds : List Jh) (al : List (Ac × Value)) (cV hV lV : Value) (w : World) (hc : Raws w cV rs) (hk : ∀ r ∈ rs, r.kd < 256) (hh : HsAt w hV ds) (ha : AsAt w lV al) (hal : al.length ≤ 2199023255488) : Calls Try.prog 7 #[.agg #[cV, hV], lV] w (RetV (.bool true) w) := by
  have CB := Lib.hid (fun W (hW : Ext w W) => begin9_any rs ds cV hV W (hc.ext hW) hk (hh.ext hW))
  have HA := Lib.hid ha
  obtain ⟨Ac', cc, rfl, -, -, -⟩ := hc.read
  obtain ⟨Ah', ch, rfl, -, -, -⟩ := hh.sl.read
  obtain ⟨Aa, ca, rfl, -, -, RAL⟩ := ha.sl.read
  rw [List.length_map] at *
  rw [List.length_map] at *
  rw [List.length_map] at *
  have HRAL := Lib.hid RAL
  clear hc hh ha RAL
  go_enter Try.func7, Try.ntmps7
  go_wp2_with fail
  generalize hwB : w.alloc _ = wB
  have hE : Ext w wB := by rw [← hwB]; exact (Ext.refl _).alloc _
  have HE := Lib.hid hE
  clear hwB hE
  refine (CB.out _ HE.out).mono ?_
  rintro e2 w2 ⟨g, r, cv, hv, lv, kh, os, hs, rfl, hN, hrc, hrh, hpl, hok, hdis, hln, hg, hr, hE⟩
  have HBO := Lib.hid (both0 hN hrc hrh)
  obtain ⟨cs, hcs⟩ : ∃ cs, chsF rs = cs := ⟨_, rfl⟩
  have hokc := chsF_ok rs
  rw [hcs] at HBO hokc hN hrc
  have HST := Lib.hid (hokc.1.sta (by have := hokc.2; omega))
  have HOKC := Lib.hid hokc.1
  have hcl := hokc.2
  obtain ⟨Al, cl, rfl, -, -, -⟩ := hrc.now.read
  obtain ⟨Ak, ck, rfl, -, -, -⟩ := hrh.now.sl.read
  have hgw : w.heap.size ≤ g := Nat.le_trans HE.out.size hg
  have hrw : w.heap.size ≤ r := Nat.le_trans HE.out.size hr
  have HE2 := Lib.hid (HE.out.trans hE)
  have HPL := Lib.hid hpl
  have HER0 := Lib.hid (errF_ok hok hdis (by omega))
  have hgl := hN.lt
  have hrl := hN.rlt
  rw [List.length_map, List.length_map] at *
  clear hN hrc hrh hpl hok hdis hln hE CB hcs hokc
  go_upto_region 2 with fail
  generalize hw3 : (w2.alloc (.cells NV0 32)).setRow w2.heap.size _ = w3
  have hE3 : Ext w2 w3 := by rw [← hw3]; exact ((Ext.refl _).alloc _).setRow (Nat.le_refl _) _
  have d3 : blkOf w3 w2.heap.size = NV (.slice Al cs.length cl) (.slice Ak hs.length ck) Z Z Z nilS := by rw [← hw3]; exact blkOf_setRow_same (by rw [blkOf_new, NV_size])
  have hz3 : w2.heap.size < w3.heap.size := blkOf_lt (by rw [d3, NV_size]; omega)
  have HE23 := Lib.hid hE3
  clear hw3 hE3
  go_wp2_with fail
  refine (awake10_any w3).mono ?_
  rintro e4 w4 ⟨rfl, hE4⟩
  have d4 := (blkOf_ext hE4 hz3).trans d3
  have hz4 : w2.heap.size < w4.heap.size := Nat.lt_of_lt_of_le hz3 hE4.size
  have HE24 := Lib.hid (HE23.out.trans hE4)
  have HE4 := Lib.hid (HE2.out.trans HE24.out)
  clear hE4 d3 HE23 hz3
  go_wp2_with fail
  go_loopw [7, 34] (fun l i wr => ∃ (j : Nat) (xs : List (Ac × Value)), j ≤ al.length ∧ i = iV (j : Int) ∧ xs = (al.take j).map cntA ∧ Row 6 wr w4.heap.size 38 l (xs.map encA) ∧ Ext w4 wr) (fun _ i _ => al.length - (intOf i).toNat)
  case atStart => exact ⟨0, [], by omega, rfl, rfl, Row.nil _ _ _ _, Ext.refl _⟩
  case round =>
    obtain ⟨j, xs, hj, rfl, hxs, hr6, hX⟩ := hrel
    obtain ⟨Ax, cx, ex, -, -⟩ := hr6.form
    rw [List.length_map] at ex
    subst ex
    have hxl : xs.length ≤ 2199023255488 := by rw [hxs, List.length_map, List.length_take]; omega
    have HXS := Lib.hid hxs
    have HR6 := Lib.hid hr6
    have HX := Lib.hid hX
    have HBk : Hid (w4.heap.size ≤ wr.heap.size) := Lib.hid hX.size
    have d4 := (blkOf_ext hX hz4).trans d4
    have hzr : w2.heap.size < wr.heap.size := Nat.lt_of_lt_of_le hz4 hX.size
    clear hxs hr6 hX
    by_cases hlt : j < al.length
    · obtain ⟨ba, oa, rfl, hba, cA⟩ := HRAL.out wr (HE4.out.trans HX.out) j hlt (by omega)
      obtain ⟨ac, hac⟩ : ∃ ac, al.getD j Ac0 = ac := ⟨_, rfl⟩
      rw [encA_at hlt ac hac] at cA
      have HST2 : Hid ((al.take (j + 1)).map cntA = xs ++ [cntA ac]) := Lib.hid (by rw [cnt_step hlt _ hac, ← HXS.out])
      have AC := (HA.out.ext (HE4.out.trans HX.out)).args _ (getD_memA hlt)
      rw [hac] at AC
      obtain ⟨Av, cva, eva, -, -, -⟩ := AC.at_
      rw [List.length_map] at eva
      obtain ⟨⟨kd, aa, ab, an, act, args⟩, av⟩ := ac
      simp only [] at eva
      subst eva
      have M6 := Lib.hid (fun W => mod_any kd 6 W (by omega) (by omega))
      have M4 := Lib.hid (fun W => mod_any ab 4 W (by omega) (by omega))
      obtain ⟨m4, hm4⟩ : ∃ m, modF ab 4 = m := ⟨_, rfl⟩
      have HNC : Hid (cntA (⟨kd, aa, ab, an, act, args⟩, .slice Av args.length cva) = if modF kd 6 = 4 then (⟨kd, aa, ab, an, m4, args⟩, .slice Av args.length cva) else (⟨kd, aa, ab, an, act, args⟩, .slice Av args.length cva)) := Lib.hid (by rw [← hm4]; rfl)
      rw [hm4] at M4
      obtain ⟨m6, hm6⟩ : ∃ m, modF kd 6 = m := ⟨_, rfl⟩
      rw [hm6] at M6 HNC
      have r0 := cA 0 _ (by omega) rfl
      have r1 := cA 1 _ (by omega) rfl
      have r2 := cA 2 _ (by omega) rfl
      have r3 := cA 3 _ (by omega) rfl
      have r4 := cA 4 _ (by omega) rfl
      have r5 := cA 5 _ (by omega) rfl
      rw [Nat.add_zero] at r0
      clear cA AC hac hm6 hm4 d4
      go_wp2_with fail
      refine (M6.out _).mono ?_
      rintro em wm ⟨rfl, rfl⟩
      by_cases h5 : m6 = 4
      · subst h5
        have HF : Hid (cntA (⟨kd, aa, ab, an, act, args⟩, .slice Av args.length cva) = (⟨kd, aa, ab, an, m4, args⟩, .slice Av args.length cva)) := Lib.hid (by rw [HNC.out, if_pos rfl])
        clear HNC
        go_wp2_with fail
        refine (M4.out _).mono ?_
        rintro em wm ⟨rfl, rfl⟩
        go_wp2_with (at_builtin; refine wappB el26 rfl (.tmp 46) (.tmp 48) rfl (B := w4.heap.size) (vs := xs.map encA) (us := [encA (⟨kd, aa, ab, an, m4, args⟩, .slice Av args.length cva)]) rfl (by have := HBk.out; simp; omega) ((HR6.out.ext ((Ext.refl _).alloc _)).ext ((Ext.refl _).alloc _)) rfl rfl (Wide.one rfl) (vs1n (by simp)) one_encA (by rw [List.length_map, List.length_singleton]; omega) (by rw [List.length_map, List.length_singleton]; omega) ?_; intro v5 w5 hr5 hg5 hb5; have HR5 := Lib.hid hr5; have HX5 := Lib.hid (ext_grow ((HX.out.alloc _).alloc _) hg5 (fun k hk => (HR6.out.lt k hk).1)); clear hr5 hg5 hb5)
        exact ⟨⟨j + 1, xs ++ [(⟨kd, aa, ab, an, m4, args⟩, .slice Av args.length cva)], by omega, by go_num, by rw [HST2.out, HF.out], by rw [List.map_append]; exact HR5.out, HX5.out⟩, by simp [intOf]; omega⟩
      · have HF : Hid (cntA (⟨kd, aa, ab, an, act, args⟩, .slice Av args.length cva) = (⟨kd, aa, ab, an, act, args⟩, .slice Av args.length cva)) := Lib.hid (by rw [HNC.out, if_neg h5])
        clear HNC
        go_wp2_with (at_builtin; refine wappB el26 rfl (.tmp 46) (.tmp 48) rfl (B := w4.heap.size) (vs := xs.map encA) (us := [encA (⟨kd, aa, ab, an, act, args⟩, .slice Av args.length cva)]) rfl (by have := HBk.out; simp; omega) ((HR6.out.ext ((Ext.refl _).alloc _)).ext ((Ext.refl _).alloc _)) rfl rfl (Wide.one rfl) (vs1n (by simp)) one_encA (by rw [List.length_map, List.length_singleton]; omega) (by rw [List.length_map, List.length_singleton]; omega) ?_; intro v5 w5 hr5 hg5 hb5; have HR5 := Lib.hid hr5; have HX5 := Lib.hid (ext_grow ((HX.out.alloc _).alloc _) hg5 (fun k hk => (HR6.out.lt k hk).1)); clear hr5 hg5 hb5)
        exact ⟨⟨j + 1, xs ++ [(⟨kd, aa, ab, an, act, args⟩, .slice Av args.length cva)], by omega, by go_num, by rw [HST2.out, HF.out], by rw [List.map_append]; exact HR5.out, HX5.out⟩, by simp [intOf]; omega⟩
    · obtain rfl : j = al.length := by omega
      have HXA : Hid (xs = al.map cntA) := Lib.hid (by rw [HXS.out, List.take_length])
      have HER := Lib.hid (HE4.out.trans HX.out)
      have HBR := Lib.hid (HBO.out.ext (HE24.out.trans HX.out))
      have CP := Lib.hid (play20_any g r w2.heap.size cv hv (.slice Al cs.length cl) (.slice Ak hs.length ck) nilS (.slice Ax xs.length cx) cs cs os hs St0 0 xs wr HBR.out HST.out (inv0 cs) (by omega) (fun W hW => ⟨(HR6.out.exc hW (by omega) (by omega)).sl, fun a haa => cnt_args (HA.out.ext (hW.ext HER.out hgw hrw)).args a (by rw [HXA.out] at haa; exact haa)⟩) (fun i _ _ => agrF_same HPL.out _ _))
      have HINV := Lib.hid (stF_inv (hs := hs) (al := xs) (inv0 cs) (min xs.length 30) (by omega))
      clear HRAL
      go_wp2_with fail
      refine CP.out.mono ?_
      rintro e5 w5 ⟨kv5, rfl, hB5, hE5⟩
      have d5 := (hE5.blk hzr (by omega) (by omega)).trans d4
      have hz5 : w2.heap.size < w5.heap.size := Nat.lt_of_lt_of_le hzr hE5.size
      have HE5 := Lib.hid (hE5.ext HER.out hgw hrw)
      have HRX := Lib.hid (HR6.out.exc hE5 (by omega) (by omega))
      obtain ⟨y, hy⟩ : ∃ y, stF cs hs xs St0 (min xs.length 30) = y := ⟨_, rfl⟩
      have HY := Lib.hid hy
      rw [hy] at hB5 HINV ⊢
      obtain ⟨Akv, ckv, rfl, -, -, RK⟩ := hB5.rk.sl.read
      rw [List.length_map] at hB5 RK
      have HRK := Lib.hid RK
      have HRC5 : Hid (CsAt w5 (.slice Al cs.length cl) cs) := Lib.hid hB5.rc.now
      have HRH5 : Hid (HsAt w5 (.slice Ak hs.length ck) hs) := Lib.hid hB5.rh.now
      have hkl : y.ks.length ≤ 1000 := by have := HINV.out.len; omega
      have HNOD := Lib.hid HINV.out.asc.nodup
      have HA5 := Lib.hid (HA.out.ext HE5.out)
      rw [List.length_map]
      clear hB5 hE5 CP d4 HBR HR6 HX hy RK HINV HA HER HBO HXS hzr HBk
      go_upto_region 13 with fail
      generalize hw6 : (w5.alloc (.cells NV0 32)).setRow w5.heap.size _ = w6
      have hE6 : Ext w5 w6 := by rw [← hw6]; exact ((Ext.refl _).alloc _).setRow (Nat.le_refl _) _
      have d6 : blkOf w6 w5.heap.size = NV (.slice Al cs.length cl) (.slice Ak hs.length ck) y.s y.t y.d (.slice Akv y.ks.length ckv) := by rw [← hw6]; exact blkOf_setRow_same (by rw [blkOf_new, NV_size])
      have hz6 : w5.heap.size < w6.heap.size := blkOf_lt (by rw [d6, NV_size]; omega)
      have n0 : w6.cell? ⟨w2.heap.size, 0, none⟩ = some (.slice Al cs.length cl) := blkOf_cell (by rw [blkOf_ext hE6 hz5, d5]; exact NV_0)
      have n1 : w6.cell? ⟨w2.heap.size, 1, none⟩ = some (.slice Ak hs.length ck) := blkOf_cell (by rw [blkOf_ext hE6 hz5, d5]; exact NV_1)
      have n82 : w6.cell? ⟨w5.heap.size, 82, none⟩ = some (.slice Akv y.ks.length ckv) := blkOf_cell (by rw [d6]; exact NV_82)
      have D6 : Hid (blkOf w6 w2.heap.size = NV (.slice Al cs.length cl) (.slice Ak hs.length ck) Z Z Z nilS) := Lib.hid ((blkOf_ext hE6 hz5).trans d5)
      have hz26 : w2.heap.size < w6.heap.size := Nat.lt_trans hz5 hz6
      have HW6 := Lib.hid (HE5.out.trans hE6)
      have HRX6 := Lib.hid (HRX.out.ext hE6)
      have HC6 := Lib.hid (HRC5.out.ext hE6)
      have HH6 := Lib.hid (HRH5.out.ext hE6)
      have HA6 := Lib.hid (HA5.out.ext hE6)
      have HK6 := Lib.hid (fun W (h : Ext w6 W) => HRK.out W (hE6.trans h))
      have HN := Lib.hid (⟨n0, n1, n82⟩ : _ ∧ _ ∧ _)
      clear hw6 hE6 d5 d6 HE5 HRX HRC5 HRH5 HA5 HRK n1 n82
      go_wp2_with fail
      clear n0
      go_loopw [12, 63] (fun u i wr => ∃ (j : Nat) (us : List Ch), j ≤ cs.length ∧ i = iV (j : Int) ∧ us = usedF (cs.take j) y.ks ∧ Row 7 wr w6.heap.size 75 u (us.map encC) ∧ Ext w6 wr) (fun _ i _ => cs.length - (intOf i).toNat)
      case atStart => exact ⟨0, [], by omega, rfl, rfl, Row.nil _ _ _ _, Ext.refl _⟩
      case round =>
        obtain ⟨j, us, hj, rfl, hus, hr7, hX⟩ := hrel
        obtain ⟨wo, rfl⟩ : ∃ wo, wo = wr := ⟨_, rfl⟩
        obtain ⟨Au, cu, eu, -, -⟩ := hr7.form
        rw [List.length_map] at eu
        subst eu
        have hul : us.length ≤ 12 := by rw [hus]; exact Nat.le_trans (usedF_len _ _) (by rw [List.length_take]; omega)
        have HUS := Lib.hid hus
        have HR7 := Lib.hid hr7
        have HX := Lib.hid hX
        clear hus hr7 hX
        by_cases hlt : j < cs.length
        · obtain ⟨Ac2, cc2, ec2, -, -, RC2⟩ := HC6.out.read
          rw [List.length_map] at ec2 RC2
          obtain ⟨rfl, -, rfl⟩ : Al = Ac2 ∧ cs.length = cs.length ∧ cl = cc2 := by injection ec2; exact ⟨by assumption, rfl, by assumption⟩
          obtain ⟨gc, oc, eAl, hbc, cR⟩ := RC2 wo HX.out j hlt (by omega)
          obtain ⟨c, hx⟩ : ∃ c, cs.getD j Ch0 = c := ⟨_, rfl⟩
          rw [encC_at hlt c hx] at cR
          have HSTP := Lib.hid (used_step (K := y.ks) hlt c hx)
          have r0 := cR 0 _ (by omega) rfl
          have r1 := cR 1 _ (by omega) rfl
          have r2 := cR 2 _ (by omega) rfl
          have r3 := cR 3 _ (by omega) rfl
          have r4 := cR 4 _ (by omega) rfl
          have r5 := cR 5 _ (by omega) rfl
          have r6 := cR 6 _ (by omega) rfl
          rw [Nat.add_zero] at r0
          obtain ⟨⟨x1, x2, x3, x4⟩, x5⟩ := c
          clear cR hx RC2 ec2
          subst eAl
          have n82 := HX.out.cell HN.out.2.2
          have hzo : w5.heap.size < wo.heap.size := Nat.lt_of_lt_of_le hz6 HX.out.size
          go_wp2_with fail
          generalize hwk : wo.alloc _ = wk
          have hEk : Ext wo wk := by rw [← hwk]; exact (Ext.refl _).alloc _
          have hbx : blkOf wk wo.heap.size = #[kV x1, iV x2, iV x3, iV x4, iV 0, iV x5, .slice none 0 0] := by rw [← hwk]; exact blkOf_new
          have hzk : wo.heap.size < wk.heap.size := blkOf_lt (by rw [hbx]; simp)
          have HBX := Lib.hid hbx
          have HOB : Hid ((Value.slice Au us.length cu).ownBlock ≠ some wo.heap.size) := Lib.hid fun h => by have := (HR7.out.lt _ h).2; omega
          have HXK := Lib.hid (HX.out.trans hEk)
          have HRK7 := Lib.hid (HR7.out.ext hEk)
          clear hwk hEk r0 r1 r2 r3 r4 r5 r6 hbx n82 HR7
          go_loopw [12, 70] (fun u i wr => ∃ (q : Nat) (vs : List Ch), q ≤ y.ks.length ∧ i = iV (q : Int) ∧ vs = us ++ (if ((x1, x2, x3, x4) : Ky) ∈ y.ks.take q then [((x1, x2, x3, x4), x5)] else []) ∧ Row 7 wr w6.heap.size 75 u (vs.map encC) ∧ Ext w6 wr ∧ blkOf wr wo.heap.size = #[kV x1, iV x2, iV x3, iV x4, iV 0, iV x5, .slice none 0 0] ∧ u.ownBlock ≠ some wo.heap.size ∧ wk.heap.size ≤ wr.heap.size) (fun _ i _ => y.ks.length - (intOf i).toNat)
          case atStart => exact ⟨0, us, by omega, rfl, by simp, HRK7.out, HXK.out, HBX.out, HOB.out, Nat.le_refl _⟩
          case round =>
            obtain ⟨q, vs, hq, rfl, hvs, hr8, hX, hbi, hob, hzw⟩ := hrel
            obtain ⟨wi, rfl⟩ : ∃ wi, wi = wr := ⟨_, rfl⟩
            obtain ⟨Av, cva, ev, -, -⟩ := hr8.form
            rw [List.length_map] at ev
            subst ev
            have hvl : vs.length ≤ 13 := by rw [hvs, List.length_append]; split <;> simp <;> omega
            have HVS := Lib.hid hvs
            have HR8 := Lib.hid hr8
            have HX2 := Lib.hid hX
            have HBi : Hid (w6.heap.size ≤ wi.heap.size) := Lib.hid hX.size
            have hzi : wo.heap.size < wi.heap.size := Nat.lt_of_lt_of_le hzk hzw
            have q0 : wi.cell? ⟨wo.heap.size, 0, none⟩ = some (kV x1) := blkOf_cell (by rw [hbi]; rfl)
            have q1 : wi.cell? ⟨wo.heap.size, 1, none⟩ = some (iV x2) := blkOf_cell (by rw [hbi]; rfl)
            have q2 : wi.cell? ⟨wo.heap.size, 2, none⟩ = some (iV x3) := blkOf_cell (by rw [hbi]; rfl)
            have q3 : wi.cell? ⟨wo.heap.size, 3, none⟩ = some (iV x4) := blkOf_cell (by rw [hbi]; rfl)
            have q4 : wi.cell? ⟨wo.heap.size, 4, none⟩ = some (iV 0) := blkOf_cell (by rw [hbi]; rfl)
            have q5 : wi.cell? ⟨wo.heap.size, 5, none⟩ = some (iV x5) := blkOf_cell (by rw [hbi]; rfl)
            have q6 : wi.cell? ⟨wo.heap.size, 6, none⟩ = some (.slice none 0 0) := blkOf_cell (by rw [hbi]; rfl)
            have HBI := Lib.hid hbi
            have HOBI := Lib.hid hob
            have HZW : Hid (wk.heap.size ≤ wi.heap.size) := Lib.hid hzw
            clear hbi hob hzw
            clear hvs hr8 hX
            by_cases hlt2 : q < y.ks.length
            · obtain ⟨bk, ok, rfl, hbk, cK⟩ := HK6.out wi HX2.out q hlt2 (by omega)
              obtain ⟨key, hkey⟩ : ∃ key, y.ks.getD q (0, 0, 0, 0) = key := ⟨_, rfl⟩
              rw [keysAt hlt2 key hkey] at cK
              have HTK : Hid (y.ks.take (q + 1) = y.ks.take q ++ [key]) := Lib.hid (by
                rw [List.take_succ_eq_append_getElem hlt2, ← hkey, List.getD_eq_getElem?_getD, List.getElem?_eq_getElem hlt2]; rfl)
              have HNK : Hid (key ∉ y.ks.take q) := Lib.hid fun hm => by
                have h1 : (y.ks.take (q + 1)).Nodup := HNOD.out.sublist (List.take_sublist _ _)
                rw [HTK.out, List.nodup_append] at h1
                exact h1.2.2 key hm key (List.mem_singleton.2 rfl) rfl
              obtain ⟨k1, k2, k3, k4⟩ := key
              have s0 := cK 0 _ (by omega) rfl
              have s1 := cK 1 _ (by omega) rfl
              have s2 := cK 2 _ (by omega) rfl
              have s3 := cK 3 _ (by omega) rfl
              rw [Nat.add_zero] at s0
              clear cK hkey
              cases hbb : eqB (x1, x2, x3, x4) (k1, k2, k3, k4) with
              | false =>
                have HBB := Lib.hid hbb
                have HKE := Lib.hid (eqB_false hbb)
                go_wp2_with fail
                refine ⟨⟨q + 1, vs, by omega, by go_num, ?_, HR8.out.ext ((Ext.refl _).alloc _), HX2.out.alloc _, (blkOf_ext ((Ext.refl _).alloc _) hzi).trans HBI.out, HOBI.out, Nat.le_trans HZW.out ((Ext.refl _).alloc _).size⟩, by simp [intOf]; omega⟩
                rw [HVS.out, HTK.out]
                congr 1
                by_cases hm : ((x1, x2, x3, x4) : Ky) ∈ y.ks.take q
                · rw [if_pos hm, if_pos (List.mem_append.2 (Or.inl hm))]
                · rw [if_neg hm, if_neg (fun h => by
                    rcases List.mem_append.1 h with h | h
                    · exact hm h
                    · exact HKE.out (List.mem_singleton.1 h))]
              | true =>
                have hke := eqB_true hbb
                have HKE := Lib.hid hke
                have HVU : Hid (vs = us) := Lib.hid (by rw [HVS.out, if_neg (by rw [HKE.out]; exact HNK.out), List.append_nil])
                clear hke
                have HBB := Lib.hid hbb
                go_wp2_with (at_builtin; refine wappB el22 rfl (.tmp 78) (.tmp 80) rfl (B := w6.heap.size) (vs := vs.map encC) (us := [encC ((x1, x2, x3, x4), x5)]) rfl (by have := HBi.out; simp; omega) ((HR8.out.ext ((Ext.refl _).alloc _)).ext ((Ext.refl _).alloc _)) rfl rfl (Wide.one rfl) (vs1n (by simp)) (encC_one [((x1, x2, x3, x4), x5)]) (by rw [List.length_map, List.length_singleton]; omega) (by rw [List.length_map, List.length_singleton]; omega) ?_; intro v5 w5' hr5 hg5 hb5; have HR5 := Lib.hid hr5; have HX5 := Lib.hid (ext_grow ((HX2.out.alloc _).alloc _) hg5 (fun k hk => (HR8.out.lt k hk).1)); have HSZ := Lib.hid (Nat.le_trans (Nat.le_trans HZW.out (((Ext.refl wi).alloc _).alloc _).size) hg5.size); have HB5 := Lib.hid (((blkOf_kept (hg5.block _ (Nat.lt_of_lt_of_le hzi (((Ext.refl wi).alloc _).alloc _).size) (fun h => HOBI.out h.symm))).trans (blkOf_ext (((Ext.refl wi).alloc _).alloc _) hzi)).trans HBI.out); have HO5 : Hid (v5.ownBlock ≠ some wo.heap.size) := Lib.hid (by rcases hb5 with h | h <;> rw [h]; exact HOBI.out; exact fun h => by injection h with h; simp at h; omega); clear hr5 hg5 hb5)
                refine ⟨⟨q + 1, vs ++ [((x1, x2, x3, x4), x5)], by omega, by go_num, ?_, by rw [List.map_append]; exact HR5.out, HX5.out, HB5.out, HO5.out, HSZ.out⟩, by simp [intOf]; omega⟩
                rw [HVU.out, HTK.out, if_pos (List.mem_append.2 (Or.inr (by rw [HKE.out]; exact List.mem_singleton.2 rfl)))]
            · obtain rfl : q = y.ks.length := by omega
              clear q0 q1 q2 q3 q4 q5 q6
              go_wp2_with fail
              refine ⟨⟨j + 1, vs, by omega, by go_num, ?_, HR8.out, HX2.out⟩, by simp [intOf]; omega⟩
              rw [HVS.out, HSTP.out, ← HUS.out, List.take_length]
        · obtain rfl : j = cs.length := by omega
          have HUA : Hid (us = usedF cs y.ks) := Lib.hid (by rw [HUS.out, List.take_length])
          have HOKU : Hid (OkL us) := Lib.hid (by rw [HUA.out]; exact usedF_ok HOKC.out)
          have CN := Lib.hid (newSet_any us (.slice Au us.length cu) wo HR7.out.sl HOKU.out (by omega))
          clear HUS
          go_wp2_with fail
          refine CN.out.mono ?_
          rintro e7 w7 ⟨t7, rfl, hr7, hE7⟩
          obtain ⟨A7, c7, e7, -, -⟩ := hr7.form
          rw [List.length_map] at e7
          subst e7
          have HR9 := Lib.hid hr7
          have HX7 := Lib.hid (HX.out.trans hE7)
          clear hr7 hE7 CN HR7
          go_upto_region 27 with fail
          generalize hw8 : w7.alloc _ = w8
          have hE8 : Ext w7 w8 := by rw [← hw8]; exact (Ext.refl _).alloc _
          have t0 : w8.cell? ⟨w7.heap.size, 0, none⟩ = some (.slice A7 us.length c7) := by rw [← hw8]; exact new_at _ _ _ 0 _ rfl
          have HX8 := Lib.hid (HX7.out.trans hE8)
          have HR8 := Lib.hid (HR9.out.ext hE8)
          have hz8 : w7.heap.size < w8.heap.size := World.block_lt_of_cell? w8 _ t0
          have n1 := HX8.out.cell HN.out.2.1
          have hz28 : w2.heap.size < w8.heap.size := Nat.lt_of_lt_of_le hz26 HX8.out.size
          have CM := Lib.hid (new14_any A7 us.length c7 hs (.slice Ak hs.length ck) w8 (HH6.out.ext HX8.out))
          clear hw8 hE8 HR9
          go_wp2_with fail
          refine CM.out.mono ?_
          rintro e9 w9 (⟨g', r', nv, os', rfl, -, hg', hr', hgr', hblk, hmk, hos, hpl', hE9⟩ | ⟨rfl, hne, -⟩)
          · have hgl' : g' < w9.heap.size := blkOf_lt (by rw [hblk, NV_size]; omega)
            have hrl' := hmk.lt
            have HX9 := Lib.hid (HX8.out.trans hE9)
            have d9 : blkOf w9 w2.heap.size = NV (.slice Al cs.length cl) (.slice Ak hs.length ck) Z Z Z nilS := (blkOf_ext HX9.out hz26).trans D6.out
            have hz9 : w2.heap.size < w9.heap.size := Nat.lt_of_lt_of_le hz26 HX9.out.size
            have HB9 : Hid (Both w9 g' r' w9.heap.size (.slice A7 us.length c7) nv (.slice Al cs.length cl) (.slice Ak hs.length ck) nilS us cs os' hs St0) := Lib.hid ⟨⟨hblk, ⟨[], hmk, by simp⟩,
              fun W hW => (HR8.out.ext (hW.ext hE9 hg' hr')).sl, fun W hW => (hos.kept fun i hi1 hi2 => hW.block i hi2 (by omega) (by omega)).hs, by omega⟩,
              fun W hW => HC6.out.ext (HX8.out.trans (hW.ext hE9 hg' hr')), fun W hW => HH6.out.ext (HX8.out.trans (hW.ext hE9 hg' hr')), Row.nil _ _ _ _, hgl', hrl', Nat.le_refl _⟩
            have HST9 : Hid (Sta us cs) := Lib.hid ⟨HOKU.out.asc, HOKC.out.asc, HOKC.out.disk0, HOKU.out.sm, HOKC.out.sm, HOKU.out.keyS, by omega, by omega⟩
            have CP := Lib.hid (play20_any g' r' w9.heap.size (.slice A7 us.length c7) nv (.slice Al cs.length cl) (.slice Ak hs.length ck) nilS (.slice Ax xs.length cx) us cs os' hs St0 0 xs w9 HB9.out HST9.out (inv0 cs) (by omega) (fun W hW => ⟨(HRX6.out.ext (HX8.out.trans (hW.ext hE9 hg' hr'))).sl, fun a haa => cnt_args (HA6.out.ext (HX8.out.trans (hW.ext hE9 hg' hr'))).args a (by rw [HXA.out] at haa; exact haa)⟩)
              (fun i hi h30 => by
                rw [HUA.out]
                refine agr_used hpl' (fun k hk => ?_) (cnt_four (al := al) _ (by rw [← HXA.out]; exact getD_memA hi))
                rw [← stF_succ hi] at hk
                have h1 := stF_mono (min xs.length 30 - (i + 1)) (by omega) k hk
                rw [show i + 1 + (min xs.length 30 - (i + 1)) = min xs.length 30 by omega, HY.out] at h1
                exact h1))
            have HX9' := Lib.hid (HW6.out.trans HX9.out)
            have hwg : w.heap.size ≤ g' := Nat.le_trans (HW6.out.trans HX8.out).size hg'
            have hwr : w.heap.size ≤ r' := Nat.le_trans (HW6.out.trans HX8.out).size hr'
            clear hblk hmk hos hpl' hE9 HB9 HST9 CM t0 n1
            go_wp2_with fail
            refine CP.out.mono ?_
            rintro e10 w10 ⟨kv10, rfl, -, hE10⟩
            have HFIN := Lib.hid (hE10.ext HX9'.out hwg hwr)
            clear hE10 CP
            go_wp2_with fail
            go_ret
            exact ⟨rfl, HFIN.out⟩
          · exact absurd HER0.out hne
end Go.Proofs.Ytehmpbaiefbemaa
