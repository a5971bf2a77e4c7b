/- The walk over NetworkMakes. -/
import Derived.Test.YtehmpbaiefbemaaN55
import Derived.Test.YtehmpbaiefbemaaN52
import Derived.Test.YtehmpbaiefbemaaN43
namespace Go.Proofs.Ytehmpbaiefbemaa
open Go.RowKit Go.Sort
theorem HsAt.take {w : World} {A : Option Addr} {n c m : Nat} {hs : List Jh} (h : HsAt w (.slice A n c) hs) (hm : m ≤ hs.length) : HsAt w (.slice A m c) (hs.take m) := by
  obtain ⟨sl, ar⟩ := h
  obtain ⟨A', c', e, h1, h2, hy⟩ := sl.at_
  simp only [Value.slice.injEq] at e
  obtain ⟨rfl, -, rfl⟩ := e
  rw [List.length_map] at h1
  refine ⟨⟨⟨A, c, by rw [List.length_map, List.length_take, Nat.min_eq_left hm], by rw [List.length_map, List.length_take]; omega, h2, ?_⟩, Wide.map (f := encH) (fun _ => rfl) _⟩, fun x hx => ar x (List.mem_of_mem_take hx)⟩
  rw [List.map_take]
  exact take_at hy sl.wide m
theorem errA_zero : ∀ {hs : List Jh} {seen : List Ms}, errA seen hs = 0 → (∀ h ∈ hs, validF h = true) ∧ (hs.map (·.1)).Nodup ∧ ∀ h ∈ hs, h.1 ∉ seen
  | [], _, _ => by simp
  | h :: hs, seen, e => by
    rw [errA] at e
    by_cases hv : validF h = false
    · rw [if_pos hv] at e; cases e
    · rw [if_neg hv] at e
      by_cases hm : h.1 ∈ seen
      · rw [if_pos hm] at e; cases e
      · rw [if_neg hm] at e
        obtain ⟨h1, h2, h3⟩ := errA_zero e
        refine ⟨fun x hx => ?_, ?_, fun x hx => ?_⟩
        · rcases List.mem_cons.1 hx with rfl | hx
          · simpa using hv
          · exact h1 x hx
        · rw [List.map_cons, List.nodup_cons]
          refine ⟨fun hc => ?_, h2⟩
          obtain ⟨y, hy, e2⟩ := List.mem_map.1 hc
          exact h3 y hy (by simp [e2])
        · rcases List.mem_cons.1 hx with rfl | hx
          · exact hm
          · exact fun hc => h3 x hx (by simp [hc])
theorem errF_zero {hs : List Jh} (h : errF hs = 0) : hs.length ≤ 16 ∧ (∀ h ∈ hs, validF h = true) ∧ (hs.map (·.1)).Nodup := by
  unfold errF at h
  split at h
  · cases h
  · exact ⟨by omega, (errA_zero h).1, (errA_zero h).2.1⟩
theorem valid_pl {os hs : List Jh} (h : os.map plH = hs.map plH) (hv : ∀ h ∈ hs, validF h = true) : ∀ h ∈ os, h.2.1.length ≤ 2 ∧ ∀ j ∈ h.2.1, j.1.2.2.length ≤ 4 := by
  intro o hm
  have h1 : plH o ∈ hs.map plH := by rw [← h]; exact List.mem_map.2 ⟨o, hm, rfl⟩
  obtain ⟨k, hk, e⟩ := List.mem_map.1 h1
  have e2 : k.2.1.map (·.1) = o.2.1.map (·.1) := congrArg Prod.snd e
  have ok := valid_len (hv k hk)
  refine ⟨by have h3 := congrArg List.length e2; simp only [List.length_map] at h3; omega, fun j hj => ?_⟩
  have h4 : j.1 ∈ k.2.1.map (·.1) := by rw [e2]; exact List.mem_map.2 ⟨j, hj, rfl⟩
  obtain ⟨i, hi, e3⟩ := List.mem_map.1 h4
  rw [← e3]
  exact ok.2 i hi
theorem timH_mem {m : Ms} : ∀ {js : List Ja} {i : Nat} {x : Tm}, x ∈ timH m i js → x.2.2 ∈ js
  | [], _, _, h => by simp [timH] at h
  | j :: js, i, x, h => by
    rw [timH, List.mem_cons] at h
    rcases h with rfl | h
    · simp
    · exact List.mem_cons_of_mem _ (timH_mem h)
theorem timS_mem {hs : List Jh} {x : Tm} (h : x ∈ timS hs) : ∃ y ∈ hs, x.2.2 ∈ y.2.1 := by
  obtain ⟨y, hy, hx⟩ := List.mem_flatMap.1 h
  exact ⟨y, hy, timH_mem hx⟩
theorem getD_memT {l : List Tm} {j : Nat} (h : j < l.length) : l.getD j Tm0 ∈ l := by
  rw [List.getD_eq_getElem?_getD, List.getElem?_eq_getElem h]; exact List.getElem_mem h
theorem getD_plT {l : List Tm} {j : Nat} (h : j < l.length) : (l.map plT).getD j (plT Tm0) = plT (l.getD j Tm0) := by
  rw [List.getD_eq_getElem?_getD, List.getD_eq_getElem?_getD, List.getElem?_map, List.getElem?_eq_getElem h]; rfl
attribute [local go_sem ↓] Go.wp_at_zero Go.wp_at_succ
@[irreducible] def neM (a b : Value) : Sem Value := binOp .neq 44 a b
theorem ne44 (a b : Value) : binOp .neq 44 a b = neM a b := by unfold neM; rfl
theorem run_ne44 (w : World) (b c d : Int) : (neM (.agg #[iV b, iV c, iV d]) (.agg #[iV b, iV c, iV d])).run Try.prog w = .ok (.bool false) w := by
  unfold neM
  go_simp
attribute [local go_sem ↓] ne44
attribute [local go_sem] run_ne44
set_option maxRecDepth 100000 in
set_option maxHeartbeats 8000000 in
theorem makes_law (hs : List Jh) (v : Value) (w : World) (hv : HsAt w v hs) : Calls Try.prog 4 #[v] w (RetV (.bool true) w) := by
  have HV := Lib.hid hv
  obtain ⟨A, c, rfl, a1, a2, -⟩ := hv.sl.read
  rw [List.length_map] at a1 HV ⊢
  have hl : hs.length ≤ 9223372036854775807 := by unfold maxLen at a2; omega
  clear hv a2
  go_enter Try.func4, Try.ntmps4
  go_wp2_with fail
  refine (awake10_any w).mono ?_
  rintro e1 w1 ⟨rfl, hE1⟩
  have HE1 := Lib.hid hE1
  by_cases h20 : 20 < hs.length
  · have HHS := Lib.hid ((HV.out.take (m := 20) (by omega)).ext hE1)
    obtain ⟨ds, hds⟩ : ∃ ds, hs.take 20 = ds := ⟨_, rfl⟩
    rw [hds] at HHS
    obtain ⟨er, her⟩ : ∃ er, errF ds = er := ⟨_, rfl⟩
    have HEQ := Lib.hid her
    have HER : Hid (er ≠ 0) := Lib.hid (by
      rw [← her]
      unfold errF
      rw [if_pos (by rw [← hds, List.length_take]; omega)]
      decide)
    have CN := Lib.hid (new14_any none 0 0 ds (.slice A 20 c) w1 HHS.out)
    rw [her] at CN
    have hc20 : (20 : Int) ≤ (c : Int) := by omega
    have hh20 : (20 : Int) < (hs.length : Int) := by omega
    clear hE1 hds her
    go_wp2_with fail
    refine CN.out.mono ?_
    rintro e2 w2 (⟨g, r, nv, os, rfl, h0, -⟩ | ⟨rfl, hne, hE2⟩)
    · exact absurd h0 HER.out
    have CK := Lib.hid (rcheck17_any ds (.slice A 20 c) w2 (HHS.out.ext hE2))
    rw [HEQ.out] at CK
    have HE2 := Lib.hid (HE1.out.trans hE2)
    have te : (er != er) = false := by simp
    have tz : (er != 0) = true := by simpa using HER.out
    clear hE2 CN
    go_wp2_with fail
    refine CK.out.mono ?_
    rintro e3 w3 ⟨rfl, hE3⟩
    have HE3 := Lib.hid (HE2.out.trans hE3)
    clear hE3 CK
    go_wp2_with fail
    go_ret
    exact ⟨rfl, HE3.out⟩
  · have HHS := Lib.hid (HV.out.ext hE1)
    have hh20 : (hs.length : Int) ≤ 20 := by omega
    obtain ⟨er, her⟩ : ∃ er, errF hs = er := ⟨_, rfl⟩
    have HEQ := Lib.hid her
    have CN := Lib.hid (new14_any none 0 0 hs (.slice A hs.length c) w1 HHS.out)
    rw [her] at CN
    by_cases he0 : er = 0
    · have HZ := Lib.hid (errF_zero (her.trans he0))
      subst he0
      clear hE1 her
      go_wp2_with fail
      refine CN.out.mono ?_
      rintro e2 w2 (⟨g, r, nv, os, rfl, -, hg, hr, hgr, hblk, hmk, hos, hpl, hE2⟩ | ⟨rfl, hne, -⟩)
      · have HPL := Lib.hid hpl
        have HVO := Lib.hid (valid_pl hpl HZ.out.2.1)
        have HLO : Hid (os.length ≤ 16) := Lib.hid (by have h1 := congrArg List.length hpl; simp only [List.length_map] at h1; have := HZ.out.1; omega)
        have HN2 : Hid (Net w2 g r (.slice none 0 0) nv [] os St0) := Lib.hid ⟨hblk, ⟨[], hmk, by simp⟩, fun W hW => SlAt.nil _ _, fun W hW => (hos.kept fun i hi1 hi2 => hW.block i hi2 (by omega) (by omega)).hs, by omega⟩
        have HHS2 := Lib.hid (HHS.out.ext hE2)
        have HE2 := Lib.hid (HE1.out.trans hE2)
        have CK := Lib.hid (rcheck17_any hs (.slice A hs.length c) w2 HHS2.out)
        rw [HEQ.out] at CK
        clear hg hr hgr hblk hmk hos hpl hE2 CN
        go_wp2_with fail
        refine CK.out.mono ?_
        rintro e3 w3 ⟨rfl, hE3⟩
        have HN3 := Lib.hid (HN2.out.ext hE3)
        have HHS3 := Lib.hid (HHS2.out.ext hE3)
        have HE3 := Lib.hid (HE2.out.trans hE3)
        have CH := Lib.hid (held15_any g nv os w3 (blkOf_cell (by rw [HN3.out.blk]; exact NV_1)) HN3.out.ho.now HLO.out HVO.out)
        clear hE3 CK
        go_wp2_with fail
        refine CH.out.mono ?_
        rintro e4 w4 ⟨u4, l, rfl, hT4, hp4, hs4, hE4⟩
        have HSP := Lib.hid (sorted_pl HPL.out HZ.out.2.2 hp4 hs4)
        obtain ⟨A4, c4, e4, -, -⟩ := hT4.row.form
        rw [List.length_map] at e4
        subst e4
        have HT4 := Lib.hid hT4
        have HN4 := Lib.hid (HN3.out.ext hE4)
        have HHS4 := Lib.hid (HHS3.out.ext hE4)
        have HE4 := Lib.hid (HE3.out.trans hE4)
        have CR := Lib.hid (arrivals18_any hs (.slice A hs.length c) w4 HHS4.out HZ.out.1 (fun h hh => (valid_len (HZ.out.2.1 h hh)).1))
        clear hT4 hp4 hs4 hE4 CH
        go_wp2_with fail
        refine CR.out.mono ?_
        rintro e5 w5 ⟨u5, rfl, hr5, hE5⟩
        obtain ⟨ds, hds⟩ : ∃ ds, arrF hs = ds := ⟨_, rfl⟩
        have HDM : Hid (∀ x ∈ ds, ∃ y ∈ hs, x.2.2 ∈ y.2.1) := Lib.hid fun x hx => timS_mem ((arrF_perm hs).mem_iff.1 (by rw [hds]; exact hx))
        rw [hds] at hr5 HSP
        have hlen : ds.length = l.length := by have h1 := congrArg List.length HSP.out; simp only [List.length_map] at h1; exact h1.symm
        obtain ⟨A5, c5, e5, -, -⟩ := hr5.form
        rw [List.length_map, hlen] at e5
        subst e5
        have HT5 := Lib.hid (HT4.out.ext hE5)
        have HR5 := Lib.hid hr5
        have HN5 := Lib.hid (HN4.out.ext hE5)
        have HHS5 := Lib.hid (HHS4.out.ext hE5)
        have HE5 := Lib.hid (HE4.out.trans hE5)
        have HLEN := Lib.hid hlen
        have te : (l.length != l.length) = false := by simp
        obtain ⟨Al, cl, el, al1, al2, RL⟩ := HT5.out.row.sl.read
        obtain ⟨Ar, cr, er', ar1, ar2, RR⟩ := HR5.out.sl.read
        rw [List.length_map, Value.slice.injEq] at el
        obtain ⟨rfl, -, rfl⟩ := el
        rw [List.length_map, Value.slice.injEq] at er'
        obtain ⟨rfl, -, rfl⟩ := er'
        rw [List.length_map] at RL RR al1 ar1
        have HRL := Lib.hid RL
        have HRR := Lib.hid RR
        have hll : l.length ≤ 9223372036854775807 := by unfold maxLen at al2; omega
        clear hr5 hE5 hds hlen CR RL RR al1 al2 ar1 ar2
        go_wp2_with fail
        go_loopw [42] (fun i wr => ∃ k : Nat, k ≤ l.length ∧ i = iV (k : Int) ∧ Ext w5 wr) (fun i _ => l.length - (intOf i).toNat)
        case atStart => exact ⟨0, by omega, rfl, Ext.refl _⟩
        case round =>
          obtain ⟨k, hk, rfl, hX⟩ := hrel
          obtain ⟨wx, rfl⟩ : ∃ wx, wx = wr := ⟨_, rfl⟩
          have HX := Lib.hid hX
          clear hX
          by_cases hlt : k < l.length
          · obtain ⟨bL, oL, rfl, hbL, cL⟩ := HRL.out wx HX.out k hlt (by omega)
            obtain ⟨bR, oR, rfl, hbR, cR⟩ := HRR.out wx HX.out k (by rw [HLEN.out]; exact hlt) (by omega)
            obtain ⟨x, hx⟩ : ∃ x, l.getD k Tm0 = x := ⟨_, rfl⟩
            obtain ⟨y, hy⟩ : ∃ y, ds.getD k Tm0 = y := ⟨_, rfl⟩
            rw [encT_at hlt x hx] at cL
            rw [encT_at (by rw [HLEN.out]; exact hlt) y hy] at cR
            have gx := (HT5.out.args x (by rw [← hx]; exact getD_memT hlt)).sl
            obtain ⟨h', hh', hj'⟩ := HDM.out y (by rw [← hy]; exact getD_memT (by rw [HLEN.out]; exact hlt))
            have gy := (HHS5.out.arr h' hh').args _ hj'
            have lx := (valid_len (HZ.out.2.1 h' hh')).2 _ hj'
            have hxy : plT x = plT y := by
              have h1 := getD_plT hlt
              rw [HSP.out, getD_plT (by rw [HLEN.out]; exact hlt), hx, hy] at h1
              exact h1.symm
            obtain ⟨⟨x1, x2, x3⟩, x4, ⟨x5, x6, x7⟩, x8⟩ := x
            obtain ⟨⟨y1, y2, y3⟩, y4, ⟨y5, y6, y7⟩, y8⟩ := y
            unfold plT at hxy
            simp only [Prod.mk.injEq] at hxy gx gy lx
            obtain ⟨⟨rfl, rfl, rfl⟩, rfl, rfl, rfl, rfl⟩ := hxy
            obtain ⟨Bx, dx, ex, -, -, -⟩ := gx.read
            obtain ⟨By, dy, ey, -, -, -⟩ := gy.at_
            rw [List.length_map] at ex ey
            subst ex
            subst ey
            have CA := Lib.hid (fun W (hW : Ext wx W) => sameArgs_ok _ _ _ W (SlAt.ext gx (HX.out.trans hW)) (ArgsAt.ext gy (HX.out.trans hW)) lx)
            have p0 := cL 0 _ (by omega) rfl
            have p1 := cL 1 _ (by omega) rfl
            have p2 := cL 2 _ (by omega) rfl
            have p3 := cL 3 _ (by omega) rfl
            have p4 := cL 4 _ (by omega) rfl
            have p5 := cL 5 _ (by omega) rfl
            have p6 := cL 6 _ (by omega) rfl
            have q0 := cR 0 _ (by omega) rfl
            have q1 := cR 1 _ (by omega) rfl
            have q2 := cR 2 _ (by omega) rfl
            have q3 := cR 3 _ (by omega) rfl
            have q4 := cR 4 _ (by omega) rfl
            have q5 := cR 5 _ (by omega) rfl
            have q6 := cR 6 _ (by omega) rfl
            rw [Nat.add_zero] at p0 q0
            simp only [nrm_slice] at p6 q6
            have i0 : (0 : Int) ≤ (k : Int) := by omega
            have i1 : (k : Int) < (l.length : Int) := by omega
            clear cL cR hx hy gx gy lx hh' hj'
            go_upto_region 17 with fail
            refine wp_region_noPanic ?_
            refine wp_region_held_drew (S := (fun w' => Ext wx w' ∧ ∀ b o, b < wx.heap.size → w'.cell? ⟨b, o, none⟩ = wx.cell? ⟨b, o, none⟩)) (by kernel_rfl) ?_ (fun hHeld => ?_)
            · exact Ext.held (by repeat (first | assumption | exact Ext.refl _ | apply Ext.alloc | apply Ext.drew | apply Ext.drewN))
            refine wpAnyH_take (i := 0) (v := ?_) (oper_at rfl) (by kernel_rfl) (by kernel_rfl) (by kernel_rfl) (fun _ _ _ h => h) (Or.inl ⟨by rfl, ?_⟩) hHeld ?_
            rotate_left
            · (intro ww hSw; (try dsimp only at hSw); go_simp; try (with_reducible rfl))
            try simp only [Act.put, List.setIfInBounds_toArray, List.set_cons_zero, List.set_cons_succ]
            refine wpAnyH_take (i := 1) (v := ?_) (oper_at rfl) (by kernel_rfl) (by kernel_rfl) (by kernel_rfl) (fun _ _ _ h => h) (Or.inl ⟨by rfl, ?_⟩) hHeld ?_
            rotate_left
            · (intro ww hSw; (try dsimp only at hSw); go_simp; try (with_reducible rfl))
            try simp only [Act.put, List.setIfInBounds_toArray, List.set_cons_zero, List.set_cons_succ]
            refine wpAnyH_take (i := 2) (v := ?_) (oper_at rfl) (by kernel_rfl) (by kernel_rfl) (by kernel_rfl) (fun _ _ _ h => h) (Or.inl ⟨by rfl, ?_⟩) hHeld ?_
            rotate_left
            · (intro ww hSw; (try dsimp only at hSw); go_simp; try (with_reducible rfl))
            try simp only [Act.put, List.setIfInBounds_toArray, List.set_cons_zero, List.set_cons_succ]
            refine wpAnyH_take (i := 3) (v := ?_) (oper_at rfl) (by kernel_rfl) (by kernel_rfl) (by kernel_rfl) (fun _ _ _ h => h) (Or.inl ⟨by rfl, ?_⟩) hHeld ?_
            rotate_left
            · (intro ww hSw; (try dsimp only at hSw); go_simp; try (with_reducible rfl))
            try simp only [Act.put, List.setIfInBounds_toArray, List.set_cons_zero, List.set_cons_succ]
            refine wpAnyH_take (i := 4) (v := ?_) (oper_at rfl) (by kernel_rfl) (by kernel_rfl) (by kernel_rfl) (fun _ _ _ h => h) (Or.inl ⟨by rfl, ?_⟩) hHeld ?_
            rotate_left
            · (intro ww hSw; (try dsimp only at hSw); go_simp; try (with_reducible rfl))
            try simp only [Act.put, List.setIfInBounds_toArray, List.set_cons_zero, List.set_cons_succ]
            refine wpAnyH_take (i := 5) (v := ?_) (oper_at rfl) (by kernel_rfl) (by kernel_rfl) (by kernel_rfl) (fun _ _ _ h => h) (Or.inl ⟨by rfl, ?_⟩) hHeld ?_
            rotate_left
            · (intro ww hSw; (try dsimp only at hSw); go_simp; try (with_reducible rfl))
            try simp only [Act.put, List.setIfInBounds_toArray, List.set_cons_zero, List.set_cons_succ]
            refine wpAnyH_take (i := 6) (v := ?_) (oper_at rfl) (by kernel_rfl) (by kernel_rfl) (by kernel_rfl) (fun _ _ _ h => h) (Or.inl ⟨by rfl, ?_⟩) hHeld ?_
            rotate_left
            · (intro ww hSw; (try dsimp only at hSw); go_simp; try (with_reducible rfl))
            try simp only [Act.put, List.setIfInBounds_toArray, List.set_cons_zero, List.set_cons_succ]
            refine wpAnyH_take (i := 7) (v := ?_) (oper_at rfl) (by kernel_rfl) (by kernel_rfl) (by kernel_rfl) (fun _ _ _ h => h) (Or.inl ⟨by rfl, ?_⟩) hHeld ?_
            rotate_left
            · (intro ww hSw; (try dsimp only at hSw); go_simp; try (with_reducible rfl))
            try simp only [Act.put, List.setIfInBounds_toArray, List.set_cons_zero, List.set_cons_succ]
            refine wpAnyH_take (i := 8) (v := ?_) (oper_at rfl) (by kernel_rfl) (by kernel_rfl) (by kernel_rfl) (fun _ _ _ h => h) (Or.inl ⟨by rfl, ?_⟩) hHeld ?_
            rotate_left
            · (intro ww hSw; (try dsimp only at hSw); go_simp; try (with_reducible rfl))
            try simp only [Act.put, List.setIfInBounds_toArray, List.set_cons_zero, List.set_cons_succ]
            refine wpAnyH_take (i := 9) (v := ?_) (oper_at rfl) (by kernel_rfl) (by kernel_rfl) (by kernel_rfl) (fun _ _ _ h => h) (Or.inl ⟨by rfl, ?_⟩) hHeld ?_
            rotate_left
            · (intro ww hSw; (try dsimp only at hSw); go_simp; try (with_reducible rfl))
            try simp only [Act.put, List.setIfInBounds_toArray, List.set_cons_zero, List.set_cons_succ]
            refine wpAnyH_take (i := 10) (v := ?_) (oper_at rfl) (by kernel_rfl) (by kernel_rfl) (by kernel_rfl) (fun _ _ _ h => h) (Or.inl ⟨by rfl, ?_⟩) hHeld ?_
            rotate_left
            · (intro ww hSw; (try dsimp only at hSw); go_simp; try (with_reducible rfl))
            try simp only [Act.put, List.setIfInBounds_toArray, List.set_cons_zero, List.set_cons_succ]
            refine wpAnyH_take (i := 11) (v := ?_) (oper_at rfl) (by kernel_rfl) (by kernel_rfl) (by kernel_rfl) (fun _ _ _ h => h) (Or.inl ⟨by rfl, ?_⟩) hHeld ?_
            rotate_left
            · (intro ww hSw; (try dsimp only at hSw); go_simp; try (with_reducible rfl))
            try simp only [Act.put, List.setIfInBounds_toArray, List.set_cons_zero, List.set_cons_succ]
            refine wpAnyH_take (i := 12) (v := ?_) (oper_at rfl) (by kernel_rfl) (by kernel_rfl) (by kernel_rfl) (fun _ _ _ h => h) (Or.inl ⟨by rfl, ?_⟩) hHeld ?_
            rotate_left
            · (intro ww hSw; (try dsimp only at hSw); go_simp; try (with_reducible rfl))
            try simp only [Act.put, List.setIfInBounds_toArray, List.set_cons_zero, List.set_cons_succ]
            refine wpAnyH_take (i := 13) (v := ?_) (oper_at rfl) (by kernel_rfl) (by kernel_rfl) (by kernel_rfl) (fun _ _ _ h => h) (Or.inl ⟨by rfl, ?_⟩) hHeld ?_
            rotate_left
            · (intro ww hSw; (try dsimp only at hSw); go_simp; try (with_reducible rfl))
            try simp only [Act.put, List.setIfInBounds_toArray, List.set_cons_zero, List.set_cons_succ]
            refine wpAnyH_take (i := 14) (v := ?_) (oper_at rfl) (by kernel_rfl) (by kernel_rfl) (by kernel_rfl) (fun _ _ _ h => h) (Or.inl ⟨by rfl, ?_⟩) hHeld ?_
            rotate_left
            · (intro ww hSw; (try dsimp only at hSw); go_simp; try (with_reducible rfl))
            try simp only [Act.put, List.setIfInBounds_toArray, List.set_cons_zero, List.set_cons_succ]
            refine wpAnyH_take (i := 15) (v := ?_) (oper_at rfl) (by kernel_rfl) (by kernel_rfl) (by kernel_rfl) (fun _ _ _ h => h) (Or.inl ⟨by rfl, ?_⟩) hHeld ?_
            rotate_left
            · (intro ww hSw; (try dsimp only at hSw); go_simp; try (with_reducible rfl))
            try simp only [Act.put, List.setIfInBounds_toArray, List.set_cons_zero, List.set_cons_succ]
            refine wpAnyH_take (i := 16) (v := ?_) (oper_at rfl) (by kernel_rfl) (by kernel_rfl) (by kernel_rfl) (fun _ _ _ h => h) (Or.inl ⟨by rfl, ?_⟩) hHeld ?_
            rotate_left
            · (intro ww hSw; (try dsimp only at hSw); go_simp; try (with_reducible rfl))
            try simp only [Act.put, List.setIfInBounds_toArray, List.set_cons_zero, List.set_cons_succ]
            refine wpAnyH_take (i := 17) (v := ?_) (oper_at rfl) (by kernel_rfl) (by kernel_rfl) (by kernel_rfl) (fun _ _ _ h => h) (Or.inl ⟨by rfl, ?_⟩) hHeld ?_
            rotate_left
            · (intro ww hSw; (try dsimp only at hSw); go_simp; try (with_reducible rfl))
            try simp only [Act.put, List.setIfInBounds_toArray, List.set_cons_zero, List.set_cons_succ]
            refine wpAnyH_take (i := 18) (v := ?_) (oper_at rfl) (by kernel_rfl) (by kernel_rfl) (by kernel_rfl) (fun _ _ _ h => h) (Or.inl ⟨by rfl, ?_⟩) hHeld ?_
            rotate_left
            · (intro ww hSw; (try dsimp only at hSw); go_simp; try (with_reducible rfl))
            try simp only [Act.put, List.setIfInBounds_toArray, List.set_cons_zero, List.set_cons_succ]
            refine wpAnyH_take (i := 19) (v := ?_) (oper_at rfl) (by kernel_rfl) (by kernel_rfl) (by kernel_rfl) (fun _ _ _ h => h) (Or.inl ⟨by rfl, ?_⟩) hHeld ?_
            rotate_left
            · (intro ww hSw; (try dsimp only at hSw); go_simp; try (with_reducible rfl))
            try simp only [Act.put, List.setIfInBounds_toArray, List.set_cons_zero, List.set_cons_succ]
            refine wpAnyH_take (i := 20) (v := ?_) (oper_at rfl) (by kernel_rfl) (by kernel_rfl) (by kernel_rfl) (fun _ _ _ h => h) (Or.inl ⟨by rfl, ?_⟩) hHeld ?_
            rotate_left
            · (intro ww hSw; (try dsimp only at hSw); go_simp; try (with_reducible rfl))
            try simp only [Act.put, List.setIfInBounds_toArray, List.set_cons_zero, List.set_cons_succ]
            refine wpAnyH_take (i := 21) (v := ?_) (oper_at rfl) (by kernel_rfl) (by kernel_rfl) (by kernel_rfl) (fun _ _ _ h => h) (Or.inl ⟨by rfl, ?_⟩) hHeld ?_
            rotate_left
            · (intro ww hSw; (try dsimp only at hSw); go_simp; try (with_reducible rfl))
            try simp only [Act.put, List.setIfInBounds_toArray, List.set_cons_zero, List.set_cons_succ]
            refine wpAnyH_take (i := 22) (v := ?_) (oper_at rfl) (by kernel_rfl) (by kernel_rfl) (by kernel_rfl) (fun _ _ _ h => h) (Or.inl ⟨by rfl, ?_⟩) hHeld ?_
            rotate_left
            · (intro ww hSw; (try dsimp only at hSw); go_simp; try (with_reducible rfl))
            try simp only [Act.put, List.setIfInBounds_toArray, List.set_cons_zero, List.set_cons_succ]
            refine wpAnyH_take (i := 23) (v := ?_) (oper_at rfl) (by kernel_rfl) (by kernel_rfl) (by kernel_rfl) (fun _ _ _ h => h) (Or.inl ⟨by rfl, ?_⟩) hHeld ?_
            rotate_left
            · (intro ww hSw; (try dsimp only at hSw); go_simp; try (with_reducible rfl))
            try simp only [Act.put, List.setIfInBounds_toArray, List.set_cons_zero, List.set_cons_succ]
            refine wpAnyH_take (i := 24) (v := ?_) (oper_at rfl) (by kernel_rfl) (by kernel_rfl) (by kernel_rfl) (fun _ _ _ h => h) (Or.inl ⟨by rfl, ?_⟩) hHeld ?_
            rotate_left
            · (intro ww hSw; (try dsimp only at hSw); go_simp; try (with_reducible rfl))
            try simp only [Act.put, List.setIfInBounds_toArray, List.set_cons_zero, List.set_cons_succ]
            refine wpAnyH_take (i := 25) (v := ?_) (oper_at rfl) (by kernel_rfl) (by kernel_rfl) (by kernel_rfl) (fun _ _ _ h => h) (Or.inl ⟨by rfl, ?_⟩) hHeld ?_
            rotate_left
            · (intro ww hSw; (try dsimp only at hSw); go_simp; try (with_reducible rfl))
            try simp only [Act.put, List.setIfInBounds_toArray, List.set_cons_zero, List.set_cons_succ]
            refine wpAnyH_take (i := 26) (v := ?_) (oper_at rfl) (by kernel_rfl) (by kernel_rfl) (by kernel_rfl) (fun _ _ _ h => h) (Or.inl ⟨by rfl, ?_⟩) hHeld ?_
            rotate_left
            · (intro ww hSw; (try dsimp only at hSw); go_simp; try (with_reducible rfl))
            try simp only [Act.put, List.setIfInBounds_toArray, List.set_cons_zero, List.set_cons_succ]
            refine wpAnyH_take (i := 27) (v := ?_) (oper_at rfl) (by kernel_rfl) (by kernel_rfl) (by kernel_rfl) (fun _ _ _ h => h) (Or.inl ⟨by rfl, ?_⟩) hHeld ?_
            rotate_left
            · (intro ww hSw; (try dsimp only at hSw); go_simp; try (with_reducible rfl))
            try simp only [Act.put, List.setIfInBounds_toArray, List.set_cons_zero, List.set_cons_succ]
            refine wpAnyH_take (i := 28) (v := ?_) (oper_at rfl) (by kernel_rfl) (by kernel_rfl) (by kernel_rfl) (fun _ _ _ h => h) (Or.inl ⟨by rfl, ?_⟩) hHeld ?_
            rotate_left
            · (intro ww hSw; (try dsimp only at hSw); go_simp; try (with_reducible rfl))
            try simp only [Act.put, List.setIfInBounds_toArray, List.set_cons_zero, List.set_cons_succ]
            refine wpAnyH_take (i := 29) (v := ?_) (oper_at rfl) (by kernel_rfl) (by kernel_rfl) (by kernel_rfl) (fun _ _ _ h => h) (Or.inl ⟨by rfl, ?_⟩) hHeld ?_
            rotate_left
            · (intro ww hSw; (try dsimp only at hSw); go_simp; try (with_reducible rfl))
            try simp only [Act.put, List.setIfInBounds_toArray, List.set_cons_zero, List.set_cons_succ]
            refine wpAnyH_take (i := 30) (v := ?_) (oper_at rfl) (by kernel_rfl) (by kernel_rfl) (by kernel_rfl) (fun _ _ _ h => h) (Or.inl ⟨by rfl, ?_⟩) hHeld ?_
            rotate_left
            · (intro ww hSw; (try dsimp only at hSw); go_simp; try (with_reducible rfl))
            try simp only [Act.put, List.setIfInBounds_toArray, List.set_cons_zero, List.set_cons_succ]
            refine wpAnyH_take (i := 31) (v := ?_) (oper_at rfl) (by kernel_rfl) (by kernel_rfl) (by kernel_rfl) (fun _ _ _ h => h) (Or.inl ⟨by rfl, ?_⟩) hHeld ?_
            rotate_left
            · (intro ww hSw; (try dsimp only at hSw); go_simp; try (with_reducible rfl))
            try simp only [Act.put, List.setIfInBounds_toArray, List.set_cons_zero, List.set_cons_succ]
            refine wpAnyH_take (i := 32) (v := ?_) (oper_at rfl) (by kernel_rfl) (by kernel_rfl) (by kernel_rfl) (fun _ _ _ h => h) (Or.inl ⟨by rfl, ?_⟩) hHeld ?_
            rotate_left
            · (intro ww hSw; (try dsimp only at hSw); go_simp; try (with_reducible rfl))
            try simp only [Act.put, List.setIfInBounds_toArray, List.set_cons_zero, List.set_cons_succ]
            refine wpAnyH_take (i := 33) (v := ?_) (oper_at rfl) (by kernel_rfl) (by kernel_rfl) (by kernel_rfl) (fun _ _ _ h => h) (Or.inl ⟨by rfl, ?_⟩) hHeld ?_
            rotate_left
            · (intro ww hSw; (try dsimp only at hSw); go_simp; try (with_reducible rfl))
            try simp only [Act.put, List.setIfInBounds_toArray, List.set_cons_zero, List.set_cons_succ]
            refine wpAnyH_take (i := 34) (v := ?_) (oper_at rfl) (by kernel_rfl) (by kernel_rfl) (by kernel_rfl) (fun _ _ _ h => h) (Or.inl ⟨by rfl, ?_⟩) hHeld ?_
            rotate_left
            · (intro ww hSw; (try dsimp only at hSw); go_simp; try (with_reducible rfl))
            try simp only [Act.put, List.setIfInBounds_toArray, List.set_cons_zero, List.set_cons_succ]
            refine wpAnyH_take (i := 35) (v := ?_) (oper_at rfl) (by kernel_rfl) (by kernel_rfl) (by kernel_rfl) (fun _ _ _ h => h) (Or.inl ⟨by rfl, ?_⟩) hHeld ?_
            rotate_left
            · (intro ww hSw; (try dsimp only at hSw); go_simp; try (with_reducible rfl))
            try simp only [Act.put, List.setIfInBounds_toArray, List.set_cons_zero, List.set_cons_succ]
            refine wpAnyH_take (i := 36) (v := ?_) (oper_at rfl) (by kernel_rfl) (by kernel_rfl) (by kernel_rfl) (fun _ _ _ h => h) (Or.inl ⟨by rfl, ?_⟩) hHeld ?_
            rotate_left
            · (intro ww hSw; (try dsimp only at hSw); go_simp; try (with_reducible rfl))
            try simp only [Act.put, List.setIfInBounds_toArray, List.set_cons_zero, List.set_cons_succ]
            refine wpAnyH_take (i := 37) (v := ?_) (oper_at rfl) (by kernel_rfl) (by kernel_rfl) (by kernel_rfl) (fun _ _ _ h => h) (Or.inl ⟨by rfl, ?_⟩) hHeld ?_
            rotate_left
            · (intro ww hSw; (try dsimp only at hSw); go_simp; try (with_reducible rfl))
            try simp only [Act.put, List.setIfInBounds_toArray, List.set_cons_zero, List.set_cons_succ]
            refine wpAnyH_take (i := 38) (v := ?_) (oper_at rfl) (by kernel_rfl) (by kernel_rfl) (by kernel_rfl) (fun _ _ _ h => h) (Or.inl ⟨by rfl, ?_⟩) hHeld ?_
            rotate_left
            · (intro ww hSw; (try dsimp only at hSw); go_simp; try (with_reducible rfl))
            try simp only [Act.put, List.setIfInBounds_toArray, List.set_cons_zero, List.set_cons_succ]
            refine wpAnyH_take (i := 39) (v := ?_) (oper_at rfl) (by kernel_rfl) (by kernel_rfl) (by kernel_rfl) (fun _ _ _ h => h) (Or.inl ⟨by rfl, ?_⟩) hHeld ?_
            rotate_left
            · (intro ww hSw; (try dsimp only at hSw); go_simp; try (with_reducible rfl))
            try simp only [Act.put, List.setIfInBounds_toArray, List.set_cons_zero, List.set_cons_succ]
            refine wpAnyH_take (i := 40) (v := ?_) (oper_at rfl) (by kernel_rfl) (by kernel_rfl) (by kernel_rfl) (fun _ _ _ h => h) (Or.inl ⟨by rfl, ?_⟩) hHeld ?_
            rotate_left
            · (intro ww hSw; (try dsimp only at hSw); go_simp; try (with_reducible rfl))
            try simp only [Act.put, List.setIfInBounds_toArray, List.set_cons_zero, List.set_cons_succ]
            refine wpAnyH_take (i := 41) (v := ?_) (oper_at rfl) (by kernel_rfl) (by kernel_rfl) (by kernel_rfl) (fun _ _ _ h => h) (Or.inl ⟨by rfl, ?_⟩) hHeld ?_
            rotate_left
            · (intro ww hSw; (try dsimp only at hSw); go_simp; try (with_reducible rfl))
            try simp only [Act.put, List.setIfInBounds_toArray, List.set_cons_zero, List.set_cons_succ]
            refine wpAnyH_take (i := 42) (v := ?_) (oper_at rfl) (by kernel_rfl) (by kernel_rfl) (by kernel_rfl) (fun _ _ _ h => h) (Or.inl ⟨by rfl, ?_⟩) hHeld ?_
            rotate_left
            · (intro ww hSw; (try dsimp only at hSw); go_simp; try (with_reducible rfl))
            try simp only [Act.put, List.setIfInBounds_toArray, List.set_cons_zero, List.set_cons_succ]
            refine wpAnyH_take (i := 43) (v := ?_) (oper_at rfl) (by kernel_rfl) (by kernel_rfl) (by kernel_rfl) (fun _ _ _ h => h) (Or.inl ⟨by rfl, ?_⟩) hHeld ?_
            rotate_left
            · (intro ww hSw; (try dsimp only at hSw); go_simp; try (with_reducible rfl))
            try simp only [Act.put, List.setIfInBounds_toArray, List.set_cons_zero, List.set_cons_succ]
            refine wpAnyH_take (i := 44) (v := ?_) (oper_at rfl) (by kernel_rfl) (by kernel_rfl) (by kernel_rfl) (fun _ _ _ h => h) (Or.inl ⟨by rfl, ?_⟩) hHeld ?_
            rotate_left
            · (intro ww hSw; (try dsimp only at hSw); go_simp; try (with_reducible rfl))
            try simp only [Act.put, List.setIfInBounds_toArray, List.set_cons_zero, List.set_cons_succ]
            refine wpAnyH_take (i := 45) (v := ?_) (oper_at rfl) (by kernel_rfl) (by kernel_rfl) (by kernel_rfl) (fun _ _ _ h => h) (Or.inl ⟨by rfl, ?_⟩) hHeld ?_
            rotate_left
            · (intro ww hSw; (try dsimp only at hSw); go_simp; try (with_reducible rfl))
            try simp only [Act.put, List.setIfInBounds_toArray, List.set_cons_zero, List.set_cons_succ]
            refine wpAnyH_take (i := 46) (v := ?_) (oper_at rfl) (by kernel_rfl) (by kernel_rfl) (by kernel_rfl) (fun _ _ _ h => h) (Or.inl ⟨by rfl, ?_⟩) hHeld ?_
            rotate_left
            · (intro ww hSw; (try dsimp only at hSw); go_simp; try (with_reducible rfl))
            try simp only [Act.put, List.setIfInBounds_toArray, List.set_cons_zero, List.set_cons_succ]
            refine wpAnyH_take (i := 47) (v := ?_) (oper_at rfl) (by kernel_rfl) (by kernel_rfl) (by kernel_rfl) (fun _ _ _ h => h) (Or.inl ⟨by rfl, ?_⟩) hHeld ?_
            rotate_left
            · (intro ww hSw; (try dsimp only at hSw); go_simp; try (with_reducible rfl))
            try simp only [Act.put, List.setIfInBounds_toArray, List.set_cons_zero, List.set_cons_succ]
            refine wpAnyH_take (i := 48) (v := ?_) (oper_at rfl) (by kernel_rfl) (by kernel_rfl) (by kernel_rfl) (fun _ _ _ h => h) (Or.inl ⟨by rfl, ?_⟩) hHeld ?_
            rotate_left
            · (intro ww hSw; (try dsimp only at hSw); go_simp; try (with_reducible rfl))
            try simp only [Act.put, List.setIfInBounds_toArray, List.set_cons_zero, List.set_cons_succ]
            refine wpAnyH_take (i := 49) (v := ?_) (oper_at rfl) (by kernel_rfl) (by kernel_rfl) (by kernel_rfl) (fun _ _ _ h => h) (Or.inl ⟨by rfl, ?_⟩) hHeld ?_
            rotate_left
            · (intro ww hSw; (try dsimp only at hSw); go_simp; try (with_reducible rfl))
            try simp only [Act.put, List.setIfInBounds_toArray, List.set_cons_zero, List.set_cons_succ]
            refine wpAnyH_take (i := 50) (v := ?_) (oper_at rfl) (by kernel_rfl) (by kernel_rfl) (by kernel_rfl) (fun _ _ _ h => h) (Or.inl ⟨by rfl, ?_⟩) hHeld ?_
            rotate_left
            · (intro ww hSw; (try dsimp only at hSw); go_simp; try (with_reducible rfl))
            try simp only [Act.put, List.setIfInBounds_toArray, List.set_cons_zero, List.set_cons_succ]
            refine wpAnyH_take (i := 51) (v := ?_) (oper_at rfl) (by kernel_rfl) (by kernel_rfl) (by kernel_rfl) (fun _ _ _ h => h) (Or.inl ⟨by rfl, ?_⟩) hHeld ?_
            rotate_left
            · (intro ww hSw; (try dsimp only at hSw); go_simp; try (with_reducible rfl))
            try simp only [Act.put, List.setIfInBounds_toArray, List.set_cons_zero, List.set_cons_succ]
            refine wpAnyH_take (i := 52) (v := ?_) (oper_at rfl) (by kernel_rfl) (by kernel_rfl) (by kernel_rfl) (fun _ _ _ h => h) (Or.inl ⟨by rfl, ?_⟩) hHeld ?_
            rotate_left
            · (intro ww hSw; (try dsimp only at hSw); go_simp; try (with_reducible rfl))
            try simp only [Act.put, List.setIfInBounds_toArray, List.set_cons_zero, List.set_cons_succ]
            refine wpAnyH_take (i := 53) (v := ?_) (oper_at rfl) (by kernel_rfl) (by kernel_rfl) (by kernel_rfl) (fun _ _ _ h => h) (Or.inl ⟨by rfl, ?_⟩) hHeld ?_
            rotate_left
            · (intro ww hSw; (try dsimp only at hSw); go_simp; try (with_reducible rfl))
            try simp only [Act.put, List.setIfInBounds_toArray, List.set_cons_zero, List.set_cons_succ]
            refine wpAnyH_take (i := 54) (v := ?_) (oper_at rfl) (by kernel_rfl) (by kernel_rfl) (by kernel_rfl) (fun _ _ _ h => h) (Or.inl ⟨by rfl, ?_⟩) hHeld ?_
            rotate_left
            · (intro ww hSw; (try dsimp only at hSw); go_simp; try (with_reducible rfl))
            try simp only [Act.put, List.setIfInBounds_toArray, List.set_cons_zero, List.set_cons_succ]
            refine wpAnyH_take (i := 55) (v := ?_) (oper_at rfl) (by kernel_rfl) (by kernel_rfl) (by kernel_rfl) (fun _ _ _ h => h) (Or.inl ⟨by rfl, ?_⟩) hHeld ?_
            rotate_left
            · (intro ww hSw; (try dsimp only at hSw); go_simp; try (with_reducible rfl))
            try simp only [Act.put, List.setIfInBounds_toArray, List.set_cons_zero, List.set_cons_succ]
            refine wpAnyH_take (i := 56) (v := ?_) (oper_at rfl) (by kernel_rfl) (by kernel_rfl) (by kernel_rfl) (fun _ _ _ h => h) (Or.inl ⟨by rfl, ?_⟩) hHeld ?_
            rotate_left
            · (intro ww hSw; (try dsimp only at hSw); go_simp; try (with_reducible rfl))
            try simp only [Act.put, List.setIfInBounds_toArray, List.set_cons_zero, List.set_cons_succ]
            refine wpAnyH_take (i := 57) (v := ?_) (oper_at rfl) (by kernel_rfl) (by kernel_rfl) (by kernel_rfl) (fun _ _ _ h => h) (Or.inl ⟨by rfl, ?_⟩) hHeld ?_
            rotate_left
            · (intro ww hSw; (try dsimp only at hSw); go_simp; try (with_reducible rfl))
            try simp only [Act.put, List.setIfInBounds_toArray, List.set_cons_zero, List.set_cons_succ]
            refine wpAnyH_take (i := 58) (v := ?_) (oper_at rfl) (by kernel_rfl) (by kernel_rfl) (by kernel_rfl) (fun _ _ _ h => h) (Or.inl ⟨by rfl, ?_⟩) hHeld ?_
            rotate_left
            · (intro ww hSw; (try dsimp only at hSw); go_simp; try (with_reducible rfl))
            try simp only [Act.put, List.setIfInBounds_toArray, List.set_cons_zero, List.set_cons_succ]
            refine wpAnyH_take (i := 59) (v := ?_) (oper_at rfl) (by kernel_rfl) (by kernel_rfl) (by kernel_rfl) (fun _ _ _ h => h) (Or.inl ⟨by rfl, ?_⟩) hHeld ?_
            rotate_left
            · (intro ww hSw; (try dsimp only at hSw); go_simp; try (with_reducible rfl))
            try simp only [Act.put, List.setIfInBounds_toArray, List.set_cons_zero, List.set_cons_succ]
            refine wpAnyH_take (i := 60) (v := ?_) (oper_at rfl) (by kernel_rfl) (by kernel_rfl) (by kernel_rfl) (fun _ _ _ h => h) (Or.inl ⟨by rfl, ?_⟩) hHeld ?_
            rotate_left
            · (intro ww hSw; (try dsimp only at hSw); go_simp; try (with_reducible rfl))
            try simp only [Act.put, List.setIfInBounds_toArray, List.set_cons_zero, List.set_cons_succ]
            refine wpAnyH_take (i := 61) (v := ?_) (oper_at rfl) (by kernel_rfl) (by kernel_rfl) (by kernel_rfl) (fun _ _ _ h => h) (Or.inl ⟨by rfl, ?_⟩) hHeld ?_
            rotate_left
            · (intro ww hSw; (try dsimp only at hSw); go_simp; try (with_reducible rfl))
            try simp only [Act.put, List.setIfInBounds_toArray, List.set_cons_zero, List.set_cons_succ]
            refine wpAnyH_take (i := 62) (v := ?_) (oper_at rfl) (by kernel_rfl) (by kernel_rfl) (by kernel_rfl) (fun _ _ _ h => h) (Or.inl ⟨by rfl, ?_⟩) hHeld ?_
            rotate_left
            · (intro ww hSw; (try dsimp only at hSw); go_simp; try (with_reducible rfl))
            try simp only [Act.put, List.setIfInBounds_toArray, List.set_cons_zero, List.set_cons_succ]
            refine wpAnyH_take (i := 63) (v := ?_) (oper_at rfl) (by kernel_rfl) (by kernel_rfl) (by kernel_rfl) (fun _ _ _ h => h) (Or.inl ⟨by rfl, ?_⟩) hHeld ?_
            rotate_left
            · (intro ww hSw; (try dsimp only at hSw); go_simp; try (with_reducible rfl))
            try simp only [Act.put, List.setIfInBounds_toArray, List.set_cons_zero, List.set_cons_succ]
            refine wpAnyH_take (i := 64) (v := ?_) (oper_at rfl) (by kernel_rfl) (by kernel_rfl) (by kernel_rfl) (fun _ _ _ h => h) (Or.inl ⟨by rfl, ?_⟩) hHeld ?_
            rotate_left
            · (intro ww hSw; (try dsimp only at hSw); go_simp; try (with_reducible rfl))
            try simp only [Act.put, List.setIfInBounds_toArray, List.set_cons_zero, List.set_cons_succ]
            refine wpAnyH_take (i := 65) (v := ?_) (oper_at rfl) (by kernel_rfl) (by kernel_rfl) (by kernel_rfl) (fun _ _ _ h => h) (Or.inl ⟨by rfl, ?_⟩) hHeld ?_
            rotate_left
            · (intro ww hSw; (try dsimp only at hSw); go_simp; try (with_reducible rfl))
            try simp only [Act.put, List.setIfInBounds_toArray, List.set_cons_zero, List.set_cons_succ]
            refine wpAnyH_take (i := 66) (v := ?_) (oper_at rfl) (by kernel_rfl) (by kernel_rfl) (by kernel_rfl) (fun _ _ _ h => h) (Or.inl ⟨by rfl, ?_⟩) hHeld ?_
            rotate_left
            · (intro ww hSw; (try dsimp only at hSw); go_simp; try (with_reducible rfl))
            try simp only [Act.put, List.setIfInBounds_toArray, List.set_cons_zero, List.set_cons_succ]
            refine wpAnyH_ready (rs := [67]) (by kernel_rfl) (by simp) (AllReadyH.cons (oper_at rfl) (fun K hK => ?_) AllReadyH.nil)
            go_simp
            go_at_call 16
            refine (CA.out _ (by (repeat (first | with_reducible assumption | with_reducible exact Ext.refl _ | with_reducible apply Ext.alloc | with_reducible apply Ext.drew)); first | done | fail)).mono ?_
            rintro e8 w8 ⟨rfl, hE8⟩
            have hX8 : Ext wx w8 := Ext.trans (by (repeat (first | with_reducible assumption | with_reducible exact Ext.refl _ | with_reducible apply Ext.alloc | with_reducible apply Ext.drew)); first | done | fail) hE8
            clear hE8
            refine hK.out _ _ ?_ (fun hHeld => ?_)
            · exact Ext.held (by repeat (first | assumption | exact Ext.refl _ | apply Ext.alloc | apply Ext.drew | apply Ext.drewN))
            clear hK K
            try simp only [Act.put, List.setIfInBounds_toArray, List.set_cons_zero, List.set_cons_succ]
            refine wpAnyH_take (i := 68) (v := ?_) (oper_at rfl) (by kernel_rfl) (by kernel_rfl) (by kernel_rfl) (fun _ _ _ h => h) (Or.inl ⟨by rfl, ?_⟩) hHeld ?_
            rotate_left
            · (intro ww hSw; (try dsimp only at hSw); go_simp; try (with_reducible rfl))
            try simp only [Act.put, List.setIfInBounds_toArray, List.set_cons_zero, List.set_cons_succ]
            refine wpAnyH_take (i := 69) (v := ?_) (oper_at rfl) (by kernel_rfl) (by kernel_rfl) (by kernel_rfl) (fun _ _ _ h => h) (Or.inl ⟨by rfl, ?_⟩) hHeld ?_
            rotate_left
            · (intro ww hSw; (try dsimp only at hSw); go_simp; try (with_reducible rfl))
            try simp only [Act.put, List.setIfInBounds_toArray, List.set_cons_zero, List.set_cons_succ]
            refine wpAnyH_done (by kernel_rfl) ?_ _
            refine NoPanic.normal ?_
            clear p0 p1 p2 p3 p4 p5 p6 q0 q1 q2 q3 q4 q5 q6
            go_wp2_with fail
            exact ⟨⟨k + 1, by omega, by go_num, HX.out.trans hX8⟩, by simp [intOf]; omega⟩
          · obtain rfl : k = l.length := by omega
            have CC := Lib.hid (consumed19_any g r (.slice none 0 0) nv [] os St0 wx (HN5.out.ext HX.out) List.Pairwise.nil (by simp))
            go_wp2_with fail
            refine CC.out.mono ?_
            rintro e7 w7 ⟨t7, rfl, hr7, hE7⟩
            obtain ⟨A7, c7, e7, -, -⟩ := hr7.form
            simp only [List.map_nil, List.length_nil] at e7
            subst e7
            have HE7 := Lib.hid (HE5.out.trans (HX.out.trans hE7))
            clear hr7 hE7 CC
            go_wp2_with fail
            go_ret
            exact ⟨rfl, HE7.out⟩
      · exact absurd rfl hne
    · have HER := Lib.hid he0
      clear hE1 her he0
      go_wp2_with fail
      refine CN.out.mono ?_
      rintro e2 w2 (⟨g, r, nv, os, rfl, h0, -⟩ | ⟨rfl, hne, hE2⟩)
      · exact absurd h0 HER.out
      have CK := Lib.hid (rcheck17_any hs (.slice A hs.length c) w2 (HHS.out.ext hE2))
      rw [HEQ.out] at CK
      have HE2 := Lib.hid (HE1.out.trans hE2)
      have te : (er != er) = false := by simp
      have tz : (er != 0) = true := by simpa using HER.out
      clear hE2 CN
      go_wp2_with fail
      refine CK.out.mono ?_
      rintro e3 w3 ⟨rfl, hE3⟩
      have HE3 := Lib.hid (HE2.out.trans hE3)
      clear hE3 CK
      go_wp2_with fail
      go_ret
      exact ⟨rfl, HE3.out⟩
end Go.Proofs.Ytehmpbaiefbemaa
