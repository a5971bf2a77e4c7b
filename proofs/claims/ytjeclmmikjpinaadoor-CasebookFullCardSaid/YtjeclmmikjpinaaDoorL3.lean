/- The walk over CasebookFull. -/
import Derived.Test.YtjeclmmikjpinaaDoorC15
import Derived.Test.YtjeclmmikjpinaaDoorE4
namespace Go.Proofs.YtjeclmmikjpinaaDoor
open Go.RowKit
open I (IdT EvT IdAt EvAt SeenAt StAt)
attribute [local go_sem ↓] Go.wp_at_zero Go.wp_at_succ
attribute [local go_sem ↓] ld48 st48 al48 bu48
attribute [local go_sem] run_al48 run_bu48 run_st48n run_sl48
attribute [local go_sem ↓] eq48
attribute [local go_sem] run_eqD
/-- The copy's tree behind k cases. -/
def tK : Nat → EvT
  | 0 => .leaf 0
  | k + 1 => I.eventT iA (tK k)
def okK (k : Nat) : Bool := decide ((tK k).top + 1 < 2 ^ 127) && (I.eventT iA (tK k)).fits
theorem okK_all : (List.range 257).all okK = true := by decide +kernel
theorem tK_ok {k : Nat} (h : k ≤ 256) : (tK k).top + 1 < 2 ^ 127 ∧ (I.eventT iA (tK k)).fits = true := by
  have := List.all_eq_true.1 okK_all k (List.mem_range.2 (by omega))
  unfold okK at this
  rw [Bool.and_eq_true, decide_eq_true_eq] at this
  exact this
theorem t256_depth : decide ((tK 256).depth ≤ 5) = true := by decide +kernel
theorem t256_merge : (I.mergeF 5 (tK 256) (.leaf 0)).fits = true := by decide +kernel
theorem t256_merge1 : (I.mergeF 5 (tK 256) (I.eventT iC (.leaf 0))).fits = true := by decide +kernel
theorem c1_ok : (I.eventT iC (.leaf 0)).top + 1 < 2 ^ 127 ∧ (I.eventT iC (.leaf 0)).depth ≤ 5 ∧ (I.eventT iC (.leaf 0)).fits = true := by decide
theorem add_full {i : IdT} {t t' : EvT} {k d : List UInt8} {n : Nat} {c : Int} {ks ks' : List (List UInt8)} (h : AddIs i t ks k n d c t' ks') (hn : n ≤ 4000) (hk : k ∉ ks) (hl : 256 ≤ ks.length) : d = [] ∧ c = 12 ∧ t' = t ∧ ks' = ks := by
  rcases h with ⟨h, -⟩ | ⟨-, h, -⟩ | ⟨-, -, -, h1, h2, h3, h4⟩ | ⟨-, -, h, -⟩
  · omega
  · exact absurd h hk
  · exact ⟨h1, h2, h3, h4⟩
  · omega
theorem add_long {i : IdT} {t t' : EvT} {k d : List UInt8} {n : Nat} {c : Int} {ks ks' : List (List UInt8)} (h : AddIs i t ks k n d c t' ks') (hn : 4000 < n) : d = [] ∧ c = 3 ∧ t' = t ∧ ks' = ks := by
  rcases h with ⟨-, h1, h2, h3, h4⟩ | ⟨h, -⟩ | ⟨h, -⟩ | ⟨h, -⟩
  · exact ⟨h1, h2, h3, h4⟩
  · omega
  · omega
  · omega
theorem byte1 (W : World) (k : Nat) (hk : k < 256) : BytesAt (W.alloc (.cells #[.int .u8 (k : Int)] 5)) (some ⟨W.heap.size, 0, none⟩) [UInt8.ofNat k] := by
  exact bytes_of_cells (n := 1) rfl fun i hi => by
    obtain rfl : i = 0 := by omega
    unfold World.cell?
    rw [heap_alloc_new]
    show some (Value.int .u8 (k : Int)) = some (vU8 (((UInt8.ofNat k).toNat : Nat) : Int))
    rw [UInt8.toNat_ofNat', Nat.mod_eq_of_lt hk]
theorem byte12 (W : World) : BytesAt (W.alloc (.cells #[.int .u8 1, .int .u8 2] 5)) (some ⟨W.heap.size, 0, none⟩) [1, 2] := by
  exact bytes_of_cells (n := 2) rfl fun i hi => by
    unfold World.cell?
    rw [heap_alloc_new]
    match i, hi with
    | 0, _ => rfl
    | 1, _ => rfl
theorem zeros (W : World) (n : Nat) : BytesAt (W.alloc (.cells (arV (fun _ => vU8 0) n) 5)) (some ⟨W.heap.size, 0, none⟩) (List.replicate n 0) := by
  refine bytes_of_cells (n := n) (by simp) fun i hi => ?_
  unfold World.cell?
  rw [heap_alloc_new]
  show (arV (fun _ => vU8 0) n)[0 + i]? = _
  rw [Nat.zero_add, arV_at hi]
  have e : (List.replicate n (0 : UInt8)).getD i 0 = 0 := by
    rw [List.getD_eq_getElem?_getD, List.getElem?_replicate, if_pos hi]
    rfl
  unfold idF
  rw [e]
  rfl
theorem merge_over {n : Nat} {t u t' : EvT} {ks ks' : List (List UInt8)} {k : List UInt8} {c : Int} (h : MgIs n t u ks [k] c t' ks') (hn : ks.Nodup) (hl : ks.length = 256) (hk : k ∉ ks) : c = 12 ∧ t' = t ∧ ks' = ks := by
  obtain ⟨all, ha, hm, h⟩ := h
  have h1 := nodup_len (k :: ks) all (List.nodup_cons.2 ⟨hk, hn⟩) (fun x hx => (hm x).2 (by rcases List.mem_cons.1 hx with rfl | h; exact .inr (by simp); exact .inl h))
  rw [List.length_cons] at h1
  rcases h with ⟨h2, -⟩ | ⟨-, h2⟩
  · omega
  · exact h2
theorem merge_same {n : Nat} {t u t' : EvT} {ks ks' : List (List UInt8)} {c : Int} (h : MgIs n t u ks [] c t' ks') (hn : ks.Nodup) (hl : ks.length = 256) : c = 0 ∧ ks'.length = 256 ∧ ∀ x, x ∈ ks' ↔ x ∈ ks := by
  obtain ⟨all, ha, hm, h⟩ := h
  have hm' : ∀ x, x ∈ all ↔ x ∈ ks := fun x => by rw [hm x]; simp
  have h1 := nodup_len all ks ha (fun x hx => (hm' x).1 hx)
  have h2 := nodup_len ks all hn (fun x hx => (hm' x).2 hx)
  rcases h with ⟨-, h3, -, rfl⟩ | ⟨h3, -⟩
  · exact ⟨h3, by omega, hm'⟩
  · omega
theorem list_len {ss ks : List (List UInt8)} (ha : ss.Pairwise (· < ·)) (hn : ks.Nodup) (hm : ∀ x, x ∈ ss ↔ x ∈ ks) : ss.length = ks.length := by
  have h1 := nodup_len ss ks (asc_nodup ha) (fun x hx => (hm x).1 hx)
  have h2 := nodup_len ks ss hn (fun x hx => (hm x).2 hx)
  omega
set_option maxRecDepth 100000 in
set_option maxHeartbeats 4000000 in
theorem full_law (x0 x1 : Nat) (w : World) (h0 : x0 < 256) (h1 : x1 < 65536) (hT : Tab w) : Calls Tryd.prog 3 #[.int .u8 (x0 : Int), .int .u16 (x1 : Int)] w (RetB true w) := by
  have HT := Lib.hid hT
  have h0w := hT.lt
  have HX0 := Lib.hid h0
  have HX1 := Lib.hid h1
  clear hT h0 h1
  go_enter Tryd.func3, Tryd.ntmps3
  go_wp2_with fail
  refine (awake7_ok w HT.out).mono ?_
  rintro _ w1 ⟨rfl, hE1⟩
  have HE1 := Lib.hid hE1
  clear hE1
  go_wp2_with fail
  refine (new15_ok w1).mono ?_
  rintro _ w2 ⟨g, r, rfl, hb2, hg2, hr2, hE2⟩
  have CF := Lib.hid (fork13_ok g r .one (.leaf 0) [] w2 hb2 one_depth one_forks)
  have HE2 := Lib.hid (HE1.out.trans hE2)
  have HG := Lib.hid (And.intro (Nat.le_trans HE1.out.size hg2) (Nat.le_trans HE1.out.size hr2))
  have HB2 := Lib.hid hb2
  clear hb2 hg2 hr2 hE2
  go_wp2_with fail
  refine CF.out.mono ?_
  rintro _ w3 ⟨g2, r2, rfl, hb3, hc3, hg3, hr3, hX3⟩
  have HB3 := Lib.hid (show BookAt w3 g r iA (.leaf 0) [] from hb3)
  have HC3 := Lib.hid (show BookAt w3 g2 r2 iC (.leaf 0) [] from hc3)
  have HE3 := Lib.hid (hX3.ext HE2.out HG.out.1 HG.out.2)
  have HNE : Hid (g2 ≠ g ∧ r2 ≠ r) := Lib.hid ⟨Nat.ne_of_gt (Nat.lt_of_lt_of_le HB2.out.ty.lt hg3), Nat.ne_of_gt (Nat.lt_of_lt_of_le HB2.out.mp.lt hr3)⟩
  have HG2 : Hid (w.heap.size ≤ g2 ∧ w.heap.size ≤ r2) := Lib.hid ⟨Nat.le_trans HE2.out.size hg3, Nat.le_trans HE2.out.size hr3⟩
  clear hb3 hc3 hg3 hr3 hX3 CF HB2 HE2 HE1
  go_wp2_with fail
  go_loopw [27] (fun i wr => ∃ k : Nat, k ≤ 256 ∧ i = iV (k : Int) ∧ BookAt wr g r iA (tK k) (ksK k) ∧ Exc g r w3 wr) (fun i _ => 256 - (intOf i).toNat)
  case atStart => exact ⟨0, by omega, rfl, HB3.out, Exc.refl _ _ _⟩
  case round =>
    obtain ⟨k, hk, rfl, hb, hX⟩ := hrel
    have HB := Lib.hid hb
    have HX := Lib.hid hX
    have HER := Lib.hid (hX.ext HE3.out HG.out.1 HG.out.2)
    clear hb hX
    by_cases hlt : k < 256
    · have q1 : (k : Int) < 256 := by omega
      have q0 : (0 : Int) ≤ (k : Int) := by omega
      have hw : IntKind.u8.wrap (k : Int) = (k : Int) := by rw [IntKind.wrap_u8]; omega
      have CA := Lib.hid (add4_ok g r iA (tK k) (ksK k) 116 [UInt8.ofNat k] (some ⟨wr.heap.size, 0, none⟩) 1 1 (wr.alloc (.cells #[.int .u8 (k : Int)] 5)) (HB.out.ext ((Ext.refl _).alloc _)) (HT.out.ext (HER.out.alloc _)) (byte1 wr k hlt) rfl (by decide) (by unfold maxLen; decide) (by decide) iA_zero (by decide) (tK_ok hk).1 (tK_ok hk).2)
      go_wp2_with fail
      refine CA.out.mono ?_
      rintro _ w4 ⟨d, c, t', ks', rfl, hA, hb4, hX4⟩
      obtain ⟨rfl, rfl, rfl, rfl⟩ := add_first hA (by decide) (ksK_next hlt) (by rw [ksK_len]; exact hlt)
      have HB4 : Hid (BookAt w4 g r iA (tK (k + 1)) (ksK (k + 1))) := Lib.hid (by
        have := hb4
        rw [show partsF [[116], [UInt8.ofNat k]] = keyK k from rfl, ksK_put hlt] at this
        exact this)
      have HX4 : Hid (Exc g r w3 w4) := Lib.hid ((HX.out.alloc _).trans hX4)
      generalize partsF [[116], [UInt8.ofNat k]] = d
      clear hA hb4 hX4 CA
      go_upto_region 13 with fail
      generalize hw5 : w4.alloc (.cells (idA d) 27) = w5
      have HN5 := Lib.hid (box_new hw5)
      clear hw5
      go_wp2_with fail
      exact ⟨⟨k + 1, by omega, by go_num, HB4.out.ext HN5.out.1, HX4.out.grown HN5.out.1⟩, by simp [intOf]; omega⟩
    · obtain rfl : k = 256 := by omega
      have HBC : Hid (BookAt wr g2 r2 iC (.leaf 0) []) := Lib.hid (HC3.out.far HX.out HB3.out.ty HB3.out.mp.mpB HNE.out.1 HNE.out.2)
      have HTB : Hid ((tK 256).top + 1 < 2 ^ 127 ∧ (I.eventT iA (tK 256)).fits = true ∧ (tK 256).depth ≤ 5 ∧ (I.mergeF 5 (tK 256) (.leaf 0)).fits = true ∧ (I.mergeF 5 (tK 256) (I.eventT iC (.leaf 0))).fits = true) := Lib.hid ⟨(tK_ok hk).1, (tK_ok hk).2, of_decide_eq_true t256_depth, t256_merge, t256_merge1⟩
      have HKB : Hid ((ksK 256).length = 256 ∧ (ksK 256).Nodup ∧ partsF [[116], [1, 2]] ∉ ksK 256 ∧ partsF [[116], [UInt8.ofNat x0]] ∈ ksK 256 ∧ ∀ m, m < 3 → partsF [[116], List.replicate (3998 + m) 0] ∉ ksK 256) := Lib.hid ⟨ksK_len _, ksK_nodup, ksK_12, mem_ksK.2 ⟨x0, HX0.out, rfl⟩, fun m hm => ksK_z hm⟩
      generalize ksK 256 = kb at *
      generalize tK 256 = tb at *
      clear HX HB3 HC3 HE3 hk hlt
      have CB := Lib.hid (add4_ok g r iA tb kb 116 [1, 2] (some ⟨wr.heap.size, 0, none⟩) 2 2 (wr.alloc (.cells #[.int .u8 1, .int .u8 2] 5)) (HB.out.ext ((Ext.refl _).alloc _)) (HT.out.ext (HER.out.alloc _)) (byte12 wr) rfl (by decide) (by unfold maxLen; decide) (by decide) iA_zero (by decide) HTB.out.1 HTB.out.2.1)
      go_wp2_with fail
      refine CB.out.mono ?_
      rintro _ w4 ⟨d, c, t', ks', rfl, hA, hb4, hX4⟩
      obtain ⟨rfl, rfl, rfl, rfl⟩ := add_full hA (by decide) HKB.out.2.2.1 (by rw [HKB.out.1]; exact Nat.le_refl _)
      have HB4 := Lib.hid hb4
      have HX4 : Hid (Exc g r wr w4) := Lib.hid (((Exc.refl _ _ _).alloc _).trans hX4)
      clear hA hb4 hX4 CB
      go_upto_region 17 with fail
      generalize hw5 : w4.alloc (.cells (idA []) 27) = w5
      have HN5 := Lib.hid (box_new hw5)
      clear hw5
      have HX5 := Lib.hid (HX4.out.grown HN5.out.1)
      have HE5 := Lib.hid (HX5.out.ext HER.out HG.out.1 HG.out.2)
      have CC := Lib.hid (add4_ok g r iA t' ks' 116 [UInt8.ofNat x0] (some ⟨w5.heap.size, 0, none⟩) 1 1 (w5.alloc (.cells #[.int .u8 (x0 : Int)] 5)) (HB4.out.ext (HN5.out.1.alloc _)) (HT.out.ext (HE5.out.alloc _)) (byte1 w5 x0 HX0.out) rfl (by decide) (by unfold maxLen; decide) (by decide) iA_zero (by decide) HTB.out.1 HTB.out.2.1)
      go_wp2_with fail
      refine CC.out.mono ?_
      rintro _ w6 ⟨d2, c, t2, ks2, rfl, hA, hb6, hX6⟩
      obtain ⟨rfl, rfl, rfl, rfl⟩ := add_again hA (by decide) HKB.out.2.2.2.1
      have HB6 := Lib.hid hb6
      have HX6 : Hid (Exc g r wr w6) := Lib.hid ((HX5.out.alloc _).trans hX6)
      generalize partsF [[116], [UInt8.ofNat x0]] = d2
      clear hA hb6 hX6 CC HB4 HX4 HX5 HE5 HN5
      go_upto_region 18 with fail
      generalize hw7 : w6.alloc (.cells (idA d2) 27) = w7
      have HN7 := Lib.hid (box_new hw7)
      clear hw7
      have HX7 := Lib.hid (HX6.out.grown HN7.out.1)
      have HE7 := Lib.hid (HX7.out.ext HER.out HG.out.1 HG.out.2)
      have HB7 := Lib.hid (HB6.out.ext HN7.out.1)
      have HC7 := Lib.hid (HBC.out.far HX7.out HB.out.ty HB.out.mp.mpB HNE.out.1 HNE.out.2)
      obtain ⟨m, hm⟩ : ∃ m, x1 % 5 = m := ⟨_, rfl⟩
      have hm5 : m < 5 := by omega
      have hmi : (x1 : Int) % 5 = (m : Int) := by omega
      obtain ⟨n, hn⟩ : ∃ n, 3998 + m = n := ⟨_, rfl⟩
      have hmk := run_mk38 w7 n n (Nat.le_refl _) (by omega)
      rw [show ((n : Nat) : Int) = 3998 + (m : Int) by omega] at hmk
      have CD := Lib.hid (add4_ok g2 r2 iC (.leaf 0) [] 116 (List.replicate n 0) (some ⟨w7.heap.size, 0, none⟩) n n (w7.alloc (.cells (arV (fun _ => vU8 0) n) 5)) (HC7.out.ext ((Ext.refl _).alloc _)) (HT.out.ext (HE7.out.alloc _)) (zeros w7 n) (by simp) (Nat.le_refl _) (by unfold maxLen; omega) (by omega) iC_zero iC_depth b0_top c1_ok.2.2)
      have HMN := Lib.hid (And.intro hm5 (And.intro hmi hn))
      clear hm
      go_wp2_with fail
      refine CD.out.mono ?_
      rintro _ w8 ⟨d3, c3, t3, ks3, rfl, hA, hb8, hX8⟩
      have HC8 := Lib.hid hb8
      have HX8 : Hid (Exc g2 r2 w7 w8) := Lib.hid (((Exc.refl _ _ _).alloc _).trans hX8)
      have HB8 := Lib.hid (HB7.out.far HX8.out HC7.out.ty HC7.out.mp.mpB (Ne.symm HNE.out.1) (Ne.symm HNE.out.2))
      have HE8 := Lib.hid (HX8.out.ext HE7.out HG2.out.1 HG2.out.2)
      have HTB2 : Hid (t2.top < 2 ^ 127 ∧ t2.depth ≤ 5) := Lib.hid ⟨Nat.lt_of_succ_lt HTB.out.1, HTB.out.2.2.1⟩
      clear hb8 hX8 hmk CD
      by_cases h3 : m < 3
      · obtain ⟨hd3, rfl, rfl, rfl⟩ := add_first hA (by omega) (by simp) (by decide)
        have HKZ : Hid (partsF [[116], List.replicate n 0] ∉ ks2) := Lib.hid (by rw [← hn]; exact HKB.out.2.2.2.2 m h3)
        have q3 : (m : Int) < 3 := by omega
        have HC8 : Hid (BookAt w8 g2 r2 iC (I.eventT iC (.leaf 0)) [partsF [[116], List.replicate n 0]]) := HC8
        obtain ⟨kz, hkz⟩ : ∃ kz, partsF [[116], List.replicate n 0] = kz := ⟨_, rfl⟩
        rw [hkz] at HKZ HC8 hd3
        subst hd3
        clear hkz
        clear hA
        go_upto_region 19 with fail
        generalize hw9 : World.alloc _ _ = w9
        have HN9 := Lib.hid (box_new hw9)
        clear hw9
        have HB9 := Lib.hid (HB8.out.ext HN9.out.1)
        have HE9 := Lib.hid (HE8.out.trans HN9.out.1)
        have HC9 := Lib.hid (HC8.out.ext HN9.out.1)
        have CR := Lib.hid (root16_ok g r iA _ _ w9 HB9.out (by rw [HKB.out.1]; decide) (HT.out.ext HE9.out))
        go_wp2_with fail
        refine CR.out.mono ?_
        rintro _ w10 ⟨dr, hR, rfl, hE10⟩
        have HR := Lib.hid hR
        have HE10 := Lib.hid hE10
        clear hR hE10 CR HN9
        go_upto_region 20 with fail
        generalize hw11 : w10.alloc (.cells (idA dr) 27) = w11
        have HN11 := Lib.hid (box_new hw11)
        clear hw11
        have HX11 := Lib.hid (HE10.out.trans HN11.out.1)
        have HB11 := Lib.hid (HB9.out.ext HX11.out)
        have HC11 := Lib.hid (HC9.out.ext HX11.out)
        have HE11 := Lib.hid (HE9.out.trans HX11.out)
        have CM := Lib.hid (merge14_ok 5 g r g2 r2 iA iC _ (I.eventT iC (.leaf 0)) _ [d3] w11 HB11.out HC11.out HNE.out.1 HNE.out.2 HTB2.out.1 (Nat.lt_of_succ_lt c1_ok.1) HTB2.out.2 c1_ok.2.1 HTB.out.2.2.2.2)
        go_wp2_with fail
        refine CM.out.mono ?_
        rintro _ wM ⟨cm, tm, km, rm, rfl, hM, hbM, -, hXM⟩
        obtain ⟨rfl, rfl, rfl⟩ := merge_over hM HKB.out.2.1 HKB.out.1 HKZ.out
        have HKS : Hid (km.length = 256 ∧ ∀ x, x ∈ km ↔ x ∈ km) := Lib.hid ⟨HKB.out.1, fun _ => Iff.rfl⟩
        have HBM := Lib.hid hbM
        have HEM := Lib.hid (hXM.ext HE11.out HG.out.1 HG.out.2)
        have hbx : Bk wM w10.heap.size 32 (idF dr) := HN11.out.2.1.exc hXM (Nat.ne_of_gt (HB9.out.ext HE10.out).ty.lt) (Nat.ne_of_gt (HB9.out.ext HE10.out).mp.lt)
        have KB : Hid (∀ W, Ext wM W → (fun w' => (ldS 27 (.pointer (some ⟨w10.heap.size, 0, none⟩))).run Tryd.prog w' = .ok (idV dr) w') W) := Lib.hid (fun W h => (hbx.ext h).run_ld48)
        have CR2 : Hid (∀ W, Ext wM W → Calls Tryd.prog 8 #[.pointer (some ⟨g, 0, none⟩)] W (RetRt km W)) := Lib.hid (fun W h => root16_ok g rm iA _ km W (HBM.out.ext h) (by rw [HKS.out.1]; decide) (HT.out.ext (HEM.out.trans h)))
        have CL := Lib.hid (fun W (h : Ext wM W) => list10_ok g rm iA _ km W (HBM.out.ext h) (by rw [HKS.out.1]; decide))
        have hself := eqV_self dr
        clear hM hbM hXM hbx CM
        go_wp2_with fail
        refine wp_region_noPanic ?_
        refine wp_region_held_drew (S := (fun w' => (ldS 27 (.pointer (some ⟨w10.heap.size, 0, none⟩))).run Tryd.prog w' = .ok (idV dr) w')) (by kernel_rfl) ?_ (fun hHeld => ?_)
        · first | assumption | exact KB.out _ (by repeat (first | assumption | exact Ext.refl _ | apply Ext.alloc | apply Ext.drew | apply Ext.drewN))
        refine wpAnyH_take (i := 0) (v := ?_) (oper_at rfl) (by kernel_rfl) (by kernel_rfl) (by kernel_rfl) (fun _ _ _ h => h) (Or.inl ⟨by rfl, ?_⟩) hHeld ?_
        rotate_left
        · (intro ww hSw; (try dsimp only at hSw); go_simp; try (with_reducible rfl))
        try simp only [Act.put, List.setIfInBounds_toArray, List.set_cons_zero, List.set_cons_succ]
        refine wpAnyH_take (i := 1) (v := ?_) (oper_at rfl) (by kernel_rfl) (by kernel_rfl) (by kernel_rfl) (fun _ _ _ h => h) (Or.inl ⟨by rfl, ?_⟩) hHeld ?_
        rotate_left
        · (intro ww hSw; (try dsimp only at hSw); go_simp; try (with_reducible rfl))
        try simp only [Act.put, List.setIfInBounds_toArray, List.set_cons_zero, List.set_cons_succ]
        refine wpAnyH_take (i := 2) (v := ?_) (oper_at rfl) (by kernel_rfl) (by kernel_rfl) (by kernel_rfl) (fun _ _ _ h => h) (Or.inl ⟨by rfl, ?_⟩) hHeld ?_
        rotate_left
        · (intro ww hSw; (try dsimp only at hSw); go_simp; try (with_reducible rfl))
        try simp only [Act.put, List.setIfInBounds_toArray, List.set_cons_zero, List.set_cons_succ]
        refine wpAnyH_take (i := 3) (v := ?_) (oper_at rfl) (by kernel_rfl) (by kernel_rfl) (by kernel_rfl) (fun _ _ _ h => h) (Or.inl ⟨by rfl, ?_⟩) hHeld ?_
        rotate_left
        · (intro ww hSw; (try dsimp only at hSw); go_simp; try (with_reducible rfl))
        try simp only [Act.put, List.setIfInBounds_toArray, List.set_cons_zero, List.set_cons_succ]
        refine wpAnyH_take (i := 4) (v := ?_) (oper_at rfl) (by kernel_rfl) (by kernel_rfl) (by kernel_rfl) (fun _ _ _ h => h) (Or.inl ⟨by rfl, ?_⟩) hHeld ?_
        rotate_left
        · (intro ww hSw; (try dsimp only at hSw); go_simp; try (with_reducible rfl))
        try simp only [Act.put, List.setIfInBounds_toArray, List.set_cons_zero, List.set_cons_succ]
        refine wpAnyH_take (i := 5) (v := ?_) (oper_at rfl) (by kernel_rfl) (by kernel_rfl) (by kernel_rfl) (fun _ _ _ h => h) (Or.inl ⟨by rfl, ?_⟩) hHeld ?_
        rotate_left
        · (intro ww hSw; (try dsimp only at hSw); go_simp; try (with_reducible rfl))
        try simp only [Act.put, List.setIfInBounds_toArray, List.set_cons_zero, List.set_cons_succ]
        refine wpAnyH_take (i := 6) (v := ?_) (oper_at rfl) (by kernel_rfl) (by kernel_rfl) (by kernel_rfl) (fun _ _ _ h => h) (Or.inl ⟨by rfl, ?_⟩) hHeld ?_
        rotate_left
        · (intro ww hSw; (try dsimp only at hSw); go_simp; try (with_reducible rfl))
        try simp only [Act.put, List.setIfInBounds_toArray, List.set_cons_zero, List.set_cons_succ]
        refine wpAnyH_take (i := 8) (v := ?_) (oper_at rfl) (by kernel_rfl) (by kernel_rfl) (by kernel_rfl) (fun _ _ _ h => h) (Or.inl ⟨by rfl, ?_⟩) hHeld ?_
        rotate_left
        · (intro ww hSw; (try dsimp only at hSw); go_simp; try (with_reducible rfl))
        try simp only [Act.put, List.setIfInBounds_toArray, List.set_cons_zero, List.set_cons_succ]
        refine wpAnyH_ready (rs := [7]) (by kernel_rfl) (by simp) (AllReadyH.cons (oper_at rfl) (fun K hK => ?_) AllReadyH.nil)
        go_simp
        go_at_call 8
        refine (CR2.out _ (by repeat (first | assumption | exact Ext.refl _ | apply Ext.alloc | apply Ext.drew | apply Ext.drewN))).mono ?_
        rintro _ wR ⟨dr2, hR2, rfl, hER⟩
        obtain rfl : dr2 = dr := hR2.same HR.out (fun x => by first | exact HKS.out.2 x | exact Iff.rfl)
        have hXR : Ext wM wR := Ext.trans (by repeat (first | assumption | exact Ext.refl _ | apply Ext.alloc | apply Ext.drew | apply Ext.drewN)) hER
        clear hR2 hER
        refine hK.out _ _ ?_ (fun hHeld => ?_)
        · first | assumption | exact KB.out _ (by repeat (first | assumption | exact Ext.refl _ | apply Ext.alloc | apply Ext.drew | apply Ext.drewN))
        clear hK K
        try simp only [Act.put, List.setIfInBounds_toArray, List.set_cons_zero, List.set_cons_succ]
        refine wpAnyH_take (i := 9) (v := ?_) (oper_at rfl) (by kernel_rfl) (by kernel_rfl) (by kernel_rfl) (fun _ _ _ h => h) (Or.inl ⟨by rfl, ?_⟩) hHeld ?_
        rotate_left
        · (intro ww hSw; (try dsimp only at hSw); go_simp; try (with_reducible rfl))
        try simp only [Act.put, List.setIfInBounds_toArray, List.set_cons_zero, List.set_cons_succ]
        refine wpAnyH_take (i := 10) (v := ?_) (oper_at rfl) (by kernel_rfl) (by kernel_rfl) (by kernel_rfl) (fun _ _ _ h => h) (Or.inl ⟨by rfl, ?_⟩) hHeld ?_
        rotate_left
        · (intro ww hSw; (try dsimp only at hSw); go_simp; try (with_reducible rfl))
        try simp only [Act.put, List.setIfInBounds_toArray, List.set_cons_zero, List.set_cons_succ]
        refine wpAnyH_take (i := 11) (v := ?_) (oper_at rfl) (by kernel_rfl) (by kernel_rfl) (by kernel_rfl) (fun _ _ _ h => h) (Or.inl ⟨by rfl, ?_⟩) hHeld ?_
        rotate_left
        · (intro ww hSw; (try dsimp only at hSw); go_simp; try (with_reducible rfl))
        try simp only [Act.put, List.setIfInBounds_toArray, List.set_cons_zero, List.set_cons_succ]
        refine wpAnyH_take (i := 12) (v := ?_) (oper_at rfl) (by kernel_rfl) (by kernel_rfl) (by kernel_rfl) (fun _ _ _ h => h) (Or.inl ⟨by rfl, ?_⟩) hHeld ?_
        rotate_left
        · (intro ww hSw; (try dsimp only at hSw); go_simp; try (with_reducible rfl))
        try simp only [Act.put, List.setIfInBounds_toArray, List.set_cons_zero, List.set_cons_succ]
        refine wpAnyH_ready (rs := [13]) (by kernel_rfl) (by simp) (AllReadyH.cons (oper_at rfl) (fun K hK => ?_) AllReadyH.nil)
        go_simp
        go_at_call 10
        refine (CL.out _ (by repeat (first | assumption | exact Ext.refl _ | apply Ext.alloc | apply Ext.drew | apply Ext.drewN))).mono ?_
        rintro _ wS ⟨vl, ss, rfl, hrl, hal, hml, hES⟩
        have hsl : ss.length = 256 := (list_len hal HBM.out.mp.nodup hml).trans HKS.out.1
        obtain ⟨Al, cl, rfl, -⟩ := ids_read hrl
        rw [hsl]
        have hXS : Ext wM wS := Ext.trans (by repeat (first | assumption | exact Ext.refl _ | apply Ext.alloc | apply Ext.drew | apply Ext.drewN)) hES
        clear hrl hal hml hES hsl
        refine hK.out _ _ ?_ (fun hHeld => ?_)
        · first | assumption | exact KB.out _ (by repeat (first | assumption | exact Ext.refl _ | apply Ext.alloc | apply Ext.drew | apply Ext.drewN))
        clear hK K
        try simp only [Act.put, List.setIfInBounds_toArray, List.set_cons_zero, List.set_cons_succ]
        refine wpAnyH_take (i := 14) (v := ?_) (oper_at rfl) (by kernel_rfl) (by kernel_rfl) (by kernel_rfl) (fun _ _ _ h => h) (Or.inl ⟨by rfl, ?_⟩) hHeld ?_
        rotate_left
        · (intro ww hSw; (try dsimp only at hSw); go_simp; try (with_reducible rfl))
        try simp only [Act.put, List.setIfInBounds_toArray, List.set_cons_zero, List.set_cons_succ]
        refine wpAnyH_take (i := 15) (v := ?_) (oper_at rfl) (by kernel_rfl) (by kernel_rfl) (by kernel_rfl) (fun _ _ _ h => h) (Or.inl ⟨by rfl, ?_⟩) hHeld ?_
        rotate_left
        · (intro ww hSw; (try dsimp only at hSw); go_simp; try (with_reducible rfl))
        try simp only [Act.put, List.setIfInBounds_toArray, List.set_cons_zero, List.set_cons_succ]
        refine wpAnyH_take (i := 16) (v := ?_) (oper_at rfl) (by kernel_rfl) (by kernel_rfl) (by kernel_rfl) (fun _ _ _ h => h) (Or.inl ⟨by rfl, ?_⟩) hHeld ?_
        rotate_left
        · (intro ww hSw; (try dsimp only at hSw); go_simp; try (with_reducible rfl))
        try simp only [Act.put, List.setIfInBounds_toArray, List.set_cons_zero, List.set_cons_succ]
        refine wpAnyH_take (i := 17) (v := ?_) (oper_at rfl) (by kernel_rfl) (by kernel_rfl) (by kernel_rfl) (fun _ _ _ h => h) (Or.inl ⟨by rfl, ?_⟩) hHeld ?_
        rotate_left
        · (intro ww hSw; (try dsimp only at hSw); go_simp; try (with_reducible rfl))
        try simp only [Act.put, List.setIfInBounds_toArray, List.set_cons_zero, List.set_cons_succ]
        refine wpAnyH_done (by kernel_rfl) ?_ _
        refine NoPanic.normal ?_
        go_wp2_with fail
        go_ret
        exact ⟨rfl, HEM.out.trans hXS⟩
      · obtain ⟨rfl, rfl, rfl, rfl⟩ := add_long hA (by omega)
        have q3 : ¬ (m : Int) < 3 := by omega
        have HC8 : Hid (BookAt w8 g2 r2 iC (.leaf 0) []) := HC8
        clear hA
        go_upto_region 19 with fail
        generalize hw9 : World.alloc _ _ = w9
        have HN9 := Lib.hid (box_new hw9)
        clear hw9
        have HB9 := Lib.hid (HB8.out.ext HN9.out.1)
        have HE9 := Lib.hid (HE8.out.trans HN9.out.1)
        have HC9 := Lib.hid (HC8.out.ext HN9.out.1)
        have CR := Lib.hid (root16_ok g r iA _ _ w9 HB9.out (by rw [HKB.out.1]; decide) (HT.out.ext HE9.out))
        go_wp2_with fail
        refine CR.out.mono ?_
        rintro _ w10 ⟨dr, hR, rfl, hE10⟩
        have HR := Lib.hid hR
        have HE10 := Lib.hid hE10
        clear hR hE10 CR HN9
        go_upto_region 20 with fail
        generalize hw11 : w10.alloc (.cells (idA dr) 27) = w11
        have HN11 := Lib.hid (box_new hw11)
        clear hw11
        have HX11 := Lib.hid (HE10.out.trans HN11.out.1)
        have HB11 := Lib.hid (HB9.out.ext HX11.out)
        have HC11 := Lib.hid (HC9.out.ext HX11.out)
        have HE11 := Lib.hid (HE9.out.trans HX11.out)
        have CM := Lib.hid (merge14_ok 5 g r g2 r2 iA iC _ (.leaf 0) _ [] w11 HB11.out HC11.out HNE.out.1 HNE.out.2 HTB2.out.1 (by decide) HTB2.out.2 (by decide) HTB.out.2.2.2.1)
        go_wp2_with fail
        refine CM.out.mono ?_
        rintro _ wM ⟨cm, tm, km, rm, rfl, hM, hbM, -, hXM⟩
        obtain ⟨rfl, hk1, hk2⟩ := merge_same hM HKB.out.2.1 HKB.out.1
        have HKS := Lib.hid (And.intro hk1 hk2)
        have HBM := Lib.hid hbM
        have HEM := Lib.hid (hXM.ext HE11.out HG.out.1 HG.out.2)
        have hbx : Bk wM w10.heap.size 32 (idF dr) := HN11.out.2.1.exc hXM (Nat.ne_of_gt (HB9.out.ext HE10.out).ty.lt) (Nat.ne_of_gt (HB9.out.ext HE10.out).mp.lt)
        have KB : Hid (∀ W, Ext wM W → (fun w' => (ldS 27 (.pointer (some ⟨w10.heap.size, 0, none⟩))).run Tryd.prog w' = .ok (idV dr) w') W) := Lib.hid (fun W h => (hbx.ext h).run_ld48)
        have CR2 : Hid (∀ W, Ext wM W → Calls Tryd.prog 8 #[.pointer (some ⟨g, 0, none⟩)] W (RetRt km W)) := Lib.hid (fun W h => root16_ok g rm iA _ km W (HBM.out.ext h) (by rw [HKS.out.1]; decide) (HT.out.ext (HEM.out.trans h)))
        have CL := Lib.hid (fun W (h : Ext wM W) => list10_ok g rm iA _ km W (HBM.out.ext h) (by rw [HKS.out.1]; decide))
        have hself := eqV_self dr
        clear hM hbM hXM hbx CM
        go_wp2_with fail
        refine wp_region_noPanic ?_
        refine wp_region_held_drew (S := (fun w' => (ldS 27 (.pointer (some ⟨w10.heap.size, 0, none⟩))).run Tryd.prog w' = .ok (idV dr) w')) (by kernel_rfl) ?_ (fun hHeld => ?_)
        · first | assumption | exact KB.out _ (by repeat (first | assumption | exact Ext.refl _ | apply Ext.alloc | apply Ext.drew | apply Ext.drewN))
        refine wpAnyH_take (i := 0) (v := ?_) (oper_at rfl) (by kernel_rfl) (by kernel_rfl) (by kernel_rfl) (fun _ _ _ h => h) (Or.inl ⟨by rfl, ?_⟩) hHeld ?_
        rotate_left
        · (intro ww hSw; (try dsimp only at hSw); go_simp; try (with_reducible rfl))
        try simp only [Act.put, List.setIfInBounds_toArray, List.set_cons_zero, List.set_cons_succ]
        refine wpAnyH_take (i := 1) (v := ?_) (oper_at rfl) (by kernel_rfl) (by kernel_rfl) (by kernel_rfl) (fun _ _ _ h => h) (Or.inl ⟨by rfl, ?_⟩) hHeld ?_
        rotate_left
        · (intro ww hSw; (try dsimp only at hSw); go_simp; try (with_reducible rfl))
        try simp only [Act.put, List.setIfInBounds_toArray, List.set_cons_zero, List.set_cons_succ]
        refine wpAnyH_take (i := 2) (v := ?_) (oper_at rfl) (by kernel_rfl) (by kernel_rfl) (by kernel_rfl) (fun _ _ _ h => h) (Or.inl ⟨by rfl, ?_⟩) hHeld ?_
        rotate_left
        · (intro ww hSw; (try dsimp only at hSw); go_simp; try (with_reducible rfl))
        try simp only [Act.put, List.setIfInBounds_toArray, List.set_cons_zero, List.set_cons_succ]
        refine wpAnyH_take (i := 3) (v := ?_) (oper_at rfl) (by kernel_rfl) (by kernel_rfl) (by kernel_rfl) (fun _ _ _ h => h) (Or.inl ⟨by rfl, ?_⟩) hHeld ?_
        rotate_left
        · (intro ww hSw; (try dsimp only at hSw); go_simp; try (with_reducible rfl))
        try simp only [Act.put, List.setIfInBounds_toArray, List.set_cons_zero, List.set_cons_succ]
        refine wpAnyH_take (i := 4) (v := ?_) (oper_at rfl) (by kernel_rfl) (by kernel_rfl) (by kernel_rfl) (fun _ _ _ h => h) (Or.inl ⟨by rfl, ?_⟩) hHeld ?_
        rotate_left
        · (intro ww hSw; (try dsimp only at hSw); go_simp; try (with_reducible rfl))
        try simp only [Act.put, List.setIfInBounds_toArray, List.set_cons_zero, List.set_cons_succ]
        refine wpAnyH_take (i := 5) (v := ?_) (oper_at rfl) (by kernel_rfl) (by kernel_rfl) (by kernel_rfl) (fun _ _ _ h => h) (Or.inl ⟨by rfl, ?_⟩) hHeld ?_
        rotate_left
        · (intro ww hSw; (try dsimp only at hSw); go_simp; try (with_reducible rfl))
        try simp only [Act.put, List.setIfInBounds_toArray, List.set_cons_zero, List.set_cons_succ]
        refine wpAnyH_take (i := 6) (v := ?_) (oper_at rfl) (by kernel_rfl) (by kernel_rfl) (by kernel_rfl) (fun _ _ _ h => h) (Or.inl ⟨by rfl, ?_⟩) hHeld ?_
        rotate_left
        · (intro ww hSw; (try dsimp only at hSw); go_simp; try (with_reducible rfl))
        try simp only [Act.put, List.setIfInBounds_toArray, List.set_cons_zero, List.set_cons_succ]
        refine wpAnyH_take (i := 8) (v := ?_) (oper_at rfl) (by kernel_rfl) (by kernel_rfl) (by kernel_rfl) (fun _ _ _ h => h) (Or.inl ⟨by rfl, ?_⟩) hHeld ?_
        rotate_left
        · (intro ww hSw; (try dsimp only at hSw); go_simp; try (with_reducible rfl))
        try simp only [Act.put, List.setIfInBounds_toArray, List.set_cons_zero, List.set_cons_succ]
        refine wpAnyH_ready (rs := [7]) (by kernel_rfl) (by simp) (AllReadyH.cons (oper_at rfl) (fun K hK => ?_) AllReadyH.nil)
        go_simp
        go_at_call 8
        refine (CR2.out _ (by repeat (first | assumption | exact Ext.refl _ | apply Ext.alloc | apply Ext.drew | apply Ext.drewN))).mono ?_
        rintro _ wR ⟨dr2, hR2, rfl, hER⟩
        obtain rfl : dr2 = dr := hR2.same HR.out (fun x => by first | exact HKS.out.2 x | exact Iff.rfl)
        have hXR : Ext wM wR := Ext.trans (by repeat (first | assumption | exact Ext.refl _ | apply Ext.alloc | apply Ext.drew | apply Ext.drewN)) hER
        clear hR2 hER
        refine hK.out _ _ ?_ (fun hHeld => ?_)
        · first | assumption | exact KB.out _ (by repeat (first | assumption | exact Ext.refl _ | apply Ext.alloc | apply Ext.drew | apply Ext.drewN))
        clear hK K
        try simp only [Act.put, List.setIfInBounds_toArray, List.set_cons_zero, List.set_cons_succ]
        refine wpAnyH_take (i := 9) (v := ?_) (oper_at rfl) (by kernel_rfl) (by kernel_rfl) (by kernel_rfl) (fun _ _ _ h => h) (Or.inl ⟨by rfl, ?_⟩) hHeld ?_
        rotate_left
        · (intro ww hSw; (try dsimp only at hSw); go_simp; try (with_reducible rfl))
        try simp only [Act.put, List.setIfInBounds_toArray, List.set_cons_zero, List.set_cons_succ]
        refine wpAnyH_take (i := 10) (v := ?_) (oper_at rfl) (by kernel_rfl) (by kernel_rfl) (by kernel_rfl) (fun _ _ _ h => h) (Or.inl ⟨by rfl, ?_⟩) hHeld ?_
        rotate_left
        · (intro ww hSw; (try dsimp only at hSw); go_simp; try (with_reducible rfl))
        try simp only [Act.put, List.setIfInBounds_toArray, List.set_cons_zero, List.set_cons_succ]
        refine wpAnyH_take (i := 11) (v := ?_) (oper_at rfl) (by kernel_rfl) (by kernel_rfl) (by kernel_rfl) (fun _ _ _ h => h) (Or.inl ⟨by rfl, ?_⟩) hHeld ?_
        rotate_left
        · (intro ww hSw; (try dsimp only at hSw); go_simp; try (with_reducible rfl))
        try simp only [Act.put, List.setIfInBounds_toArray, List.set_cons_zero, List.set_cons_succ]
        refine wpAnyH_take (i := 12) (v := ?_) (oper_at rfl) (by kernel_rfl) (by kernel_rfl) (by kernel_rfl) (fun _ _ _ h => h) (Or.inl ⟨by rfl, ?_⟩) hHeld ?_
        rotate_left
        · (intro ww hSw; (try dsimp only at hSw); go_simp; try (with_reducible rfl))
        try simp only [Act.put, List.setIfInBounds_toArray, List.set_cons_zero, List.set_cons_succ]
        refine wpAnyH_ready (rs := [13]) (by kernel_rfl) (by simp) (AllReadyH.cons (oper_at rfl) (fun K hK => ?_) AllReadyH.nil)
        go_simp
        go_at_call 10
        refine (CL.out _ (by repeat (first | assumption | exact Ext.refl _ | apply Ext.alloc | apply Ext.drew | apply Ext.drewN))).mono ?_
        rintro _ wS ⟨vl, ss, rfl, hrl, hal, hml, hES⟩
        have hsl : ss.length = 256 := (list_len hal HBM.out.mp.nodup hml).trans HKS.out.1
        obtain ⟨Al, cl, rfl, -⟩ := ids_read hrl
        rw [hsl]
        have hXS : Ext wM wS := Ext.trans (by repeat (first | assumption | exact Ext.refl _ | apply Ext.alloc | apply Ext.drew | apply Ext.drewN)) hES
        clear hrl hal hml hES hsl
        refine hK.out _ _ ?_ (fun hHeld => ?_)
        · first | assumption | exact KB.out _ (by repeat (first | assumption | exact Ext.refl _ | apply Ext.alloc | apply Ext.drew | apply Ext.drewN))
        clear hK K
        try simp only [Act.put, List.setIfInBounds_toArray, List.set_cons_zero, List.set_cons_succ]
        refine wpAnyH_take (i := 14) (v := ?_) (oper_at rfl) (by kernel_rfl) (by kernel_rfl) (by kernel_rfl) (fun _ _ _ h => h) (Or.inl ⟨by rfl, ?_⟩) hHeld ?_
        rotate_left
        · (intro ww hSw; (try dsimp only at hSw); go_simp; try (with_reducible rfl))
        try simp only [Act.put, List.setIfInBounds_toArray, List.set_cons_zero, List.set_cons_succ]
        refine wpAnyH_take (i := 15) (v := ?_) (oper_at rfl) (by kernel_rfl) (by kernel_rfl) (by kernel_rfl) (fun _ _ _ h => h) (Or.inl ⟨by rfl, ?_⟩) hHeld ?_
        rotate_left
        · (intro ww hSw; (try dsimp only at hSw); go_simp; try (with_reducible rfl))
        try simp only [Act.put, List.setIfInBounds_toArray, List.set_cons_zero, List.set_cons_succ]
        refine wpAnyH_take (i := 16) (v := ?_) (oper_at rfl) (by kernel_rfl) (by kernel_rfl) (by kernel_rfl) (fun _ _ _ h => h) (Or.inl ⟨by rfl, ?_⟩) hHeld ?_
        rotate_left
        · (intro ww hSw; (try dsimp only at hSw); go_simp; try (with_reducible rfl))
        try simp only [Act.put, List.setIfInBounds_toArray, List.set_cons_zero, List.set_cons_succ]
        refine wpAnyH_take (i := 17) (v := ?_) (oper_at rfl) (by kernel_rfl) (by kernel_rfl) (by kernel_rfl) (fun _ _ _ h => h) (Or.inl ⟨by rfl, ?_⟩) hHeld ?_
        rotate_left
        · (intro ww hSw; (try dsimp only at hSw); go_simp; try (with_reducible rfl))
        try simp only [Act.put, List.setIfInBounds_toArray, List.set_cons_zero, List.set_cons_succ]
        refine wpAnyH_done (by kernel_rfl) ?_ _
        refine NoPanic.normal ?_
        go_wp2_with fail
        go_ret
        exact ⟨rfl, HEM.out.trans hXS⟩
end Go.Proofs.YtjeclmmikjpinaaDoor
