/- The walk over (*Network).Load, in the numbers of the .Z seat. -/
import Derived.Test.YtehmpbaiefbemaaGreatB6
import Derived.Test.YtehmpbaiefbemaaGreatB7
import Derived.Deep.CutBlock
import Derived.Deep.Cut
namespace Go.Proofs.YtehmpbaiefbemaaGreat
open Go.RowKit
open Go.ChangeMaps (setBlock)
attribute [local go_sem ↓] Go.wp_at_zero Go.wp_at_succ
attribute [local go_sem] run_makeMap_plain
theorem row_split {y : St} {k : Nat} {kt : List UInt8} (h : k < 8) : fromR (rowB y) k ++ kt = fromR (fun i => putU (y.s (k * 8 + i))) 0 ++ (putU (y.t k) ++ (putU (y.d k) ++ (fromR (rowB y) (k + 1) ++ kt))) := by
  rw [fromR_step h, fromR_0]
  unfold rowB
  simp only [List.append_assoc]
theorem net_split {y : St} {tail : List UInt8} : netB y ++ tail = fromR (rowB y) 0 ++ (putU y.ks.length ++ (y.ks.flatMap keyB ++ tail)) := by
  unfold netB
  rw [fromR_0]
  simp only [List.append_assoc]
theorem key_split {ks : List Ky} {j n1 n2 n3 n4 : Nat} {tail : List UInt8} (h : j < ks.length) (e : ks.getD j (0, 0, 0, 0) = (n1, (n2 : Int), (n3 : Int), (n4 : Int))) : (ks.drop j).flatMap keyB ++ tail = UInt8.ofNat n1 :: (putU n2 ++ (putU n3 ++ (putU n4 ++ ((ks.drop (j + 1)).flatMap keyB ++ tail)))) := by
  have e' : ks[j] = (n1, (n2 : Int), (n3 : Int), (n4 : Int)) := by rw [← e, List.getD_eq_getElem?_getD, List.getElem?_eq_getElem h]; rfl
  rw [List.drop_eq_getElem_cons h, List.flatMap_cons, e']
  unfold keyB
  simp [List.append_assoc]
/-- The four cells of a key. -/
structure KC (w : World) (b : Nat) (k : Ky) : Prop where
  c0 : w.cell? ⟨b, 0, none⟩ = some (kV k.1)
  c1 : w.cell? ⟨b, 1, none⟩ = some (iV k.2.1)
  c2 : w.cell? ⟨b, 2, none⟩ = some (iV k.2.2.1)
  c3 : w.cell? ⟨b, 3, none⟩ = some (iV k.2.2.2)
  fr : ∀ i, w.frozen? ⟨b, i, none⟩ = false
theorem KC.kept {w w' : World} {b : Nat} {k : Ky} (h : KC w b k) (hb : w'.heap[b]? = w.heap[b]?) : KC w' b k :=
  ⟨(cell_kept hb).trans h.c0, (cell_kept hb).trans h.c1, (cell_kept hb).trans h.c2, (cell_kept hb).trans h.c3, fun i => (frozen_kept hb).trans (h.fr i)⟩
theorem KC.lt {w : World} {b : Nat} {k : Ky} (h : KC w b k) : b < w.heap.size := World.block_lt_of_cell? w _ h.c0
theorem KC.ext {w w' : World} {b : Nat} {k : Ky} (h : KC w b k) (e : Ext w w') : KC w' b k := h.kept (e.block b h.lt)
theorem KC.new (w : World) (k : Ky) : KC (w.alloc (.cells #[kV k.1, iV k.2.1, iV k.2.2.1, iV k.2.2.2] 58)) w.heap.size k :=
  ⟨new_at _ _ _ 0 _ rfl, new_at _ _ _ 1 _ rfl, new_at _ _ _ 2 _ rfl, new_at _ _ _ 3 _ rfl, fun _ => World.frozen?_alloc_at _ _ _ _ rfl⟩
theorem KC.read {w w' : World} {lb b : Nat} {k : Ky} (h : KC w lb k) (hne : lb ≠ b) (hu : ∃ u, w' = w.setCell ⟨b, 0, none⟩ u) : KC w' lb k := by
  obtain ⟨u, rfl⟩ := hu
  exact h.kept (Below.heap_setCell _ _ _ _ hne)
def RetLd (cv hv : Value) (cs : List Ch) (os : List Jh) (y : St) (n : Nat) (w : World) (e : Ending) (w' : World) : Prop :=
  ∃ g r, e = .returned (.tuple #[.pointer (some ⟨g, 0, none⟩), .int .i64 (n : Int), .int .i64 0]) ∧ w.heap.size ≤ g ∧ w.heap.size ≤ r ∧ Net w' g r cv hv cs os y ∧ Ext w w'
set_option maxRecDepth 100000 in
set_option maxHeartbeats 8000000 in
theorem load13_ok (g0 r0 : Nat) (cv hv : Value) (cs : List Ch) (os : List Jh) (x y : St) (A : Option Addr) (c n : Nat) (bs tail : List UInt8) (w : World) (hN : Net w g0 r0 cv hv cs os x) (hA : BytesAt w A bs) (hbs : netB y ++ tail = bs) (hn : n + tail.length = bs.length) (hl : bs.length ≤ 1000000)
    (hac : AscC cs) (hcl : cs.length ≤ 1000) (ha : Asc y.ks) (hm : ∀ k ∈ y.ks, k ∈ cs.map (·.1)) (h1 : ∀ k ∈ y.ks, 1 ≤ k.1) (hkl : y.ks.length ≤ 50) (hb : Bd y 100000) (hsm : SmK y.ks) :
    Calls Tryz.prog 13 #[.pointer (some ⟨g0, 0, none⟩), .slice A bs.length c] w (RetLd cv hv cs os y n w) := by
  have HN := Lib.hid hN
  have HB := Lib.hid hb
  have HS := Lib.hid hsm
  have HA := Lib.hid ha
  have HM := Lib.hid hm
  have H1 := Lib.hid h1
  have HBS := Lib.hid hbs
  have CR := Lib.hid (fun W (hW : Ext w W) => newreader33_ok bs A c W (hA.ext hW) hl)
  have CG := Lib.hid (fun W (hW : Ext w W) k => get61_any cs cv k W (hN.ch.now.ext hW) hac hcl)
  obtain ⟨Ac, cc, ecv, -, -, -⟩ := hN.ch.now.read
  rw [List.length_map] at ecv
  obtain ⟨Ah, ch, ehv, -, -, -⟩ := hN.ho.now.sl.read
  rw [List.length_map] at ehv
  subst ecv
  subst ehv
  have n0 : w.cell? ⟨g0, 0, none⟩ = some (.slice Ac cs.length cc) := blkOf_cell (by rw [hN.blk]; exact NV_0)
  have n1 : w.cell? ⟨g0, 1, none⟩ = some (.slice Ah os.length ch) := blkOf_cell (by rw [hN.blk]; exact NV_1)
  clear hN ha hb hsm hac hm h1 hA hbs
  go_enter Tryz.func13, Tryz.ntmps13
  go_upto_region 3 with fail
  have KB : Hid (∀ W, Ext w W → (fun w' => Ext w w' ∧ w'.cell? ⟨g0, 0, none⟩ = some (.slice Ac cs.length cc) ∧ w'.cell? ⟨g0, 1, none⟩ = some (.slice Ah os.length ch)) W) := Lib.hid (fun W h => ⟨h, h.cell n0, h.cell n1⟩)
  refine wp_region_noPanic ?_
  refine wp_region_held_drew (S := (fun w' => Ext w w' ∧ w'.cell? ⟨g0, 0, none⟩ = some (.slice Ac cs.length cc) ∧ w'.cell? ⟨g0, 1, none⟩ = some (.slice Ah os.length ch))) (by kernel_rfl) ?_ (fun hHeld => ?_)
  · first | with_reducible assumption | exact KB.out _ (by repeat (first | with_reducible assumption | with_reducible exact Ext.refl _ | with_reducible apply Ext.alloc | with_reducible apply Ext.drew))
  refine wpAnyH_take (i := 0) (v := ?_) (oper_at rfl) (by kernel_rfl) (by kernel_rfl) (by kernel_rfl) (fun _ _ _ h => h) (Or.inl ⟨by rfl, ?_⟩) hHeld ?_
  rotate_left
  · (intro ww hSw; (try dsimp only at hSw); go_simp; try (with_reducible rfl))
  try simp only [Act.put, List.setIfInBounds_toArray, List.set_cons_zero, List.set_cons_succ]
  refine wpAnyH_take (i := 1) (v := ?_) (oper_at rfl) (by kernel_rfl) (by kernel_rfl) (by kernel_rfl) (fun _ _ _ h => h) (Or.inl ⟨by rfl, ?_⟩) hHeld ?_
  rotate_left
  · (intro ww hSw; (try dsimp only at hSw); go_simp; try (with_reducible rfl))
  try simp only [Act.put, List.setIfInBounds_toArray, List.set_cons_zero, List.set_cons_succ]
  refine wpAnyH_take (i := 2) (v := ?_) (oper_at rfl) (by kernel_rfl) (by kernel_rfl) (by kernel_rfl) (fun _ _ _ h => h) (Or.inl ⟨by rfl, ?_⟩) hHeld ?_
  rotate_left
  · (intro ww hSw; (try dsimp only at hSw); go_simp; try (with_reducible rfl))
  try simp only [Act.put, List.setIfInBounds_toArray, List.set_cons_zero, List.set_cons_succ]
  refine wpAnyH_take (i := 3) (v := ?_) (oper_at rfl) (by kernel_rfl) (by kernel_rfl) (by kernel_rfl) (fun _ _ _ h => h) (Or.inl ⟨by rfl, ?_⟩) hHeld ?_
  rotate_left
  · (intro ww hSw; (try dsimp only at hSw); go_simp; try (with_reducible rfl))
  try simp only [Act.put, List.setIfInBounds_toArray, List.set_cons_zero, List.set_cons_succ]
  refine wpAnyH_take (i := 4) (v := ?_) (oper_at rfl) (by kernel_rfl) (by kernel_rfl) (by kernel_rfl) (fun _ _ _ h => h) (Or.inl ⟨by rfl, ?_⟩) hHeld ?_
  rotate_left
  · (intro ww hSw; (try dsimp only at hSw); go_simp; try (with_reducible rfl))
  try simp only [Act.put, List.setIfInBounds_toArray, List.set_cons_zero, List.set_cons_succ]
  refine wpAnyH_take (i := 5) (v := ?_) (oper_at rfl) (by kernel_rfl) (by kernel_rfl) (by kernel_rfl) (fun _ _ _ h => h) (Or.inl ⟨by rfl, ?_⟩) hHeld ?_
  rotate_left
  · (intro ww hSw; (try dsimp only at hSw); go_simp; try (with_reducible rfl))
  try simp only [Act.put, List.setIfInBounds_toArray, List.set_cons_zero, List.set_cons_succ]
  refine wpAnyH_take (i := 6) (v := ?_) (oper_at rfl) (by kernel_rfl) (by kernel_rfl) (by kernel_rfl) (fun _ _ _ h => h) (Or.inl ⟨by rfl, ?_⟩) hHeld ?_
  rotate_left
  · (intro ww hSw; (try dsimp only at hSw); go_simp; try (with_reducible rfl))
  try simp only [Act.put, List.setIfInBounds_toArray, List.set_cons_zero, List.set_cons_succ]
  refine wpAnyH_take (i := 7) (v := ?_) (oper_at rfl) (by kernel_rfl) (by kernel_rfl) (by kernel_rfl) (fun _ _ _ h => h) (Or.inl ⟨by rfl, ?_⟩) hHeld ?_
  rotate_left
  · (intro ww hSw; (try dsimp only at hSw); go_simp; try (with_reducible rfl))
  try simp only [Act.put, List.setIfInBounds_toArray, List.set_cons_zero, List.set_cons_succ]
  refine wpAnyH_ready (rs := [8]) (by kernel_rfl) (by simp) (AllReadyH.cons (oper_at rfl) (fun K hK => ?_) AllReadyH.nil)
  go_simp
  refine hK.out _ _ ?_ (fun hHeld => ?_)
  · first | with_reducible assumption | exact KB.out _ (by repeat (first | with_reducible assumption | with_reducible exact Ext.refl _ | with_reducible apply Ext.alloc | with_reducible apply Ext.drew))
  clear hK K
  try simp only [Act.put, List.setIfInBounds_toArray, List.set_cons_zero, List.set_cons_succ]
  refine wpAnyH_take (i := 9) (v := ?_) (oper_at rfl) (by kernel_rfl) (by kernel_rfl) (by kernel_rfl) (fun _ _ _ h => h) (Or.inl ⟨by rfl, ?_⟩) hHeld ?_
  rotate_left
  · (intro ww hSw; (try dsimp only at hSw); go_simp; try (with_reducible rfl))
  try simp only [Act.put, List.setIfInBounds_toArray, List.set_cons_zero, List.set_cons_succ]
  refine wpAnyH_ready (rs := [10]) (by kernel_rfl) (by simp) (AllReadyH.cons (oper_at rfl) (fun K hK => ?_) AllReadyH.nil)
  go_simp
  refine hK.out _ _ ?_ (fun hHeld => ?_)
  · first | with_reducible assumption | exact KB.out _ (by repeat (first | with_reducible assumption | with_reducible exact Ext.refl _ | with_reducible apply Ext.alloc | with_reducible apply Ext.drew))
  clear hK K
  try simp only [Act.put, List.setIfInBounds_toArray, List.set_cons_zero, List.set_cons_succ]
  refine wpAnyH_take (i := 11) (v := ?_) (oper_at rfl) (by kernel_rfl) (by kernel_rfl) (by kernel_rfl) (fun _ _ _ h => h) (Or.inl ⟨by rfl, ?_⟩) hHeld ?_
  rotate_left
  · (intro ww hSw; (try dsimp only at hSw); go_simp; try (with_reducible rfl))
  try simp only [Act.put, List.setIfInBounds_toArray, List.set_cons_zero, List.set_cons_succ]
  refine wpAnyH_done (by kernel_rfl) ?_ _
  refine NoPanic.normal ?_
  clear KB
  go_upto_region 4 with fail
  iterate 16 (try clear hHeld)
  have hz : ((Tryz.zeroCells75.setIfInBounds 0 (Value.slice Ac cs.length cc)).setIfInBounds 1 (Value.slice Ah os.length ch)).setIfInBounds 82 (Value.map (some w.heap.size)) = NV (.slice Ac cs.length cc) (.slice Ah os.length ch) (fun _ => 0) (fun _ => 0) (fun _ => 0) (.map (some w.heap.size)) := by rw [zero91, NV_setC, NV_setH, NV_setU]
  rw [hz]
  clear hz
  generalize hwA : ((w.alloc (.map #[] 0)).alloc (.cells (NV (.slice Ac cs.length cc) (.slice Ah os.length ch) (fun _ => 0) (fun _ => 0) (fun _ => 0) (.map (some w.heap.size))) 75)).drew = wA
  have hh : (w.alloc (.map #[] 0)).heap.size = w.heap.size + 1 := by simp
  have hE : Ext w wA := by rw [← hwA]; exact (((Ext.refl _).alloc _).alloc _).drew
  have hsz : wA.heap.size = w.heap.size + 2 := by rw [← hwA]; simp
  have hg : blkOf wA (w.heap.size + 1) = NV (.slice Ac cs.length cc) (.slice Ah os.length ch) (fun _ => 0) (fun _ => 0) (fun _ => 0) (.map (some w.heap.size)) := by rw [← hwA, blkOf_drew, ← hh]; exact blkOf_new
  have hM : Mk wA w.heap.size [] := by rw [← hwA]; exact ((Mk.new _).ext ((Ext.refl _).alloc _)).ext ((Ext.refl _).drew)
  clear hwA hh
  obtain ⟨g, hgr⟩ : ∃ g, w.heap.size + 1 = g := ⟨_, rfl⟩
  rw [hgr] at hg ⊢
  obtain ⟨r, hr⟩ : ∃ r, w.heap.size = r := ⟨_, rfl⟩
  rw [hr] at hg hM ⊢
  have HG := Lib.hid hg
  have HMK := Lib.hid hM
  have HE := Lib.hid hE
  clear hg hM hE n0 n1
  go_wp2_with fail
  refine (CR.out _ HE.out).mono ?_
  rintro e1 w1 ⟨b, rfl, hb0, hb1, hR, hE1⟩
  have HR1 := Lib.hid hR
  have HE1 := Lib.hid hE1
  clear hR hE1 CR
  go_upto_region 5 with fail
  generalize hw2 : w1.alloc _ = w2
  have hE2 : Ext w1 w2 := by rw [← hw2]; exact (Ext.refl _).alloc _
  have hbx : w2.cell? ⟨w1.heap.size, 0, none⟩ = some (.pointer (some ⟨b, 0, none⟩)) := by rw [← hw2]; exact new_at _ _ _ 0 _ rfl
  obtain ⟨bb, hbb⟩ : ∃ bb, w1.heap.size = bb := ⟨_, rfl⟩
  rw [hbb] at hbx ⊢
  obtain ⟨N, hNN⟩ : ∃ N : Nat → Prop, (fun k => wA.heap.size ≤ k ∧ k < b) = N := ⟨_, rfl⟩
  have hnn : ∀ i, N i → wA.heap.size ≤ i ∧ i < b := fun i hi => by rw [← hNN] at hi; exact hi
  have HR1' : Hid (Rd w1 N b bs) := Lib.hid (by rw [← hNN]; exact HR1.out)
  have OO : Hid (LdO w N g r b bb) := Lib.hid ⟨by omega, by omega, by omega, by omega, by omega, by omega, by omega, by omega, by omega, by omega, fun i hi => by have := hnn i hi; omega⟩
  have NLT : Hid (∀ i, N i → i < b) := Lib.hid (fun i hi => (hnn i hi).2)
  have L0 : Hid (Ld w w2 N g r b bb (.slice Ac cs.length cc) (.slice Ah os.length ch) (pre y.s (0 * 8)) (pre y.t 0) (pre y.d 0) [] bs) := Lib.hid (by
    have l0 : Ld w wA N g r b bb (.slice Ac cs.length cc) (.slice Ah os.length ch) (pre y.s (0 * 8)) (pre y.t 0) (pre y.d 0) [] bs → True := fun _ => trivial
    have E12 := HE1.out.trans hE2
    obtain ⟨A', c', r0, r1, rf, rb, rc, rm, rn⟩ := HR1'.out
    have hk := hE2.block b hb1
    refine ⟨HE.out.trans E12, ?_, HMK.out.ext E12, ⟨A', c', hE2.cell r0, hE2.cell r1, fun i => (frozen_kept hk).trans (rf i), rb.ext hE2, rc, rm, rn⟩, hbx⟩
    rw [blkOf_ext E12 (by omega), HG.out, Nat.zero_mul, pre_zero, pre_zero, pre_zero])
  have HBB : Hid (b < bb ∧ bb < w2.heap.size) := Lib.hid ⟨by omega, by rw [← hw2]; simp; omega⟩
  obtain ⟨kt, hkt⟩ : ∃ kt, putU y.ks.length ++ (y.ks.flatMap keyB ++ tail) = kt := ⟨_, rfl⟩
  have HKT := Lib.hid hkt
  have HBF : Hid (bs = fromR (rowB y) 0 ++ kt) := Lib.hid (by rw [← HBS.out, net_split, hkt])
  rw [HBF.out] at L0
  clear hw2 hE2 hbx hnn hNN HR1 HR1' HMK HE HE1 HG hkt hb0 hb1 hsz hgr hr HBS hbb
  go_wp2_with fail
  go_loopw [33] (fun i wr => ∃ k : Nat, k ≤ 8 ∧ i = iV (k : Int) ∧ Ld w wr N g r b bb (.slice Ac cs.length cc) (.slice Ah os.length ch) (pre y.s (k * 8)) (pre y.t k) (pre y.d k) [] (fromR (rowB y) k ++ kt)) (fun i _ => 8 - (intOf i).toNat)
  case atStart => exact ⟨0, by omega, rfl, L0.out⟩
  case round =>
    obtain ⟨k, hk, rfl, hL⟩ := hrel
    obtain ⟨wo, rfl⟩ : ∃ wo, wo = wr := ⟨_, rfl⟩
    have HL := Lib.hid hL
    clear hL L0
    by_cases hlt : k < 8
    · have q0 : (0 : Int) ≤ (k : Int) := by omega
      have q1 : (k : Int) < 8 := by omega
      rw [row_split hlt] at HL
      obtain ⟨rt, hrt⟩ : ∃ rt, putU (y.t k) ++ (putU (y.d k) ++ (fromR (rowB y) (k + 1) ++ kt)) = rt := ⟨_, rfl⟩
      rw [hrt] at HL
      have HRT := Lib.hid hrt
      clear hrt
      go_wp2_with fail
      go_loopw [36] (fun i wr => ∃ q : Nat, q ≤ 8 ∧ i = iV (q : Int) ∧ Ld w wr N g r b bb (.slice Ac cs.length cc) (.slice Ah os.length ch) (pre y.s (k * 8 + q)) (pre y.t k) (pre y.d k) [] (fromR (fun i => putU (y.s (k * 8 + i))) q ++ rt)) (fun i _ => 8 - (intOf i).toNat)
      case atStart => exact ⟨0, by omega, rfl, HL.out⟩
      case round =>
        obtain ⟨q, hq, rfl, hL⟩ := hrel
        obtain ⟨wi, rfl⟩ : ∃ wi, wi = wr := ⟨_, rfl⟩
        have HL2 := Lib.hid hL
        clear hL HL
        by_cases hlt' : q < 8
        · have q2 : (0 : Int) ≤ (q : Int) := by omega
          have q3 : (q : Int) < 8 := by omega
          rw [fromR_step hlt', List.append_assoc] at HL2
          obtain ⟨rest, hrest⟩ : ∃ rest, fromR (fun i => putU (y.s (k * 8 + i))) (q + 1) ++ rt = rest := ⟨_, rfl⟩
          rw [hrest] at HL2
          have HREST := Lib.hid hrest
          obtain ⟨v, hv⟩ : ∃ v, y.s (k * 8 + q) = v := ⟨_, rfl⟩
          simp only [hv] at HL2
          have HV := Lib.hid hv
          have CN := Lib.hid (fun W (hW : Ext wi W) => (HL2.out.to hW).next OO.out (v := v) (by rw [← hv]; have := (HB.out (k * 8 + q)).1; omega))
          clear hrest hv
          go_upto_region 12 with fail
          refine wp_region_noPanic ?_
          refine wp_region_held_drew (S := (fun _ => True)) (by kernel_rfl) ?_ (fun hHeld => ?_)
          · trivial
          refine wpAnyH_take (i := 0) (v := ?_) (oper_at rfl) (by kernel_rfl) (by kernel_rfl) (by kernel_rfl) (fun _ _ _ h => h) (Or.inl ⟨by rfl, ?_⟩) hHeld ?_
          rotate_left
          · (intro ww hSw; (try dsimp only at hSw); go_simp; try (with_reducible rfl))
          try simp only [Act.put, List.setIfInBounds_toArray, List.set_cons_zero, List.set_cons_succ]
          refine wpAnyH_take (i := 1) (v := ?_) (oper_at rfl) (by kernel_rfl) (by kernel_rfl) (by kernel_rfl) (fun _ _ _ h => h) (Or.inl ⟨by rfl, ?_⟩) hHeld ?_
          rotate_left
          · (intro ww hSw; (try dsimp only at hSw); go_simp; try (with_reducible rfl))
          try simp only [Act.put, List.setIfInBounds_toArray, List.set_cons_zero, List.set_cons_succ]
          refine wpAnyH_take (i := 2) (v := ?_) (oper_at rfl) (by kernel_rfl) (by kernel_rfl) (by kernel_rfl) (fun _ _ _ h => h) (Or.inl ⟨by rfl, ?_⟩) hHeld ?_
          rotate_left
          · (intro ww hSw; (try dsimp only at hSw); go_simp; try (with_reducible rfl))
          try simp only [Act.put, List.setIfInBounds_toArray, List.set_cons_zero, List.set_cons_succ]
          refine wpAnyH_take (i := 3) (v := ?_) (oper_at rfl) (by kernel_rfl) (by kernel_rfl) (by kernel_rfl) (fun _ _ _ h => h) (Or.inl ⟨by rfl, ?_⟩) hHeld ?_
          rotate_left
          · (intro ww hSw; (try dsimp only at hSw); go_simp; try (with_reducible rfl))
          try simp only [Act.put, List.setIfInBounds_toArray, List.set_cons_zero, List.set_cons_succ]
          refine wpAnyH_take (i := 5) (v := ?_) (oper_at rfl) (by kernel_rfl) (by kernel_rfl) (by kernel_rfl) (fun _ _ _ h => h) (Or.inl ⟨by rfl, ?_⟩) hHeld ?_
          rotate_left
          · (intro ww hSw; (try dsimp only at hSw); go_simp; try (with_reducible rfl))
          try simp only [Act.put, List.setIfInBounds_toArray, List.set_cons_zero, List.set_cons_succ]
          refine wpAnyH_take (i := 6) (v := ?_) (oper_at rfl) (by kernel_rfl) (by kernel_rfl) (by kernel_rfl) (fun _ _ _ h => h) (Or.inl ⟨by rfl, ?_⟩) hHeld ?_
          rotate_left
          · (intro ww hSw; (try dsimp only at hSw); go_simp; try (with_reducible rfl))
          try simp only [Act.put, List.setIfInBounds_toArray, List.set_cons_zero, List.set_cons_succ]
          refine wpAnyH_take (i := 7) (v := ?_) (oper_at rfl) (by kernel_rfl) (by kernel_rfl) (by kernel_rfl) (fun _ _ _ h => h) (Or.inl ⟨by rfl, ?_⟩) hHeld ?_
          rotate_left
          · (intro ww hSw; (try dsimp only at hSw); go_simp; try (with_reducible rfl))
          try simp only [Act.put, List.setIfInBounds_toArray, List.set_cons_zero, List.set_cons_succ]
          refine wpAnyH_ready (rs := [4]) (by kernel_rfl) (by simp) (AllReadyH.cons (oper_at rfl) (fun K hK => ?_) AllReadyH.nil)
          go_simp
          go_at_call 34
          refine (CN.out _ (by repeat (first | with_reducible assumption | with_reducible exact Ext.refl _ | with_reducible apply Ext.alloc | with_reducible apply Ext.drew))).mono ?_
          rintro e5 w5 ⟨rfl, hL5, -⟩
          have c5 : w5.cell? ⟨g, 2 + k * 8 + q, none⟩ = some _ := blkOf_cell (by rw [hL5.blk, Nat.add_assoc]; exact NV_sent (by omega))
          have f5 : ∀ i, w5.frozen? ⟨g, i, none⟩ = false := fun i => blkOf_frozen (by rw [hL5.blk, NV_size]; omega)
          refine hK.out _ _ ?_ (fun hHeld => ?_)
          · trivial
          clear hK K
          try simp only [Act.put, List.setIfInBounds_toArray, List.set_cons_zero, List.set_cons_succ]
          refine wpAnyH_take (i := 8) (v := ?_) (oper_at rfl) (by kernel_rfl) (by kernel_rfl) (by kernel_rfl) (fun _ _ _ h => h) (Or.inl ⟨by rfl, ?_⟩) hHeld ?_
          rotate_left
          · (intro ww hSw; (try dsimp only at hSw); go_simp; try (with_reducible rfl))
          try simp only [Act.put, List.setIfInBounds_toArray, List.set_cons_zero, List.set_cons_succ]
          refine wpAnyH_ready (rs := [9]) (by kernel_rfl) (by simp) (AllReadyH.cons (oper_at rfl) (fun K hK => ?_) AllReadyH.nil)
          go_simp
          refine hK.out _ _ ?_ (fun hHeld => ?_)
          · trivial
          clear hK K
          try simp only [Act.put, List.setIfInBounds_toArray, List.set_cons_zero, List.set_cons_succ]
          refine wpAnyH_done (by kernel_rfl) ?_ _
          refine NoPanic.normal ?_
          iterate 16 (try clear hHeld)
          go_wp2_with fail
          refine ⟨⟨q + 1, by omega, by go_num, ?_⟩, by simp [intOf]; omega⟩
          rw [HREST.out]
          have h := hL5.setS OO.out (k := k * 8 + q) (by omega) v
          rw [← HV.out, pre_step, ← Nat.add_assoc 2] at h
          rw [HV.out] at h
          exact h
        · obtain rfl : q = 8 := by omega
          rw [fromR_8, List.nil_append, ← HRT.out] at HL2
          obtain ⟨rest, hrest⟩ : ∃ rest, fromR (rowB y) (k + 1) ++ kt = rest := ⟨_, rfl⟩
          rw [hrest] at HL2
          obtain ⟨tv, htv⟩ : ∃ v, y.t k = v := ⟨_, rfl⟩
          obtain ⟨dv, hdv⟩ : ∃ v, y.d k = v := ⟨_, rfl⟩
          have htb : tv ≤ 1000000 := by rw [← htv]; have := (HB.out k).2.1; omega
          have hdb : dv ≤ 1000000 := by rw [← hdv]; have := (HB.out k).2.2; omega
          rw [htv, hdv] at HL2
          have CN := Lib.hid (fun W (hW : Ext wi W) => (HL2.out.to hW).next OO.out htb)
          have HREST := Lib.hid hrest
          have HTV := Lib.hid htv
          have HDV := Lib.hid hdv
          clear hrest htv hdv HRT
          go_upto_region 14 with fail
          refine wp_region_noPanic ?_
          refine wp_region_held_drew (S := (fun _ => True)) (by kernel_rfl) ?_ (fun hHeld => ?_)
          · trivial
          refine wpAnyH_take (i := 0) (v := ?_) (oper_at rfl) (by kernel_rfl) (by kernel_rfl) (by kernel_rfl) (fun _ _ _ h => h) (Or.inl ⟨by rfl, ?_⟩) hHeld ?_
          rotate_left
          · (intro ww hSw; (try dsimp only at hSw); go_simp; try (with_reducible rfl))
          try simp only [Act.put, List.setIfInBounds_toArray, List.set_cons_zero, List.set_cons_succ]
          refine wpAnyH_take (i := 1) (v := ?_) (oper_at rfl) (by kernel_rfl) (by kernel_rfl) (by kernel_rfl) (fun _ _ _ h => h) (Or.inl ⟨by rfl, ?_⟩) hHeld ?_
          rotate_left
          · (intro ww hSw; (try dsimp only at hSw); go_simp; try (with_reducible rfl))
          try simp only [Act.put, List.setIfInBounds_toArray, List.set_cons_zero, List.set_cons_succ]
          refine wpAnyH_take (i := 2) (v := ?_) (oper_at rfl) (by kernel_rfl) (by kernel_rfl) (by kernel_rfl) (fun _ _ _ h => h) (Or.inl ⟨by rfl, ?_⟩) hHeld ?_
          rotate_left
          · (intro ww hSw; (try dsimp only at hSw); go_simp; try (with_reducible rfl))
          try simp only [Act.put, List.setIfInBounds_toArray, List.set_cons_zero, List.set_cons_succ]
          refine wpAnyH_take (i := 3) (v := ?_) (oper_at rfl) (by kernel_rfl) (by kernel_rfl) (by kernel_rfl) (fun _ _ _ h => h) (Or.inl ⟨by rfl, ?_⟩) hHeld ?_
          rotate_left
          · (intro ww hSw; (try dsimp only at hSw); go_simp; try (with_reducible rfl))
          try simp only [Act.put, List.setIfInBounds_toArray, List.set_cons_zero, List.set_cons_succ]
          refine wpAnyH_take (i := 4) (v := ?_) (oper_at rfl) (by kernel_rfl) (by kernel_rfl) (by kernel_rfl) (fun _ _ _ h => h) (Or.inl ⟨by rfl, ?_⟩) hHeld ?_
          rotate_left
          · (intro ww hSw; (try dsimp only at hSw); go_simp; try (with_reducible rfl))
          try simp only [Act.put, List.setIfInBounds_toArray, List.set_cons_zero, List.set_cons_succ]
          refine wpAnyH_take (i := 6) (v := ?_) (oper_at rfl) (by kernel_rfl) (by kernel_rfl) (by kernel_rfl) (fun _ _ _ h => h) (Or.inl ⟨by rfl, ?_⟩) hHeld ?_
          rotate_left
          · (intro ww hSw; (try dsimp only at hSw); go_simp; try (with_reducible rfl))
          try simp only [Act.put, List.setIfInBounds_toArray, List.set_cons_zero, List.set_cons_succ]
          refine wpAnyH_take (i := 8) (v := ?_) (oper_at rfl) (by kernel_rfl) (by kernel_rfl) (by kernel_rfl) (fun _ _ _ h => h) (Or.inl ⟨by rfl, ?_⟩) hHeld ?_
          rotate_left
          · (intro ww hSw; (try dsimp only at hSw); go_simp; try (with_reducible rfl))
          try simp only [Act.put, List.setIfInBounds_toArray, List.set_cons_zero, List.set_cons_succ]
          refine wpAnyH_take (i := 9) (v := ?_) (oper_at rfl) (by kernel_rfl) (by kernel_rfl) (by kernel_rfl) (fun _ _ _ h => h) (Or.inl ⟨by rfl, ?_⟩) hHeld ?_
          rotate_left
          · (intro ww hSw; (try dsimp only at hSw); go_simp; try (with_reducible rfl))
          try simp only [Act.put, List.setIfInBounds_toArray, List.set_cons_zero, List.set_cons_succ]
          refine wpAnyH_take (i := 12) (v := ?_) (oper_at rfl) (by kernel_rfl) (by kernel_rfl) (by kernel_rfl) (fun _ _ _ h => h) (Or.inl ⟨by rfl, ?_⟩) hHeld ?_
          rotate_left
          · (intro ww hSw; (try dsimp only at hSw); go_simp; try (with_reducible rfl))
          try simp only [Act.put, List.setIfInBounds_toArray, List.set_cons_zero, List.set_cons_succ]
          refine wpAnyH_take (i := 13) (v := ?_) (oper_at rfl) (by kernel_rfl) (by kernel_rfl) (by kernel_rfl) (fun _ _ _ h => h) (Or.inl ⟨by rfl, ?_⟩) hHeld ?_
          rotate_left
          · (intro ww hSw; (try dsimp only at hSw); go_simp; try (with_reducible rfl))
          try simp only [Act.put, List.setIfInBounds_toArray, List.set_cons_zero, List.set_cons_succ]
          refine wpAnyH_ready (rs := [5]) (by kernel_rfl) (by simp) (AllReadyH.cons (oper_at rfl) (fun K hK => ?_) AllReadyH.nil)
          go_simp
          go_at_call 34
          refine (CN.out _ (by repeat (first | with_reducible assumption | with_reducible exact Ext.refl _ | with_reducible apply Ext.alloc | with_reducible apply Ext.drew))).mono ?_
          rintro e5 w5 ⟨rfl, hL5, -⟩
          refine hK.out _ _ ?_ (fun hHeld => ?_)
          · trivial
          clear hK K
          try simp only [Act.put, List.setIfInBounds_toArray, List.set_cons_zero, List.set_cons_succ]
          refine wpAnyH_ready (rs := [7]) (by kernel_rfl) (by simp) (AllReadyH.cons (oper_at rfl) (fun K hK => ?_) AllReadyH.nil)
          go_simp
          go_at_call 34
          refine (hL5.next OO.out hdb).mono ?_
          rintro e6 w6 ⟨rfl, hL6, -⟩
          have c6 : w6.cell? ⟨g, 66 + k, none⟩ = some _ := blkOf_cell (by rw [hL6.blk]; exact NV_tim (by omega))
          have f6 : ∀ i, w6.frozen? ⟨g, i, none⟩ = false := fun i => blkOf_frozen (by rw [hL6.blk, NV_size]; omega)
          refine hK.out _ _ ?_ (fun hHeld => ?_)
          · trivial
          clear hK K
          try simp only [Act.put, List.setIfInBounds_toArray, List.set_cons_zero, List.set_cons_succ]
          refine wpAnyH_take (i := 10) (v := ?_) (oper_at rfl) (by kernel_rfl) (by kernel_rfl) (by kernel_rfl) (fun _ _ _ h => h) (Or.inl ⟨by rfl, ?_⟩) hHeld ?_
          rotate_left
          · (intro ww hSw; (try dsimp only at hSw); go_simp; try (with_reducible rfl))
          try simp only [Act.put, List.setIfInBounds_toArray, List.set_cons_zero, List.set_cons_succ]
          refine wpAnyH_ready (rs := [11]) (by kernel_rfl) (by simp) (AllReadyH.cons (oper_at rfl) (fun K hK => ?_) AllReadyH.nil)
          go_simp
          have hL8 := hL6.setT OO.out (k := k) (by omega) tv
          generalize hw8 : w6.setCell ⟨g, 66 + k, none⟩ (iV (tv : Int)) = w8 at *
          have c8 : w8.cell? ⟨g, 74 + k, none⟩ = some _ := blkOf_cell (by rw [hL8.blk]; exact NV_dis (by omega))
          have f8 : ∀ i, w8.frozen? ⟨g, i, none⟩ = false := fun i => blkOf_frozen (by rw [hL8.blk, NV_size]; omega)
          refine hK.out _ _ ?_ (fun hHeld => ?_)
          · trivial
          clear hK K
          try simp only [Act.put, List.setIfInBounds_toArray, List.set_cons_zero, List.set_cons_succ]
          refine wpAnyH_take (i := 14) (v := ?_) (oper_at rfl) (by kernel_rfl) (by kernel_rfl) (by kernel_rfl) (fun _ _ _ h => h) (Or.inl ⟨by rfl, ?_⟩) hHeld ?_
          rotate_left
          · (intro ww hSw; (try dsimp only at hSw); go_simp; try (with_reducible rfl))
          try simp only [Act.put, List.setIfInBounds_toArray, List.set_cons_zero, List.set_cons_succ]
          refine wpAnyH_ready (rs := [15]) (by kernel_rfl) (by simp) (AllReadyH.cons (oper_at rfl) (fun K hK => ?_) AllReadyH.nil)
          go_simp
          refine hK.out _ _ ?_ (fun hHeld => ?_)
          · trivial
          clear hK K
          try simp only [Act.put, List.setIfInBounds_toArray, List.set_cons_zero, List.set_cons_succ]
          refine wpAnyH_done (by kernel_rfl) ?_ _
          refine NoPanic.normal ?_
          iterate 20 (try clear hHeld)
          go_wp2_with fail
          refine ⟨⟨k + 1, by omega, by go_num, ?_⟩, by simp [intOf]; omega⟩
          rw [HREST.out]
          have h := hL8.setD OO.out (k := k) (by omega) dv
          rw [← HTV.out, ← HDV.out, pre_step, pre_step, show k * 8 + 8 = (k + 1) * 8 by omega, HDV.out] at h
          exact h
    · obtain rfl : k = 8 := by omega
      rw [fromR_8, List.nil_append, ← HKT.out] at HL
      have hbox := HL.out.box
      have CU := Lib.hid (ruint35_ok N b y.ks.length 96 _ wo HL.out.rd (Nat.lt_of_le_of_lt hkl (by decide)) (by omega))
      have wl : IntKind.i64.wrap (y.ks.length : Int) = (y.ks.length : Int) := IntWalk.i64_in _ (by omega)
      go_wp2_with fail
      refine CU.out.mono ?_
      rintro e3 w3 ⟨rfl, hR3, hu3⟩
      have HL3 := Lib.hid (HL.out.read OO.out hR3 hu3)
      clear hR3 hu3 CU HL hbox
      go_upto_region 18 with fail
      generalize hw4 : w3.alloc _ = w4
      have hE4 : Ext w3 w4 := by rw [← hw4]; exact (Ext.refl _).alloc _
      have hK4 : KC w4 w3.heap.size (0, 0, 0, 0) := by rw [← hw4]; exact KC.new w3 (0, 0, 0, 0)
      have hlb := HL3.out.ext.size
      have hbx3 := World.block_lt_of_cell? w3 _ HL3.out.box
      have hgx3 := HL3.out.lt
      have hrx3 := HL3.out.mp.lt
      simp only [] at hbx3
      obtain ⟨lb, elb⟩ : ∃ lb, w3.heap.size = lb := ⟨_, rfl⟩
      rw [elb] at hK4 hlb hbx3 hgx3 hrx3 ⊢
      have HLB : Hid (w.heap.size ≤ lb ∧ lb ≠ g ∧ lb ≠ r ∧ lb ≠ b ∧ lb ≠ bb ∧ ∀ i, N i → i ≠ lb) := Lib.hid (by
        have h1 := HBB.out
        exact ⟨hlb, by omega, by omega, by omega, by omega, fun i hi => by have := NLT.out i hi; omega⟩)
      have HL4 := Lib.hid (HL3.out.to hE4)
      have HK4 := Lib.hid hK4
      clear hw4 hE4 hK4 hlb hbx3 hgx3 hrx3 HL3
      go_wp2_with fail
      go_loopw [68] (fun i wr => ∃ j : Nat, j ≤ y.ks.length ∧ i = iV (j : Int) ∧ Ld w wr N g r b bb (.slice Ac cs.length cc) (.slice Ah os.length ch) (pre y.s 64) (pre y.t 8) (pre y.d 8) (y.ks.take j) ((y.ks.drop j).flatMap keyB ++ tail) ∧ KC wr lb (lastK y.ks j)) (fun i _ => y.ks.length - (intOf i).toNat)
      case atStart => exact ⟨0, by omega, rfl, by simpa using HL4.out, HK4.out⟩
      case round =>
        obtain ⟨j, hj, rfl, hL, hK⟩ := hrel
        obtain ⟨wj, rfl⟩ : ∃ wj, wj = wr := ⟨_, rfl⟩
        have HL5 := Lib.hid hL
        have HK5 := Lib.hid hK
        have hbox := hL.box
        clear hL hK HL4 HK4
        by_cases hlt : j < y.ks.length
        · obtain ⟨z, hz⟩ : ∃ z, y.ks.getD j (0, 0, 0, 0) = z := ⟨_, rfl⟩
          have hzm : z ∈ y.ks := by rw [← hz, List.getD_eq_getElem?_getD, List.getElem?_eq_getElem hlt]; exact List.getElem_mem hlt
          have hsm := HS.out z hzm
          have hzc := HM.out z hzm
          have hput := putM_take HA.out hlt
          have hkl' := lastK_lt HA.out H1.out hlt
          rw [hz] at hput hkl'
          have hget := getF_some.2 hzc
          obtain ⟨z1, z2, z3, z4⟩ := z
          simp only [] at hsm
          obtain ⟨s1, s2, s3, s4, s5, s6, s7⟩ := hsm
          obtain ⟨n2, rfl⟩ : ∃ n : Nat, z2 = (n : Int) := ⟨z2.toNat, by omega⟩
          obtain ⟨n3, rfl⟩ : ∃ n : Nat, z3 = (n : Int) := ⟨z3.toNat, by omega⟩
          obtain ⟨n4, rfl⟩ : ∃ n : Nat, z4 = (n : Int) := ⟨z4.toNat, by omega⟩
          rw [key_split hlt hz] at HL5
          obtain ⟨rest, hrest⟩ : ∃ rest, (y.ks.drop (j + 1)).flatMap keyB ++ tail = rest := ⟨_, rfl⟩
          rw [hrest] at HL5
          have hz1 : (UInt8.ofNat z1).toNat = z1 := by simp; omega
          have CB := rbyte36_ok N b (UInt8.ofNat z1) _ wj HL5.out.rd
          rw [hz1] at CB
          have CB := Lib.hid CB
          have HPUT := Lib.hid hput
          have HREST := Lib.hid hrest
          obtain ⟨⟨l1, l2, l3, l4⟩, hlast⟩ : ∃ l, lastK y.ks j = l := ⟨_, rfl⟩
          rw [hlast] at HK5 hkl'
          have HLT := Lib.hid (decide_eq_true hkl')
          have HNEXT : Hid (lastK y.ks (j + 1) = (z1, (n2 : Int), (n3 : Int), (n4 : Int))) := Lib.hid hz
          obtain ⟨⟨⟨o1, o2, o3, o4⟩, o5⟩, hco⟩ : ∃ u, chO (z1, (n2 : Int), (n3 : Int), (n4 : Int)) (getF cs (z1, (n2 : Int), (n3 : Int), (n4 : Int))) = u := ⟨_, rfl⟩
          have CGK : Hid (∀ W, Ext w W → Calls Tryz.prog 37 #[.agg #[.slice Ac cs.length cc], .agg #[kV z1, iV (n2 : Int), iV (n3 : Int), iV (n4 : Int)]] W fun e W' => e = .returned (.tuple #[chV ((o1, o2, o3, o4), o5), .bool true]) ∧ Ext W W') := Lib.hid (fun W hW => by
            have h := CG.out W hW (z1, (n2 : Int), (n3 : Int), (n4 : Int))
            unfold RetT at h
            rw [hget, hco] at h
            exact h)
          clear hz hzm hzc hput hkl' hget hrest hz1 hlast hco
          go_wp2_with fail
          refine CB.out.mono ?_
          rintro e5 w5 ⟨rfl, hR5, hu5⟩
          have HL6 := Lib.hid (HL5.out.read OO.out hR5 hu5)
          have HK6 := Lib.hid (HK5.out.read HLB.out.2.2.2.1 hu5)
          clear hR5 hu5 CB HL5 HK5 hbox
          go_wp2_with fail
          refine (HL6.out.next OO.out (v := n2) (by omega)).mono ?_
          rintro e6 w6 ⟨rfl, hL7, hu6⟩
          have HL7 := Lib.hid hL7
          have HK7 := Lib.hid (HK6.out.read HLB.out.2.2.2.1 hu6)
          clear hL7 hu6 HL6 HK6
          go_wp2_with fail
          refine (HL7.out.next OO.out (v := n3) (by omega)).mono ?_
          rintro e7 w7 ⟨rfl, hL8, hu7⟩
          have HL8 := Lib.hid hL8
          have HK8 := Lib.hid (HK7.out.read HLB.out.2.2.2.1 hu7)
          clear hL8 hu7 HL7 HK7
          go_wp2_with fail
          refine (HL8.out.next OO.out (v := n4) (by omega)).mono ?_
          rintro e8 w8 ⟨rfl, hL9, hu8⟩
          have HL9 := Lib.hid hL9
          have HK9 := Lib.hid (HK8.out.read HLB.out.2.2.2.1 hu8)
          clear hL9 hu8 HL8 HK8
          go_upto_region 21 with fail
          generalize hw10 : w8.alloc _ = w10
          have hE10 : Ext w8 w10 := by rw [← hw10]; exact (Ext.refl _).alloc _
          have hKk : KC w10 w8.heap.size (z1, (n2 : Int), (n3 : Int), (n4 : Int)) := by rw [← hw10]; exact KC.new w8 (z1, (n2 : Int), (n3 : Int), (n4 : Int))
          have hlk := HK9.out.lt
          have hrk := HL9.out.mp.lt
          obtain ⟨kb, ekb⟩ : ∃ kb, w8.heap.size = kb := ⟨_, rfl⟩
          rw [ekb] at hKk hlk hrk ⊢
          have HL10 := Lib.hid (HL9.out.to hE10)
          have HK10 := Lib.hid (HK9.out.ext hE10)
          have HKK := Lib.hid hKk
          have HNE : Hid (kb ≠ lb ∧ kb ≠ r) := Lib.hid (by omega)
          have m0 : w10.cell? ⟨g, 0, none⟩ = some (.slice Ac cs.length cc) := blkOf_cell (by rw [HL10.out.blk]; exact NV_0)
          have m82 : w10.cell? ⟨g, 82, none⟩ = some (.map (some r)) := blkOf_cell (by rw [HL10.out.blk]; exact NV_82)
          have t0 := hKk.c0
          have t1 := hKk.c1
          have t2 := hKk.c2
          have t3 := hKk.c3
          simp only [] at t0 t1 t2 t3
          clear hw10 hE10 hKk hlk hrk HL9 HK9
          go_cut [15, 16] (fun s15 s16 wx => ∃ b', s15 = .pointer (some ⟨b', 0, none⟩) ∧ s16 = .bool true ∧ Ext w10 wx)
          case first =>
            have KB : Hid (∀ W, Ext w10 W → (fun w' => Ext w10 w' ∧ w'.cell? ⟨g, 0, none⟩ = some (.slice Ac cs.length cc) ∧ w'.cell? ⟨kb, 0, none⟩ = some (kV z1) ∧ w'.cell? ⟨kb, 1, none⟩ = some (iV (n2 : Int)) ∧ w'.cell? ⟨kb, 2, none⟩ = some (iV (n3 : Int)) ∧ w'.cell? ⟨kb, 3, none⟩ = some (iV (n4 : Int))) W) := Lib.hid (fun W h => ⟨h, h.cell m0, h.cell t0, h.cell t1, h.cell t2, h.cell t3⟩)
            refine wp_region_noPanic ?_
            refine wp_region_held_drew (S := (fun w' => Ext w10 w' ∧ w'.cell? ⟨g, 0, none⟩ = some (.slice Ac cs.length cc) ∧ w'.cell? ⟨kb, 0, none⟩ = some (kV z1) ∧ w'.cell? ⟨kb, 1, none⟩ = some (iV (n2 : Int)) ∧ w'.cell? ⟨kb, 2, none⟩ = some (iV (n3 : Int)) ∧ w'.cell? ⟨kb, 3, none⟩ = some (iV (n4 : Int)))) (by kernel_rfl) ?_ (fun hHeld => ?_)
            · first | with_reducible assumption | exact KB.out _ (by repeat (first | with_reducible assumption | with_reducible exact Ext.refl _ | with_reducible apply Ext.alloc | with_reducible apply Ext.drew | with_reducible refine Ext.setb ?_ (by omega) _ _))
            refine wpAnyH_take (i := 0) (v := ?_) (oper_at rfl) (by kernel_rfl) (by kernel_rfl) (by kernel_rfl) (fun _ _ _ h => h) (Or.inl ⟨by rfl, ?_⟩) hHeld ?_
            rotate_left
            · (intro ww hSw; (try dsimp only at hSw); go_simp; try (with_reducible rfl))
            try simp only [Act.put, List.setIfInBounds_toArray, List.set_cons_zero, List.set_cons_succ]
            refine wpAnyH_take (i := 1) (v := ?_) (oper_at rfl) (by kernel_rfl) (by kernel_rfl) (by kernel_rfl) (fun _ _ _ h => h) (Or.inl ⟨by rfl, ?_⟩) hHeld ?_
            rotate_left
            · (intro ww hSw; (try dsimp only at hSw); go_simp; try (with_reducible rfl))
            try simp only [Act.put, List.setIfInBounds_toArray, List.set_cons_zero, List.set_cons_succ]
            refine wpAnyH_take (i := 2) (v := ?_) (oper_at rfl) (by kernel_rfl) (by kernel_rfl) (by kernel_rfl) (fun _ _ _ h => h) (Or.inl ⟨by rfl, ?_⟩) hHeld ?_
            rotate_left
            · (intro ww hSw; (try dsimp only at hSw); go_simp; try (with_reducible rfl))
            try simp only [Act.put, List.setIfInBounds_toArray, List.set_cons_zero, List.set_cons_succ]
            refine wpAnyH_take (i := 3) (v := ?_) (oper_at rfl) (by kernel_rfl) (by kernel_rfl) (by kernel_rfl) (fun _ _ _ h => h) (Or.inl ⟨by rfl, ?_⟩) hHeld ?_
            rotate_left
            · (intro ww hSw; (try dsimp only at hSw); go_simp; try (with_reducible rfl))
            try simp only [Act.put, List.setIfInBounds_toArray, List.set_cons_zero, List.set_cons_succ]
            refine wpAnyH_take (i := 4) (v := ?_) (oper_at rfl) (by kernel_rfl) (by kernel_rfl) (by kernel_rfl) (fun _ _ _ h => h) (Or.inl ⟨by rfl, ?_⟩) hHeld ?_
            rotate_left
            · (intro ww hSw; (try dsimp only at hSw); go_simp; try (with_reducible rfl))
            try simp only [Act.put, List.setIfInBounds_toArray, List.set_cons_zero, List.set_cons_succ]
            refine wpAnyH_ready (rs := [5, 9]) (by kernel_rfl) (by simp) (AllReadyH.cons (oper_at rfl) (fun K hK => ?_) (AllReadyH.cons (oper_at rfl) (fun K hK => ?_) AllReadyH.nil))
            · go_simp
              go_at_call 37
              refine (CGK.out _ (HL10.out.ext.trans (by repeat (first | with_reducible assumption | with_reducible exact Ext.refl _ | with_reducible apply Ext.alloc | with_reducible apply Ext.drew | with_reducible refine Ext.setb ?_ (by omega) _ _)))).mono ?_
              rintro e11 w11 ⟨rfl, h11⟩
              have hE11 : Ext w10 w11 := Ext.trans (by repeat (first | with_reducible assumption | with_reducible exact Ext.refl _ | with_reducible apply Ext.alloc | with_reducible apply Ext.drew | with_reducible refine Ext.setb ?_ (by omega) _ _)) h11
              refine hK.out _ _ ?_ (fun hHeld => ?_)
              · first | with_reducible assumption | exact KB.out _ (by repeat (first | with_reducible assumption | with_reducible exact Ext.refl _ | with_reducible apply Ext.alloc | with_reducible apply Ext.drew | with_reducible refine Ext.setb ?_ (by omega) _ _))
              clear hK K
              try simp only [Act.put, List.setIfInBounds_toArray, List.set_cons_zero, List.set_cons_succ]
              refine wpAnyH_take (i := 6) (v := ?_) (oper_at rfl) (by kernel_rfl) (by kernel_rfl) (by kernel_rfl) (fun _ _ _ h => h) (Or.inl ⟨by rfl, ?_⟩) hHeld ?_
              rotate_left
              · (intro ww hSw; (try dsimp only at hSw); go_simp; try (with_reducible rfl))
              try simp only [Act.put, List.setIfInBounds_toArray, List.set_cons_zero, List.set_cons_succ]
              refine wpAnyH_take (i := 7) (v := ?_) (oper_at rfl) (by kernel_rfl) (by kernel_rfl) (by kernel_rfl) (fun _ _ _ h => h) (Or.inl ⟨by rfl, ?_⟩) hHeld ?_
              rotate_left
              · (intro ww hSw; (try dsimp only at hSw); go_simp; try (with_reducible rfl))
              try simp only [Act.put, List.setIfInBounds_toArray, List.set_cons_zero, List.set_cons_succ]
              refine wpAnyH_take (i := 8) (v := ?_) (oper_at rfl) (by kernel_rfl) (by kernel_rfl) (by kernel_rfl) (fun _ _ _ h => h) (Or.inl ⟨by rfl, ?_⟩) hHeld ?_
              rotate_left
              · (intro ww hSw; (try dsimp only at hSw); go_simp; try (with_reducible rfl))
              try simp only [Act.put, List.setIfInBounds_toArray, List.set_cons_zero, List.set_cons_succ]
              refine wpAnyH_ready (rs := [9]) (by kernel_rfl) (by simp) (AllReadyH.cons (oper_at rfl) (fun K hK => ?_) AllReadyH.nil)
              go_simp
              refine hK.out _ _ ?_ (fun hHeld => ?_)
              · first | with_reducible assumption | exact KB.out _ (by repeat (first | with_reducible assumption | with_reducible exact Ext.refl _ | with_reducible apply Ext.alloc | with_reducible apply Ext.drew | with_reducible refine Ext.setb ?_ (by omega) _ _))
              clear hK K
              try simp only [Act.put, List.setIfInBounds_toArray, List.set_cons_zero, List.set_cons_succ]
              refine wpAnyH_ready (rs := [10]) (by kernel_rfl) (by simp) (AllReadyH.cons (oper_at rfl) (fun K hK => ?_) AllReadyH.nil)
              go_simp
              refine hK.out _ _ ?_ (fun hHeld => ?_)
              · first | with_reducible assumption | exact KB.out _ (by repeat (first | with_reducible assumption | with_reducible exact Ext.refl _ | with_reducible apply Ext.alloc | with_reducible apply Ext.drew | with_reducible refine Ext.setb ?_ (by omega) _ _))
              clear hK K
              try simp only [Act.put, List.setIfInBounds_toArray, List.set_cons_zero, List.set_cons_succ]
              refine wpAnyH_take (i := 11) (v := ?_) (oper_at rfl) (by kernel_rfl) (by kernel_rfl) (by kernel_rfl) (fun _ _ _ h => h) (Or.inl ⟨by rfl, ?_⟩) hHeld ?_
              rotate_left
              · (intro ww hSw; (try dsimp only at hSw); go_simp; try (with_reducible rfl))
              try simp only [Act.put, List.setIfInBounds_toArray, List.set_cons_zero, List.set_cons_succ]
              refine wpAnyH_done (by kernel_rfl) ?_ _
              refine NoPanic.normal ?_
              go_wp2_with fail
              go_meet
              exact ⟨_, rfl, rfl, hE11.alloc _⟩
            · go_simp
              refine hK.out _ _ ?_ (fun hHeld => ?_)
              · first | with_reducible assumption | exact KB.out _ (by repeat (first | with_reducible assumption | with_reducible exact Ext.refl _ | with_reducible apply Ext.alloc | with_reducible apply Ext.drew | with_reducible refine Ext.setb ?_ (by omega) _ _))
              clear hK K
              try simp only [Act.put, List.setIfInBounds_toArray, List.set_cons_zero, List.set_cons_succ]
              refine wpAnyH_ready (rs := [5]) (by kernel_rfl) (by simp) (AllReadyH.cons (oper_at rfl) (fun K hK => ?_) AllReadyH.nil)
              go_simp
              go_at_call 37
              refine (CGK.out _ (HL10.out.ext.trans (by repeat (first | with_reducible assumption | with_reducible exact Ext.refl _ | with_reducible apply Ext.alloc | with_reducible apply Ext.drew | with_reducible refine Ext.setb ?_ (by omega) _ _)))).mono ?_
              rintro e11 w11 ⟨rfl, h11⟩
              have hE11 : Ext w10 w11 := Ext.trans (by repeat (first | with_reducible assumption | with_reducible exact Ext.refl _ | with_reducible apply Ext.alloc | with_reducible apply Ext.drew | with_reducible refine Ext.setb ?_ (by omega) _ _)) h11
              have b0 : w11.cell? ⟨w10.heap.size, 0, none⟩ = some (.int .u8 0) := h11.cell (new_at w10.drew #[.int .u8 0, iV 0, iV 0, iV 0, iV 0, iV 0, .slice none 0 0] 61 0 _ rfl)
              have b1 : w11.cell? ⟨w10.heap.size, 1, none⟩ = some (iV 0) := h11.cell (new_at w10.drew #[.int .u8 0, iV 0, iV 0, iV 0, iV 0, iV 0, .slice none 0 0] 61 1 _ rfl)
              have b2 : w11.cell? ⟨w10.heap.size, 2, none⟩ = some (iV 0) := h11.cell (new_at w10.drew #[.int .u8 0, iV 0, iV 0, iV 0, iV 0, iV 0, .slice none 0 0] 61 2 _ rfl)
              have b3 : w11.cell? ⟨w10.heap.size, 3, none⟩ = some (iV 0) := h11.cell (new_at w10.drew #[.int .u8 0, iV 0, iV 0, iV 0, iV 0, iV 0, .slice none 0 0] 61 3 _ rfl)
              have b4 : w11.cell? ⟨w10.heap.size, 4, none⟩ = some (iV 0) := h11.cell (new_at w10.drew #[.int .u8 0, iV 0, iV 0, iV 0, iV 0, iV 0, .slice none 0 0] 61 4 _ rfl)
              have b5 : w11.cell? ⟨w10.heap.size, 5, none⟩ = some (iV 0) := h11.cell (new_at w10.drew #[.int .u8 0, iV 0, iV 0, iV 0, iV 0, iV 0, .slice none 0 0] 61 5 _ rfl)
              have b6 : w11.cell? ⟨w10.heap.size, 6, none⟩ = some (.slice none 0 0) := h11.cell (new_at w10.drew #[.int .u8 0, iV 0, iV 0, iV 0, iV 0, iV 0, .slice none 0 0] 61 6 _ rfl)
              have bf : ∀ i, w11.frozen? ⟨w10.heap.size, i, none⟩ = false := fun i => (Below.frozen h11 (p := ⟨w10.heap.size, i, none⟩) (by simp)).trans (World.frozen?_alloc_at _ _ _ _ rfl)
              refine hK.out _ _ ?_ (fun hHeld => ?_)
              · first | with_reducible assumption | exact KB.out _ (by repeat (first | with_reducible assumption | with_reducible exact Ext.refl _ | with_reducible apply Ext.alloc | with_reducible apply Ext.drew | with_reducible refine Ext.setb ?_ (by omega) _ _))
              clear hK K
              try simp only [Act.put, List.setIfInBounds_toArray, List.set_cons_zero, List.set_cons_succ]
              refine wpAnyH_take (i := 6) (v := ?_) (oper_at rfl) (by kernel_rfl) (by kernel_rfl) (by kernel_rfl) (fun _ _ _ h => h) (Or.inl ⟨by rfl, ?_⟩) hHeld ?_
              rotate_left
              · (intro ww hSw; (try dsimp only at hSw); go_simp; try (with_reducible rfl))
              try simp only [Act.put, List.setIfInBounds_toArray, List.set_cons_zero, List.set_cons_succ]
              refine wpAnyH_take (i := 7) (v := ?_) (oper_at rfl) (by kernel_rfl) (by kernel_rfl) (by kernel_rfl) (fun _ _ _ h => h) (Or.inl ⟨by rfl, ?_⟩) hHeld ?_
              rotate_left
              · (intro ww hSw; (try dsimp only at hSw); go_simp; try (with_reducible rfl))
              try simp only [Act.put, List.setIfInBounds_toArray, List.set_cons_zero, List.set_cons_succ]
              refine wpAnyH_take (i := 8) (v := ?_) (oper_at rfl) (by kernel_rfl) (by kernel_rfl) (by kernel_rfl) (fun _ _ _ h => h) (Or.inl ⟨by rfl, ?_⟩) hHeld ?_
              rotate_left
              · (intro ww hSw; (try dsimp only at hSw); go_simp; try (with_reducible rfl))
              try simp only [Act.put, List.setIfInBounds_toArray, List.set_cons_zero, List.set_cons_succ]
              refine wpAnyH_ready (rs := [10]) (by kernel_rfl) (by simp) (AllReadyH.cons (oper_at rfl) (fun K hK => ?_) AllReadyH.nil)
              go_simp
              refine hK.out _ _ ?_ (fun hHeld => ?_)
              · first | with_reducible assumption | exact KB.out _ (by repeat (first | with_reducible assumption | with_reducible exact Ext.refl _ | with_reducible apply Ext.alloc | with_reducible apply Ext.drew | with_reducible refine Ext.setb ?_ (by omega) _ _))
              clear hK K
              try simp only [Act.put, List.setIfInBounds_toArray, List.set_cons_zero, List.set_cons_succ]
              refine wpAnyH_take (i := 11) (v := ?_) (oper_at rfl) (by kernel_rfl) (by kernel_rfl) (by kernel_rfl) (fun _ _ _ h => h) (Or.inl ⟨by rfl, ?_⟩) hHeld ?_
              rotate_left
              · (intro ww hSw; (try dsimp only at hSw); go_simp; try (with_reducible rfl))
              try simp only [Act.put, List.setIfInBounds_toArray, List.set_cons_zero, List.set_cons_succ]
              refine wpAnyH_done (by kernel_rfl) ?_ _
              refine NoPanic.normal ?_
              go_wp2_with fail
              go_meet
              exact ⟨_, rfl, rfl, (by repeat (first | with_reducible assumption | with_reducible exact Ext.refl _ | with_reducible apply Ext.alloc | with_reducible apply Ext.drew | with_reducible refine Ext.setb ?_ (by omega) _ _))⟩
          case rest =>
            obtain ⟨wx, rfl⟩ : ∃ wx, wx = wc := ⟨_, rfl⟩
            obtain ⟨b', rfl, rfl, hX⟩ := hcut
            have HL11 := Lib.hid (HL10.out.to hX)
            have HK11 := Lib.hid (HK10.out.ext hX)
            have HKK11 := Lib.hid (HKK.out.ext hX)
            have t0 := hX.cell t0
            have t1 := hX.cell t1
            have t2 := hX.cell t2
            have t3 := hX.cell t3
            have m82 := hX.cell m82
            have k0 := HK11.out.c0
            have k1 := HK11.out.c1
            have k2 := HK11.out.c2
            have k3 := HK11.out.c3
            simp only [] at k0 k1 k2 k3
            have CLS := Lib.hid (less_any (l1, l2, l3, l4) (z1, (n2 : Int), (n3 : Int), (n4 : Int)) wx)
            rw [HLT.out] at CLS
            clear hX m0 HL10 HK10 HKK
            go_wp2_with fail
            refine CLS.out.mono ?_
            rintro e12 w12 ⟨rfl, hE12⟩
            have HL12 := Lib.hid (HL11.out.to hE12)
            have HK12 := Lib.hid (HK11.out.ext hE12)
            have HKK12 := Lib.hid (HKK11.out.ext hE12)
            have t0 := hE12.cell t0
            have t1 := hE12.cell t1
            have t2 := hE12.cell t2
            have t3 := hE12.cell t3
            have m82 := hE12.cell m82
            have HMP := Lib.hid HL12.out.mp
            clear hE12 k0 k1 k2 k3 CLS HL11 HK11 HKK11
            go_upto_region 24 with fail
            have KB : Hid (∀ W, Ext w12 W → (fun w' => Ext w12 w' ∧ w'.cell? ⟨g, 82, none⟩ = some (.map (some r)) ∧ w'.cell? ⟨kb, 0, none⟩ = some (kV z1) ∧ w'.cell? ⟨kb, 1, none⟩ = some (iV (n2 : Int)) ∧ w'.cell? ⟨kb, 2, none⟩ = some (iV (n3 : Int)) ∧ w'.cell? ⟨kb, 3, none⟩ = some (iV (n4 : Int))) W) := Lib.hid (fun W h => ⟨h, h.cell m82, h.cell t0, h.cell t1, h.cell t2, h.cell t3⟩)
            refine wp_region_noPanic ?_
            refine wp_region_X (S := (fun w' => Ext w12 w' ∧ w'.cell? ⟨g, 82, none⟩ = some (.map (some r)) ∧ w'.cell? ⟨kb, 0, none⟩ = some (kV z1) ∧ w'.cell? ⟨kb, 1, none⟩ = some (iV (n2 : Int)) ∧ w'.cell? ⟨kb, 2, none⟩ = some (iV (n3 : Int)) ∧ w'.cell? ⟨kb, 3, none⟩ = some (iV (n4 : Int)))) (z := 5) (by kernel_rfl) ?_ (fun hHeld => ?_)
            · first | with_reducible assumption | exact KB.out _ (by repeat (first | with_reducible assumption | with_reducible exact Ext.refl _ | with_reducible apply Ext.alloc | with_reducible apply Ext.drew | with_reducible refine Ext.setb ?_ (by omega) _ _))
            refine wpAnyX_take (i := 0) (v := ?_) (oper_at rfl) (by kernel_rfl) (by kernel_rfl) (by kernel_rfl) (by kernel_rfl) (fun _ _ _ h => h) (Or.inl ⟨by rfl, ?_⟩) hHeld ?_
            rotate_left
            · (intro ww hSw; (try dsimp only at hSw); go_simp; try (with_reducible rfl))
            try simp only [Act.put, List.setIfInBounds_toArray, List.set_cons_zero, List.set_cons_succ]
            refine wpAnyX_take (i := 1) (v := ?_) (oper_at rfl) (by kernel_rfl) (by kernel_rfl) (by kernel_rfl) (by kernel_rfl) (fun _ _ _ h => h) (Or.inl ⟨by rfl, ?_⟩) hHeld ?_
            rotate_left
            · (intro ww hSw; (try dsimp only at hSw); go_simp; try (with_reducible rfl))
            try simp only [Act.put, List.setIfInBounds_toArray, List.set_cons_zero, List.set_cons_succ]
            refine wpAnyX_take (i := 2) (v := ?_) (oper_at rfl) (by kernel_rfl) (by kernel_rfl) (by kernel_rfl) (by kernel_rfl) (fun _ _ _ h => h) (Or.inl ⟨by rfl, ?_⟩) hHeld ?_
            rotate_left
            · (intro ww hSw; (try dsimp only at hSw); go_simp; try (with_reducible rfl))
            try simp only [Act.put, List.setIfInBounds_toArray, List.set_cons_zero, List.set_cons_succ]
            refine wpAnyX_take (i := 3) (v := ?_) (oper_at rfl) (by kernel_rfl) (by kernel_rfl) (by kernel_rfl) (by kernel_rfl) (fun _ _ _ h => h) (Or.inl ⟨by rfl, ?_⟩) hHeld ?_
            rotate_left
            · (intro ww hSw; (try dsimp only at hSw); go_simp; try (with_reducible rfl))
            try simp only [Act.put, List.setIfInBounds_toArray, List.set_cons_zero, List.set_cons_succ]
            refine wpAnyX_take (i := 4) (v := ?_) (oper_at rfl) (by kernel_rfl) (by kernel_rfl) (by kernel_rfl) (by kernel_rfl) (fun _ _ _ h => h) (Or.inl ⟨by rfl, ?_⟩) hHeld ?_
            rotate_left
            · (intro ww hSw; (try dsimp only at hSw); go_simp; try (with_reducible rfl))
            try simp only [Act.put, List.setIfInBounds_toArray, List.set_cons_zero, List.set_cons_succ]
            refine wpAnyX_ready (rs := [5]) (by kernel_rfl) (by simp) (AllReadyX.last rfl (oper_at rfl) (fun K hK => ?_))
            refine supd (by rfl) (.tmp 99) (.tmp 100) (.const (.bool true)) (by rfl) (z := (z1, (n2 : Int), (n3 : Int), (n4 : Int))) rfl rfl rfl (HMP.out.kept rfl) ?_
            intro o' hmk
            refine hK.out _ _ ?_
            clear hK K
            try simp only [Act.put]
            refine wpAnyX_done (by kernel_rfl) ?_ _
            refine NoPanic.normal ?_
            iterate 8 (try clear hHeld)
            have hL13 := (HL12.out.to ((Ext.refl _).drew)).ins OO.out hmk
            rw [HPUT.out] at hL13
            have hK13 : KC (setBlock w12.drew r o') lb (l1, l2, l3, l4) := HK12.out.kept (heap_setBlock _ _ _ _ HLB.out.2.2.1)
            have hKK13 : KC (setBlock w12.drew r o') kb (z1, (n2 : Int), (n3 : Int), (n4 : Int)) := HKK12.out.kept (heap_setBlock _ _ _ _ HNE.out.2)
            generalize setBlock w12.drew r o' = wy at *
            have HL13 := Lib.hid hL13
            obtain ⟨t0, t1, t2, t3, -⟩ := hKK13
            obtain ⟨k0, k1, k2, k3, kf⟩ := hK13
            simp only [] at t0 t1 t2 t3 k0 k1 k2 k3
            clear hL13 HK12 HKK12 hmk m82 KB HMP
            go_wp2_with fail
            refine ⟨⟨j + 1, by omega, by go_num, ?_, ?_⟩, by simp [intOf]; omega⟩
            · rw [HREST.out]
              obtain ⟨a1, a2, a3, a4, a5, a6⟩ := HLB.out
              exact (((HL13.out.far a1 a2 a3 a4 a5 a6 0 _).far a1 a2 a3 a4 a5 a6 1 _).far a1 a2 a3 a4 a5 a6 2 _).far a1 a2 a3 a4 a5 a6 3 _
            · rw [HNEXT.out]
              exact ⟨by go_simp, by go_simp, by go_simp, by go_simp, fun i => by go_simp⟩
        · obtain rfl : j = y.ks.length := by omega
          rw [List.drop_length, List.flatMap_nil, List.nil_append] at HL5
          have CE := Lib.hid (err38_ok N b tail wj HL5.out.rd)
          have CL := Lib.hid (left39_ok N b tail wj HL5.out.rd)
          have wn : IntKind.i64.wrap ((bs.length : Int) - (tail.length : Int)) = (n : Int) := by
            rw [show (bs.length : Int) - (tail.length : Int) = (n : Int) by omega]
            exact IntWalk.i64_in _ (by omega)
          go_wp2_with fail
          refine CE.out.mono ?_
          rintro e6 w6 ⟨rfl, rfl⟩
          go_wp2_with fail
          refine CL.out.mono ?_
          rintro e7 w7 ⟨rfl, rfl⟩
          go_wp2_with fail
          go_ret3
          have hL := HL5.out
          rw [List.take_length] at hL
          exact ⟨g, r, rfl, OO.out.g0, OO.out.r0, ⟨by rw [hL.blk, NV_pre], ⟨y.ks, hL.mp, fun _ => Iff.rfl⟩, fun W' hX => HN.out.ch W' (Exc.over (hL.ext.exc g0 r0) hX OO.out.g0 OO.out.r0), fun W' hX => HN.out.ho W' (Exc.over (hL.ext.exc g0 r0) hX OO.out.g0 OO.out.r0), OO.out.gr⟩, hL.ext⟩
end Go.Proofs.YtehmpbaiefbemaaGreat
