/- Merge: everything of another casebook. -/
import Derived.Test.YtjeclmmikjpinaaDoorC7
namespace Go.Proofs.YtjeclmmikjpinaaDoor
open Go.RowKit
open Go.ChangeMaps (setBlock)
open I (IdT EvT IdAt EvAt SeenAt StAt)
attribute [local go_sem ↓] Go.wp_at_zero Go.wp_at_succ
attribute [local go_sem ↓] ld48 st48 al48 bu48
attribute [local go_sem] run_al48 run_bu48 run_st48n run_eqm
theorem run_mkHint (w : World) (n : Nat) : (Instr.makeMap 46 (some (.int .i64 (n : Int)))).run Tryd.prog w = .ok (.map (some w.heap.size)) (w.alloc (.map #[] 0)) := by
  simp [Instr.makeMap, run_underlying Tryd.underlying46, go_sem, Result.andThen]
theorem run_fld51 (w : World) (x y : Value) (b : Bool) : (Instr.field 53 (.agg #[x, y, .bool b]) 2).run Tryd.prog w = .ok (.bool b) w := by
  unfold Instr.field part isAgg
  simp [run_underlying Tryd.underlying53, run_underlying Tryd.underlying4, Sem.run_bind, Result.andThen, asAgg]
attribute [local go_sem] run_mkHint run_fld51
/-- What becomes of a merge: the union is too large, or it is kept. -/
def MgIs (n : Nat) (t u : EvT) (ks us : List (List UInt8)) (c : Int) (t' : EvT) (ks' : List (List UInt8)) : Prop :=
  ∃ all : List (List UInt8), all.Nodup ∧ (∀ x, x ∈ all ↔ x ∈ ks ∨ x ∈ us) ∧ ((all.length ≤ 256 ∧ c = 0 ∧ t' = I.mergeF n t u ∧ ks' = all) ∨ (256 < all.length ∧ c = 12 ∧ t' = t ∧ ks' = ks))
def RetMg (n g r : Nat) (i : IdT) (t u : EvT) (ks us : List (List UInt8)) (w : World) (e : Ending) (w' : World) : Prop :=
  ∃ c t' ks' r', e = .returned (.int .i64 c) ∧ MgIs n t u ks us c t' ks' ∧ BookAt w' g r' i t' ks' ∧ (r' = r ∨ w.heap.size ≤ r') ∧ Exc g r w w'
theorem bk_new2 (w : World) : Bk (w.alloc (.cells #[.pointer none, .pointer none] 44)) w.heap.size 2 (fun _ => .pointer none) := by
  have := Bk.new (w := w) (n := 2) (T := 44) (f := fun _ => .pointer none) (by decide)
  have e : arV (fun _ => Value.pointer none) 2 = #[.pointer none, .pointer none] := by unfold arV; rfl
  rwa [e] at this
theorem sum_none (i : IdT) : i.sum .zero = some i := by
  cases i <;> rfl
set_option maxRecDepth 100000 in
set_option maxHeartbeats 4000000 in
theorem merge14_ok (n g r g2 r2 : Nat) (i j : IdT) (t u : EvT) (ks us : List (List UInt8)) (w : World) (h : BookAt w g r i t ks) (k : BookAt w g2 r2 j u us) (hg : g2 ≠ g) (hr : r2 ≠ r)
    (ht : t.top < 2 ^ 127) (hu : u.top < 2 ^ 127) (dt : t.depth ≤ n) (du : u.depth ≤ n) (hc : (I.mergeF n t u).fits = true) :
    Calls Tryd.prog 9 #[.pointer (some ⟨g, 0, none⟩), .pointer (some ⟨g2, 0, none⟩)] w (RetMg n g r i t u ks us w) := by
  obtain ⟨qi, qs, hb, hs⟩ := h.st
  obtain ⟨pi, ps, hb2, hs2⟩ := k.st
  have H1 := Lib.hid h
  have H2 := Lib.hid k
  have HB := Lib.hid hb
  have HB2 := Lib.hid hb2
  have HP := Lib.hid (And.intro ht (And.intro hu (And.intro dt (And.intro du hc))))
  have a2 := hb.cell (k := 2) (by decide)
  simp only [bkF, if_false, Nat.reduceEqDiff] at a2
  have l1 := run_lenMk h.mp
  have HS1 := Lib.hid hs
  have HS2 := Lib.hid hs2
  have hrl : r < w.heap.size := h.mp.lt
  have hrl2 : r2 < w.heap.size := k.mp.lt
  have hgl : g < w.heap.size := h.ty.lt
  have hgl2 : g2 < w.heap.size := k.ty.lt
  clear h k hb hb2 hs hs2 ht hu dt du hc
  obtain ⟨m0, hm0⟩ : ∃ m, ks.length = m := ⟨_, rfl⟩
  rw [hm0] at l1
  clear hm0
  go_enter Tryd.func9, Tryd.ntmps9
  go_upto_region 4 with fail
  generalize hw1 : w.alloc (.map #[] 0) = w1
  have HE1 : Hid (Ext w w1) := Lib.hid (by rw [← hw1]; exact (Ext.refl _).alloc _)
  have HM1 : Hid (Mk w1 w.heap.size []) := Lib.hid (by rw [← hw1]; exact Mk.new w)
  clear hw1 a2 l1
  have a2 := (HB.out.ext HE1.out).cell (k := 2) (by decide)
  simp only [bkF, if_false, Nat.reduceEqDiff] at a2
  have CP := Lib.hid (copy35_ok w.heap.size r [] ks w1 HM1.out (H1.out.mp.ext HE1.out) (by omega))
  go_wp2_with fail
  refine CP.out.mono ?_
  rintro _ w2 ⟨rfl, ⟨al, hal, hmem⟩, hX2⟩
  have HE2 : Hid (Ext w w2) := Lib.hid (hX2.ext HE1.out (Nat.le_refl _) (Nat.le_refl _))
  have HAL : Hid (Mk w2 w.heap.size al) := Lib.hid hal
  have HMEM : Hid (∀ x, x ∈ al ↔ x ∈ ks) := Lib.hid (fun x => by rw [hmem x]; simp)
  clear hal hmem hX2 CP a2 HM1
  have b2 := (HB2.out.ext HE2.out).cell (k := 2) (by decide)
  simp only [bkF, if_false, Nat.reduceEqDiff] at b2
  go_wp2_with (at_range; refine wrange _ rfl (.tmp 31) rfl r2 us rfl (H2.out.mp.ext HE2.out) ?_; intro w3 hit hE3 hs3; have HIT := Lib.hid hit; have HE3 := Lib.hid hE3; have hs3 := hs3; clear hit hE3)
  go_frame
  go_loopw [] (fun wr => ∃ (done : List (List UInt8)) (cnt : Nat) (ks' : List (List UInt8)), It wr r2 w2.heap.size us done cnt ∧ Mk wr w.heap.size ks' ∧ (∀ x, x ∈ ks' ↔ x ∈ ks ∨ x ∈ done) ∧ Ext w wr) (fun wr => leftN wr r2 w2.heap.size)
  case atStart => exact ⟨[], us.length, al, HIT.out, HAL.out.ext HE3.out, fun x => by rw [HMEM.out x]; simp, HE2.out.trans HE3.out⟩
  case round =>
    have hz2 : w.heap.size < w2.heap.size := HAL.out.lt
    obtain ⟨done, cnt, ks', hit, hm, hmem, hX⟩ := hrel
    have HMK := Lib.hid hm
    have HMEM' := Lib.hid hmem
    have HX := Lib.hid hX
    have HIT' := Lib.hid hit
    clear hit hm hmem hX
    go_wp2_with (at_next; refine wnext _ rfl (.tmp 32) rfl r2 w2.heap.size us done cnt rfl HIT'.out ?_ ?_)
    · intro hall
      have HALL : Hid (∀ x, x ∈ ks' ↔ x ∈ ks ∨ x ∈ us) := Lib.hid (fun x => by rw [HMEM'.out x, hall x])
      clear hall
      have l3 := run_lenMk HMK.out
      obtain ⟨m, hm⟩ : ∃ m, ks'.length = m := ⟨_, rfl⟩
      have HLEN := Lib.hid hm
      rw [hm] at l3
      clear hm
      by_cases h256 : 256 < m
      · have q0 : (256 : Int) < (m : Int) := by omega
        go_wp2_with fail
        go_ret
        exact ⟨12, t, ks, r, rfl, ⟨ks', HMK.out.nodup, HALL.out, .inr ⟨by have := HLEN.out; omega, rfl, rfl, rfl⟩⟩, H1.out.ext HX.out, .inl rfl, HX.out.exc g r⟩
      · have q0 : ¬ (256 : Int) < (m : Int) := by omega
        go_upto_region 12 with fail
        have hx := HX.out
        have x0 := (HB.out.ext hx).cell (k := 0) (by decide)
        have x1 := (HB.out.ext hx).cell (k := 1) (by decide)
        have y0 := (HB2.out.ext hx).cell (k := 0) (by decide)
        have y1 := (HB2.out.ext hx).cell (k := 1) (by decide)
        simp only [bkF, if_true, if_false, Nat.one_ne_zero] at x0 x1 y0 y1
        have KB : Hid (∀ W, Ext wr W → (fun w' => w'.cell? ⟨g, 0, none⟩ = some (.pointer qi) ∧ w'.cell? ⟨g, 1, none⟩ = some (.pointer qs) ∧ w'.cell? ⟨g2, 0, none⟩ = some (.pointer pi) ∧ w'.cell? ⟨g2, 1, none⟩ = some (.pointer ps)) W) := Lib.hid (fun W h => ⟨h.cell x0, h.cell x1, h.cell y0, h.cell y1⟩)
        have PK : Hid (∀ W, Ext wr W → Calls Tryd.prog 25 #[.agg #[.pointer pi, .pointer ps]] W (I.RetSt .zero u W)) := Lib.hid (fun W h => I.peek_any j u _ W (StAt_ext (HX.out.trans h) HS2.out))
        have JN : Hid (∀ W v, Ext wr W → StAt W v .zero u → Calls Tryd.prog 24 #[.agg #[.pointer qi, .pointer qs], v] W (I.RetStE i (I.mergeF n t u) 0 W)) := Lib.hid (fun W v h hv => I.join_some n i .zero i t u _ v W (StAt_ext (HX.out.trans h) HS1.out) hv (sum_none i) HP.out.1 HP.out.2.1 HP.out.2.2.1 HP.out.2.2.2.1 true HP.out.2.2.2.2)
        clear hx x0 x1 y0 y1
        go_cut [8, 9] (fun s8 s9 wx => ∃ b qi' qs', s8 = .pointer (some ⟨b, 0, none⟩) ∧ s9 = .int .i64 0 ∧ Ext wr wx ∧ wx.cell? ⟨b, 0, none⟩ = some (.pointer qi') ∧ wx.cell? ⟨b, 1, none⟩ = some (.pointer qs') ∧ StAt wx (.agg #[.pointer qi', .pointer qs']) i (I.mergeF n t u))
        case first =>
          refine wp_region_noPanic ?_
          refine wp_region_held_drew (S := (fun w' => w'.cell? ⟨g, 0, none⟩ = some (.pointer qi) ∧ w'.cell? ⟨g, 1, none⟩ = some (.pointer qs) ∧ w'.cell? ⟨g2, 0, none⟩ = some (.pointer pi) ∧ w'.cell? ⟨g2, 1, none⟩ = some (.pointer ps))) (by kernel_rfl) ?_ (fun hHeld => ?_)
          · first | with_reducible assumption | exact KB.out _ (by repeat (first | with_reducible assumption | with_reducible exact Ext.refl _ | with_reducible apply Ext.alloc | with_reducible apply Ext.drew))
          refine wpAnyH_take (i := 0) (v := ?_) (oper_at rfl) (by kernel_rfl) (by kernel_rfl) (by kernel_rfl) (fun _ _ _ h => h) (Or.inl ⟨by rfl, ?_⟩) hHeld ?_
          rotate_left
          · (intro ww hSw; (try dsimp only at hSw); go_simp; try (with_reducible rfl))
          try simp only [Act.put, List.setIfInBounds_toArray, List.set_cons_zero, List.set_cons_succ]
          refine wpAnyH_take (i := 1) (v := ?_) (oper_at rfl) (by kernel_rfl) (by kernel_rfl) (by kernel_rfl) (fun _ _ _ h => h) (Or.inl ⟨by rfl, ?_⟩) hHeld ?_
          rotate_left
          · (intro ww hSw; (try dsimp only at hSw); go_simp; try (with_reducible rfl))
          try simp only [Act.put, List.setIfInBounds_toArray, List.set_cons_zero, List.set_cons_succ]
          refine wpAnyH_take (i := 2) (v := ?_) (oper_at rfl) (by kernel_rfl) (by kernel_rfl) (by kernel_rfl) (fun _ _ _ h => h) (Or.inl ⟨by rfl, ?_⟩) hHeld ?_
          rotate_left
          · (intro ww hSw; (try dsimp only at hSw); go_simp; try (with_reducible rfl))
          try simp only [Act.put, List.setIfInBounds_toArray, List.set_cons_zero, List.set_cons_succ]
          refine wpAnyH_take (i := 3) (v := ?_) (oper_at rfl) (by kernel_rfl) (by kernel_rfl) (by kernel_rfl) (fun _ _ _ h => h) (Or.inl ⟨by rfl, ?_⟩) hHeld ?_
          rotate_left
          · (intro ww hSw; (try dsimp only at hSw); go_simp; try (with_reducible rfl))
          try simp only [Act.put, List.setIfInBounds_toArray, List.set_cons_zero, List.set_cons_succ]
          refine wpAnyH_take (i := 4) (v := ?_) (oper_at rfl) (by kernel_rfl) (by kernel_rfl) (by kernel_rfl) (fun _ _ _ h => h) (Or.inl ⟨by rfl, ?_⟩) hHeld ?_
          rotate_left
          · (intro ww hSw; (try dsimp only at hSw); go_simp; try (with_reducible rfl))
          try simp only [Act.put, List.setIfInBounds_toArray, List.set_cons_zero, List.set_cons_succ]
          refine wpAnyH_take (i := 5) (v := ?_) (oper_at rfl) (by kernel_rfl) (by kernel_rfl) (by kernel_rfl) (fun _ _ _ h => h) (Or.inl ⟨by rfl, ?_⟩) hHeld ?_
          rotate_left
          · (intro ww hSw; (try dsimp only at hSw); go_simp; try (with_reducible rfl))
          try simp only [Act.put, List.setIfInBounds_toArray, List.set_cons_zero, List.set_cons_succ]
          refine wpAnyH_take (i := 6) (v := ?_) (oper_at rfl) (by kernel_rfl) (by kernel_rfl) (by kernel_rfl) (fun _ _ _ h => h) (Or.inl ⟨by rfl, ?_⟩) hHeld ?_
          rotate_left
          · (intro ww hSw; (try dsimp only at hSw); go_simp; try (with_reducible rfl))
          try simp only [Act.put, List.setIfInBounds_toArray, List.set_cons_zero, List.set_cons_succ]
          refine wpAnyH_take (i := 7) (v := ?_) (oper_at rfl) (by kernel_rfl) (by kernel_rfl) (by kernel_rfl) (fun _ _ _ h => h) (Or.inl ⟨by rfl, ?_⟩) hHeld ?_
          rotate_left
          · (intro ww hSw; (try dsimp only at hSw); go_simp; try (with_reducible rfl))
          try simp only [Act.put, List.setIfInBounds_toArray, List.set_cons_zero, List.set_cons_succ]
          refine wpAnyH_ready (rs := [8, 13]) (by kernel_rfl) (by simp) (AllReadyH.cons (oper_at rfl) (fun K hK => ?_) (AllReadyH.cons (oper_at rfl) (fun K hK => ?_) AllReadyH.nil))
          · go_simp
            go_at_call 25
            refine (PK.out _ (by repeat (first | with_reducible assumption | with_reducible exact Ext.refl _ | with_reducible apply Ext.alloc | with_reducible apply Ext.drew))).mono ?_
            rintro _ w5 ⟨v5, rfl, hs5, hE5'⟩
            have hE5 : Ext wr w5 := Ext.trans (by repeat (first | with_reducible assumption | with_reducible exact Ext.refl _ | with_reducible apply Ext.alloc | with_reducible apply Ext.drew)) hE5'
            have hL5 : Ext wr.drew w5 := Ext.trans (by repeat (first | with_reducible assumption | with_reducible exact Ext.refl _ | with_reducible apply Ext.alloc | with_reducible apply Ext.drew)) hE5'
            have HS5 := Lib.hid (show StAt w5 v5 .zero u from hs5)
            clear hs5 hE5'
            try go_wp2_with fail
            refine hK.out _ _ ?_ (fun hHeld => ?_)
            · first | with_reducible assumption | exact KB.out _ (by repeat (first | with_reducible assumption | with_reducible exact Ext.refl _ | with_reducible apply Ext.alloc | with_reducible apply Ext.drew))
            clear hK K
            try simp only [Act.put, List.setIfInBounds_toArray, List.set_cons_zero, List.set_cons_succ]
            refine wpAnyH_ready (rs := [9, 13]) (by kernel_rfl) (by simp) (AllReadyH.cons (oper_at rfl) (fun K hK => ?_) (AllReadyH.cons (oper_at rfl) (fun K hK => ?_) AllReadyH.nil))
            · go_simp
              go_at_call 24
              refine (JN.out _ v5 (by repeat (first | with_reducible assumption | with_reducible exact Ext.refl _ | with_reducible apply Ext.alloc | with_reducible apply Ext.drew)) (StAt_ext (by repeat (first | with_reducible assumption | with_reducible exact Ext.refl _ | with_reducible apply Ext.alloc | with_reducible apply Ext.drew)) HS5.out)).mono ?_
              rintro _ w6 ⟨_, rfl, ⟨qi', qs', rfl, hi6, ht6⟩, hE6'⟩
              have hE6 : Ext wr w6 := Ext.trans (by repeat (first | with_reducible assumption | with_reducible exact Ext.refl _ | with_reducible apply Ext.alloc | with_reducible apply Ext.drew)) hE6'
              have hL6 : Ext w5 w6 := Ext.trans (by repeat (first | with_reducible assumption | with_reducible exact Ext.refl _ | with_reducible apply Ext.alloc | with_reducible apply Ext.drew)) hE6'
              have HS6 := Lib.hid (show StAt w6 (.agg #[.pointer qi', .pointer qs']) i (I.mergeF n t u) from ⟨qi', qs', rfl, hi6, ht6⟩)
              clear hi6 ht6 hE6'
              try go_wp2_with fail
              refine hK.out _ _ ?_ (fun hHeld => ?_)
              · first | with_reducible assumption | exact KB.out _ (by repeat (first | with_reducible assumption | with_reducible exact Ext.refl _ | with_reducible apply Ext.alloc | with_reducible apply Ext.drew))
              clear hK K
              try simp only [Act.put, List.setIfInBounds_toArray, List.set_cons_zero, List.set_cons_succ]
              refine wpAnyH_take (i := 10) (v := ?_) (oper_at rfl) (by kernel_rfl) (by kernel_rfl) (by kernel_rfl) (fun _ _ _ h => h) (Or.inl ⟨by rfl, ?_⟩) hHeld ?_
              rotate_left
              · (intro ww hSw; (try dsimp only at hSw); go_simp; try (with_reducible rfl))
              try simp only [Act.put, List.setIfInBounds_toArray, List.set_cons_zero, List.set_cons_succ]
              refine wpAnyH_take (i := 11) (v := ?_) (oper_at rfl) (by kernel_rfl) (by kernel_rfl) (by kernel_rfl) (fun _ _ _ h => h) (Or.inl ⟨by rfl, ?_⟩) hHeld ?_
              rotate_left
              · (intro ww hSw; (try dsimp only at hSw); go_simp; try (with_reducible rfl))
              try simp only [Act.put, List.setIfInBounds_toArray, List.set_cons_zero, List.set_cons_succ]
              refine wpAnyH_take (i := 12) (v := ?_) (oper_at rfl) (by kernel_rfl) (by kernel_rfl) (by kernel_rfl) (fun _ _ _ h => h) (Or.inl ⟨by rfl, ?_⟩) hHeld ?_
              rotate_left
              · (intro ww hSw; (try dsimp only at hSw); go_simp; try (with_reducible rfl))
              try simp only [Act.put, List.setIfInBounds_toArray, List.set_cons_zero, List.set_cons_succ]
              refine wpAnyH_ready (rs := [13]) (by kernel_rfl) (by simp) (AllReadyH.cons (oper_at rfl) (fun K hK => ?_) AllReadyH.nil)
              go_simp
              generalize hwa : World.alloc _ (.cells #[.pointer none, .pointer none] 44) = wa
              have hEa : Ext wr wa := by rw [← hwa]; exact (by repeat (first | with_reducible assumption | with_reducible exact Ext.refl _ | with_reducible apply Ext.alloc | with_reducible apply Ext.drew))
              have hLa : Ext w6 wa := by rw [← hwa]; exact (by repeat (first | with_reducible assumption | with_reducible exact Ext.refl _ | with_reducible apply Ext.alloc | with_reducible apply Ext.drew))
              have HBA := Lib.hid (show Bk wa w6.heap.size 2 _ from by rw [← hwa]; exact bk_new2 _)
              have HTA := Lib.hid (show TyB wa 44 w6.heap.size from by rw [← hwa]; exact TyB.new _ _ 44)
              clear hwa
              refine hK.out _ _ ?_ (fun hHeld => ?_)
              · first | with_reducible assumption | exact KB.out _ (by repeat (first | with_reducible assumption | with_reducible exact Ext.refl _ | with_reducible apply Ext.alloc | with_reducible apply Ext.drew))
              clear hK K
              try simp only [Act.put, List.setIfInBounds_toArray, List.set_cons_zero, List.set_cons_succ]
              have HBL := Lib.hid (HBA.out.ext (show Ext wa wa from (by repeat (first | with_reducible assumption | with_reducible exact Ext.refl _ | with_reducible apply Ext.alloc | with_reducible apply Ext.drew))))
              have c0 := HBL.out.cell (k := 0) (by decide)
              have c1 := HBL.out.cell (k := 1) (by decide)
              have f0 := HBL.out.frozen 0
              have f1 := HBL.out.frozen 1
              have hswa : wr.heap.size ≤ w6.heap.size := (show Ext wr w6 from (by repeat (first | with_reducible assumption | with_reducible exact Ext.refl _ | with_reducible apply Ext.alloc | with_reducible apply Ext.drew))).size
              refine wpAnyH_ready (rs := [14]) (by kernel_rfl) (by simp) (AllReadyH.cons (oper_at rfl) (fun K hK => ?_) AllReadyH.nil)
              go_simp
              generalize hwz : (World.setCell (World.setCell _ _ _) _ _) = wz
              have HBZ := Lib.hid (show Bk wz w6.heap.size 2 _ from by rw [← hwz]; exact (HBL.out.set 0 _).set 1 _)
              have hLz : Exg w6.heap.size wa wz := by rw [← hwz]; exact ((Exg.refl w6.heap.size wa).set (p := ⟨w6.heap.size, 0, none⟩) (.inl rfl) _).set (p := ⟨w6.heap.size, 1, none⟩) (.inl rfl) _
              have hEz : Ext wr wz := hLz.ext (show Ext wr wa from (by repeat (first | with_reducible assumption | with_reducible exact Ext.refl _ | with_reducible apply Ext.alloc | with_reducible apply Ext.drew))) hswa
              have HSZ := Lib.hid (StAt_calm (fun T b hb hT => hLz.2.2.2.2 b hb.lt (hb.ne (HTA.out.ext (show Ext wa wa from (by repeat (first | with_reducible assumption | with_reducible exact Ext.refl _ | with_reducible apply Ext.alloc | with_reducible apply Ext.drew)))) (by rcases hT with rfl | rfl <;> decide))) (StAt_ext (show Ext w6 wa from (by repeat (first | with_reducible assumption | with_reducible exact Ext.refl _ | with_reducible apply Ext.alloc | with_reducible apply Ext.drew))) HS6.out))
              clear hwz c0 c1 f0 f1
              refine hK.out _ _ ?_ (fun hHeld => ?_)
              · first | with_reducible assumption | exact KB.out _ (by repeat (first | with_reducible assumption | with_reducible exact Ext.refl _ | with_reducible apply Ext.alloc | with_reducible apply Ext.drew))
              clear hK K
              try simp only [Act.put, List.setIfInBounds_toArray, List.set_cons_zero, List.set_cons_succ]
              refine wpAnyH_take (i := 15) (v := ?_) (oper_at rfl) (by kernel_rfl) (by kernel_rfl) (by kernel_rfl) (fun _ _ _ h => h) (Or.inl ⟨by rfl, ?_⟩) hHeld ?_
              rotate_left
              · (intro ww hSw; (try dsimp only at hSw); go_simp; try (with_reducible rfl))
              try simp only [Act.put, List.setIfInBounds_toArray, List.set_cons_zero, List.set_cons_succ]
              refine wpAnyH_done (by kernel_rfl) ?_ _
              refine NoPanic.normal ?_
              try go_wp2_with fail
              go_meet
              refine ⟨_, qi', qs', rfl, rfl, hEz, HBZ.out.cell (k := 0) (by decide), HBZ.out.cell (k := 1) (by decide), HSZ.out⟩
            · go_simp
              generalize hwa : World.alloc _ (.cells #[.pointer none, .pointer none] 44) = wa
              have hEa : Ext wr wa := by rw [← hwa]; exact (by repeat (first | with_reducible assumption | with_reducible exact Ext.refl _ | with_reducible apply Ext.alloc | with_reducible apply Ext.drew))
              have hLa : Ext w5 wa := by rw [← hwa]; exact (by repeat (first | with_reducible assumption | with_reducible exact Ext.refl _ | with_reducible apply Ext.alloc | with_reducible apply Ext.drew))
              have HBA := Lib.hid (show Bk wa w5.heap.size 2 _ from by rw [← hwa]; exact bk_new2 _)
              have HTA := Lib.hid (show TyB wa 44 w5.heap.size from by rw [← hwa]; exact TyB.new _ _ 44)
              clear hwa
              refine hK.out _ _ ?_ (fun hHeld => ?_)
              · first | with_reducible assumption | exact KB.out _ (by repeat (first | with_reducible assumption | with_reducible exact Ext.refl _ | with_reducible apply Ext.alloc | with_reducible apply Ext.drew))
              clear hK K
              try simp only [Act.put, List.setIfInBounds_toArray, List.set_cons_zero, List.set_cons_succ]
              refine wpAnyH_ready (rs := [9]) (by kernel_rfl) (by simp) (AllReadyH.cons (oper_at rfl) (fun K hK => ?_) AllReadyH.nil)
              go_simp
              go_at_call 24
              refine (JN.out _ v5 (by repeat (first | with_reducible assumption | with_reducible exact Ext.refl _ | with_reducible apply Ext.alloc | with_reducible apply Ext.drew)) (StAt_ext (by repeat (first | with_reducible assumption | with_reducible exact Ext.refl _ | with_reducible apply Ext.alloc | with_reducible apply Ext.drew)) HS5.out)).mono ?_
              rintro _ w6 ⟨_, rfl, ⟨qi', qs', rfl, hi6, ht6⟩, hE6'⟩
              have hE6 : Ext wr w6 := Ext.trans (by repeat (first | with_reducible assumption | with_reducible exact Ext.refl _ | with_reducible apply Ext.alloc | with_reducible apply Ext.drew)) hE6'
              have hL6 : Ext wa w6 := Ext.trans (by repeat (first | with_reducible assumption | with_reducible exact Ext.refl _ | with_reducible apply Ext.alloc | with_reducible apply Ext.drew)) hE6'
              have HS6 := Lib.hid (show StAt w6 (.agg #[.pointer qi', .pointer qs']) i (I.mergeF n t u) from ⟨qi', qs', rfl, hi6, ht6⟩)
              clear hi6 ht6 hE6'
              try go_wp2_with fail
              refine hK.out _ _ ?_ (fun hHeld => ?_)
              · first | with_reducible assumption | exact KB.out _ (by repeat (first | with_reducible assumption | with_reducible exact Ext.refl _ | with_reducible apply Ext.alloc | with_reducible apply Ext.drew))
              clear hK K
              try simp only [Act.put, List.setIfInBounds_toArray, List.set_cons_zero, List.set_cons_succ]
              refine wpAnyH_take (i := 10) (v := ?_) (oper_at rfl) (by kernel_rfl) (by kernel_rfl) (by kernel_rfl) (fun _ _ _ h => h) (Or.inl ⟨by rfl, ?_⟩) hHeld ?_
              rotate_left
              · (intro ww hSw; (try dsimp only at hSw); go_simp; try (with_reducible rfl))
              try simp only [Act.put, List.setIfInBounds_toArray, List.set_cons_zero, List.set_cons_succ]
              refine wpAnyH_take (i := 11) (v := ?_) (oper_at rfl) (by kernel_rfl) (by kernel_rfl) (by kernel_rfl) (fun _ _ _ h => h) (Or.inl ⟨by rfl, ?_⟩) hHeld ?_
              rotate_left
              · (intro ww hSw; (try dsimp only at hSw); go_simp; try (with_reducible rfl))
              try simp only [Act.put, List.setIfInBounds_toArray, List.set_cons_zero, List.set_cons_succ]
              refine wpAnyH_take (i := 12) (v := ?_) (oper_at rfl) (by kernel_rfl) (by kernel_rfl) (by kernel_rfl) (fun _ _ _ h => h) (Or.inl ⟨by rfl, ?_⟩) hHeld ?_
              rotate_left
              · (intro ww hSw; (try dsimp only at hSw); go_simp; try (with_reducible rfl))
              try simp only [Act.put, List.setIfInBounds_toArray, List.set_cons_zero, List.set_cons_succ]
              have HBL := Lib.hid (HBA.out.ext (show Ext wa w6 from (by repeat (first | with_reducible assumption | with_reducible exact Ext.refl _ | with_reducible apply Ext.alloc | with_reducible apply Ext.drew))))
              have c0 := HBL.out.cell (k := 0) (by decide)
              have c1 := HBL.out.cell (k := 1) (by decide)
              have f0 := HBL.out.frozen 0
              have f1 := HBL.out.frozen 1
              have hsw6 : wr.heap.size ≤ w5.heap.size := (show Ext wr w5 from (by repeat (first | with_reducible assumption | with_reducible exact Ext.refl _ | with_reducible apply Ext.alloc | with_reducible apply Ext.drew))).size
              refine wpAnyH_ready (rs := [14]) (by kernel_rfl) (by simp) (AllReadyH.cons (oper_at rfl) (fun K hK => ?_) AllReadyH.nil)
              go_simp
              generalize hwz : (World.setCell (World.setCell _ _ _) _ _) = wz
              have HBZ := Lib.hid (show Bk wz w5.heap.size 2 _ from by rw [← hwz]; exact (HBL.out.set 0 _).set 1 _)
              have hLz : Exg w5.heap.size w6 wz := by rw [← hwz]; exact ((Exg.refl w5.heap.size w6).set (p := ⟨w5.heap.size, 0, none⟩) (.inl rfl) _).set (p := ⟨w5.heap.size, 1, none⟩) (.inl rfl) _
              have hEz : Ext wr wz := hLz.ext (show Ext wr w6 from (by repeat (first | with_reducible assumption | with_reducible exact Ext.refl _ | with_reducible apply Ext.alloc | with_reducible apply Ext.drew))) hsw6
              have HSZ := Lib.hid (StAt_calm (fun T b hb hT => hLz.2.2.2.2 b hb.lt (hb.ne (HTA.out.ext (show Ext wa w6 from (by repeat (first | with_reducible assumption | with_reducible exact Ext.refl _ | with_reducible apply Ext.alloc | with_reducible apply Ext.drew)))) (by rcases hT with rfl | rfl <;> decide))) (StAt_ext (show Ext w6 w6 from (by repeat (first | with_reducible assumption | with_reducible exact Ext.refl _ | with_reducible apply Ext.alloc | with_reducible apply Ext.drew))) HS6.out))
              clear hwz c0 c1 f0 f1
              refine hK.out _ _ ?_ (fun hHeld => ?_)
              · first | with_reducible assumption | exact KB.out _ (by repeat (first | with_reducible assumption | with_reducible exact Ext.refl _ | with_reducible apply Ext.alloc | with_reducible apply Ext.drew))
              clear hK K
              try simp only [Act.put, List.setIfInBounds_toArray, List.set_cons_zero, List.set_cons_succ]
              refine wpAnyH_take (i := 15) (v := ?_) (oper_at rfl) (by kernel_rfl) (by kernel_rfl) (by kernel_rfl) (fun _ _ _ h => h) (Or.inl ⟨by rfl, ?_⟩) hHeld ?_
              rotate_left
              · (intro ww hSw; (try dsimp only at hSw); go_simp; try (with_reducible rfl))
              try simp only [Act.put, List.setIfInBounds_toArray, List.set_cons_zero, List.set_cons_succ]
              refine wpAnyH_done (by kernel_rfl) ?_ _
              refine NoPanic.normal ?_
              try go_wp2_with fail
              go_meet
              refine ⟨_, qi', qs', rfl, rfl, hEz, HBZ.out.cell (k := 0) (by decide), HBZ.out.cell (k := 1) (by decide), HSZ.out⟩
          · go_simp
            generalize hwa : World.alloc _ (.cells #[.pointer none, .pointer none] 44) = wa
            have hEa : Ext wr wa := by rw [← hwa]; exact (by repeat (first | with_reducible assumption | with_reducible exact Ext.refl _ | with_reducible apply Ext.alloc | with_reducible apply Ext.drew))
            have hLa : Ext wr wa := by rw [← hwa]; exact (by repeat (first | with_reducible assumption | with_reducible exact Ext.refl _ | with_reducible apply Ext.alloc | with_reducible apply Ext.drew))
            have HBA := Lib.hid (show Bk wa wr.heap.size 2 _ from by rw [← hwa]; exact bk_new2 _)
            have HTA := Lib.hid (show TyB wa 44 wr.heap.size from by rw [← hwa]; exact TyB.new _ _ 44)
            clear hwa
            refine hK.out _ _ ?_ (fun hHeld => ?_)
            · first | with_reducible assumption | exact KB.out _ (by repeat (first | with_reducible assumption | with_reducible exact Ext.refl _ | with_reducible apply Ext.alloc | with_reducible apply Ext.drew))
            clear hK K
            try simp only [Act.put, List.setIfInBounds_toArray, List.set_cons_zero, List.set_cons_succ]
            refine wpAnyH_ready (rs := [8]) (by kernel_rfl) (by simp) (AllReadyH.cons (oper_at rfl) (fun K hK => ?_) AllReadyH.nil)
            go_simp
            go_at_call 25
            refine (PK.out _ (by repeat (first | with_reducible assumption | with_reducible exact Ext.refl _ | with_reducible apply Ext.alloc | with_reducible apply Ext.drew))).mono ?_
            rintro _ w5 ⟨v5, rfl, hs5, hE5'⟩
            have hE5 : Ext wr w5 := Ext.trans (by repeat (first | with_reducible assumption | with_reducible exact Ext.refl _ | with_reducible apply Ext.alloc | with_reducible apply Ext.drew)) hE5'
            have hL5 : Ext wa w5 := Ext.trans (by repeat (first | with_reducible assumption | with_reducible exact Ext.refl _ | with_reducible apply Ext.alloc | with_reducible apply Ext.drew)) hE5'
            have HS5 := Lib.hid (show StAt w5 v5 .zero u from hs5)
            clear hs5 hE5'
            try go_wp2_with fail
            refine hK.out _ _ ?_ (fun hHeld => ?_)
            · first | with_reducible assumption | exact KB.out _ (by repeat (first | with_reducible assumption | with_reducible exact Ext.refl _ | with_reducible apply Ext.alloc | with_reducible apply Ext.drew))
            clear hK K
            try simp only [Act.put, List.setIfInBounds_toArray, List.set_cons_zero, List.set_cons_succ]
            refine wpAnyH_ready (rs := [9]) (by kernel_rfl) (by simp) (AllReadyH.cons (oper_at rfl) (fun K hK => ?_) AllReadyH.nil)
            go_simp
            go_at_call 24
            refine (JN.out _ v5 (by repeat (first | with_reducible assumption | with_reducible exact Ext.refl _ | with_reducible apply Ext.alloc | with_reducible apply Ext.drew)) (StAt_ext (by repeat (first | with_reducible assumption | with_reducible exact Ext.refl _ | with_reducible apply Ext.alloc | with_reducible apply Ext.drew)) HS5.out)).mono ?_
            rintro _ w6 ⟨_, rfl, ⟨qi', qs', rfl, hi6, ht6⟩, hE6'⟩
            have hE6 : Ext wr w6 := Ext.trans (by repeat (first | with_reducible assumption | with_reducible exact Ext.refl _ | with_reducible apply Ext.alloc | with_reducible apply Ext.drew)) hE6'
            have hL6 : Ext w5 w6 := Ext.trans (by repeat (first | with_reducible assumption | with_reducible exact Ext.refl _ | with_reducible apply Ext.alloc | with_reducible apply Ext.drew)) hE6'
            have HS6 := Lib.hid (show StAt w6 (.agg #[.pointer qi', .pointer qs']) i (I.mergeF n t u) from ⟨qi', qs', rfl, hi6, ht6⟩)
            clear hi6 ht6 hE6'
            have hLa6 : Ext wa w6 := hL5.trans hL6
            try go_wp2_with fail
            refine hK.out _ _ ?_ (fun hHeld => ?_)
            · first | with_reducible assumption | exact KB.out _ (by repeat (first | with_reducible assumption | with_reducible exact Ext.refl _ | with_reducible apply Ext.alloc | with_reducible apply Ext.drew))
            clear hK K
            try simp only [Act.put, List.setIfInBounds_toArray, List.set_cons_zero, List.set_cons_succ]
            refine wpAnyH_take (i := 10) (v := ?_) (oper_at rfl) (by kernel_rfl) (by kernel_rfl) (by kernel_rfl) (fun _ _ _ h => h) (Or.inl ⟨by rfl, ?_⟩) hHeld ?_
            rotate_left
            · (intro ww hSw; (try dsimp only at hSw); go_simp; try (with_reducible rfl))
            try simp only [Act.put, List.setIfInBounds_toArray, List.set_cons_zero, List.set_cons_succ]
            refine wpAnyH_take (i := 11) (v := ?_) (oper_at rfl) (by kernel_rfl) (by kernel_rfl) (by kernel_rfl) (fun _ _ _ h => h) (Or.inl ⟨by rfl, ?_⟩) hHeld ?_
            rotate_left
            · (intro ww hSw; (try dsimp only at hSw); go_simp; try (with_reducible rfl))
            try simp only [Act.put, List.setIfInBounds_toArray, List.set_cons_zero, List.set_cons_succ]
            refine wpAnyH_take (i := 12) (v := ?_) (oper_at rfl) (by kernel_rfl) (by kernel_rfl) (by kernel_rfl) (fun _ _ _ h => h) (Or.inl ⟨by rfl, ?_⟩) hHeld ?_
            rotate_left
            · (intro ww hSw; (try dsimp only at hSw); go_simp; try (with_reducible rfl))
            try simp only [Act.put, List.setIfInBounds_toArray, List.set_cons_zero, List.set_cons_succ]
            have HBL := Lib.hid (HBA.out.ext (show Ext wa w6 from (by repeat (first | with_reducible assumption | with_reducible exact Ext.refl _ | with_reducible apply Ext.alloc | with_reducible apply Ext.drew))))
            have c0 := HBL.out.cell (k := 0) (by decide)
            have c1 := HBL.out.cell (k := 1) (by decide)
            have f0 := HBL.out.frozen 0
            have f1 := HBL.out.frozen 1
            have hsw6 : wr.heap.size ≤ wr.heap.size := (show Ext wr wr from (by repeat (first | with_reducible assumption | with_reducible exact Ext.refl _ | with_reducible apply Ext.alloc | with_reducible apply Ext.drew))).size
            refine wpAnyH_ready (rs := [14]) (by kernel_rfl) (by simp) (AllReadyH.cons (oper_at rfl) (fun K hK => ?_) AllReadyH.nil)
            go_simp
            generalize hwz : (World.setCell (World.setCell _ _ _) _ _) = wz
            have HBZ := Lib.hid (show Bk wz wr.heap.size 2 _ from by rw [← hwz]; exact (HBL.out.set 0 _).set 1 _)
            have hLz : Exg wr.heap.size w6 wz := by rw [← hwz]; exact ((Exg.refl wr.heap.size w6).set (p := ⟨wr.heap.size, 0, none⟩) (.inl rfl) _).set (p := ⟨wr.heap.size, 1, none⟩) (.inl rfl) _
            have hEz : Ext wr wz := hLz.ext (show Ext wr w6 from (by repeat (first | with_reducible assumption | with_reducible exact Ext.refl _ | with_reducible apply Ext.alloc | with_reducible apply Ext.drew))) hsw6
            have HSZ := Lib.hid (StAt_calm (fun T b hb hT => hLz.2.2.2.2 b hb.lt (hb.ne (HTA.out.ext (show Ext wa w6 from (by repeat (first | with_reducible assumption | with_reducible exact Ext.refl _ | with_reducible apply Ext.alloc | with_reducible apply Ext.drew)))) (by rcases hT with rfl | rfl <;> decide))) (StAt_ext (show Ext w6 w6 from (by repeat (first | with_reducible assumption | with_reducible exact Ext.refl _ | with_reducible apply Ext.alloc | with_reducible apply Ext.drew))) HS6.out))
            clear hwz c0 c1 f0 f1
            refine hK.out _ _ ?_ (fun hHeld => ?_)
            · first | with_reducible assumption | exact KB.out _ (by repeat (first | with_reducible assumption | with_reducible exact Ext.refl _ | with_reducible apply Ext.alloc | with_reducible apply Ext.drew))
            clear hK K
            try simp only [Act.put, List.setIfInBounds_toArray, List.set_cons_zero, List.set_cons_succ]
            refine wpAnyH_take (i := 15) (v := ?_) (oper_at rfl) (by kernel_rfl) (by kernel_rfl) (by kernel_rfl) (fun _ _ _ h => h) (Or.inl ⟨by rfl, ?_⟩) hHeld ?_
            rotate_left
            · (intro ww hSw; (try dsimp only at hSw); go_simp; try (with_reducible rfl))
            try simp only [Act.put, List.setIfInBounds_toArray, List.set_cons_zero, List.set_cons_succ]
            refine wpAnyH_done (by kernel_rfl) ?_ _
            refine NoPanic.normal ?_
            try go_wp2_with fail
            go_meet
            refine ⟨_, qi', qs', rfl, rfl, hEz, HBZ.out.cell (k := 0) (by decide), HBZ.out.cell (k := 1) (by decide), HSZ.out⟩
        case rest =>
          obtain ⟨wx, rfl⟩ : ∃ wx, wx = wc := ⟨_, rfl⟩
          obtain ⟨b, qi', qs', rfl, rfl, hX6, d0, d1, hst⟩ := hcut
          have HX6 : Hid (Ext w wx) := Lib.hid (HX.out.trans hX6)
          have HST := Lib.hid hst
          have HMK6 := Lib.hid (HMK.out.ext hX6)
          clear hX6 hst PK JN KB l3
          have HBg : Hid (Bk wx g 3 (bkF qi qs r)) := Lib.hid (HB.out.ext HX6.out)
          have HTg : Hid (TyB wx 48 g) := Lib.hid (H1.out.ty.ext HX6.out)
          have a0 := HBg.out.cell (k := 0) (by decide)
          have a1 := HBg.out.cell (k := 1) (by decide)
          have a2 := HBg.out.cell (k := 2) (by decide)
          have f0 := HBg.out.frozen 0
          have f1 := HBg.out.frozen 1
          have f2 := HBg.out.frozen 2
          simp only [bkF, if_true, if_false, Nat.one_ne_zero, Nat.reduceEqDiff] at a0 a1 a2
          go_wp2_with fail
          go_ret
          generalize hwz : ((wx.setCell ⟨g, 0, none⟩ (.pointer qi')).setCell ⟨g, 1, none⟩ (.pointer qs')).setCell ⟨g, 2, none⟩ (.map (some w.heap.size)) = wz
          have hXz : Exc g r wx wz := by rw [← hwz]; exact (((Exc.refl g r wx).set (.inl rfl) _).set (.inl rfl) _).set (.inl rfl) _
          have hrx : MpB wx r := (H1.out.mp.ext HX6.out).mpB
          have hgw : w.heap.size ≠ g := by omega
          refine ⟨0, _, ks', w.heap.size, rfl, ⟨ks', HMK.out.nodup, HALL.out, .inl ⟨by have := HLEN.out; omega, rfl, rfl, rfl⟩⟩, ⟨⟨qi', qs', ?_, StAt_calm (hXz.calm HTg.out hrx) HST.out⟩, ?_, HMK6.out.kept ?_⟩, .inr (Nat.le_refl _), HX6.out.then hXz⟩
          · rw [← hwz]
            refine (((HBg.out.set 0 _).set 1 _).set 2 _).congr fun x hx => ?_
            unfold upd bkF
            rcases x with _ | _ | _ | x
            · rfl
            · rfl
            · rfl
            · omega
          · rw [← hwz]; exact ((HTg.out.set _ _).set _ _).set _ _
          · rw [← hwz, Below.heap_setCell _ _ _ _ hgw, Below.heap_setCell _ _ _ _ hgw, Below.heap_setCell _ _ _ _ hgw]
    · intro k ts tA tl tc w' cnt' hkl hku hkd hit' hlt hblk hsz hos htp hout hen
      have HX5 : Hid (Ext w w') := Lib.hid ⟨hos.trans HX.out.os, htp.trans HX.out.tape, hout.trans HX.out.output, by rw [hsz]; exact HX.out.size, fun i hi => (hblk i (by omega)).trans (HX.out.block i hi)⟩
      have HM5 := Lib.hid (HMK.out.kept (hblk w.heap.size (by omega)))
      have HIT5 := Lib.hid hit'
      have HLT := Lib.hid (show cnt' < leftN wr r2 w2.heap.size by rw [HIT'.out.left]; exact hlt)
      have hsw : w2.heap.size < w'.heap.size := HIT5.out.lt.2
      have HKL := Lib.hid hkl
      clear hit' hlt hblk hsz hos htp hout HIT' HMK hkl hku hkd
      go_upto_region 8 with (refine wst27 rfl _ _ rfl rfl rfl (pairW_bk w') ?_; intro w6 hw6; obtain ⟨-, k2, -⟩ := pair_key hw6; have HW6 := Lib.hid hw6; have v0 := k2.cell (k := 0) (by decide); have v1 := k2.cell (k := 1) (by decide); have v2 := k2.cell (k := 2) (by decide); have f0 := k2.frozen 0; have f1 := k2.frozen 1; have f2 := k2.frozen 2; clear hw6 k2)
      generalize hw4 : ((w6.setCell ⟨w'.heap.size + 1, 0, none⟩ (.string ts)).setCell ⟨w'.heap.size + 1, 1, none⟩ (.slice tA tl tc)).setCell ⟨w'.heap.size + 1, 2, none⟩ (.bool false) = w4
      obtain ⟨p1, p2, p3⟩ := pair_all rfl HW6.out hw4
      have HE4 := Lib.hid p3
      have HP1 := Lib.hid p1
      have HP2 := Lib.hid p2
      clear hw4 v0 v1 v2 f0 f1 f2 hen HW6
      have l1 := p1.run_ld48
      have v2 := p2.cell (k := 2) (by decide)
      have f2 := p2.frozen 2
      simp only [kvF, if_false, Nat.reduceEqDiff] at v2
      clear p1 p2 p3
      obtain ⟨_, ⟨s2, A2, l2, c2, rfl⟩, hlk⟩ := run_look (HM5.out.ext HE4.out) k HKL.out false
      have hlk : (Instr.lookup 46 (.map (some w.heap.size)) (.agg (idA k)) false).run Tryd.prog w4 = .ok (.agg #[.string s2, .slice A2 l2 c2, .bool false]) w4 := hlk
      go_upto_region 9 with fail
      generalize hw7 : w4.setCell ⟨w'.heap.size + 1, 2, none⟩ (.bool false) = w7
      have HE7 : Hid (Ext w' w7) := Lib.hid (by rw [← hw7]; exact HE4.out.set (by show w'.heap.size ≤ w'.heap.size + 1; omega) _)
      have q1 : Bk w7 w'.heap.size 32 (idF k) := by rw [← hw7]; exact HP1.out.far (by show w'.heap.size + 1 ≠ w'.heap.size; omega) _
      have q2 : Bk w7 (w'.heap.size + 1) 3 (kvF (.string ts) (.slice tA tl tc)) := by
        rw [← hw7]
        refine (HP2.out.set 2 (.bool false)).congr fun i hi => ?_
        unfold upd kvF
        rcases i with _ | _ | _ | i
        · rfl
        · rfl
        · rfl
        · omega
      clear hw7 l1 v2 f2 hlk HP1 HP2
      have l1 := q1.run_ld48
      have v0 := q2.cell (k := 0) (by decide)
      have v1 := q2.cell (k := 1) (by decide)
      have v2 := q2.cell (k := 2) (by decide)
      simp only [kvF, if_true, if_false, Nat.one_ne_zero, Nat.reduceEqDiff] at v0 v1 v2
      clear q1 q2
      go_wp2_with (refine wupd rfl (.tmp 47) (.tmp 48) (.tmp 49) rfl rfl rfl rfl HKL.out ⟨_, _, _, _, rfl⟩ (HM5.out.ext HE7.out) ?_; intro o' hm6; have HM6 := Lib.hid hm6; clear hm6)
      have I6 := (HIT5.out.ext HE7.out).kept (heap_setBlock w7 w.heap.size r2 o' (by omega)) (heap_setBlock w7 w.heap.size w2.heap.size o' (by omega))
      refine ⟨?_, ?_⟩
      · refine ⟨_, _, _, _, _, _, _, _, _, _, _, _, _, _, _, _, _, _, _, ⟨done ++ [k], cnt', putM ks' k, I6, HM6.out, fun x => ?_, ?_⟩, rfl⟩
        · rw [mem_putM, HMEM'.out x, List.mem_append, List.mem_singleton]
          constructor
          · rintro (h | h | h) <;> simp [h]
          · rintro (h | h | h) <;> simp [h]
        · have e := HX5.out.trans HE7.out
          exact ⟨e.os, e.tape, e.output, by rw [size_setBlock]; exact e.size, fun i hi => (heap_setBlock _ _ _ _ (by omega)).trans (e.block i hi)⟩
      · rw [I6.left]
        exact HLT.out
end Go.Proofs.YtjeclmmikjpinaaDoor
