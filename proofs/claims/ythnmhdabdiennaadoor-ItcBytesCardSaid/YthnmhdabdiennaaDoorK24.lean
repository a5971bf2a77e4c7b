/- The walks over Bytes and Read of stamps. -/
import Derived.Test.YthnmhdabdiennaaDoorK23
import Derived.Test.YthnmhdabdiennaaDoorK14
namespace Go.Proofs.YthnmhdabdiennaaDoor
open Go.RowKit
attribute [local go_sem ↓] Go.wp_at_zero Go.wp_at_succ
def stBytes (i : IdT) (t : EvT) : List UInt8 := idBytes i ++ evBytes t
/-- What Read gives. -/
def readF (p : List UInt8) : Option (IdT × EvT × Nat) := match rdId 16 p with
  | none => none
  | some (i, n) => match rdEv 16 (p.drop n) with
    | none => none
    | some (t, m) => some (i, t, n + m)
theorem readF_facts {p : List UInt8} {i : IdT} {t : EvT} {n : Nat} (h : readF p = some (i, t, n)) : 1 ≤ n ∧ n ≤ p.length ∧ stBytes i t = p.take n ∧ i.depth ≤ 16 ∧ idnf i ∧ t.depth ≤ 16 ∧ nf t ∧ t.fits = true ∧ t.top ≤ 17 * mostN := by
  unfold readF at h
  split at h
  · cases h
  · rename_i j k hj
    split at h
    · cases h
    · rename_i u m hu
      simp only [Option.some.injEq, Prod.mk.injEq] at h
      obtain ⟨rfl, rfl, rfl⟩ := h
      obtain ⟨a1, a2, a3, a4, a5⟩ := rdId_facts 16 p j k hj
      obtain ⟨b1, b2, b3, b4, b5, b6, b7⟩ := rdEv_facts 16 _ u m hu
      rw [List.length_drop] at b2
      refine ⟨by omega, by omega, ?_, a4, a5, b4, b5, b6, b7⟩
      unfold stBytes
      rw [List.take_add, a3, b3]
def RetSR (r : Option (IdT × EvT × Nat)) (w : World) (e : Ending) (w' : World) : Prop := match r with
  | none => e = .returned (.tuple #[.agg #[.pointer none, .pointer none], .int .i64 0, .int .i64 6]) ∧ Ext w w'
  | some (i, t, n) => ∃ v, e = .returned (.tuple #[v, .int .i64 (n : Int), .int .i64 0]) ∧ StAt w' v i t ∧ Ext w w'
set_option maxHeartbeats 2000000 in
theorem read_any (xs : List UInt8) (A : Option Addr) (n c : Nat) (w : World) (h : BytesAt w A xs) (hn : n = xs.length) (hc : xs.length ≤ c) (hcm : c ≤ 9223372036854775807) : Calls Tryd.prog 23 #[.slice A n c] w (RetSR (readF xs) w) := by
  have HB := Lib.hid h
  have HN := Lib.hid hn
  have hnc : n ≤ c := by rw [hn]; exact hc
  have HF : Hid (readF xs = match rdId 16 xs with
    | none => none
    | some (i, n) => match rdEv 16 (xs.drop n) with
      | none => none
      | some (t, m) => some (i, t, n + m)) := Lib.hid rfl
  clear h hn hc
  go_enter Tryd.func23, Tryd.ntmps23
  go_wp2_with fail
  generalize hW : w.alloc (Obj.cells #[.pointer none, .pointer none] 31) = wa
  have Ea : Ext w wa := by rw [← hW]; simp
  have BX : Hid (Box2 wa w.heap.size) := by rw [← hW]; exact Box2.new _ _ _ _
  have TX : Hid (typ wa w.heap.size = some 31) := by rw [← hW]; exact typ_new _ _ _
  clear hW
  refine (rdid_any 16 xs A n c 0 wa rfl (HB.out.ext Ea) HN.out (by have := HN.out; omega) hcm).mono ?_
  cases hr1 : rdId 16 xs with
  | none =>
    rintro e w1 ⟨rfl, hb1⟩
    have HZ : Hid (readF xs = none) := by rw [HF.out, hr1]; exact Lib.hid rfl
    obtain ⟨⟨x0, c0⟩, ⟨x1, c1⟩, f0, f1⟩ := Box2.ext hb1 BX.out
    clear hr1
    go_wp2_with fail
    refine bodyPost_ret (v := .tuple #[.agg #[.pointer none, .pointer none], .int .i64 0, .int .i64 6]) (by simp [results, Tryd.results23, go_sem, c0, c1]) rfl ?_
    rw [HZ.out]
    exact ⟨rfl, ((Ea.trans hb1).set (Nat.le_refl _) _).set (Nat.le_refl _) _⟩
  | some im =>
    obtain ⟨i, m⟩ := im
    rintro e w1 ⟨v1, rfl, hv1, hb1⟩
    obtain ⟨q1, rfl⟩ := hv1.ptr
    have V1 := Lib.hid hv1
    obtain ⟨m1, m2, -⟩ := rdId_facts 16 xs i m hr1
    have HZ1 : Hid (readF xs = match rdEv 16 (xs.drop m) with
      | none => none
      | some (t, k) => some (i, t, m + k)) := by rw [HF.out, hr1]; exact Lib.hid rfl
    have hmn : m ≤ n := by have := HN.out; omega
    have hm63 : m ≤ 9223372036854775807 := by omega
    have E1 := Ea.trans hb1
    have B1 := Lib.hid (Box2.ext hb1 BX.out)
    have T1 := Lib.hid (hb1.typ TX.out)
    clear hr1 hv1 HF BX TX
    have hm0 : 0 < m := by omega
    have hA : 0 < xs.length := by omega
    obtain ⟨ad, rfl, -, -⟩ := HB.out hA
    by_cases hcm2 : c = m
    · have hx : xs.drop m = [] := List.drop_eq_nil_of_le (by have := HN.out; omega)
      have HZ : Hid (readF xs = none) := by rw [HZ1.out, hx, rdEv_nil]; exact Lib.hid rfl
      have hnm : n = m := by omega
      have R0 := Lib.hid (rdev_any 16 [] (some ad) 0 0 0 w1 rfl (BytesAt.nil_ _ _) rfl (Nat.le_refl _) (by omega))
      rw [rdEv_nil] at R0
      obtain ⟨⟨x0, c0⟩, ⟨x1, c1⟩, f0, f1⟩ := B1.out
      subst hnm hcm2
      go_wp2_with fail
      refine R0.out.mono ?_
      rintro e w2 ⟨rfl, hb2⟩
      obtain ⟨⟨y0, d0⟩, ⟨y1, d1⟩, g0, g1⟩ := Box2.ext hb2 B1.out
      clear c0 c1 f0 f1
      go_wp2_with fail
      refine bodyPost_ret (v := .tuple #[.agg #[.pointer none, .pointer none], .int .i64 0, .int .i64 6]) (by simp [results, Tryd.results23, go_sem, d0, d1]) rfl ?_
      rw [HZ.out]
      exact ⟨rfl, ((E1.trans hb2).set (Nat.le_refl _) _).set (Nat.le_refl _) _⟩
    · go_wp2_with fail
      refine (rdev_any 16 (xs.drop m) _ (n - m) (c - m) 0 w1 rfl (by first | exact (HB.out.ext E1).after m | exact (HB.out.ext E1).from_ hm0) (by have := HN.out; rw [List.length_drop]; omega) (by have := HN.out; rw [List.length_drop]; omega) (by omega)).mono ?_
      cases hr2 : rdEv 16 (xs.drop m) with
      | none =>
        rintro e w2 ⟨rfl, hb2⟩
        have HZ : Hid (readF xs = none) := by rw [HZ1.out, hr2]; exact Lib.hid rfl
        obtain ⟨⟨y0, d0⟩, ⟨y1, d1⟩, g0, g1⟩ := Box2.ext hb2 B1.out
        clear hr2 HZ1
        go_wp2_with fail
        refine bodyPost_ret (v := .tuple #[.agg #[.pointer none, .pointer none], .int .i64 0, .int .i64 6]) (by simp [results, Tryd.results23, go_sem, d0, d1]) rfl ?_
        rw [HZ.out]
        exact ⟨rfl, ((E1.trans hb2).set (Nat.le_refl _) _).set (Nat.le_refl _) _⟩
      | some tk =>
        obtain ⟨t, k⟩ := tk
        rintro e w2 ⟨v2, rfl, hv2, hb2⟩
        have HZ : Hid (readF xs = some (i, t, m + k)) := by rw [HZ1.out, hr2]; exact Lib.hid rfl
        obtain ⟨b2, rfl⟩ := hv2.at_.ptr
        obtain ⟨-, k2, -⟩ := rdEv_facts 16 _ t k hr2
        rw [List.length_drop] at k2
        have hmk : m + k ≤ 9223372036854775807 := by have := HN.out; omega
        obtain ⟨⟨y0, d0⟩, ⟨y1, d1⟩, g0, g1⟩ := Box2.ext hb2 B1.out
        have T2 := Lib.hid (hb2.typ T1.out)
        have ST : Hid (StAt w2 (.agg #[.pointer q1, .pointer (some ⟨b2, 0, none⟩)]) i t) := ⟨_, _, rfl, V1.out.ext hb2, .inr hv2.at_⟩
        clear hr2 HZ1 hv2 k2
        go_wp2_with fail
        refine bodyPost_ret (v := .tuple #[.agg #[.pointer q1, .pointer (some ⟨b2, 0, none⟩)], .int .i64 ((m : Int) + (k : Int)), .int .i64 0]) (by simp [results, Tryd.results23, go_sem, d0, d1]) rfl ?_
        rw [HZ.out]
        refine ⟨_, ?_, StAt.set (by rw [typ_set]; exact T2.out) (StAt.set T2.out ST.out), ((E1.trans hb2).set (Nat.le_refl _) _).set (Nat.le_refl _) _⟩
        simp
theorem ByRow.none_ (w : World) (B : Nat) : ByRow w B (.slice none 0 0) [] := World.ownsRow_nil _ _ _ _
theorem Grw.of_nil {w w' : World} {v' : Value} (h : Grw w w' (.slice none 0 0) v') : Ext w w' := ext_of_grown h.g
/-- A row that is new since a world, written on. -/
theorem Grw.new {w0 w1 w2 : World} {B : Nat} {v1 v2 : Value} {xs : List UInt8} (h : Ext w0 w1) (hr : ByRow w1 B v1 xs) (hB : w0.heap.size ≤ B) (k : Grw w1 w2 v1 v2) : Ext w0 w2 :=
  ext_grow h k.g fun g hg => Nat.le_trans hB (World.ownsRow.lt hr g hg).1
set_option maxRecDepth 100000 in
set_option maxHeartbeats 2000000 in
theorem stbytes_nil (i : IdT) (t : EvT) (v : Value) (w : World) (h : StAt w v i t) (hf : t.fits = true) (hl : (stBytes i t).length ≤ 1099511627000) : Calls Tryd.prog 24 #[v, .slice none 0 0] w (RetNew (stBytes i t) w) := by
  have TA := Lib.hid fun w' (hx : Ext w w') => tree_any i t v w' (h.ext hx)
  unfold stBytes at hl
  rw [List.length_append] at hl
  obtain ⟨qi, qs, rfl, hi, -⟩ := h
  go_enter Tryd.func24, Tryd.ntmps24
  go_wp2_with fail
  generalize hW : w.alloc (Obj.cells #[.pointer qi, .pointer qs] 31) = w0
  have E0 : Ext w w0 := by rw [← hW]; simp
  have a0 : w0.cell? ⟨w.heap.size, 0, none⟩ = some (.pointer qi) := by rw [← hW]; simp
  have a1 : w0.cell? ⟨w.heap.size, 1, none⟩ = some (.pointer qs) := by rw [← hW]; simp
  have z0 := World.block_lt_of_cell? _ _ a0
  clear hW
  have IB := Lib.hid fun w' (hx : Ext w w') => idbytes_any i _ (.slice none 0 0) [] w0.heap.size w' (hi.ext hx) (ByRow.none_ _ _)
  have EB := Lib.hid fun w' v' p' (hv : EvAt w' v' t) (hp : ByRow w' w0.heap.size p' (idBytes i)) (hz : w0.heap.size ≤ w'.heap.size) => evbytes_any t v' p' (idBytes i) w0.heap.size w' hv hf hp hz (by omega)
  clear hi
  have hl1 : (idBytes i).length ≤ 1099511627776 := by omega
  go_region_held3 (fun w' => Ext w0 w' ∧ ∀ b o, b < w0.heap.size → w'.cell? ⟨b, o, none⟩ = w0.cell? ⟨b, o, none⟩)
    (refine Ext.held ?_ <;> repeat (first | assumption | exact Ext.refl _ | apply Ext.alloc | apply Ext.drew | apply Ext.drewN))
    (first
      | (go_at_call 33; go_split_ands; refine (TA.out _ (E0.trans (by assumption))).mono ?_; rintro e w1 ⟨v1, rfl, hv1, hbb⟩; have hE1 : Ext w0 w1 := Ext.trans (by assumption) hbb)
      | (go_at_call 45; go_split_ands; refine (IB.out _ (E0.trans hE1) hE1.size (by simp; omega)).mono ?_; rintro e w2 ⟨v2, rfl, hr2, hg2⟩; rw [List.nil_append] at hr2; have hb2 := hg2.of_nil; have hE2 : Ext w0 w2 := hE1.trans hb2; have hv2 := hv1.ext hb2)
      | (go_at_call 44; go_split_ands; refine (EB.out _ _ _ hv2 hr2 hE2.size).mono ?_; rintro e w3 ⟨v3, rfl, hr3, hg3⟩; have hE3 : Ext w0 w3 := Grw.new hE2 hr2 (Nat.le_refl _) hg3))
  go_wp2_with fail
  go_ret
  exact ⟨_, rfl, hr3.base E0.size, E0.trans hE3⟩
end Go.Proofs.YthnmhdabdiennaaDoor
