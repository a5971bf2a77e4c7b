/- The walk over the law ItcDepth: it returns true for every argument. -/
import Derived.Test.YthnmhdabdiennaaDoorK16
import Derived.Test.YthnmhdabdiennaaDoorM2
namespace Go.Proofs.YthnmhdabdiennaaDoor
open Go.RowKit
attribute [local go_sem ↓] Go.wp_at_zero Go.wp_at_succ
/-- A variable of type Stamp at block b holds a stamp of one path of depth k that has seen at most k events in a row. -/
def DepthAt (w : World) (b k : Nat) : Prop := ∃ qi qs i t, w.cell? ⟨b, 0, none⟩ = some (.pointer qi) ∧ w.cell? ⟨b, 1, none⟩ = some (.pointer qs) ∧ w.frozen? ⟨b, 0, none⟩ = false ∧ w.frozen? ⟨b, 1, none⟩ = false ∧ typ w b = some 31 ∧
  IdAt w (.pointer qi) i ∧ SeenAt w (.pointer qs) t ∧ Path k i ∧ nf t ∧ t.top ≤ k
theorem StAt.agg {w : World} {qa qb : Option Addr} {i : IdT} {t : EvT} (h : StAt w (.agg #[.pointer qa, .pointer qb]) i t) : IdAt w (.pointer qa) i ∧ SeenAt w (.pointer qb) t := by
  obtain ⟨qi, qs, e, hi, ht⟩ := h
  injection e with e
  injection e with e
  injection e with e1 e2
  injection e2 with e2 e3
  rw [e1, e2]
  exact ⟨hi, ht⟩
/-- A stamp is stored into a variable. -/
theorem depthAt_set {w : World} {b k : Nat} {qa qb : Option Addr} {x0 x1 : Value} {i : IdT} {t : EvT} (hT : typ w b = some 31) (c0 : w.cell? ⟨b, 0, none⟩ = some x0) (c1 : w.cell? ⟨b, 1, none⟩ = some x1)
    (f0 : w.frozen? ⟨b, 0, none⟩ = false) (f1 : w.frozen? ⟨b, 1, none⟩ = false) (h : StAt w (.agg #[.pointer qa, .pointer qb]) i t) (hP : Path k i) (hn : nf t) (ht : t.top ≤ k) :
    DepthAt ((w.setCell ⟨b, 0, none⟩ (.pointer qa)).setCell ⟨b, 1, none⟩ (.pointer qb)) b k := by
  have e : (⟨b, 0, none⟩ : Addr) ≠ ⟨b, 1, none⟩ := by simp
  have h' := (StAt.set (a := ⟨b, 1, none⟩) (u := .pointer qb) (by rw [typ_set]; exact hT) (StAt.set (a := ⟨b, 0, none⟩) (u := .pointer qa) hT h)).agg
  refine ⟨qa, qb, i, t, ?_, ?_, by simpa using f0, by simpa using f1, by rw [typ_set, typ_set]; exact hT, h'.1, h'.2, hP, hn, ht⟩
  · rw [set_other (Ne.symm e), set_same c0]
  · rw [set_same (by rw [set_other e]; exact c1)]
theorem DepthAt.ext {w w' : World} {b k : Nat} (h : Ext w w') (d : DepthAt w b k) : DepthAt w' b k := by
  obtain ⟨qi, qs, i, t, c0, c1, f0, f1, hT, hi, hs, hP, hn, ht⟩ := d
  have hb := World.block_lt_of_cell? _ _ c0
  exact ⟨qi, qs, i, t, h.cell c0, h.cell c1, by rw [Below.frozen h (p := ⟨b, 0, none⟩) hb]; exact f0, by rw [Below.frozen h (p := ⟨b, 1, none⟩) hb]; exact f1, h.typ hT, hi.ext h, hs.ext h, hP, hn, ht⟩
theorem depthAt_set4 {w : World} {b k : Nat} {qa qb qc qd : Option Addr} {x0 x1 : Value} {i : IdT} {t : EvT} (hT : typ w b = some 31) (c0 : w.cell? ⟨b, 0, none⟩ = some x0) (c1 : w.cell? ⟨b, 1, none⟩ = some x1)
    (f0 : w.frozen? ⟨b, 0, none⟩ = false) (f1 : w.frozen? ⟨b, 1, none⟩ = false) (h : StAt w (.agg #[.pointer qc, .pointer qd]) i t) (hP : Path k i) (hn : nf t) (ht : t.top ≤ k) :
    DepthAt ((((w.setCell ⟨b, 0, none⟩ (.pointer qa)).setCell ⟨b, 1, none⟩ (.pointer qb)).setCell ⟨b, 0, none⟩ (.pointer qc)).setCell ⟨b, 1, none⟩ (.pointer qd)) b k := by
  have e : (⟨b, 0, none⟩ : Addr) ≠ ⟨b, 1, none⟩ := by simp
  refine depthAt_set (x0 := .pointer qa) (x1 := .pointer qb) (by rw [typ_set, typ_set]; exact hT) ?_ ?_ (by simpa using f0) (by simpa using f1) (StAt.set (by rw [typ_set]; exact hT) (StAt.set hT h)) hP hn ht
  · rw [set_other (Ne.symm e), set_same c0]
  · rw [set_same (by rw [set_other e]; exact c1)]
set_option maxHeartbeats 4000000 in
theorem depth_law (parts events : Nat) (w : World) (_hp : parts < 4294967296) (_he : events < 256) : Calls Tryd.prog 6 #[.int .u32 parts, .int .u8 events] w (RetB true w) := by
  go_enter Tryd.func6, Tryd.ntmps6
  go_wp2_with fail
  refine (awake_any _).mono ?_
  rintro e w1 ⟨rfl, hb1⟩
  go_wp2_with fail
  refine (seed_any _).mono ?_
  rintro e w2 ⟨v2, rfl, hv2, hb2⟩
  obtain ⟨qi, qs, rfl, hi, hs⟩ := hv2
  go_wp2_with fail
  go_loopw [19] (fun c wr => ∃ k : Nat, k ≤ 16 ∧ c = .int .i64 k ∧ Ext w2 wr ∧ DepthAt wr w2.heap.size k) (fun c _ => 16 - (intOf c).toNat)
  case atStart =>
    refine ⟨0, by omega, rfl, by simp, qi, qs, .one, .leaf 0, by simp, by simp, by simp, by simp, typ_new _ _ _, hi.ext (by simp), hs.ext (by simp), rfl, trivial, Nat.le_refl _⟩
  case round =>
    obtain ⟨k, hk, rfl, E, qi', qs', i, t, c0, c1, f0, f1, hT, hi', hs', hP, hn, ht⟩ := hrel
    have hz := hP.nonzero
    have hdp := hP.depth
    have HST : Hid (StAt wr (.agg #[.pointer qi', .pointer qs']) i t) := ⟨_, _, rfl, hi', hs'⟩
    have HP := Lib.hid hP
    have HN := Lib.hid hn
    have HD := Lib.hid hdp
    clear hi' hs' hP hn hdp hi hs
    by_cases hlt : k < 16
    · have hd1 : decide ((k : Int) < 16) = true := by simp; omega
      have hk8 : k % 8 < 8 := Nat.mod_lt _ (by omega)
      go_wp2_with fail
      · have fit : (eventT i t).fits = true := fits_of_top _ (by have := event_top i t; omega)
        refine (event_some i t _ _ HST.out hz (by rw [HD.out]; omega) (by omega) true fit).mono ?_
        rintro e w3 ⟨v3, rfl, hv3, hb3⟩
        have V3 := Lib.hid hv3
        obtain ⟨qi3, qs3, rfl, -, -⟩ := hv3
        obtain ⟨hcc, hff⟩ := hb3.both
        have lt3 := World.block_lt_of_cell? _ _ c0
        have g0 := hff _ 0 lt3
        have g1 := hff _ 1 lt3
        rw [f0] at g0
        rw [f1] at g1
        have d0 := hb3.cell c0
        have d1 := hb3.cell c1
        have z3 := hb3.lt _ lt3
        have T3 := hb3.typ hT
        have E3 := E.trans hb3
        clear hcc hff c0 c1 f0 f1 lt3
        go_wp2_with fail
        generalize hW : (((w3.setCell ⟨w2.heap.size, 0, none⟩ (.pointer qi3)).setCell ⟨w2.heap.size, 1, none⟩ (.pointer qs3)).alloc (Obj.cells #[.pointer qi3, .pointer qs3] 31)) = w4
        have ne : (⟨w2.heap.size, 0, none⟩ : Addr) ≠ ⟨w2.heap.size, 1, none⟩ := by simp
        have X4 : Ext ((w3.setCell ⟨w2.heap.size, 0, none⟩ (.pointer qi3)).setCell ⟨w2.heap.size, 1, none⟩ (.pointer qs3)) w4 := by rw [← hW]; simp
        have k0 : w4.cell? ⟨w2.heap.size, 0, none⟩ = some (.pointer qi3) := X4.cell (by rw [set_other (Ne.symm ne), set_same d0])
        have k1 : w4.cell? ⟨w2.heap.size, 1, none⟩ = some (.pointer qs3) := X4.cell (by rw [set_same (by rw [set_other ne]; exact d1)])
        have j0 : w4.frozen? ⟨w2.heap.size, 0, none⟩ = false := by rw [Below.frozen X4 (by simpa using z3)]; simpa using g0
        have j1 : w4.frozen? ⟨w2.heap.size, 1, none⟩ = false := by rw [Below.frozen X4 (by simpa using z3)]; simpa using g1
        have TT4 : typ w4 w2.heap.size = some 31 := X4.typ (by rw [typ_set, typ_set]; exact T3)
        have E4 : Ext w2 w4 := Ext.trans ((E3.set (Nat.le_refl _) _).set (Nat.le_refl _) _) X4
        have ST4 : Hid (StAt w4 (.agg #[.pointer qi3, .pointer qs3]) i (eventT i t)) := StAt.ext X4 (StAt.set (by rw [typ_set]; exact T3) (StAt.set T3 V3.out))
        have NT4 : Hid (nf (eventT i t)) := (event_facts i t hz HN.out).1
        have top4 : (eventT i t).top ≤ k + 1 := by have := event_top i t; omega
        clear hW X4 d0 d1 g0 g1 z3 T3 E3
        refine (fork_any i (eventT i t) _ _ ST4.out (by rw [HD.out]; omega) true (by have h1 := HP.out.split.1.depth; have h2 := HP.out.split.2.depth; simp; omega)).mono ?_
        rintro e w5 ⟨v5, u5, rfl, hv5, hu5, hb5⟩
        have V5 := Lib.hid hv5
        have U5 := Lib.hid hu5
        obtain ⟨qi5, qs5, rfl, -, -⟩ := hv5
        obtain ⟨ri5, rs5, rfl, -, -⟩ := hu5
        obtain ⟨hcc, hff⟩ := hb5.both
        have lt4 := World.block_lt_of_cell? _ _ k0
        have m0 := hff _ 0 lt4
        have m1 := hff _ 1 lt4
        rw [j0] at m0
        rw [j1] at m1
        have n0 := hb5.cell k0
        have n1 := hb5.cell k1
        have z5 := hb5.lt _ lt4
        have T5 := hb5.typ TT4
        have E5 := E4.trans hb5
        clear hcc hff k0 k1 j0 j1 lt4 hb5
        go_wp2_with fail
        all_goals go_roundw
        case rel =>
          exact ⟨k + 1, by omega, by go_num, (((((E5.set (Nat.le_refl _) _).set (Nat.le_refl _) _).set (Nat.le_refl _) _).set (Nat.le_refl _) _).alloc _).alloc _, DepthAt.ext (((Ext.refl _).alloc _).alloc _) (depthAt_set4 T5 n0 n1 m0 m1 U5.out HP.out.split.2 NT4.out top4)⟩
        case measure => simp [intOf]; omega
        case rel =>
          exact ⟨k + 1, by omega, by go_num, (((E5.set (Nat.le_refl _) _).set (Nat.le_refl _) _).alloc _).alloc _, DepthAt.ext (((Ext.refl _).alloc _).alloc _) (depthAt_set T5 n0 n1 m0 m1 V5.out HP.out.split.1 NT4.out top4)⟩
        case measure => simp [intOf]; omega
      · have k0 := c0
        have k1 := c1
        have j0 := f0
        have j1 := f1
        have TT4 := hT
        have E4 := E
        have ST4 := HST
        have NT4 := HN
        have top4 : t.top ≤ k + 1 := by omega
        clear c0 c1 f0 f1 hT E
        refine (fork_any i t _ _ ST4.out (by rw [HD.out]; omega) true (by have h1 := HP.out.split.1.depth; have h2 := HP.out.split.2.depth; simp; omega)).mono ?_
        rintro e w5 ⟨v5, u5, rfl, hv5, hu5, hb5⟩
        have V5 := Lib.hid hv5
        have U5 := Lib.hid hu5
        obtain ⟨qi5, qs5, rfl, -, -⟩ := hv5
        obtain ⟨ri5, rs5, rfl, -, -⟩ := hu5
        obtain ⟨hcc, hff⟩ := hb5.both
        have lt4 := World.block_lt_of_cell? _ _ k0
        have m0 := hff _ 0 lt4
        have m1 := hff _ 1 lt4
        rw [j0] at m0
        rw [j1] at m1
        have n0 := hb5.cell k0
        have n1 := hb5.cell k1
        have z5 := hb5.lt _ lt4
        have T5 := hb5.typ TT4
        have E5 := E4.trans hb5
        clear hcc hff k0 k1 j0 j1 lt4 hb5
        go_wp2_with fail
        all_goals go_roundw
        case rel =>
          exact ⟨k + 1, by omega, by go_num, (((((E5.set (Nat.le_refl _) _).set (Nat.le_refl _) _).set (Nat.le_refl _) _).set (Nat.le_refl _) _).alloc _).alloc _, DepthAt.ext (((Ext.refl _).alloc _).alloc _) (depthAt_set4 T5 n0 n1 m0 m1 U5.out HP.out.split.2 NT4.out top4)⟩
        case measure => simp [intOf]; omega
        case rel =>
          exact ⟨k + 1, by omega, by go_num, (((E5.set (Nat.le_refl _) _).set (Nat.le_refl _) _).alloc _).alloc _, DepthAt.ext (((Ext.refl _).alloc _).alloc _) (depthAt_set T5 n0 n1 m0 m1 V5.out HP.out.split.1 NT4.out top4)⟩
        case measure => simp [intOf]; omega
    · obtain rfl : k = 16 := by omega
      have fit : (eventT i t).fits = true := fits_of_top _ (by have := event_top i t; omega)
      have hd1 : decide (((16 : Nat) : Int) < 16) = false := by decide
      have MORE := Lib.hid (event_more i t hz HN.out)
      go_wp2_with fail
      refine (event_some i t _ _ HST.out hz (by rw [HD.out]; omega) (by omega) true fit).mono ?_
      rintro e w3 ⟨v3, rfl, hv3, hb3⟩
      have V3 := Lib.hid hv3
      obtain ⟨qi3, qs3, rfl, -, -⟩ := hv3
      have d0 := hb3.cell c0
      have d1 := hb3.cell c1
      have z3 := World.block_lt_of_cell? _ _ d0
      go_wp2_with fail
      refine (stleq_any i i (eventT i t) t _ _ _ (V3.out.ext (by simp)) (HST.out.ext (hb3.trans (by simp))) (by have := event_top i t; omega) (by omega)).mono ?_
      rintro e w4 ⟨rfl, hb4⟩
      rw [MORE.out]
      have e0 : w4.cell? ⟨w3.heap.size, 0, none⟩ = some (.pointer qi3) := hb4.cell (by simp)
      have e1 : w4.cell? ⟨w3.heap.size, 1, none⟩ = some (.pointer qs3) := hb4.cell (by simp)
      have z4 := World.block_lt_of_cell? _ _ e0
      go_wp2_with fail
      refine (fork_any i (eventT i t) _ _ (V3.out.ext (Ext.trans ((Ext.refl _).alloc _) hb4)) (by rw [HD.out]; omega) false (by have h1 := HP.out.split.1.depth; simp; omega)).mono ?_
      rintro e w5 ⟨rfl, hb5⟩
      have E5 : Ext w w5 := hb1.trans (hb2.trans (E.trans (hb3.trans (Ext.trans ((Ext.refl _).alloc _) (hb4.trans hb5)))))
      have ZS : ∀ w', StAt w' (.agg #[.pointer none, .pointer none]) .zero (.leaf 0) := fun w' => ⟨_, _, rfl, rfl, .inl ⟨rfl, rfl⟩⟩
      have QS := Lib.hid fun w' => stequal_any .zero .zero (.leaf 0) (.leaf 0) _ _ w' (ZS w') (ZS w')
      clear ZS
      go_wp2_with fail
      refine (QS.out _).mono ?_
      rintro e w6 ⟨rfl, hb6⟩
      have f0 : w6.cell? ⟨w5.heap.size + 1, 0, none⟩ = some (.pointer none) := hb6.cell (by simp [go_sem])
      have f1 : w6.cell? ⟨w5.heap.size + 1, 1, none⟩ = some (.pointer none) := hb6.cell (by simp [go_sem])
      have E6 : Ext w w6 := E5.trans (Ext.trans (((Ext.refl _).alloc _).alloc _) hb6)
      simp only [IdT.same, EvT.same]
      go_wp2_with fail
      refine (QS.out _).mono ?_
      rintro e w7 ⟨rfl, hb7⟩
      simp only [IdT.same, EvT.same]
      go_wp2_with fail
      go_ret
      exact ⟨rfl, E6.trans hb7⟩
end Go.Proofs.YthnmhdabdiennaaDoor
