/- The walk over Fork. -/
import Derived.Test.YtjeclmmikjpinaaDoorK13
namespace Go.Proofs.YtjeclmmikjpinaaDoor.I
open Go.RowKit
attribute [local go_sem ↓] Go.wp_at_zero Go.wp_at_succ
theorem SeenAt.set {w : World} {a : Addr} {u : Value} {T : Nat} (k : typ w a.block = some T) (hT : T ≠ 94) {t : EvT} {v : Value} (h : SeenAt w v t) : SeenAt (w.setCell a u) v t := h.imp id (EvAt.set k hT)
theorem StAt.set {w : World} {a : Addr} {u : Value} (k : typ w a.block = some 44) {i : IdT} {t : EvT} {v : Value} (h : StAt w v i t) : StAt (w.setCell a u) v i t := by
  obtain ⟨qi, qs, e, hi, ht⟩ := h
  exact ⟨qi, qs, e, hi.set k (by decide), ht.set k (by decide)⟩
/-- Two stamps and OK, or two zero stamps and ErrLimit. -/
def RetF (c : Bool) (i j : IdT) (t : EvT) (w : World) (e : Ending) (w' : World) : Prop := match c with
  | true => ∃ v u, e = .returned (.tuple #[v, u, .int .i64 0]) ∧ StAt w' v i t ∧ StAt w' u j t ∧ Ext w w'
  | false => e = .returned (.tuple #[.agg #[.pointer none, .pointer none], .agg #[.pointer none, .pointer none], .int .i64 3]) ∧ Ext w w'
theorem split_depth (i : IdT) : i.split.1.depth ≤ i.depth + 1 ∧ i.split.2.depth ≤ i.depth + 1 := by
  induction i with
  | zero => simp [IdT.split, IdT.depth]
  | node l r ihl ihr =>
    cases l with
    | zero =>
      cases r with
      | zero => simp [IdT.split, IdT.depth, IdT.isOne, IdT.one]
      | node a b =>
        have h1 : (IdT.node .zero (.node a b)).depth = 1 + (IdT.node a b).depth := by rw [IdT.depth, IdT.isOne_node_right]; simp [IdT.depth]
        have key : ∀ x : IdT, (IdT.node .zero x).depth ≤ 1 + x.depth := fun x => by
          rw [IdT.depth]; split
          · omega
          · simp [IdT.depth]
        have e : (IdT.node .zero (.node a b)).split = (.node .zero (IdT.node a b).split.1, .node .zero (IdT.node a b).split.2) := rfl
        rw [e, h1]
        have := key (IdT.node a b).split.1
        have := key (IdT.node a b).split.2
        simp only []
        omega
    | node a b =>
      have key : ∀ x : IdT, (IdT.node x .zero).depth ≤ 1 + x.depth := fun x => by
        rw [IdT.depth]; split
        · omega
        · simp [IdT.depth]
      have key2 : ∀ x : IdT, (IdT.node .zero x).depth ≤ 1 + x.depth := fun x => by
        rw [IdT.depth]; split
        · omega
        · simp [IdT.depth]
      have h1 : ∀ x, (IdT.node (.node a b) x).depth = 1 + max (IdT.node a b).depth x.depth := fun x => by rw [IdT.depth, IdT.isOne_node_left]; rfl
      cases r with
      | zero =>
        have e : (IdT.node (.node a b) .zero).split = (.node (IdT.node a b).split.1 .zero, .node (IdT.node a b).split.2 .zero) := rfl
        rw [e, h1]
        have := key (IdT.node a b).split.1
        have := key (IdT.node a b).split.2
        simp only []
        omega
      | node c d =>
        have e : (IdT.node (.node a b) (.node c d)).split = (.node (.node a b) .zero, .node .zero (.node c d)) := rfl
        rw [e, h1 (.node c d)]
        have := key (IdT.node a b)
        have := key2 (IdT.node c d)
        simp only []
        omega
set_option maxHeartbeats 4000000 in
theorem fork_any (i : IdT) (t : EvT) (v : Value) (w : World) (h : StAt w v i t) (hd : i.depth ≤ 999999) (c : Bool) (hc : (decide (i.split.1.depth ≤ 16) && decide (i.split.2.depth ≤ 16)) = c) : Calls Tryd.prog 15 #[v] w (RetF c i.split.1 i.split.2 t w) := by
  obtain ⟨qi, qs, rfl, hi, hs⟩ := h
  have SP := Lib.hid fun w' (hx : Ext w w') => split_any i _ w' (hi.ext hx)
  have HS := Lib.hid hs
  obtain ⟨d1, d2⟩ := split_depth i
  generalize i.split.1 = a at *
  generalize i.split.2 = b at *
  clear hi hs
  have da : a.depth ≤ 1000000 := by omega
  have db : b.depth ≤ 1000000 := by omega
  go_enter Tryd.func15, Tryd.ntmps15
  go_wp2_with fail
  refine (SP.out _ ?_).mono ?_
  · exact (((Ext.refl w).alloc _).alloc _).alloc _
  rintro e w1 ⟨v1, u1, rfl, hv1, hu1, hb1⟩
  obtain ⟨q1, rfl⟩ := hv1.ptr
  obtain ⟨q2, rfl⟩ := hu1.ptr
  have E1 := ((((Ext.refl w).alloc _).alloc _).alloc _).trans hb1
  have s1 : w1.cell? ⟨w.heap.size, 1, none⟩ = some (.pointer qs) := hb1.cell (by simp [go_sem])
  have B1 := Lib.hid (Box2.ext (b := w.heap.size + 1) hb1 (by have := (Box2.new (w.alloc (.cells #[.pointer qi, .pointer qs] 44)) (.pointer none) (.pointer none) 44); exact Box2.ext ((Ext.refl _).alloc _) (by simpa using this)))
  have B2 := Lib.hid (Box2.ext (b := w.heap.size + 1 + 1) hb1 (by have := (Box2.new ((w.alloc (.cells #[.pointer qi, .pointer qs] 44)).alloc (.cells #[.pointer none, .pointer none] 44)) (.pointer none) (.pointer none) 44); simpa using this))
  have T1 := Lib.hid (hb1.typ (b := w.heap.size + 1) (by have := (typ_new (w.alloc (.cells #[.pointer qi, .pointer qs] 44)) #[.pointer none, .pointer none] 44); exact Ext.typ ((Ext.refl _).alloc _) (by simpa using this)))
  have T2 := Lib.hid (hb1.typ (b := w.heap.size + 1 + 1) (by have := (typ_new ((w.alloc (.cells #[.pointer qi, .pointer qs] 44)).alloc (.cells #[.pointer none, .pointer none] 44)) #[.pointer none, .pointer none] 44); simpa using this))
  have HV := Lib.hid hv1
  have HU := Lib.hid hu1
  clear hb1 hv1 hu1
  go_wp2_with fail
  refine (depth_ext a _ _ HV.out da).mono ?_
  rintro e w2 ⟨rfl, hb2⟩
  have E2 := E1.trans hb2
  by_cases h1 : a.depth ≤ 16
  · have hd1 : decide (16 < a.depth) = false := by simpa using h1
    go_wp2_with fail
    refine (depth_ext b _ _ (HU.out.ext hb2) db).mono ?_
    rintro e w3 ⟨rfl, hb3⟩
    have E3 := E2.trans hb3
    have X3 := hb2.trans hb3
    replace s1 := X3.cell s1
    obtain ⟨⟨x0, c0⟩, ⟨x1, c1⟩, f0, f1⟩ := Box2.ext X3 B1.out
    obtain ⟨⟨y0, k0⟩, ⟨y1, k1⟩, g0, g1⟩ := Box2.ext X3 B2.out
    by_cases h2 : b.depth ≤ 16
    · have hd2 : decide (16 < b.depth) = false := by simpa using h2
      have hct : c = true := by rw [← hc]; simp [h1, h2]
      subst hct
      go_wp2_with fail
      go_region
      all_goals go_wp2_with fail
      all_goals
        have T1' := X3.typ T1.out
        have T2' := X3.typ T2.out
        refine bodyPost_ret (v := .tuple #[.agg #[.pointer q1, .pointer qs], .agg #[.pointer q2, .pointer qs], .int .i64 0]) ?_ rfl ⟨_, _, rfl, ⟨_, _, rfl, ?_, ?_⟩, ⟨_, _, rfl, ?_, ?_⟩, ?_⟩
        · simp [results, Tryd.results15, go_sem, c0, c1, k0, k1]
        · exact IdAt.ext (Ext.refl _).drew (by repeat (first | exact HV.out.ext X3 | refine IdAt.set (T := 44) (by simp only [typ_set]; first | exact T1' | exact T2') (by decide) ?_))
        · exact SeenAt.ext (Ext.refl _).drew (by repeat (first | exact HS.out.ext E3 | refine SeenAt.set (T := 44) (by simp only [typ_set]; first | exact T1' | exact T2') (by decide) ?_))
        · exact IdAt.ext (Ext.refl _).drew (by repeat (first | exact HU.out.ext X3 | refine IdAt.set (T := 44) (by simp only [typ_set]; first | exact T1' | exact T2') (by decide) ?_))
        · exact SeenAt.ext (Ext.refl _).drew (by repeat (first | exact HS.out.ext E3 | refine SeenAt.set (T := 44) (by simp only [typ_set]; first | exact T1' | exact T2') (by decide) ?_))
        · exact Ext.drew ((((E3.set (by simp; try omega) _).set (by simp; try omega) _).set (by simp; try omega) _).set (by simp; try omega) _)
    · have hd2 : decide (16 < b.depth) = true := by simp; omega
      have hct : c = false := by rw [← hc]; simp; omega
      subst hct
      go_wp2_with fail
      refine bodyPost_ret (v := .tuple #[.agg #[.pointer none, .pointer none], .agg #[.pointer none, .pointer none], .int .i64 3]) ?_ rfl ⟨rfl, ?_⟩
      · simp [results, Tryd.results15, go_sem, c0, c1, k0, k1]
      · exact (((E3.set (by simp) _).set (by simp) _).set (by simp; omega) _).set (by simp; omega) _
  · have hd1 : decide (16 < a.depth) = true := by simp; omega
    have hct : c = false := by rw [← hc]; simp; omega
    subst hct
    obtain ⟨⟨x0, c0⟩, ⟨x1, c1⟩, f0, f1⟩ := Box2.ext hb2 B1.out
    obtain ⟨⟨y0, k0⟩, ⟨y1, k1⟩, g0, g1⟩ := Box2.ext hb2 B2.out
    go_wp2_with fail
    refine bodyPost_ret (v := .tuple #[.agg #[.pointer none, .pointer none], .agg #[.pointer none, .pointer none], .int .i64 3]) ?_ rfl ⟨rfl, ?_⟩
    · simp [results, Tryd.results15, go_sem, c0, c1, k0, k1]
    · exact (((E2.set (by simp) _).set (by simp) _).set (by simp; omega) _).set (by simp; omega) _
end Go.Proofs.YtjeclmmikjpinaaDoor.I
