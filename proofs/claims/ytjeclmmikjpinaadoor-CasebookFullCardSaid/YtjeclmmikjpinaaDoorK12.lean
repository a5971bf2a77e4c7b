/- The walks over the methods of stamps: tree, Seed, Anonymous, Peek, Leq, Equal. -/
import Derived.Test.YtjeclmmikjpinaaDoorK4
import Derived.Test.YtjeclmmikjpinaaDoorK6
import Derived.Test.YtjeclmmikjpinaaDoorK11
namespace Go.Proofs.YtjeclmmikjpinaaDoor.I
open Go.RowKit
attribute [local go_sem ↓] Go.wp_at_zero Go.wp_at_succ
/-- What a stamp has seen: nil is the number 0. -/
def SeenAt (w : World) (v : Value) (t : EvT) : Prop := (v = .pointer none ∧ t = .leaf 0) ∨ EvAt w v t
theorem SeenAt.ext {w w' : World} (h : Ext w w') {v : Value} {t : EvT} (k : SeenAt w v t) : SeenAt w' v t := k.imp id (EvAt.ext h)
/-- A stamp as a value. -/
def StAt (w : World) (v : Value) (i : IdT) (t : EvT) : Prop := ∃ qi qs, v = .agg #[.pointer qi, .pointer qs] ∧ IdAt w (.pointer qi) i ∧ SeenAt w (.pointer qs) t
theorem StAt.ext {w w' : World} (h : Ext w w') {v : Value} {i : IdT} {t : EvT} (k : StAt w v i t) : StAt w' v i t := by
  obtain ⟨qi, qs, e, hi, ht⟩ := k
  exact ⟨qi, qs, e, hi.ext h, ht.ext h⟩
def RetSt (i : IdT) (t : EvT) (w : World) (e : Ending) (w' : World) : Prop := ∃ v, e = .returned v ∧ StAt w' v i t ∧ Ext w w'
def RetStE (i : IdT) (t : EvT) (c : Int) (w : World) (e : Ending) (w' : World) : Prop := ∃ v, e = .returned (.tuple #[v, .int .i64 c]) ∧ StAt w' v i t ∧ Ext w w'
set_option maxHeartbeats 400000 in
theorem tree_any (i : IdT) (t : EvT) (v : Value) (w : World) (h : StAt w v i t) : Calls Tryd.prog 30 #[v] w (RetE t w) := by
  obtain ⟨qi, qs, rfl, hi, ht⟩ := h
  rcases ht with ⟨e, rfl⟩ | ht
  · obtain rfl := Value.pointer.inj e
    clear hi e
    go_enter Tryd.func30, Tryd.ntmps30
    go_wp2
    go_ret
    exact ⟨_, rfl, ev_zero_new_at (by simp), ((Ext.refl w).alloc _).alloc _⟩
  · obtain ⟨b, e⟩ := ht.ptr
    obtain rfl := Value.pointer.inj e
    have HT := Lib.hid ht
    clear hi e ht
    go_enter Tryd.func30, Tryd.ntmps30
    go_wp2
    go_ret
    exact ⟨_, rfl, HT.out.ext (by simp), (Ext.refl w).alloc _⟩
set_option maxHeartbeats 400000 in
theorem seed_any (w : World) : Calls Tryd.prog 14 #[] w (RetSt .one (.leaf 0) w) := by
  go_enter Tryd.func14, Tryd.ntmps14
  go_wp2
  refine bodyPost_ret (v := .agg #[.pointer (some ⟨w.heap.size + 1, 0, none⟩), .pointer none]) (by simp [results, Tryd.results14, go_sem]) rfl ⟨_, rfl, ⟨_, _, rfl, ?_, .inl ⟨rfl, rfl⟩⟩, ?_⟩
  · exact id_new_at (l := .zero) (r := .zero) (by simp) rfl rfl
  · exact ((Ext.refl w).alloc _).alloc _
set_option maxHeartbeats 400000 in
theorem anon_any (i : IdT) (t : EvT) (v : Value) (w : World) (h : StAt w v i t) : Calls Tryd.prog 51 #[v] w (RetB i.isZero w) := by
  obtain ⟨qi, qs, rfl, hi, ht⟩ := h
  rcases hi.zero_or with ⟨rfl, e⟩ | ⟨hz, b, e⟩
  · obtain rfl := Value.pointer.inj e
    clear hi e ht
    go_enter Tryd.func51, Tryd.ntmps51
    go_wp2
    go_ret
    exact ⟨rfl, by simp⟩
  · obtain rfl := Value.pointer.inj e
    have H := Lib.hid hz
    clear hi e ht hz
    go_enter Tryd.func51, Tryd.ntmps51
    go_wp2
    go_ret
    exact ⟨by rw [H.out]; rfl, by simp⟩
set_option maxHeartbeats 400000 in
theorem peek_any (i : IdT) (t : EvT) (v : Value) (w : World) (h : StAt w v i t) : Calls Tryd.prog 25 #[v] w (RetSt .zero t w) := by
  obtain ⟨qi, qs, rfl, hi, ht⟩ := h
  have HT := Lib.hid ht
  clear hi ht
  go_enter Tryd.func25, Tryd.ntmps25
  go_wp2
  refine bodyPost_ret (v := .agg #[.pointer none, .pointer qs]) (by simp [results, Tryd.results25, go_sem]) rfl ⟨_, rfl, ⟨_, _, rfl, rfl, HT.out.ext (by simp)⟩, ((Ext.refl w).alloc _).alloc _⟩
/-- Two boxes of two cells, under a letter for the world. -/
theorem letter22 {w w0 : World} {a b c d : Value} {T T' : Nat} (h : (w.alloc (.cells #[a, b] T)).alloc (.cells #[c, d] T') = w0) : Ext w w0 ∧ w0.cell? ⟨w.heap.size, 0, none⟩ = some a ∧ w0.cell? ⟨w.heap.size, 1, none⟩ = some b ∧
    w0.cell? ⟨w.heap.size + 1, 0, none⟩ = some c ∧ w0.cell? ⟨w.heap.size + 1, 1, none⟩ = some d ∧ w.heap.size + 1 < w0.heap.size ∧ w.heap.size < w0.heap.size ∧ Box2 w0 (w.heap.size + 1) ∧ typ w0 (w.heap.size + 1) = some T' := by
  subst h
  exact ⟨((Ext.refl w).alloc _).alloc _, by simp [go_sem], by simp [go_sem], by simp [go_sem], by simp [go_sem], by simp, by simp; omega, by have := Box2.new (w.alloc (.cells #[a, b] T)) c d T'; simpa using this, by have := typ_new (w.alloc (.cells #[a, b] T)) #[c, d] T'; simpa using this⟩
theorem leq_zero (a b : EvT) (va vb : Value) (w : World) (ha : EvAt w va a) (hb : EvAt w vb b) (hx : a.top < 2 ^ 127) (hy : b.top < 2 ^ 127) :
    Calls Tryd.prog 29 #[va, vb, .agg #[.int .u64 0, .int .u64 0], .agg #[.int .u64 0, .int .u64 0]] w (RetB (leqF a b 0 0) w) := leq_any a b va vb 0 0 w ha hb (by omega) (by omega)
set_option maxHeartbeats 1000000 in
theorem stleq_any (i j : IdT) (t u : EvT) (v v' : Value) (w : World) (h : StAt w v i t) (k : StAt w v' j u) (ht : t.top < 2 ^ 127) (hu : u.top < 2 ^ 127) : Calls Tryd.prog 12 #[v, v'] w (RetB (leqF t u 0 0) w) := by
  have TA := Lib.hid fun w' (hx : Ext w w') => tree_any i t v w' (h.ext hx)
  have TB := Lib.hid fun w' (hx : Ext w w') => tree_any j u v' w' (k.ext hx)
  obtain ⟨qi, qs, rfl, -, -⟩ := h
  obtain ⟨qi', qs', rfl, -, -⟩ := k
  go_enter Tryd.func12, Tryd.ntmps12
  go_wp2_with fail
  generalize hW : (w.alloc (Obj.cells #[.pointer qi, .pointer qs] 44)).alloc (Obj.cells #[.pointer qi', .pointer qs'] 44) = w0
  obtain ⟨E0, a0, a1, b0, b1, z1, z0, -, -⟩ := letter22 hW
  clear hW
  go_region_held3 (fun w' => Ext w0 w' ∧ ∀ b o, b < w0.heap.size → w'.cell? ⟨b, o, none⟩ = w0.cell? ⟨b, o, none⟩)
    (refine Ext.held ?_ <;> repeat (first | assumption | exact Ext.refl _ | apply Ext.alloc | apply Ext.drew | apply Ext.drewN))
    (first
      | (go_at_call_of 30 (Value.agg #[Value.pointer qi, Value.pointer qs]); go_split_ands; refine (TA.out _ (E0.trans (by assumption))).mono ?_; rintro e w1 ⟨v1, rfl, hv1, hbb⟩; have hE1 : Ext w0 w1 := Ext.trans (by assumption) hbb)
      | (go_at_call_of 30 (Value.agg #[Value.pointer qi', Value.pointer qs']); go_split_ands; refine (TB.out _ (E0.trans (by assumption))).mono ?_; rintro e w2 ⟨v2, rfl, hv2, hbb⟩; have hE2 : Ext w0 w2 := Ext.trans (by assumption) hbb; have hv1' := hv1.ext hbb)
      | (go_at_call 29; go_split_ands; refine (leq_zero t u _ _ _ hv1' hv2 ht hu).mono ?_; rintro e w3 ⟨rfl, hbb⟩; have hE3 : Ext w0 w3 := Ext.trans (by assumption) hbb))
  go_wp2_with fail
  go_ret
  exact ⟨rfl, E0.trans hE3⟩
end Go.Proofs.YtjeclmmikjpinaaDoor.I
