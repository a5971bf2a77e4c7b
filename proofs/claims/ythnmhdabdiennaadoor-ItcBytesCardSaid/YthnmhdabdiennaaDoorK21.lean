/- The walk over the reader of event trees. -/
import Derived.Test.YthnmhdabdiennaaDoorK20
import Derived.Test.YthnmhdabdiennaaDoorK4
namespace Go.Proofs.YthnmhdabdiennaaDoor
open Go.RowKit
attribute [local go_sem ↓] Go.wp_at_zero Go.wp_at_succ
/-- An event tree in blocks from B on. -/
def EvFrom (B : Nat) (w : World) : Value → EvT → Prop
  | v, .leaf n => ∃ b, v = .pointer (some ⟨b, 0, none⟩) ∧ B ≤ b ∧ w.cell? ⟨b, 0, none⟩ = some (.int .u64 (hi n)) ∧ w.cell? ⟨b, 1, none⟩ = some (.int .u64 (lo n)) ∧
      w.cell? ⟨b, 2, none⟩ = some (.pointer none) ∧ w.cell? ⟨b, 3, none⟩ = some (.pointer none) ∧ typ w b = some 103
  | v, .node n l r => ∃ b pl pr, v = .pointer (some ⟨b, 0, none⟩) ∧ B ≤ b ∧ w.cell? ⟨b, 0, none⟩ = some (.int .u64 (hi n)) ∧ w.cell? ⟨b, 1, none⟩ = some (.int .u64 (lo n)) ∧
      w.cell? ⟨b, 2, none⟩ = some pl ∧ w.cell? ⟨b, 3, none⟩ = some pr ∧ EvFrom B w pl l ∧ EvFrom B w pr r ∧ typ w b = some 103
theorem EvFrom.at_ {B : Nat} {w : World} : ∀ {t : EvT} {v : Value}, EvFrom B w v t → EvAt w v t
  | .leaf _, _, ⟨b, e, _, h0, h1, h2, h3, ht⟩ => ⟨b, e, h0, h1, h2, h3, ht⟩
  | .node _ _ _, _, ⟨b, pl, pr, e, _, h0, h1, h2, h3, hl, hr, ht⟩ => ⟨b, pl, pr, e, h0, h1, h2, h3, EvFrom.at_ hl, EvFrom.at_ hr, ht⟩
theorem EvFrom.ext {B : Nat} {w w' : World} (h : Ext w w') : ∀ {t : EvT} {v : Value}, EvFrom B w v t → EvFrom B w' v t
  | .leaf _, _, ⟨b, e, hb, h0, h1, h2, h3, ht⟩ => ⟨b, e, hb, h.cell h0, h.cell h1, h.cell h2, h.cell h3, h.typ ht⟩
  | .node _ _ _, _, ⟨b, pl, pr, e, hb, h0, h1, h2, h3, hl, hr, ht⟩ => ⟨b, pl, pr, e, hb, h.cell h0, h.cell h1, h.cell h2, h.cell h3, EvFrom.ext h hl, EvFrom.ext h hr, h.typ ht⟩
theorem EvFrom.mono {B B' : Nat} {w : World} (hB : B' ≤ B) : ∀ {t : EvT} {v : Value}, EvFrom B w v t → EvFrom B' w v t
  | .leaf _, _, ⟨b, e, hb, h0, h1, h2, h3, ht⟩ => ⟨b, e, by omega, h0, h1, h2, h3, ht⟩
  | .node _ _ _, _, ⟨b, pl, pr, e, hb, h0, h1, h2, h3, hl, hr, ht⟩ => ⟨b, pl, pr, e, by omega, h0, h1, h2, h3, EvFrom.mono hB hl, EvFrom.mono hB hr, ht⟩
theorem set_low {w : World} {a : Addr} {u : Value} {b o : Nat} (h : a.block < b) : (w.setCell a u).cell? ⟨b, o, none⟩ = w.cell? ⟨b, o, none⟩ := World.cell?_setCell_other _ _ _ _ (fun e => by have := congrArg Addr.block e; simp at this; omega)
theorem EvFrom.low {B : Nat} {w : World} {a : Addr} {u : Value} (ha : a.block < B) : ∀ {t : EvT} {v : Value}, EvFrom B w v t → EvFrom B (w.setCell a u) v t
  | .leaf _, _, ⟨b, e, hb, h0, h1, h2, h3, ht⟩ => ⟨b, e, hb, by rw [set_low (by omega)]; exact h0, by rw [set_low (by omega)]; exact h1, by rw [set_low (by omega)]; exact h2, by rw [set_low (by omega)]; exact h3, by rw [typ_set]; exact ht⟩
  | .node _ _ _, _, ⟨b, pl, pr, e, hb, h0, h1, h2, h3, hl, hr, ht⟩ => ⟨b, pl, pr, e, hb, by rw [set_low (by omega)]; exact h0, by rw [set_low (by omega)]; exact h1, by rw [set_low (by omega)]; exact h2, by rw [set_low (by omega)]; exact h3, EvFrom.low ha hl, EvFrom.low ha hr, by rw [typ_set]; exact ht⟩
def RetRe (r : Option (EvT × Nat)) (w : World) (e : Ending) (w' : World) : Prop := match r with
  | none => e = .returned (.tuple #[.pointer none, .int .i64 0, .bool false]) ∧ Ext w w'
  | some (t, n) => ∃ v, e = .returned (.tuple #[v, .int .i64 n, .bool true]) ∧ EvFrom w.heap.size w' v t ∧ Ext w w'
theorem retRe_none {r : Option (EvT × Nat)} {w w' : World} {e : Ending} (h : r = none) (he : e = .returned (.tuple #[.pointer none, .int .i64 0, .bool false])) (hx : Ext w w') : RetRe r w e w' := by rw [h]; exact ⟨he, hx⟩
theorem retRe_some {r : Option (EvT × Nat)} {w w' : World} {e : Ending} {v : Value} {t : EvT} {n : Nat} (h : r = some (t, n)) (he : e = .returned (.tuple #[v, .int .i64 n, .bool true])) (hi : EvFrom w.heap.size w' v t) (hx : Ext w w') : RetRe r w e w' := by rw [h]; exact ⟨v, he, hi, hx⟩
theorem hi_small {v : Nat} (h : v ≤ mostN) : hi v = 0 := by unfold hi; unfold mostN at h; omega
theorem lo_small {v : Nat} (h : v ≤ mostN) : lo v = v := by unfold lo; unfold mostN at h; omega
theorem evleaf_new (w : World) (v : Nat) (h : v ≤ mostN) : EvFrom w.heap.size (w.alloc (.cells #[.int .u64 0, .int .u64 (v : Int), .pointer none, .pointer none] 103)) (.pointer (some ⟨w.heap.size, 0, none⟩)) (.leaf v) := by
  refine ⟨w.heap.size, rfl, Nat.le_refl _, ?_, ?_, new_at _ _ _ _ _ rfl, new_at _ _ _ _ _ rfl, typ_new _ _ _⟩
  · rw [hi_small h]; exact new_at _ _ _ _ _ rfl
  · rw [lo_small h]; exact new_at _ _ _ _ _ rfl
/-- What is known of the number's test. -/
theorem most_test {v : Nat} (h : ¬ mostN < v) : ¬ (4611686018427387904 < v) := by unfold mostN at h; exact h
theorem rdEv_zero (b : UInt8) (p : List UInt8) : rdEv 0 (b :: p) = if 0 < b.toNat then none else match uintF p with
      | none => none
      | some (v, n) => if mostN < v then none else some (.leaf v, n + 1) := by rw [rdEv]; rfl
theorem rdEv_succ (d : Nat) (b : UInt8) (p : List UInt8) : rdEv (d + 1) (b :: p) = if 1 < b.toNat then none else match uintF p with
      | none => none
      | some (v, n) => if mostN < v then none else if b.toNat = 0 then some (.leaf v, n + 1) else
        match rdEv d (p.drop n) with
        | none => none
        | some (l, m) => match rdEv d (p.drop (n + m)) with
          | none => none
          | some (r, k) => if evBad l r then none else some (.node v l r, n + 1 + m + k) := by rw [rdEv]; rfl
theorem rdEv_nil (d : Nat) : rdEv d [] = none := by cases d <;> rfl
theorem BytesAt.tail {w : World} {ad : Addr} {b : UInt8} {p : List UInt8} (h : BytesAt w (some ad) (b :: p)) (c : Nat) (hc : p.length + 1 ≤ c) : ∃ A, BytesAt w A p ∧ (Value.slice (if c = 1 then some ad else some ⟨ad.block, ad.off + 1, none⟩) p.length (c - 1) = Value.slice A p.length (c - 1)) := by
  refine ⟨_, ?_, rfl⟩
  split
  · have : p = [] := List.eq_nil_of_length_eq_zero (by omega)
    subst this
    exact BytesAt.nil_ _ _
  · exact h.from_ (k := 1) (by omega)
theorem run_neq_wide0 (a : Nat) (w : World) : (binOp .neq 83 (Wd a) (.agg #[.int .u64 0, .int .u64 0])).run Tryd.prog w = .ok (.bool (!(a == 0))) w := run_neq_wide a 0 w
/-- A block of four cells that can be written. -/
def Box4 (w : World) (b v : Nat) : Prop := w.cell? ⟨b, 0, none⟩ = some (.int .u64 0) ∧ w.cell? ⟨b, 1, none⟩ = some (.int .u64 (v : Int)) ∧ w.cell? ⟨b, 2, none⟩ = some (.pointer none) ∧ w.cell? ⟨b, 3, none⟩ = some (.pointer none) ∧
  w.frozen? ⟨b, 2, none⟩ = false ∧ w.frozen? ⟨b, 3, none⟩ = false ∧ typ w b = some 103
theorem Box4.new (w : World) (v : Nat) : Box4 (w.alloc (.cells #[.int .u64 0, .int .u64 (v : Int), .pointer none, .pointer none] 103)) w.heap.size v :=
  ⟨new_at _ _ _ _ _ rfl, new_at _ _ _ _ _ rfl, new_at _ _ _ _ _ rfl, new_at _ _ _ _ _ rfl, by simp, by simp, typ_new _ _ _⟩
theorem Box4.ext {w w' : World} {b v : Nat} (h : Ext w w') (k : Box4 w b v) : Box4 w' b v := by
  obtain ⟨h0, h1, h2, h3, f2, f3, ht⟩ := k
  exact ⟨h.cell h0, h.cell h1, h.cell h2, h.cell h3, by rw [Below.frozen h (World.block_lt_of_cell? w _ h2)]; exact f2, by rw [Below.frozen h (World.block_lt_of_cell? w _ h3)]; exact f3, h.typ ht⟩
/-- The halves are stored into the node. -/
theorem Box4.node {w : World} {b v : Nat} {l r : EvT} {pl pr : Value} (k : Box4 w b v) (hv : v ≤ mostN) (hl : EvFrom (b + 1) w pl l) (hr : EvFrom (b + 1) w pr r) :
    EvFrom b ((w.setCell ⟨b, 2, none⟩ pl).setCell ⟨b, 3, none⟩ pr) (.pointer (some ⟨b, 0, none⟩)) (.node v l r) := by
  obtain ⟨h0, h1, h2, h3, f2, f3, ht⟩ := k
  have n1 : ∀ i j : Nat, i ≠ j → (⟨b, i, none⟩ : Addr) ≠ ⟨b, j, none⟩ := fun i j h e => h (congrArg Addr.off e)
  refine ⟨b, pl, pr, rfl, Nat.le_refl _, ?_, ?_, ?_, ?_, ?_, ?_, by rw [typ_set, typ_set]; exact ht⟩
  · rw [set_other (n1 _ _ (by decide)), set_other (n1 _ _ (by decide)), hi_small hv]; exact h0
  · rw [set_other (n1 _ _ (by decide)), set_other (n1 _ _ (by decide)), lo_small hv]; exact h1
  · rw [set_other (n1 _ _ (by decide)), set_same h2]
  · rw [set_same (by rw [set_other (n1 _ _ (by decide))]; exact h3)]
  · exact ((hl.low (a := ⟨b, 2, none⟩) (by simp)).low (a := ⟨b, 3, none⟩) (by simp)).mono (by omega)
  · exact ((hr.low (a := ⟨b, 2, none⟩) (by simp)).low (a := ⟨b, 3, none⟩) (by simp)).mono (by omega)
set_option maxHeartbeats 4000000 in
theorem rdev_any (d : Nat) : ∀ (xs : List UInt8) (A : Option Addr) (n c k : Nat) (w : World), k + d = 16 → BytesAt w A xs → n = xs.length → xs.length ≤ c → c ≤ 9223372036854775807 → Calls Tryd.prog 43 #[.slice A n c, .int .i64 (k : Int)] w (RetRe (rdEv d xs) w) := by
  induction d with
  | zero =>
    intro xs A n c k w hd hB hn hc hcm
    cases xs with
    | nil =>
      obtain rfl : n = 0 := hn
      clear hd
      go_enter Tryd.func43, Tryd.ntmps43
      go_wp2_with fail
      go_ret3
      exact retRe_none (rdEv_nil _) rfl (Ext.refl _)
    | cons b p =>
      have HB := Lib.hid hB
      obtain ⟨ad, rfl, hadb, hcell⟩ := hB (by simp)
      have c0 := hcell 0 b rfl
      rw [show ad.add 0 = ad from rfl] at c0
      have hb : b.toNat < 256 := b.toNat_lt
      have HR := Lib.hid (rdEv_zero b p)
      have HN : Hid (n = p.length + 1) := Lib.hid hn
      have hn0 : 0 < n := by have := HN.out; omega
      have hn1 : n ≤ c := by rw [hn]; exact hc
      obtain rfl : k = 16 := by omega
      generalize b.toNat = y at *
      clear hcell hB hn hc hd
      have hdd : (((16 : Nat) : Int) == 16) = true := by decide
      have hn00 : ((n : Int) == 0) = false := by simp; omega
      by_cases h1 : 1 < y
      · have h1' : ((y : Int) == 1) = false := by simp; omega
        go_enter Tryd.func43, Tryd.ntmps43
        go_wp2_with fail
        go_ret3
        exact retRe_none (by rw [HR.out, if_pos (by omega)]) rfl (Ext.refl _)
      · by_cases hy : y = 0
        · subst hy
          have UI := Lib.hid fun A' (c' : Nat) w' (h : BytesAt w' A' p) => uint_any p A' c' w' h (by have := HN.out; omega)
          have HNL : Hid (n - 1 = p.length) := Lib.hid (by have := HN.out; omega)
          by_cases hc1 : c = 1
          · subst hc1
            have hp : p = [] := List.eq_nil_of_length_eq_zero (by have := HN.out; omega)
            subst hp
            obtain rfl : n = 1 := by omega
            have UI0 := Lib.hid (UI.out (some ad) 0 w (BytesAt.nil_ _ _))
            have HZ : Hid (rdEv 0 [b] = none) := by rw [HR.out]; exact Lib.hid rfl
            clear HR UI
            go_enter Tryd.func43, Tryd.ntmps43
            go_wp2_with fail
            refine UI0.out.mono ?_
            rintro e w1 ⟨rfl, rfl⟩
            go_wp2_with fail
            go_ret3
            exact retRe_none HZ.out rfl (Ext.refl _)
          · have hc2 : 1 < c := by omega
            have UI1 := Lib.hid (UI.out (some ⟨ad.block, ad.off + 1, none⟩) (c - 1) w (HB.out.from_ (k := 1) (by omega)))
            clear UI
            cases hu : uintF p with
            | none =>
              rw [hu] at UI1 HR
              clear hu
              go_enter Tryd.func43, Tryd.ntmps43
              go_wp2_with fail
              rw [HNL.out]
              refine UI1.out.mono ?_
              rintro e w1 ⟨rfl, rfl⟩
              go_wp2_with fail
              go_ret3
              exact retRe_none (by rw [HR.out]; rfl) rfl (Ext.refl _)
            | some vm =>
              obtain ⟨v, m⟩ := vm
              rw [hu] at UI1 HR
              obtain ⟨u1, u2, -⟩ := uintF_facts hu
              clear hu
              have hm2 : m + 1 ≤ 9223372036854775807 := by have := HN.out; omega
              by_cases hv : mostN < v
              · have hv' : 4611686018427387904 < v := hv
                have HZ : Hid (rdEv 0 (b :: p) = none) := by rw [HR.out]; exact if_pos hv
                clear hv HR
                go_enter Tryd.func43, Tryd.ntmps43
                go_wp2_with fail
                rw [HNL.out]
                refine UI1.out.mono ?_
                rintro e w1 ⟨rfl, rfl⟩
                go_wp2_with fail
                go_ret3
                exact retRe_none HZ.out rfl (Ext.refl _)
              · have hv' : ¬ 4611686018427387904 < v := hv
                have HZ : Hid (rdEv 0 (b :: p) = some (.leaf v, m + 1)) := by rw [HR.out]; exact if_neg hv
                have HV : Hid (v ≤ mostN) := Lib.hid (by omega)
                clear hv HR
                go_enter Tryd.func43, Tryd.ntmps43
                go_wp2_with fail
                rw [HNL.out]
                refine UI1.out.mono ?_
                rintro e w1 ⟨rfl, rfl⟩
                go_wp2_with fail
                go_ret3
                exact retRe_some HZ.out (by simp) (evleaf_new w v HV.out) (by simp)
        · obtain rfl : y = 1 := by omega
          go_enter Tryd.func43, Tryd.ntmps43
          go_wp2_with fail
          go_ret3
          exact retRe_none (by rw [HR.out, if_pos (by omega)]) rfl (Ext.refl _)
  | succ d ih =>
    intro xs A n c k w hd hB hn hc hcm
    cases xs with
    | nil =>
      obtain rfl : n = 0 := hn
      clear hd ih
      go_enter Tryd.func43, Tryd.ntmps43
      go_wp2_with fail
      go_ret3
      exact retRe_none (rdEv_nil _) rfl (Ext.refl _)
    | cons b p =>
      have HB := Lib.hid hB
      obtain ⟨ad, rfl, hadb, hcell⟩ := hB (by simp)
      have c0 := hcell 0 b rfl
      rw [show ad.add 0 = ad from rfl] at c0
      have hb : b.toNat < 256 := b.toNat_lt
      have HR := Lib.hid (rdEv_succ d b p)
      have HN : Hid (n = p.length + 1) := Lib.hid hn
      have hn0 : 0 < n := by have := HN.out; omega
      have hn1 : n ≤ c := by rw [hn]; exact hc
      have hk16 : k < 16 := by omega
      have HK := Lib.hid hd
      have IH := Lib.hid ih
      generalize b.toNat = y at *
      clear hcell hB hn hc hd ih
      have hdd : ((k : Int) == 16) = false := by simp; omega
      by_cases h1 : 1 < y
      · have h1' : ((y : Int) == 1) = false := by simp; omega
        go_enter Tryd.func43, Tryd.ntmps43
        go_wp2_with fail
        go_ret3
        exact retRe_none (by rw [HR.out, if_pos h1]) rfl (Ext.refl _)
      · have UI := Lib.hid fun A' (c' : Nat) w' (h : BytesAt w' A' p) => uint_any p A' c' w' h (by have := HN.out; omega)
        have HNL : Hid (n - 1 = p.length) := Lib.hid (by have := HN.out; omega)
        have hn00 : ((n : Int) == 0) = false := by simp; omega
        by_cases hc1 : c = 1
        · subst hc1
          have hp : p = [] := List.eq_nil_of_length_eq_zero (by have := HN.out; omega)
          subst hp
          obtain rfl : n = 1 := by omega
          have UI0 := Lib.hid (UI.out (some ad) 0 w (BytesAt.nil_ _ _))
          have HZ : Hid (rdEv (d + 1) [b] = none) := by rw [HR.out]; exact if_neg h1
          by_cases hy : y = 0
          · subst hy
            clear HR UI
            go_enter Tryd.func43, Tryd.ntmps43
            go_wp2_with fail
            refine UI0.out.mono ?_
            rintro e w1 ⟨rfl, rfl⟩
            go_wp2_with fail
            go_ret3
            exact retRe_none HZ.out rfl (Ext.refl _)
          · obtain rfl : y = 1 := by omega
            clear HR UI
            go_enter Tryd.func43, Tryd.ntmps43
            go_wp2_with fail
            refine UI0.out.mono ?_
            rintro e w1 ⟨rfl, rfl⟩
            go_wp2_with fail
            go_ret3
            exact retRe_none HZ.out rfl (Ext.refl _)
        · have hc2 : 1 < c := by omega
          have UI1 := Lib.hid (UI.out (some ⟨ad.block, ad.off + 1, none⟩) (c - 1) w (HB.out.from_ (k := 1) (by omega)))
          clear UI
          by_cases hy : y = 0
          · subst hy
            cases hu : uintF p with
            | none =>
              rw [hu] at UI1 HR
              clear hu
              go_enter Tryd.func43, Tryd.ntmps43
              go_wp2_with fail
              rw [HNL.out]
              refine UI1.out.mono ?_
              rintro e w1 ⟨rfl, rfl⟩
              go_wp2_with fail
              go_ret3
              exact retRe_none (by rw [HR.out]; rfl) rfl (Ext.refl _)
            | some vm =>
              obtain ⟨v, m⟩ := vm
              rw [hu] at UI1 HR
              obtain ⟨u1, u2, -⟩ := uintF_facts hu
              clear hu
              have hm2 : m + 1 ≤ 9223372036854775807 := by have := HN.out; omega
              by_cases hv : mostN < v
              · have hv' : 4611686018427387904 < v := hv
                have HZ : Hid (rdEv (d + 1) (b :: p) = none) := by rw [HR.out]; exact if_pos hv
                clear hv HR
                go_enter Tryd.func43, Tryd.ntmps43
                go_wp2_with fail
                rw [HNL.out]
                refine UI1.out.mono ?_
                rintro e w1 ⟨rfl, rfl⟩
                go_wp2_with fail
                go_ret3
                exact retRe_none HZ.out rfl (Ext.refl _)
              · have hv' : ¬ 4611686018427387904 < v := hv
                have HZ : Hid (rdEv (d + 1) (b :: p) = some (.leaf v, m + 1)) := by rw [HR.out]; exact if_neg hv
                have HV : Hid (v ≤ mostN) := Lib.hid (by omega)
                clear hv HR
                go_enter Tryd.func43, Tryd.ntmps43
                go_wp2_with fail
                rw [HNL.out]
                refine UI1.out.mono ?_
                rintro e w1 ⟨rfl, rfl⟩
                go_wp2_with fail
                go_ret3
                exact retRe_some HZ.out (by simp) (evleaf_new w v HV.out) (by simp)
          · obtain rfl : y = 1 := by omega
            cases hu : uintF p with
            | none =>
              rw [hu] at UI1 HR
              clear hu
              go_enter Tryd.func43, Tryd.ntmps43
              go_wp2_with fail
              rw [HNL.out]
              refine UI1.out.mono ?_
              rintro e w1 ⟨rfl, rfl⟩
              go_wp2_with fail
              go_ret3
              exact retRe_none (by rw [HR.out]; rfl) rfl (Ext.refl _)
            | some vm =>
              obtain ⟨v, m⟩ := vm
              rw [hu] at UI1 HR
              obtain ⟨u1, u2, -⟩ := uintF_facts hu
              clear hu
              have hm2 : m + 1 ≤ 9223372036854775807 := by have := HN.out; omega
              by_cases hv : mostN < v
              · have hv' : 4611686018427387904 < v := hv
                have HZ : Hid (rdEv (d + 1) (b :: p) = none) := by rw [HR.out]; exact if_pos hv
                clear hv HR
                go_enter Tryd.func43, Tryd.ntmps43
                go_wp2_with fail
                rw [HNL.out]
                refine UI1.out.mono ?_
                rintro e w1 ⟨rfl, rfl⟩
                go_wp2_with fail
                go_ret3
                exact retRe_none HZ.out rfl (Ext.refl _)
              · have hv' : ¬ 4611686018427387904 < v := hv
                have HV : Hid (v ≤ mostN) := Lib.hid (by omega)
                have HZ : Hid (rdEv (d + 1) (b :: p) = match rdEv d (p.drop m) with
                  | none => none
                  | some (l, m') => match rdEv d (p.drop (m + m')) with
                    | none => none
                    | some (r, k) => if evBad l r then none else some (.node v l r, m + 1 + m' + k)) := by rw [HR.out]; exact if_neg hv
                clear hv HR
                have hmn : m + 1 ≤ n := by have := HN.out; omega
                by_cases hc3 : c = m + 1
                · have hp : p.drop m = [] := List.drop_eq_nil_of_le (by have := HN.out; omega)
                  have hn3 : n = m + 1 := by omega
                  have HZ0 : Hid (rdEv (d + 1) (b :: p) = none) := by rw [HZ.out, hp, rdEv_nil]; exact Lib.hid rfl
                  have IH0 := Lib.hid fun w' => IH.out [] (some ad) 0 0 (k + 1) w' (by have := HK.out; omega) (BytesAt.nil_ _ _) rfl (Nat.le_refl _) (by omega)
                  rw [rdEv_nil] at IH0
                  have HN3 := Lib.hid hn3
                  have HC3 := Lib.hid hc3
                  clear hn3 hc3
                  go_enter Tryd.func43, Tryd.ntmps43
                  go_wp2_with fail
                  rw [HNL.out]
                  refine UI1.out.mono ?_
                  rintro e w1 ⟨rfl, rfl⟩
                  have hn3 : n = m + 1 := HN3.out
                  have hc3 : c = m + 1 := HC3.out
                  subst hn3 hc3
                  go_wp2_with fail
                  refine (IH0.out _).mono ?_
                  rintro e w2 ⟨rfl, hb2⟩
                  go_wp2_with fail
                  go_ret3
                  exact retRe_none HZ0.out rfl (Ext.trans (by simp) hb2)
                · go_enter Tryd.func43, Tryd.ntmps43
                  go_wp2_with fail
                  rw [HNL.out]
                  refine UI1.out.mono ?_
                  rintro e w1 ⟨rfl, rfl⟩
                  go_wp2_with fail
                  generalize hW : w.alloc (Obj.cells #[.int .u64 0, .int .u64 (v : Int), .pointer none, .pointer none] 103) = wa
                  have Ea : Ext w wa := by rw [← hW]; simp
                  have BX : Hid (Box4 wa w.heap.size v) := by rw [← hW]; exact Box4.new w v
                  have za : wa.heap.size = w.heap.size + 1 := by rw [← hW]; simp
                  have ZA := Lib.hid za
                  clear hW za
                  refine (IH.out (p.drop m) _ (n - (m + 1)) (c - (m + 1)) (k + 1) _ (by have := HK.out; omega) (by have := (HB.out.ext Ea).from_ (k := m + 1) (by omega); rwa [List.drop_succ_cons] at this) (by have := HN.out; rw [List.length_drop]; omega) (by have := HN.out; rw [List.length_drop]; omega) (by omega)).mono ?_
                  cases hr1 : rdEv d (p.drop m) with
                  | none =>
                    rintro e w2 ⟨rfl, hb2⟩
                    have HZ0 : Hid (rdEv (d + 1) (b :: p) = none) := by rw [HZ.out, hr1]; exact Lib.hid rfl
                    clear hr1
                    go_wp2_with fail
                    go_ret3
                    exact retRe_none HZ0.out rfl (Ea.trans hb2)
                  | some lm =>
                    obtain ⟨l, m'⟩ := lm
                    rintro e w2 ⟨v2, rfl, hv2, hb2⟩
                    have V2 := Lib.hid hv2
                    obtain ⟨bl, rfl⟩ := hv2.at_.ptr
                    obtain ⟨m1, m2, -⟩ := rdEv_facts d _ l m' hr1
                    rw [List.length_drop] at m2
                    have HZ1 : Hid (rdEv (d + 1) (b :: p) = match rdEv d (p.drop (m + m')) with
                      | none => none
                      | some (r, k) => if evBad l r then none else some (.node v l r, m + 1 + m' + k)) := by rw [HZ.out, hr1]; exact Lib.hid rfl
                    have hmn2 : m + 1 + m' ≤ n := by have := HN.out; omega
                    have hm3 : m + 1 + m' ≤ 9223372036854775807 := by omega
                    clear hr1 HZ hv2
                    by_cases hc4 : c = m + 1 + m'
                    · have hp : p.drop (m + m') = [] := List.drop_eq_nil_of_le (by have := HN.out; omega)
                      have hn3 : n = m + 1 + m' := by omega
                      have HZ0 : Hid (rdEv (d + 1) (b :: p) = none) := by rw [HZ1.out, hp, rdEv_nil]; exact Lib.hid rfl
                      have IH0 := Lib.hid fun w' => IH.out [] (some ad) 0 0 (k + 1) w' (by have := HK.out; omega) (BytesAt.nil_ _ _) rfl (Nat.le_refl _) (by omega)
                      rw [rdEv_nil] at IH0
                      subst hn3 hc4
                      go_wp2_with fail
                      refine (IH0.out _).mono ?_
                      rintro e w3 ⟨rfl, hb3⟩
                      go_wp2_with fail
                      go_quiet (fail)
                      go_wp2_with fail
                      go_ret3
                      exact retRe_none HZ0.out rfl ((Ea.trans (hb2.trans hb3)).drewN _)
                    · go_wp2_with fail
                      refine (IH.out (p.drop (m + m')) _ (n - (m + 1 + m')) (c - (m + 1 + m')) (k + 1) _ (by have := HK.out; omega) (by have := (HB.out.ext (Ea.trans hb2)).after (m + 1 + m'); rwa [show (b :: p).drop (m + 1 + m') = p.drop (m + m') from by rw [show m + 1 + m' = (m + m') + 1 by omega]; rfl] at this) (by have := HN.out; rw [List.length_drop]; omega) (by have := HN.out; rw [List.length_drop]; omega) (by omega)).mono ?_
                      cases hr2 : rdEv d (p.drop (m + m')) with
                      | none =>
                        rintro e w3 ⟨rfl, hb3⟩
                        have HZ0 : Hid (rdEv (d + 1) (b :: p) = none) := by rw [HZ1.out, hr2]; exact Lib.hid rfl
                        clear hr2 HZ1
                        go_wp2_with fail
                        go_quiet (fail)
                        go_wp2_with fail
                        go_ret3
                        exact retRe_none HZ0.out rfl ((Ea.trans (hb2.trans hb3)).drewN _)
                      | some rm =>
                        obtain ⟨r, q⟩ := rm
                        rintro e w3 ⟨v3, rfl, hv3, hb3⟩
                        have V3 := Lib.hid hv3
                        have V23 := Lib.hid (V2.out.ext hb3)
                        have LA := Lib.hid fun w' (hx : Ext w3 w') => leaf_any _ _ w' (V23.out.at_.ext hx)
                        have LB := Lib.hid fun w' (hx : Ext w3 w') => leaf_any _ _ w' (hv3.at_.ext hx)
                        obtain ⟨br, rfl⟩ := hv3.at_.ptr
                        obtain ⟨bl', ql, qr, el, l0, l1, -, -, -, -⟩ := V23.out.at_.kids
                        obtain ⟨br', ql', qr', er, r0, r1, -, -, -, -⟩ := hv3.at_.kids
                        obtain rfl : bl = bl' := by simpa using el
                        obtain rfl : br = br' := by simpa using er
                        obtain ⟨m3, m4, -⟩ := rdEv_facts d _ r q hr2
                        rw [List.length_drop] at m4
                        have HZ2 : Hid (rdEv (d + 1) (b :: p) = if evBad l r then none else some (.node v l r, m + 1 + m' + q)) := by rw [HZ1.out, hr2]; exact Lib.hid rfl
                        have hq : m + 1 + m' + q ≤ 9223372036854775807 := by have := HN.out; omega
                        have BX3 := Lib.hid (BX.out.ext (hb2.trans hb3))
                        obtain ⟨-, -, x2, x3, y2, y3, -⟩ := BX3.out
                        have E3 := Ea.trans (hb2.trans hb3)
                        have zz : w.heap.size + 1 ≤ w2.heap.size := by have := hb2.size; have := ZA.out; omega
                        have NODE : Hid (∀ nq : Nat, EvFrom w.heap.size (((w3.drewN nq).setCell ⟨w.heap.size, 2, none⟩ (.pointer (some ⟨bl, 0, none⟩))).setCell ⟨w.heap.size, 3, none⟩ (.pointer (some ⟨br, 0, none⟩))) (.pointer (some ⟨w.heap.size, 0, none⟩)) (.node v l r)) := fun nq =>
                          Box4.node (BX3.out.ext (by simp)) HV.out ((V23.out.ext (by simp)).mono (by have := ZA.out; omega)) ((V3.out.ext (by simp)).mono zz)
                        have n1 := run_neq_wide0 l.n
                        have n2 := run_neq_wide0 r.n
                        have n3 := run_eql_wide l.n r.n
                        have EB : Hid (evBad l r = ((!(l.n == 0) && !(r.n == 0)) || (l.isLeaf && r.isLeaf && l.n == r.n))) := Lib.hid rfl
                        clear hr2 HZ1 hv3 el er m4 zz BX BX3 V2 V3 V23
                        cases z1 : (l.n == 0) <;> cases z2 : (r.n == 0)
                        · rw [z1] at n1 EB
                          rw [z2] at n2 EB
                          clear z1 z2
                          go_wp2_with fail
                          go_quiet (fail)
                          go_wp2_with fail
                          go_ret3
                          exact retRe_none (by rw [HZ2.out, EB.out]; rfl) rfl (E3.drewN _)
                        all_goals
                          rw [z1] at n1 EB
                          rw [z2] at n2 EB
                          clear z1 z2
                          cases la : l.isLeaf
                          · rw [la] at LA EB
                            clear la
                            go_wp2_with fail
                            go_quiet ((go_at_call_of 58 (Value.pointer (some ⟨bl, 0, none⟩)); exact quietOf LA.out (Ext.refl _)))
                            go_wp2_with fail
                            go_ret3
                            exact retRe_some (t := .node v l r) (n := m + 1 + m' + q) (by rw [HZ2.out, EB.out]; rfl) (by simp) (NODE.out _) (((E3.drewN _).set (Nat.le_refl _) _).set (Nat.le_refl _) _)
                          · rw [la] at LA EB
                            clear la
                            cases lb : r.isLeaf
                            · rw [lb] at LB EB
                              clear lb
                              go_wp2_with fail
                              go_quiet (first
                                | (go_at_call_of 58 (Value.pointer (some ⟨bl, 0, none⟩)); exact quietOf LA.out (Ext.refl _))
                                | (go_at_call_of 58 (Value.pointer (some ⟨br, 0, none⟩)); exact quietOf LB.out (Ext.refl _)))
                              go_wp2_with fail
                              go_ret3
                              exact retRe_some (t := .node v l r) (n := m + 1 + m' + q) (by rw [HZ2.out, EB.out]; rfl) (by simp) (NODE.out _) (((E3.drewN _).set (Nat.le_refl _) _).set (Nat.le_refl _) _)
                            · rw [lb] at LB EB
                              clear lb
                              cases z3 : (l.n == r.n)
                              all_goals
                                rw [z3] at n3 EB
                                clear z3
                                go_wp2_with fail
                                go_quiet (first
                                  | (go_at_call_of 58 (Value.pointer (some ⟨bl, 0, none⟩)); exact quietOf LA.out (Ext.refl _))
                                  | (go_at_call_of 58 (Value.pointer (some ⟨br, 0, none⟩)); exact quietOf LB.out (Ext.refl _)))
                                go_wp2_with fail
                                go_ret3
                                first
                                  | exact retRe_some (t := .node v l r) (n := m + 1 + m' + q) (by rw [HZ2.out, EB.out]; rfl) (by simp) (NODE.out _) (((E3.drewN _).set (Nat.le_refl _) _).set (Nat.le_refl _) _)
                                  | exact retRe_none (by rw [HZ2.out, EB.out]; rfl) rfl (E3.drewN _)
end Go.Proofs.YthnmhdabdiennaaDoor
