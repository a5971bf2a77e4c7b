/- The walk over the reader of identities. -/
import Derived.Test.YthnmhdabdiennaaDoorK19
namespace Go.Proofs.YthnmhdabdiennaaDoor
open Go.RowKit
attribute [local go_sem ↓] Go.wp_at_zero Go.wp_at_succ
def RetRd (r : Option (IdT × Nat)) (w : World) (e : Ending) (w' : World) : Prop := match r with
  | none => e = .returned (.tuple #[.pointer none, .int .i64 0, .bool false]) ∧ Ext w w'
  | some (i, n) => ∃ v, e = .returned (.tuple #[v, .int .i64 n, .bool true]) ∧ IdAt w' v i ∧ Ext w w'
theorem retRd_none {r : Option (IdT × Nat)} {w w' : World} {e : Ending} (h : r = none) (he : e = .returned (.tuple #[.pointer none, .int .i64 0, .bool false])) (hx : Ext w w') : RetRd r w e w' := by rw [h]; exact ⟨he, hx⟩
theorem retRd_some {r : Option (IdT × Nat)} {w w' : World} {e : Ending} {v : Value} {i : IdT} {n : Nat} (h : r = some (i, n)) (he : e = .returned (.tuple #[v, .int .i64 n, .bool true])) (hi : IdAt w' v i) (hx : Ext w w') : RetRd r w e w' := by rw [h]; exact ⟨v, he, hi, hx⟩
theorem pick_ok {α : Type} {l r : IdT} (hz : (l.isZero && r.isZero) = false) (ho : (l.isOne && r.isOne) = false) (a b : α) : (if (l.isZero && r.isZero) || (l.isOne && r.isOne) then a else b) = b := by rw [hz, ho]; rfl
theorem BytesAt.nil_ (w : World) (A : Option Addr) : BytesAt w A [] := fun h => absurd h (by simp)
theorem BytesAt.from_ {w : World} {ad : Addr} {xs : List UInt8} (h : BytesAt w (some ad) xs) {k : Nat} (hk : 0 < k) : BytesAt w (some ⟨ad.block, ad.off + k, none⟩) (xs.drop k) := by
  have := h.cut (k := k) (c := xs.length + k + 1) (by omega)
  rw [if_neg (by omega)] at this
  simpa [Addr.add, Nat.pos_iff_ne_zero.1 hk] using this
theorem BytesAt.after {w : World} {ad : Addr} {xs : List UInt8} (h : BytesAt w (some ad) xs) (k : Nat) : BytesAt w (some (ad.add k)) (xs.drop k) := by
  have := h.cut (k := k) (c := xs.length + k + 1) (by omega)
  rw [if_neg (by omega)] at this
  exact this
set_option maxHeartbeats 4000000 in
theorem rdid_any (d : Nat) : ∀ (xs : List UInt8) (A : Option Addr) (n c k : Nat) (w : World), k + d = 16 → BytesAt w A xs → n = xs.length → xs.length ≤ c → c ≤ 9223372036854775807 → Calls Tryd.prog 42 #[.slice A n c, .int .i64 (k : Int)] w (RetRd (rdId d xs) w) := by
  induction d with
  | zero =>
    intro xs A n c k w hd hB hn hc hcm
    cases xs with
    | nil =>
      obtain rfl : n = 0 := hn
      clear hd
      go_enter Tryd.func42, Tryd.ntmps42
      go_wp2_with fail
      go_ret3
      exact retRd_none (by rfl) rfl (Ext.refl _)
    | cons b p =>
      obtain ⟨ad, rfl, hadb, hcell⟩ := hB (by simp)
      have c0 := hcell 0 b rfl
      rw [show ad.add 0 = ad from rfl] at c0
      have hb : b.toNat < 256 := b.toNat_lt
      have HR : Hid (rdId 0 (b :: p) = if b.toNat = 0 then some (.zero, 1) else if b.toNat = 1 then some (.one, 1) else none) := by rw [rdId]; exact Lib.hid rfl
      have HN : Hid (n = p.length + 1) := Lib.hid hn
      have hn0 : 0 < n := by have := HN.out; omega
      have hn1 : n ≤ c := by rw [hn]; exact hc
      obtain rfl : k = 16 := by omega
      generalize b.toNat = y at *
      clear hcell hB hn hc hd
      have hdd : (((16 : Nat) : Int) == 16) = true := by decide
      by_cases h0 : y = 0
      · subst h0
        go_enter Tryd.func42, Tryd.ntmps42
        go_wp2_with fail
        go_ret3
        exact retRd_some (i := .zero) (n := 1) (by rw [HR.out]; rfl) rfl rfl (Ext.refl _)
      · by_cases h1 : y = 1
        · subst h1
          go_enter Tryd.func42, Tryd.ntmps42
          go_wp2_with fail
          go_ret3
          exact retRd_some (i := .one) (n := 1) (by rw [HR.out]; rfl) rfl (id_new_at rfl (l := .zero) (r := .zero) rfl rfl) (by simp)
        · by_cases h2 : 2 < y
          · go_enter Tryd.func42, Tryd.ntmps42
            go_wp2_with fail
            go_ret3
            exact retRd_none (by rw [HR.out, if_neg h0, if_neg h1]) rfl (Ext.refl _)
          · obtain rfl : y = 2 := by omega
            go_enter Tryd.func42, Tryd.ntmps42
            go_wp2_with fail
            go_ret3
            exact retRd_none (by rw [HR.out]; rfl) rfl (Ext.refl _)
  | succ d ih =>
    intro xs A n c k w hd hB hn hc hcm
    cases xs with
    | nil =>
      obtain rfl : n = 0 := hn
      clear hd ih
      go_enter Tryd.func42, Tryd.ntmps42
      go_wp2_with fail
      go_ret3
      exact retRd_none (by rfl) rfl (Ext.refl _)
    | cons b p =>
      have HB := Lib.hid hB
      obtain ⟨ad, rfl, hadb, hcell⟩ := hB (by simp)
      have c0 := hcell 0 b rfl
      rw [show ad.add 0 = ad from rfl] at c0
      have hb : b.toNat < 256 := b.toNat_lt
      have HR : Hid (rdId (d + 1) (b :: p) = if b.toNat = 0 then some (.zero, 1) else if b.toNat = 1 then some (.one, 1) else if 2 < b.toNat then none else
        match rdId d p with
        | none => none
        | some (l, n) => match rdId d (p.drop n) with
          | none => none
          | some (r, m) => if (l.isZero && r.isZero) || (l.isOne && r.isOne) then none else some (.node l r, 1 + n + m)) := by rw [rdId]; exact Lib.hid rfl
      have HN : Hid (n = p.length + 1) := Lib.hid hn
      have hn0 : 0 < n := by have := HN.out; omega
      have hn1 : n ≤ c := by rw [hn]; exact hc
      have hk16 : k < 16 := by omega
      have HK := Lib.hid hd
      have IH := Lib.hid ih
      generalize b.toNat = y at *
      clear hcell hB hn hc hd ih
      have hdd : ((k : Int) == 16) = false := by simp; omega
      by_cases h0 : y = 0
      · subst h0
        go_enter Tryd.func42, Tryd.ntmps42
        go_wp2_with fail
        go_ret3
        exact retRd_some (i := .zero) (n := 1) (by rw [HR.out]; rfl) rfl rfl (Ext.refl _)
      · by_cases h1 : y = 1
        · subst h1
          go_enter Tryd.func42, Tryd.ntmps42
          go_wp2_with fail
          go_ret3
          exact retRd_some (i := .one) (n := 1) (by rw [HR.out]; rfl) rfl (id_new_at rfl (l := .zero) (r := .zero) rfl rfl) (by simp)
        · by_cases h2 : 2 < y
          · go_enter Tryd.func42, Tryd.ntmps42
            go_wp2_with fail
            go_ret3
            exact retRd_none (by rw [HR.out, if_neg h0, if_neg h1, if_pos h2]) rfl (Ext.refl _)
          · obtain rfl : y = 2 := by omega
            clear h0 h1 h2 hb
            by_cases hc1 : c = 1
            · subst hc1
              have hp : p = [] := List.eq_nil_of_length_eq_zero (by have := HN.out; omega)
              obtain rfl : n = 1 := by omega
              go_enter Tryd.func42, Tryd.ntmps42
              go_wp2_with fail
              refine (IH.out [] (some ad) 0 0 (k + 1) _ (by have := HK.out; omega) (BytesAt.nil_ _ _) rfl (Nat.le_refl _) (by omega)).mono ?_
              intro e w1 he
              have he' : RetRd none w e w1 := by cases d <;> exact he
              obtain ⟨rfl, hb1⟩ := he'
              go_wp2_with fail
              go_ret3
              exact retRd_none (by rw [HR.out, hp]; cases d <;> rfl) rfl hb1
            · have hc2 : 1 < c := by omega
              go_enter Tryd.func42, Tryd.ntmps42
              go_wp2_with fail
              refine (IH.out p _ (n - 1) (c - 1) (k + 1) _ (by have := HK.out; omega) (HB.out.from_ (k := 1) (by omega)) (by have := HN.out; omega) (by have := HN.out; omega) (by omega)).mono ?_
              cases hr1 : rdId d p with
              | none =>
                rintro e w1 ⟨rfl, hb1⟩
                have HR1 := Lib.hid hr1
                clear hr1
                go_wp2_with fail
                go_ret3
                exact retRd_none (by rw [HR.out, HR1.out]; rfl) rfl hb1
              | some li =>
                obtain ⟨l, m⟩ := li
                rintro e w1 ⟨v1, rfl, hv1, hb1⟩
                obtain ⟨q1, rfl⟩ := hv1.ptr
                have V1 := Lib.hid hv1
                have HR1 := Lib.hid hr1
                obtain ⟨m1, m2, -, -, -⟩ := rdId_facts d p l m hr1
                have HNN : n = p.length + 1 := HN.out
                clear hr1 hv1
                have hm3 : 1 + m ≤ n := by omega
                clear HNN
                have HZ : Hid (rdId (d + 1) (b :: p) = match rdId d (p.drop m) with
                    | none => none
                    | some (r, m') => if (l.isZero && r.isZero) || (l.isOne && r.isOne) then none else some (.node l r, 1 + m + m')) := by
                  have := HR.out
                  rw [HR1.out] at this
                  exact this
                clear HR
                by_cases hc3 : c = 1 + m
                · have hp : p.drop m = [] := List.drop_eq_nil_of_le (by have := HN.out; omega)
                  have hn3 : n = 1 + m := by omega
                  subst hn3 hc3
                  go_wp2_with fail
                  refine (IH.out [] (some ad) 0 0 (k + 1) _ (by have := HK.out; omega) (BytesAt.nil_ _ _) rfl (Nat.le_refl _) (by omega)).mono ?_
                  intro e w2 he
                  have he' : RetRd none w1 e w2 := by cases d <;> exact he
                  obtain ⟨rfl, hb2⟩ := he'
                  go_wp2_with fail
                  go_ret3
                  exact retRd_none (by rw [HZ.out, hp]; cases d <;> rfl) rfl (hb1.trans hb2)
                · go_wp2_with fail
                  refine (IH.out (p.drop m) _ (n - (1 + m)) (c - (1 + m)) (k + 1) _ (by have := HK.out; omega) (by have := (HB.out.ext hb1).after (1 + m); rwa [Nat.add_comm 1 m, List.drop_succ_cons, Nat.add_comm m 1] at this) (by have := HN.out; rw [List.length_drop]; omega) (by have := HN.out; rw [List.length_drop]; omega) (by omega)).mono ?_
                  cases hr2 : rdId d (p.drop m) with
                  | none =>
                    rintro e w2 ⟨rfl, hb2⟩
                    have HR2 := Lib.hid hr2
                    clear hr2
                    go_wp2_with fail
                    go_ret3
                    exact retRd_none (by rw [HZ.out, HR2.out]) rfl (hb1.trans hb2)
                  | some ri =>
                    obtain ⟨r, m'⟩ := ri
                    rintro e w2 ⟨v2, rfl, hv2, hb2⟩
                    have V2 := Lib.hid hv2
                    have V12 := Lib.hid (V1.out.ext hb2)
                    have HR2 := Lib.hid hr2
                    obtain ⟨-, m3, -, -, -⟩ := rdId_facts d _ r m' hr2
                    rw [List.length_drop] at m3
                    have hsz : 1 + m + m' ≤ n := by have := HN.out; omega
                    clear hr2 m3 m2
                    have WL := Lib.hid fun w' (hx : Ext w2 w') => whole_any l _ w' (V12.out.ext hx)
                    have WR := Lib.hid fun w' (hx : Ext w2 w') => whole_any r _ w' (hv2.ext hx)
                    have E2 := hb1.trans hb2
                    rcases V12.out.zero_or with ⟨hl, e1⟩ | ⟨hl, b1, e1⟩ <;> rcases hv2.zero_or with ⟨hr, e2⟩ | ⟨hr, b2, e2⟩
                    · obtain rfl := Value.pointer.inj e1
                      subst e2 hl hr
                      clear hv2 e1 WL WR
                      go_wp2_with fail
                      go_ret3
                      exact retRd_none (by rw [HZ.out, HR2.out]; rfl) rfl E2
                    · obtain rfl := Value.pointer.inj e1
                      subst e2 hl
                      have HRz := Lib.hid hr
                      clear hv2 e1 hr
                      go_wp2_with fail
                      refine (WL.out _ (Ext.refl _)).mono ?_
                      rintro e w3 ⟨rfl, rfl⟩
                      simp only [IdT.isOne]
                      go_wp2_with fail
                      go_ret3
                      exact retRd_some (i := .node .zero r) (n := 1 + m + m') (by rw [HZ.out, HR2.out]; exact pick_ok (by rw [HRz.out]; rfl) rfl _ _) (by simp) (id_new_at rfl rfl V2.out) (E2.alloc _)
                    · obtain rfl := Value.pointer.inj e1
                      subst e2 hr
                      have HLz := Lib.hid hl
                      clear hv2 e1 hl
                      cases hone : l.isOne <;>
                      · rw [hone] at WL
                        have HO := Lib.hid hone
                        clear hone
                        go_wp2_with (first
                          | (go_at_call_of 56 (Value.pointer (some ⟨b1, 0, none⟩)); refine (WL.out _ (Ext.refl _)).mono ?_; rintro e w3 ⟨rfl, rfl⟩)
                          | (go_at_call_of 56 (Value.pointer none); refine (WR.out _ (Ext.refl _)).mono ?_; rintro e w3 ⟨rfl, rfl⟩; simp only [IdT.isOne]))
                        go_ret3
                        exact retRd_some (i := .node l .zero) (n := 1 + m + m') (by rw [HZ.out, HR2.out]; exact pick_ok (by rw [HLz.out]; rfl) (by rw [HO.out]; rfl) _ _) (by simp) (id_new_at rfl V12.out rfl) (E2.alloc _)
                    · obtain rfl := Value.pointer.inj e1
                      subst e2
                      have HLz := Lib.hid hl
                      have HRz := Lib.hid hr
                      clear hv2 e1 hl hr
                      cases hone : l.isOne <;> cases honer : r.isOne <;>
                      · rw [hone] at WL
                        rw [honer] at WR
                        have HO := Lib.hid hone
                        have HO' := Lib.hid honer
                        clear hone honer
                        go_wp2_with (first
                          | (go_at_call_of 56 (Value.pointer (some ⟨b1, 0, none⟩)); refine (WL.out _ (Ext.refl _)).mono ?_; rintro e w3 ⟨rfl, rfl⟩)
                          | (go_at_call_of 56 (Value.pointer (some ⟨b2, 0, none⟩)); refine (WR.out _ (Ext.refl _)).mono ?_; rintro e w3 ⟨rfl, rfl⟩))
                        go_ret3
                        first
                          | exact retRd_some (i := .node l r) (n := 1 + m + m') (by rw [HZ.out, HR2.out]; exact pick_ok (by rw [HLz.out]; rfl) (by rw [HO.out, HO'.out]; rfl) _ _) (by simp) (id_new_at rfl V12.out V2.out) (E2.alloc _)
                          | exact retRd_none (by rw [HZ.out, HR2.out]; simp only [HLz.out, HRz.out, HO.out, HO'.out]; rfl) rfl E2
end Go.Proofs.YthnmhdabdiennaaDoor
