/- The walks over the texts of identities and event trees (of small numbers). -/
import Derived.Test.YthnmhdabdiennaaDoorK14
import Derived.Test.YthnmhdabdiennaaDoorShelf
namespace Go.Proofs.YthnmhdabdiennaaDoor
open Go.RowKit
attribute [local go_sem ↓] Go.wp_at_zero Go.wp_at_succ
abbrev Str (l : List UInt8) : Value := .string ⟨l.toArray⟩
def RetT (l : List UInt8) (w : World) (e : Ending) (w' : World) : Prop := e = .returned (Str l) ∧ Ext w w'
set_option maxHeartbeats 400000 in
theorem fmt_small (n : Nat) (w : World) (h : n < 100) : Calls Tryd.prog 72 #[.int .u64 n, .int .i64 10] w (RetT (Lib.decDigits n) w) := by
  have hd : decide (n < 100) = true := by simpa using h
  have h80 : Hid (∀ w, Calls Tryd.prog 80 #[.int .u64 n, .int .i64 10] w (RetT (Lib.decDigits n) w)) := by
    intro w
    go_enter Tryd.func80, Tryd.ntmps80
    go_wp2_with (go_at_call 82; refine (Tryd.internal_strconv_small n h _).mono ?_; rintro e w1 ⟨rfl, rfl⟩)
    go_ret
    exact ⟨rfl, Ext.refl _⟩
  go_enter Tryd.func72, Tryd.ntmps72
  go_wp2_with (go_at_call 80; refine (h80.out _).mono ?_; rintro e w1 ⟨rfl, hb⟩)
  go_ret
  exact ⟨rfl, hb⟩
def idText : IdT → List UInt8
  | .zero => [48]
  | .node l r => if IdT.isOne (.node l r) then [49] else 40 :: (idText l ++ 44 :: (idText r ++ [41]))
theorem cat5 (x y : List UInt8) : Value.string (ByteArray.mk #[40] ++ ByteArray.mk x.toArray ++ ByteArray.mk #[44] ++ ByteArray.mk y.toArray ++ ByteArray.mk #[41]) = Str (40 :: (x ++ 44 :: (y ++ [41]))) := by
  show Value.string (ByteArray.mk [40].toArray ++ ByteArray.mk x.toArray ++ ByteArray.mk [44].toArray ++ ByteArray.mk y.toArray ++ ByteArray.mk [41].toArray) = _
  simp only [ByteArray.mk_append_mk]
  simp [Str]
theorem cat7 (z x y : List UInt8) : Value.string (ByteArray.mk #[40] ++ ByteArray.mk z.toArray ++ ByteArray.mk #[44] ++ ByteArray.mk x.toArray ++ ByteArray.mk #[44] ++ ByteArray.mk y.toArray ++ ByteArray.mk #[41]) = Str (40 :: (z ++ 44 :: (x ++ 44 :: (y ++ [41])))) := by
  show Value.string (ByteArray.mk [40].toArray ++ ByteArray.mk z.toArray ++ ByteArray.mk [44].toArray ++ ByteArray.mk x.toArray ++ ByteArray.mk [44].toArray ++ ByteArray.mk y.toArray ++ ByteArray.mk [41].toArray) = _
  simp only [ByteArray.mk_append_mk]
  simp [Str]
set_option maxHeartbeats 1000000 in
theorem idtext_any (i : IdT) : ∀ (v : Value) (w : World), IdAt w v i → (idText i).length ≤ 1099511627776 → Calls Tryd.prog 46 #[v] w (RetT (idText i) w) := by
  induction i with
  | zero =>
    rintro v w rfl _
    go_enter Tryd.func46, Tryd.ntmps46
    go_wp2_with fail
    go_ret
    exact ⟨rfl, Ext.refl _⟩
  | node l r ihl ihr =>
    intro v w h hlen
    have hw := whole_any _ v w h
    obtain ⟨b, ql, qr, rfl, h0, h1, hbs, hl, hr⟩ := h.node_parts
    have HW := Lib.hid hw
    clear h hw
    cases hone : (IdT.node l r).isOne with
    | true =>
      have H : Hid (idText (.node l r) = [49]) := by simp [Hid, idText, hone]
      rw [hone] at HW
      go_enter Tryd.func46, Tryd.ntmps46
      go_wp2_with (go_at_call 56; refine HW.out.mono ?_; rintro e w1 ⟨rfl, rfl⟩)
      go_ret
      exact ⟨by rw [H.out]; rfl, Ext.refl _⟩
    | false =>
      have H : Hid (idText (.node l r) = 40 :: (idText l ++ 44 :: (idText r ++ [41]))) := by simp [Hid, idText, hone]
      rw [H.out] at hlen
      simp only [List.length_cons, List.length_append, List.length_nil] at hlen
      have IL := Lib.hid fun w' (hx : Ext w w') => ihl _ w' (hl.ext hx) (by omega)
      have IR := Lib.hid fun w' (hx : Ext w w') => ihr _ w' (hr.ext hx) (by omega)
      clear ihl ihr hl hr
      generalize idText l = x at *
      generalize idText r = y at *
      have s1 : ¬ (9223372036854775807 < 1 + x.length) := by omega
      have s2 : ¬ (9223372036854775807 < 1 + x.length + 1) := by omega
      have s3 : ¬ (9223372036854775807 < 1 + x.length + 1 + y.length) := by omega
      have s4 : ¬ (9223372036854775807 < 1 + x.length + 1 + y.length + 1) := by omega
      clear hlen
      rw [hone] at HW
      go_enter Tryd.func46, Tryd.ntmps46
      go_wp2_with (go_at_call 56; refine HW.out.mono ?_; rintro e w1 ⟨rfl, rfl⟩)
      go_region_held3 (fun w' => Ext w w' ∧ ∀ b o, b < w.heap.size → w'.cell? ⟨b, o, none⟩ = w.cell? ⟨b, o, none⟩)
        (refine Ext.held ?_ <;> repeat (first | assumption | exact Ext.refl _ | apply Ext.alloc | apply Ext.drew | apply Ext.drewN))
        (first
          | (go_at_call_of 46 (Value.pointer ql); go_split_ands; refine (IL.out _ (by assumption)).mono ?_; rintro e w1 ⟨rfl, hbb⟩; have hE1 : Ext w w1 := Ext.trans (by assumption) hbb)
          | (go_at_call_of 46 (Value.pointer qr); go_split_ands; refine (IR.out _ (by assumption)).mono ?_; rintro e w2 ⟨rfl, hbb⟩; have hE2 : Ext w w2 := Ext.trans (by assumption) hbb))
      go_wp2_with fail
      go_ret
      refine ⟨?_, hE2⟩
      rw [H.out]
      exact congrArg Ending.returned (cat5 x y)
def evText : EvT → List UInt8
  | .leaf n => Lib.decDigits n
  | .node n l r => 40 :: (Lib.decDigits n ++ 44 :: (evText l ++ 44 :: (evText r ++ [41])))
def EvT.all (ok : Nat → Prop) : EvT → Prop
  | .leaf n => ok n
  | .node n l r => ok n ∧ l.all ok ∧ r.all ok
/-- FormatUint on some numbers. -/
def Fmt (ok : Nat → Prop) (w : World) : Prop := ∀ n w', ok n → Ext w w' → Calls Tryd.prog 72 #[.int .u64 (lo n), .int .i64 10] w' (RetT (Lib.decDigits n) w')
theorem Fmt.ext {ok : Nat → Prop} {w w' : World} (h : Fmt ok w) (k : Ext w w') : Fmt ok w' := fun n w'' hn hx => h n w'' hn (k.trans hx)
theorem fmt_ok_small (w : World) : Fmt (· < 100) w := fun n w' hn _ => by
  have : lo n = n := by unfold lo; have : n < 100 := hn; omega
  rw [this]; exact fmt_small n w' hn
set_option maxHeartbeats 2000000 in
theorem evtext_any (ok : Nat → Prop) (t : EvT) : ∀ (v : Value) (w : World), EvAt w v t → t.all ok → Fmt ok w → (evText t).length ≤ 1099511627776 → Calls Tryd.prog 47 #[v] w (RetT (evText t) w) := by
  induction t with
  | leaf n =>
    intro v w h ha hf hlen
    have LA := Lib.hid fun w' (hx : Ext w w') => leaf_any _ _ w' (h.ext hx)
    have HF := Lib.hid fun w' (hx : Ext w w') => hf n w' ha hx
    obtain ⟨b, ql, qr, rfl, h0, h1, h2, h3, hbs, hk⟩ := h.kids
    simp only [EvT.n_leaf, EvT.isLeaf_leaf] at *
    clear hk h hf hlen ha
    go_enter Tryd.func47, Tryd.ntmps47
    go_wp2_with fail
    refine (HF.out _ (Ext.refl w)).mono ?_
    rintro e w1 ⟨rfl, hb1⟩
    go_wp2_with fail
    refine (LA.out _ hb1).mono ?_
    rintro e w2 ⟨rfl, rfl⟩
    go_wp2_with fail
    go_ret
    exact ⟨rfl, hb1⟩
  | node n l r ihl ihr =>
    intro v w h ha hf hlen
    have LA := Lib.hid fun w' (hx : Ext w w') => leaf_any _ _ w' (h.ext hx)
    have HF := Lib.hid fun w' (hx : Ext w w') => hf n w' ha.1 hx
    obtain ⟨b, bl, br, rfl, h0, h1, h2, h3, hbs, hl, hr⟩ := h.node_parts
    have H : Hid (evText (.node n l r) = 40 :: (Lib.decDigits n ++ 44 :: (evText l ++ 44 :: (evText r ++ [41])))) := rfl
    rw [H.out] at hlen
    simp only [List.length_cons, List.length_append, List.length_nil] at hlen
    have IL := Lib.hid fun w' (hx : Ext w w') => ihl _ w' (hl.ext hx) ha.2.1 (hf.ext hx) (by omega)
    have IR := Lib.hid fun w' (hx : Ext w w') => ihr _ w' (hr.ext hx) ha.2.2 (hf.ext hx) (by omega)
    simp only [EvT.isLeaf_node] at *
    clear ihl ihr hl hr h hf ha
    generalize Lib.decDigits n = z at *
    generalize evText l = x at *
    generalize evText r = y at *
    have s1 : ¬ (9223372036854775807 < 1 + z.length) := by omega
    have s2 : ¬ (9223372036854775807 < 1 + z.length + 1) := by omega
    have s3 : ¬ (9223372036854775807 < 1 + z.length + 1 + x.length) := by omega
    have s4 : ¬ (9223372036854775807 < 1 + z.length + 1 + x.length + 1) := by omega
    have s5 : ¬ (9223372036854775807 < 1 + z.length + 1 + x.length + 1 + y.length) := by omega
    have s6 : ¬ (9223372036854775807 < 1 + z.length + 1 + x.length + 1 + y.length + 1) := by omega
    clear hlen
    go_enter Tryd.func47, Tryd.ntmps47
    go_wp2_with fail
    refine (HF.out _ (Ext.refl w)).mono ?_
    rintro e w0 ⟨rfl, hb0⟩
    replace h0 := hb0.cell h0
    replace h2 := hb0.cell h2
    replace h3 := hb0.cell h3
    have hbz := hb0.lt _ hbs
    go_wp2_with fail
    refine (LA.out _ hb0).mono ?_
    rintro e w2 ⟨rfl, rfl⟩
    go_wp2_with fail
    go_region_held3 (fun w' => Ext w0 w' ∧ ∀ b o, b < w0.heap.size → w'.cell? ⟨b, o, none⟩ = w0.cell? ⟨b, o, none⟩)
      (refine Ext.held ?_ <;> repeat (first | assumption | exact Ext.refl _ | apply Ext.alloc | apply Ext.drew | apply Ext.drewN))
      (first
        | (go_at_call_of 47 (Value.pointer (some ⟨bl, 0, none⟩)); go_split_ands; refine (IL.out _ (hb0.trans (by assumption))).mono ?_; rintro e w1 ⟨rfl, hbb⟩; have hE1 : Ext w0 w1 := Ext.trans (by assumption) hbb)
        | (go_at_call_of 47 (Value.pointer (some ⟨br, 0, none⟩)); go_split_ands; refine (IR.out _ (hb0.trans (by assumption))).mono ?_; rintro e w2 ⟨rfl, hbb⟩; have hE2 : Ext w0 w2 := Ext.trans (by assumption) hbb))
    go_wp2_with fail
    go_ret
    refine ⟨?_, hb0.trans hE2⟩
    rw [H.out]
    exact congrArg Ending.returned (cat7 z x y)
end Go.Proofs.YthnmhdabdiennaaDoor
