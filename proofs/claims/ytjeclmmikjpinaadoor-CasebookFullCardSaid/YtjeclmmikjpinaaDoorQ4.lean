/- A new reader, its error, what is left; a copy of bytes; the reading closure of Load; in the numbers of the seat of Redact. -/
import Derived.Test.YtjeclmmikjpinaaDoorQ3
namespace Go.Proofs.YtjeclmmikjpinaaDoor
open Go.RowKit
attribute [local go_sem ↓] Go.wp_at_zero Go.wp_at_succ
def bv (xs : List UInt8) : List (List Value) := xs.map fun b => [.int .u8 ((b.toNat : Nat) : Int)]
theorem bv_flat : ∀ xs : List UInt8, (bv xs).flatten = bytesV xs
  | [] => rfl
  | x :: xs => by
    have := bv_flat xs
    unfold bv bytesV at *
    rw [List.map_cons, List.flatten_cons, this]
    rfl
theorem bv_len (xs : List UInt8) : (bv xs).length = xs.length := by unfold bv; rw [List.length_map]
theorem bv_app (xs ys : List UInt8) : bv (xs ++ ys) = bv xs ++ bv ys := by unfold bv; rw [List.map_append]
theorem bv_wide (xs : List UInt8) : Wide 1 (bv xs) := Wide.map (f := fun b : UInt8 => [Value.int .u8 ((b.toNat : Nat) : Int)]) (fun _ => rfl) xs
theorem bv_one (xs : List UInt8) : ∀ u ∈ (bv xs).flatten, u.oneCell' = true := by rw [bv_flat]; exact bytesV_plain xs
theorem spotless {w : World} {a : Addr} {v : Value} (h : w.cell? a = some v) : a.spot = none := by
  obtain ⟨b, o, s⟩ := a
  cases s with
  | none => rfl
  | some s =>
    unfold World.cell? at h
    split at h <;> simp at h
theorem BytesAt.vs {w : World} {A : Option Addr} {xs : List UInt8} (h : BytesAt w A xs) : VsAt w A (bv xs).flatten := by
  rw [bv_flat]
  intro h0
  rw [bytesV_length] at h0
  obtain ⟨ad, e, h1, h2⟩ := h h0
  have hx : xs[0]? = some xs[0] := List.getElem?_eq_getElem h0
  have hs := spotless (h2 0 _ hx)
  obtain ⟨b, o, s⟩ := ad
  have hs' : s = none := by
    unfold Addr.add at hs
    split at hs
    · exact hs
    · rename_i hne
      exact absurd rfl hne
  subst hs'
  refine ⟨b, o, e, h1, fun j u hj => ?_⟩
  rw [bytesV_get] at hj
  cases hx : xs[j]? with
  | none => rw [hx] at hj; cases hj
  | some y =>
    rw [hx] at hj
    obtain rfl := Option.some.inj hj
    have := h2 j y hx
    rwa [addE] at this
theorem VsAt.bytes {w : World} {A : Option Addr} {xs : List UInt8} (h : VsAt w A (bv xs).flatten) : BytesAt w A xs := by
  rw [bv_flat] at h
  intro h0
  obtain ⟨b, o, e, h1, h2⟩ := h (by rw [bytesV_length]; exact h0)
  refine ⟨⟨b, o, none⟩, e, h1, fun j y hj => ?_⟩
  rw [addE]
  exact h2 j _ (by rw [bytesV_get, hj]; rfl)
theorem Row.bytes {w : World} {B : Nat} {v : Value} {xs : List UInt8} (h : Row 1 w B 5 v (bv xs)) : ∃ A c, v = .slice A xs.length c ∧ BytesAt w A xs ∧ xs.length ≤ c ∧ c ≤ maxLen ∧ ∀ ad, A = some ad → B ≤ ad.block ∧ ad.block < w.heap.size ∧ v.ownBlock = some ad.block := by
  have h' := h
  obtain ⟨A, c, e, h1, h2, hv⟩ := h.sl.at_
  rw [bv_len] at e h1
  refine ⟨A, c, e, hv.bytes, h1, h2, fun ad ea => ?_⟩
  subst ea
  have ho : v.ownBlock = some ad.block := by rw [e]; rfl
  exact ⟨(h'.lt _ ho).1, (h'.lt _ ho).2, ho⟩
theorem el38 : El 31 5 (.int .u8 0) 1 1 := ⟨Tryd.underlying31, by kernel_rfl, rfl, by omega, by omega⟩
def RetNr (xs : List UInt8) (w : World) (e : Ending) (w' : World) : Prop := ∃ b, e = .returned (.pointer (some ⟨b, 0, none⟩)) ∧ w.heap.size ≤ b ∧ b < w'.heap.size ∧ Rd w' (fun k => w.heap.size ≤ k ∧ k < b) b xs ∧ Ext w w'
theorem run_eqnil38 (w : World) (ad : Addr) (n c : Nat) : (binOp .eql 31 (.slice (some ad) n c) (.slice none 0 0)).run Tryd.prog w = .ok (.bool false) w := by
  have h0 : ∀ d, (Op.equalIn (d + 1) 31 (.slice (some ad) n c) (.slice none 0 0)).run Tryd.prog w = .ok false w := fun d => by
    simp [Op.equalIn, run_underlying Tryd.underlying31, Result.andThen]
  have h1 : (Op.equal 31 (.slice (some ad) n c) (.slice none 0 0)).run Tryd.prog w = .ok false w := h0 9999
  simp only [binOp, Sem.run_bind]
  rw [h1]
  rfl
attribute [local go_sem] run_eqnil38
def RetBy (xs : List UInt8) (w : World) (e : Ending) (w' : World) : Prop := ∃ v, e = .returned v ∧ Row 1 w' w.heap.size 5 v (bv xs) ∧ Ext w w'
set_option maxRecDepth 100000 in
set_option maxHeartbeats 2000000 in
/-- slices.Clone at bytes. -/
theorem clone55_ok (xs : List UInt8) (ad : Addr) (c : Nat) (w : World) (h : BytesAt w (some ad) xs) (hl : xs.length ≤ 1000000) : Calls Tryd.prog 20 #[.slice (some ad) xs.length c] w (RetBy xs w) := by
  have HB := Lib.hid h.vs
  have HW := Lib.hid (bv_wide xs)
  have HO := Lib.hid (bv_one xs)
  have HL : Hid ((bv xs).length = xs.length) := Lib.hid (bv_len xs)
  clear h
  go_enter Tryd.func20, Tryd.ntmps20
  go_wp2_with (at_builtin; go_loud (refine wapp el38 rfl (.tmp 5) (.tmp 6) rfl (w5 := w) (vs := []) (us := bv xs) rfl ((Ext.refl _).alloc _) (row_new (Nat.le_refl _) (Wide.nil 1) rfl (by simp)) rfl (by rw [HL.out]) HW.out (HB.out.ext ((Ext.refl _).alloc _)) HO.out (by rw [HL.out, List.length_nil]; omega) (by rw [HL.out, List.length_nil]; omega) ?_; intro v1 w1 hr1 hE1 hg1 hb1; rw [List.nil_append] at hr1; have HR1 := Lib.hid hr1; have HE1 := Lib.hid hE1; clear hr1 hE1 hg1 hb1))
  go_ret
  exact ⟨_, rfl, HR1.out, HE1.out⟩
end Go.Proofs.YtjeclmmikjpinaaDoor
