/- The reader with its errors: open, take, Uint, Byte, Err, End. -/
import Derived.Test.YtjedhndhdkiidaaDoorH4
namespace Go.Proofs.YtjedhndhdkiidaaDoor
open Go.RowKit
attribute [local go_sem ↓] Go.wp_at_zero Go.wp_at_succ
/-- A reader that has met an error. -/
def RdX (w : World) (b : Nat) : Prop := ∃ A n c er, w.cell? ⟨b, 0, none⟩ = some (.slice A n c) ∧ w.cell? ⟨b, 1, none⟩ = some (.int .i64 er) ∧ er ≠ 0 ∧ ∀ i, w.frozen? ⟨b, i, none⟩ = false
/-- A reader in this state. -/
def St (w : World) (N : Nat → Prop) (b : Nat) : Sg → Prop
  | none => RdX w b
  | some xs => Rd w N b xs
def RetSt (N : Nat → Prop) (b : Nat) (v : Value) (s : Sg) (w : World) (e : Ending) (w' : World) : Prop := e = .returned v ∧ St w' N b s ∧ Exg b w w'
theorem Rd.bad {w : World} {N : Nat → Prop} {b : Nat} {xs : List UInt8} (h : Rd w N b xs) (er : Int) (he : er ≠ 0) : RdX (w.setCell ⟨b, 1, none⟩ (.int .i64 er)) b := by
  obtain ⟨A, c, h0, h1, hf, -⟩ := h
  refine ⟨A, xs.length, c, er, ?_, World.cell?_setCell_same _ _ _ h1, he, fun i => ?_⟩
  · rw [← h0]
    go_simp
  · rw [World.frozen?_setCell]
    exact hf i
theorem set_exg (w : World) (b o : Nat) (u : Value) : Exg b w (w.setCell ⟨b, o, none⟩ u) := (Exg.refl b w).set (p := ⟨b, o, none⟩) (Or.inl rfl) u
theorem ret_st {N : Nat → Prop} {b : Nat} {v : Value} {xs : List UInt8} {w : World} {e : Ending} {w' : World} (h : RetRd N b v xs w e w') : RetSt N b v (some xs) w e w' := by
  obtain ⟨rfl, h1, u, rfl⟩ := h
  exact ⟨rfl, h1, set_exg _ _ _ _⟩
theorem open67_x (b : Nat) (w : World) (h : RdX w b) : Calls Tryd.prog 67 #[.pointer (some ⟨b, 0, none⟩)] w fun e w' => e = .returned (.bool false) ∧ w = w' := by
  obtain ⟨A, n, c, er, h0, h1, he, -⟩ := h
  have q1 : (er == 0) = false := by simp [he]
  go_enter Tryd.func67, Tryd.ntmps67
  go_wp2_with fail
  go_ret
  exact ⟨rfl, rfl⟩
theorem take69_x (N : Nat → Prop) (b : Nat) (n er : Int) (xs : List UInt8) (w : World) (h : Rd w N b xs) (he : er ≠ 0) : Calls Tryd.prog 69 #[.pointer (some ⟨b, 0, none⟩), .int .i64 n, .int .i64 er] w (RetSt N b (.bool false) none w) := by
  have HX := Lib.hid (h.bad er he)
  obtain ⟨A, c, h0, h1, hf, -⟩ := h
  have q1 : (er != 0) = true := by simp [he]
  have f1 := hf 1
  go_enter Tryd.func69, Tryd.ntmps69
  go_wp2_with fail
  go_ret
  exact ⟨rfl, HX.out, set_exg _ _ _ _⟩
set_option maxRecDepth 100000 in
set_option maxHeartbeats 1000000 in
theorem uint47_st (N : Nat → Prop) (b most : Nat) (s : Sg) (w : World) (h : St w N b s) : Calls Tryd.prog 47 #[.pointer (some ⟨b, 0, none⟩), .int .u64 (most : Int)] w (RetSt N b (.int .u64 (((uintR most s).1 : Nat) : Int)) (uintR most s).2 w) := by
  cases s with
  | none =>
    have HX := Lib.hid (show RdX w b from h)
    clear h
    go_enter Tryd.func47, Tryd.ntmps47
    go_wp2_with fail
    refine (open67_x b w HX.out).mono ?_
    rintro _ _ ⟨rfl, rfl⟩
    go_wp2_with fail
    go_ret
    exact ⟨rfl, HX.out, Exg.refl _ _⟩
  | some xs =>
    have hr : Rd w N b xs := h
    clear h
    cases hu : uintF xs with
    | some p =>
      obtain ⟨v, n⟩ := p
      by_cases hm : v ≤ most
      · have e : uintR most (some xs) = (v, some (xs.drop n)) := by unfold uintR; simp only; rw [hu]; simp only; rw [if_neg (by omega)]
        rw [e]
        exact (ruint47_of N b v n most xs (xs.drop n) w hr hu rfl (uintF_facts hu).2.1 hm).mono fun _ _ h => ret_st h
      · have e : uintR most (some xs) = (0, none) := by unfold uintR; simp only; rw [hu]; simp only; rw [if_pos (by omega)]
        rw [e]
        have HO := Lib.hid (open67_ok N b _ w hr)
        have HT := Lib.hid (take69_x N b (n : Int) 2 xs w hr (by decide))
        have hlen := hr.len
        obtain ⟨A, c, h0, h1, hf, hb, -⟩ := hr
        have HU := uint_any _ A c w hb hlen
        rw [hu] at HU
        have HUI := Lib.hid HU
        have hgt : ((most : Int) < (v : Int)) := by omega
        clear hb HU hu hm hlen e
        go_enter Tryd.func47, Tryd.ntmps47
        go_wp2_with fail
        refine HO.out.mono ?_
        rintro _ _ ⟨rfl, rfl⟩
        go_wp2_with fail
        refine HUI.out.mono ?_
        rintro _ _ ⟨rfl, rfl⟩
        go_wp2_with fail
        refine HT.out.mono ?_
        rintro _ w3 ⟨rfl, hX, hE⟩
        have HX := Lib.hid hX
        have HE := Lib.hid hE
        clear hX hE
        go_wp2_with fail
        go_ret
        exact ⟨rfl, HX.out, HE.out⟩
    | none =>
      have e : uintR most (some xs) = (0, none) := by unfold uintR; simp only; rw [hu]
      rw [e]
      have HO := Lib.hid (open67_ok N b _ w hr)
      have HT := Lib.hid (take69_x N b 0 6 xs w hr (by decide))
      have hlen := hr.len
      obtain ⟨A, c, h0, h1, hf, hb, -⟩ := hr
      have HU := uint_any _ A c w hb hlen
      rw [hu] at HU
      have HUI := Lib.hid HU
      clear hb HU hu hlen e
      go_enter Tryd.func47, Tryd.ntmps47
      go_wp2_with fail
      refine HO.out.mono ?_
      rintro _ _ ⟨rfl, rfl⟩
      go_wp2_with fail
      refine HUI.out.mono ?_
      rintro _ _ ⟨rfl, rfl⟩
      go_wp2_with fail
      refine HT.out.mono ?_
      rintro _ w3 ⟨rfl, hX, hE⟩
      have HX := Lib.hid hX
      have HE := Lib.hid hE
      clear hX hE
      go_wp2_with fail
      go_ret
      exact ⟨rfl, HX.out, HE.out⟩
set_option maxRecDepth 100000 in
theorem byte50_st (N : Nat → Prop) (b : Nat) (s : Sg) (w : World) (h : St w N b s) : Calls Tryd.prog 50 #[.pointer (some ⟨b, 0, none⟩)] w (RetSt N b (.int .u8 (((byteR s).1.toNat : Nat) : Int)) (byteR s).2 w) := by
  match s, h with
  | none, h =>
    have HX := Lib.hid (show RdX w b from h)
    clear h
    go_enter Tryd.func50, Tryd.ntmps50
    go_wp2_with fail
    refine (open67_x b w HX.out).mono ?_
    rintro _ _ ⟨rfl, rfl⟩
    go_wp2_with fail
    go_ret
    exact ⟨rfl, HX.out, Exg.refl _ _⟩
  | some [], h =>
    have hr : Rd w N b [] := h
    clear h
    have HO := Lib.hid (open67_ok N b _ w hr)
    have HX := Lib.hid (hr.bad 6 (by decide))
    obtain ⟨A, c, h0, h1, hf, -⟩ := hr
    have f1 := hf 1
    rw [List.length_nil] at h0
    go_enter Tryd.func50, Tryd.ntmps50
    go_wp2_with fail
    refine HO.out.mono ?_
    rintro _ _ ⟨rfl, rfl⟩
    go_wp2_with fail
    go_ret
    exact ⟨rfl, HX.out, set_exg _ _ _ _⟩
  | some (x :: xs), h => exact (rbyte50_ok N b x xs w h).mono fun _ _ h => ret_st h
theorem err71_x (b : Nat) (w : World) (h : RdX w b) : Calls Tryd.prog 71 #[.pointer (some ⟨b, 0, none⟩)] w fun e w' => (∃ er, e = .returned (.int .i64 er) ∧ er ≠ 0) ∧ w = w' := by
  obtain ⟨A, n, c, er, h0, h1, he, -⟩ := h
  go_enter Tryd.func71, Tryd.ntmps71
  go_wp2_with fail
  go_ret
  exact ⟨⟨er, rfl, he⟩, rfl⟩
/-- What End hands back. -/
def RetEn (s : Sg) (w : World) (e : Ending) (w' : World) : Prop := (∃ er : Int, e = .returned (.int .i64 er) ∧ (er = 0 ↔ s = some [])) ∧ w = w'
/-- (*Reader).End. -/
theorem end52_st (N : Nat → Prop) (b : Nat) (s : Sg) (w : World) (h : St w N b s) : Calls Tryd.prog 52 #[.pointer (some ⟨b, 0, none⟩)] w (RetEn s w) := by
  match s, h with
  | none, h =>
    have hX : RdX w b := h
    have HX := Lib.hid hX
    clear h hX
    go_enter Tryd.func52, Tryd.ntmps52
    go_wp2_with fail
    refine (err71_x b w HX.out).mono ?_
    rintro _ _ ⟨⟨er, rfl, he⟩, rfl⟩
    have q1 : (er != 0) = true := by simp [he]
    go_wp2_with fail
    go_ret
    exact ⟨⟨er, rfl, fun h => absurd h he, fun h => (by cases h)⟩, rfl⟩
  | some [], h =>
    have hr : Rd w N b [] := h
    have HO := Lib.hid (err71_ok N b _ w hr)
    obtain ⟨A, c, h0, h1, hf, -⟩ := hr
    rw [List.length_nil] at h0
    clear h
    go_enter Tryd.func52, Tryd.ntmps52
    go_wp2_with fail
    refine HO.out.mono ?_
    rintro _ _ ⟨rfl, rfl⟩
    go_wp2_with fail
    go_ret
    exact ⟨⟨0, rfl, fun _ => rfl, fun _ => rfl⟩, rfl⟩
  | some (x :: xs), h =>
    have hr : Rd w N b (x :: xs) := h
    have HO := Lib.hid (err71_ok N b _ w hr)
    obtain ⟨A, c, h0, h1, hf, -⟩ := hr
    obtain ⟨n, hn⟩ : ∃ n, (x :: xs).length = n := ⟨_, rfl⟩
    rw [hn] at h0
    have q1 : ((n : Int) == 0) = false := by
      rw [List.length_cons] at hn
      rw [beq_eq_false_iff_ne]
      omega
    clear h hn
    go_enter Tryd.func52, Tryd.ntmps52
    go_wp2_with fail
    refine HO.out.mono ?_
    rintro _ _ ⟨rfl, rfl⟩
    go_wp2_with fail
    go_ret
    exact ⟨⟨6, rfl, fun h => absurd h (by decide), fun h => (by cases h)⟩, rfl⟩
end Go.Proofs.YtjedhndhdkiidaaDoor
