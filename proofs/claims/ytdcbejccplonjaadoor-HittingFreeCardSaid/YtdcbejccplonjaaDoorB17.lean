/- The walks over slices.Contains at numbers, hits and Greedy. -/
import Derived.Test.YtdcbejccplonjaaDoorB12
namespace Go.Proofs.YtdcbejccplonjaaDoor
open Go.RowKit Go.Shelf
attribute [local go_sem ↓] Go.wp_at_zero Go.wp_at_succ
theorem ret_bool {a b : Bool} (h : a = b) : Ending.returned (.bool a) = .returned (.bool b) := by rw [h]
def idxF (y : Nat) (xs : List Nat) : Int := if y ∈ xs then ((xs.idxOf y : Nat) : Int) else -1
set_option maxHeartbeats 4000000 in
theorem index_any (xs : List Nat) (y : Nat) (v : Value) (w : World) (h : Us w v xs) : Calls Tryd.prog 49 #[v, .int .u64 (y : Int)] w fun e w' => (∃ z : Int, e = .returned (.int .i64 z) ∧ (0 ≤ z ↔ y ∈ xs)) ∧ w = w' := by
  obtain ⟨A, c, rfl, c1, c2, RA⟩ := h.read
  have HR := Lib.hid (RA w (Ext.refl _))
  have hl : xs.length ≤ 9223372036854775807 := by unfold maxLen at c2; omega
  clear RA h c1 c2
  go_enter Tryd.func49, Tryd.ntmps49
  go_wp2_with fail
  go_loop [5, 8] (fun _ i => ∃ k : Nat, k ≤ xs.length ∧ i = iV (k : Int) ∧ ∀ j, j < k → xs.getD j 0 ≠ y) (fun _ i => xs.length - (intOf i).toNat)
  case atStart => exact ⟨0, by omega, rfl, fun j hj => by omega⟩
  case round =>
    obtain ⟨k, hk, rfl, hn⟩ := hrel
    have HN := Lib.hid hn
    clear hn
    by_cases hlt : k < xs.length
    · obtain ⟨ad, rfl, c1⟩ := HR.out k hlt
      have HM := Lib.hid (getD_mem hlt)
      obtain ⟨x, hx⟩ : ∃ x, xs.getD k 0 = x := ⟨_, rfl⟩
      have HX := Lib.hid hx
      rw [hx] at c1 HM
      clear hx
      by_cases he : y = x
      · subst he
        go_wp2_with fail
        go_ret
        exact ⟨⟨_, rfl, fun _ => HM.out, fun _ => by omega⟩, rfl⟩
      · have t0 : ((y : Int) == (x : Int)) = false := by simp; omega
        have HE := Lib.hid he
        clear he
        go_wp2_with fail
        refine ⟨⟨k + 1, by omega, by go_num, fun j hj => ?_⟩, by simp [intOf]; omega⟩
        rcases Nat.lt_or_ge j k with h1 | h1
        · exact HN.out j h1
        · have : j = k := by omega
          rw [this, HX.out]
          exact fun e => HE.out e.symm
    · obtain rfl : k = xs.length := by omega
      go_wp2_with fail
      go_ret
      refine ⟨⟨_, rfl, fun h => absurd h (by omega), fun h => ?_⟩, rfl⟩
      obtain ⟨i, hi, rfl⟩ := mem_getD h
      exact absurd rfl (HN.out i hi)
theorem contains_any (xs : List Nat) (y : Nat) (v : Value) (w : World) (h : Us w v xs) : Calls Tryd.prog 39 #[v, .int .u64 (y : Int)] w fun e w' => e = .returned (.bool (decide (y ∈ xs))) ∧ w = w' := by
  have IX := Lib.hid (index_any xs y v w h)
  clear h
  go_enter Tryd.func39, Tryd.ntmps39
  go_wp2_with fail
  refine IX.out.mono ?_
  rintro e w1 ⟨⟨z, rfl, hz⟩, rfl⟩
  have HZ := Lib.hid hz
  clear hz
  by_cases h0 : 0 ≤ z
  · have hd : decide (y ∈ xs) = true := decide_eq_true (HZ.out.1 h0)
    go_wp2_with fail
    go_ret
    rw [hd]
    exact ⟨rfl, rfl⟩
  · have hd : decide (y ∈ xs) = false := decide_eq_false (fun h => h0 (HZ.out.2 h))
    have h1 : z < 0 := by omega
    go_wp2_with fail
    go_ret
    rw [hd]
    exact ⟨ret_bool (by first | rfl | exact decide_eq_false (by omega)), rfl⟩
def pS (set : Nat) (x : Nat) : Bool := bits .and .u64 (x : Int) (set : Int) == 0
theorem pred_any (set g : Nat) (w : World) (h : w.cell? ⟨g, 0, none⟩ = some (uV set)) : PredAt Tryd.prog 51 #[.pointer (some ⟨g, 0, none⟩)] uV (pS set) w := by
  intro W x hb
  have hE : Ext w W := hb
  have d := hE.cell h
  clear h hb
  show Calls Tryd.prog 51 #[uV x, .pointer (some ⟨g, 0, none⟩)] W _
  go_enter Tryd.func51, Tryd.ntmps51
  go_wp2_with fail
  go_ret
  exact ⟨ret_bool rfl, 0, rfl⟩
theorem any_pS {sets : List Nat} {set : Nat} (hu : U64 sets) (hs : set < 18446744073709551616) : (!(sets.any (pS set))) = hitF sets set := by
  rw [Bool.eq_iff_iff]
  unfold hitF
  rw [Bool.not_eq_true', List.any_eq_false, List.all_eq_true]
  constructor
  · intro h s hm
    have := h s hm
    unfold pS at this
    rw [and_u64 (hu s hm) hs, beq0] at this
    simpa using this
  · intro h s hm
    have := h s hm
    unfold pS
    rw [and_u64 (hu s hm) hs, beq0]
    simpa using this
/-- hits at a row that a call has made. -/
theorem hitsP_any (set : Nat) (sets : List Nat) (v : Value) (w : World) (B : Nat) (h : Row w B 52 v (sets.map uV)) (hu : U64 sets) (hs : set < 18446744073709551616) (hl : sets.length ≤ 100000) : Calls Tryd.prog 40 #[.int .u64 (set : Int), v] w (RetB (hitF sets set) w) := by
  have HA := Lib.hid (any_pS hu hs)
  have hc : ∀ W g, Ext w W → W.cell? ⟨g, 0, none⟩ = some (uV set) → Calls Tryd.prog 50 #[v, .func (.func 51) #[] #[.pointer (some ⟨g, 0, none⟩)]] W fun e w' => e = .returned (.bool (sets.any (pS set))) ∧ ∃ q, w' = W.drewN q := fun W g hW hg => by
    have hr := h.ext hW
    have h' : W.ownsRow B 52 1 v (sets.map uV).length (sets.map uV) := hr
    rw [List.length_map] at h'
    have eg : ∀ args w, (callFunc 51 args).run Tryd.prog w = .ok (.enter 51 args) w := enters_of Tryd.func51 (by kernel_rfl) rfl
    rcases h'.2 with ⟨e1, h0⟩ | ⟨b, cap, cur, e1, hB, hb, h1, h2, h3, h4⟩
    · have := List.eq_nil_of_length_eq_zero h0
      subst this
      subst e1
      refine (AnyE.slices_ContainsFunc_empty Tryd.laysCfU none 0 _ W).mono ?_
      rintro e w' ⟨rfl, rfl⟩
      exact ⟨rfl, 0, rfl⟩
    · subst e1
      have := AnyE.slices_ContainsFunc Tryd.laysCfU uV (pS set) 51 #[.pointer (some ⟨g, 0, none⟩)] eg b 0 sets.length cap sets W (pred_any set g W hg) (Nat.le_refl _) (by omega) (fun j hj => by
        have := World.ownsRow.cellAt h' j (by omega)
        rw [List.getElem?_map, List.getElem?_eq_getElem hj] at this
        rw [Nat.zero_add, this, getElem!_pos sets j hj]
        rfl)
      rw [List.take_length] at this
      exact this
  have HC := Lib.hid hc
  clear hc h hu
  generalize sets.any (pS set) = b at *
  go_enter Tryd.func40, Tryd.ntmps40
  go_wp2_with fail
  refine (HC.out _ w.heap.size ((Ext.refl _).alloc _) (new_at _ _ _ _ _ rfl)).mono ?_
  rintro e w1 ⟨rfl, q, rfl⟩
  go_wp2_with fail
  go_ret
  exact ⟨ret_bool HA.out, ((Ext.refl _).alloc _).drewN _⟩
end Go.Proofs.YtdcbejccplonjaaDoor
