/- The law's names, in a row of their own. -/
import Derived.Test.YtjedhndhdkiidaaDoorV21
namespace Go.Proofs.YtjedhndhdkiidaaDoor
open Go.RowKit
attribute [local go_sem ↓] Go.wp_at_zero Go.wp_at_succ
attribute [local go_sem] baSize baList
section
variable {ops : Array Oper} {o : Oper} {a : Act} {K : Act → World → Prop} {Q : Exit → Act → World → Prop} {E : Prop} {w w5 : World} {t e s n : Nat} {z : Value}
/-- An append onto a row of one's own. -/
theorem gapp (el : El t e z s n) (hwt : Region.wanted o (yielded ops a.tmps) = true) (p x : Operand) (ho : o.op = .call { callee := .builtin .append, args := #[p, x], argTypes := #[t, t] }) {v : Value} {vs us : List (List Value)} (hs : a.eval p = v) (hE : Ext w5 w) (hrow : Row s w w5.heap.size e v vs)
    {A : Option Addr} {c m : Nat} (hx : a.eval x = .slice A m c) (hn : m = us.length) (hw : Wide s us) (hy : VsAt w A us.flatten) (h1 : ∀ u ∈ us.flatten, u.oneCell' = true) (hm : (vs.length + us.length) * n ≤ 140737488355328) (hm2 : vs.length + us.length ≤ 1000000000000000)
    (h : ∀ v' w', Row s w' w5.heap.size e v' (vs ++ us) → Ext w5 w' → w.grownBy w' v.ownBlock → (v'.ownBlock = v.ownBlock ∨ v'.ownBlock = some w.heap.size) → K (a.put o.dst v') w') :
    if Region.wanted o (yielded ops a.tmps) = true then Oper.wp Tryd.prog o a w K Q else E := by
  rw [if_pos hwt]
  exact oapp el p x ho hs hE hrow hx hn hw hy h1 hm hm2 h
end
/-- Names are handed back in a row of the call's own. -/
def RetSr1 (ss : List (List UInt8)) (w : World) (e : Ending) (w' : World) : Prop := ∃ v, e = .returned v ∧ Row 1 w' w.heap.size 9 v (ss.map fun s => [sV s]) ∧ Ext w w'
set_option maxRecDepth 100000 in
set_option maxHeartbeats 1000000 in
theorem names11_row (fs : List Fd) (v : Value) (b : Nat) (w : World) (h : FsAt w v fs) (hb : b < 65536) (hl : fs.length ≤ 1000) : Calls Tryd.prog 11 #[v, .int .u16 (b : Int)] w (RetSr1 (nmK fs b fs.length) w) := by
  obtain ⟨A, c, rfl, h1, h2, h3⟩ := h.read
  have HR := Lib.hid h3
  clear h h3 h2 h1
  go_enter Tryd.func11, Tryd.ntmps11
  go_wp2_with fail
  go_loopw [5, 10] (fun t i wr => ∃ (k : Nat) (v : Value), k ≤ fs.length ∧ i = iV (k : Int) ∧ t = v ∧ Row 1 wr w.heap.size 9 v ((nmK fs b k).map fun s => [sV s]) ∧ Ext w wr) (fun _ i _ => fs.length - (intOf i).toNat)
  case atStart => exact ⟨0, nilV, by omega, rfl, rfl, Row.nil _ _ _ _, Ext.refl _⟩
  case round =>
    obtain ⟨k, v, hk, rfl, rfl, hr, hX⟩ := hrel
    have HRW := Lib.hid hr
    have HX := Lib.hid hX
    clear hr hX
    by_cases hlt : k < fs.length
    · have q1 : (k : Int) < (fs.length : Int) := by omega
      have q0 : (0 : Int) ≤ (k : Int) := by omega
      have q2 : (0 : Int) ≤ (k : Int) % 16 := by omega
      have q3 : (k : Int) % 16 < 64 := by omega
      obtain ⟨bb, o, A1, c1, A2, c2, rfl, hbb, c0, c1', c2', -, -, -, -, -, -⟩ := HR.out wr HX.out k hlt
      obtain ⟨f, hf⟩ : ∃ f, fs.getD k Fd0 = f := ⟨_, rfl⟩
      rw [hf] at c0 c1' c2'
      have HF := Lib.hid hf
      clear hf
      have be := bit_eq b k hb
      by_cases hbit : bitF b k = true
      · have HBT := Lib.hid hbit
        have b1 : ((b / 2 ^ (k % 16) % 2 : Nat) : Int) = 1 := by unfold bitF at hbit; have := of_decide_eq_true hbit; omega
        rw [b1] at be
        clear b1 hbit
        go_upto_region 6 with fail
        clear be
        generalize hw4 : World.alloc _ _ = w4
        have p0 : w4.cell? ⟨wr.heap.size, 0, none⟩ = some (sV f.nm) := by rw [← hw4]; exact new_at _ _ _ 0 _ rfl
        have HE4 : Hid (Ext wr w4) := Lib.hid (by rw [← hw4]; exact (Ext.refl _).alloc _)
        clear hw4
        go_wp2_with (at_builtin; go_loud (refine wapp el28 rfl (.tmp 21) (.tmp 24) rfl (w5 := w) (vs := (nmK fs b k).map fun s => [sV s]) (us := [[sV f.nm]]) rfl ((HX.out.trans HE4.out).alloc _) (HRW.out.ext (HE4.out.alloc _)) rfl rfl (Wide.one rfl) (vs1 _ _ _) (by intro u hu; simp at hu; subst hu; rfl) (by rw [List.length_map]; have := nmK_len fs b k; simp; omega) (by rw [List.length_map]; have := nmK_len fs b k; simp; omega) ?_; intro v9 w9 hr9 hE9 hg9 hb9; have HR9 := Lib.hid hr9; have HE9 := Lib.hid hE9; clear hr9 hE9 hg9 hb9))
        refine ⟨⟨k + 1, _, by omega, by go_num, rfl, ?_, HE9.out⟩, by simp [intOf]; omega⟩
        rw [nmK_succ, if_pos HBT.out, HF.out, List.map_append]
        exact HR9.out
      · have HBT := Lib.hid hbit
        have b1 : ((b / 2 ^ (k % 16) % 2 : Nat) : Int) = 0 := by unfold bitF at hbit; have h7 : ¬ b / 2 ^ (k % 16) % 2 = 1 := fun e => hbit (decide_eq_true e); omega
        rw [b1] at be
        clear b1 hbit
        go_wp2_with fail
        refine ⟨⟨k + 1, _, by omega, by go_num, rfl, ?_, HX.out.alloc _⟩, by simp [intOf]; omega⟩
        rw [nmK_succ, if_neg HBT.out, List.append_nil]
        exact HRW.out.ext ((Ext.refl _).alloc _)
    · obtain rfl : k = fs.length := by omega
      go_wp2_with fail
      go_ret
      exact ⟨_, rfl, HRW.out, HX.out⟩
end Go.Proofs.YtjedhndhdkiidaaDoor
