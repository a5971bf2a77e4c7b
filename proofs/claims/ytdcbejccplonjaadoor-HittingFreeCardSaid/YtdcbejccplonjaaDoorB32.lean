/- The sets of a family: where they lie. -/
import Derived.Test.YtdcbejccplonjaaDoorH11
import Derived.Test.YtdcbejccplonjaaDoorB31
namespace Go.Proofs.YtdcbejccplonjaaDoor
open Go.RowKit
attribute [local go_sem ↓] Go.wp_at_zero Go.wp_at_succ
/-- The values' blocks are none of the old ones. -/
def LoB (B : Nat) (vs : List Value) : Prop := ∀ v ∈ vs, ∀ k, v.ownBlock = some k → B ≤ k
theorem LoB.nil (B : Nat) : LoB B [] := fun v hv => by cases hv
theorem LoB.snoc {B : Nat} {vs : List Value} {v : Value} (h : LoB B vs) (hv : ∀ k, v.ownBlock = some k → B ≤ k) : LoB B (vs ++ [v]) := fun x hx => by
  rcases List.mem_append.1 hx with h1 | h1
  · exact h x h1
  · rw [List.mem_singleton.1 h1]; exact hv
theorem is_lt {w : World} {v : Value} {l : List Int} (h : Is w v l) : ∀ k, v.ownBlock = some k → 0 < l.length → k < w.heap.size := fun k hk h0 => by
  obtain ⟨A, c, rfl, h2, h3, h4⟩ := SlAt.at_ h
  obtain ⟨ad, rfl, hb, -⟩ := h4 (by rw [List.length_map]; exact h0)
  cases hk
  exact hb
def RetLo (ls : List (List Int)) (w : World) (e : Ending) (w' : World) : Prop := ∃ t vs, e = .returned t ∧ Outs w' w.heap.size t vs ls ∧ LoB w.heap.size vs ∧ Ext w w'
set_option maxRecDepth 100000 in
set_option maxHeartbeats 8000000 in
theorem sets_lo (xs : List Nat) (v : Value) (w : World) (h : Bs w v xs) (hu : U8 xs) : Calls Tryd.prog 12 #[v] w (RetLo (famF xs) w) := by
  obtain ⟨A, c, rfl, a1, a2, RA⟩ := h.read
  have HR := Lib.hid RA
  have HU := Lib.hid hu
  have hl : xs.length ≤ 9223372036854775807 := by unfold maxLen at a2; omega
  clear RA h a1 a2 hu
  go_enter Tryd.func12, Tryd.ntmps12
  go_wp2_with fail
  go_loopw [3, 4] (fun t i wr => ∃ (k : Nat) (vs : List Value), k ≤ xs.length ∧ k ≤ 10 ∧ i = iV (k : Int) ∧ Outs wr w.heap.size t vs ((xs.take k).map fun m => nI (elems m)) ∧ LoB w.heap.size vs ∧ Ext w wr) (fun _ i _ => xs.length - (intOf i).toNat)
  case atStart => exact ⟨0, [], by omega, by omega, rfl, Outs.nil _ _, LoB.nil _, Ext.refl _⟩
  case round =>
    obtain ⟨k, vs, hk, hk10, rfl, hO, hLo, hE⟩ := hrel
    have HO := Lib.hid hO
    have HLo := Lib.hid hLo
    clear hLo
    have HX := Lib.hid hE
    clear hO hE
    by_cases hlt : k < xs.length ∧ k < 10
    · obtain ⟨hkl, hkt⟩ := hlt
      have hkt' : (k : Int) < 10 := by omega
      have hb := U8.get HU.out k
      have HTK : Hid ((xs.take (k + 1)).map (fun m => nI (elems m)) = (xs.take k).map (fun m => nI (elems m)) ++ [nI (elems (xs.getD k 0))]) := by
        rw [List.take_succ_eq_append_getElem hkl, List.map_append, List.getD_eq_getElem?_getD, List.getElem?_eq_getElem hkl]; exact Lib.hid rfl
      have hvl : vs.length ≤ 10 := by have := HO.out.len; simp at this; omega
      obtain ⟨b, hbb⟩ : ∃ b, xs.getD k 0 = b := ⟨_, rfl⟩
      have HB := Lib.hid hbb
      rw [hbb] at hb HTK
      have HB8 := Lib.hid (bitsTo_8 hb)
      clear hbb
      generalize hwr : wr = wc at *
      go_wp2_with fail
      go_loopw [5, 17] (fun s x wq => ∃ j : Nat, j ≤ 8 ∧ x = iV (j : Int) ∧ Row wq wc.heap.size 3 s ((nI (bitsTo b j)).map iV) ∧ Ext wc wq) (fun _ x _ => 8 - (intOf x).toNat)
      case atStart => exact ⟨0, by omega, rfl, Row.nil _ _ _, Ext.refl _⟩
      case round =>
        obtain ⟨j, hj, rfl, hr, hE⟩ := hrel
        have HRj := Lib.hid hr
        have HEj := Lib.hid hE
        clear hr hE
        by_cases hj8 : j < 8
        · obtain ⟨ad, rfl, c1⟩ := HR.out wr (HX.out.trans HEj.out) k hkl
          rw [HB.out] at c1
          have esh := shr_bit8 b (k := j) hb
          have HS := Lib.hid (bitsTo_succ b j)
          have hbl := bitsTo_len b j
          have q1 : (0 : Int) ≤ (j : Int) := by omega
          cases hbit : b.testBit j with
          | true =>
            rw [hbit, if_pos rfl] at esh
            rw [hbit, if_pos rfl] at HS
            clear hbit
            go_wp2_with (at_builtin; go_loud (refine wapp el35 rfl (.tmp 28) (.tmp 30) rfl (w5 := wc) rfl (HEj.out.alloc _) (HRj.out.ext ((Ext.refl _).alloc _)) rfl rfl (vs1 _ _ _) (one1 rfl) ?hm ?_; (case hm => (rw [List.length_map, nI_len, List.length_singleton]; omega)); intro v1 w1 hr1 hE1 hg1 hb1))
            exact ⟨⟨j + 1, by omega, by go_num, by rw [HS.out]; simpa [nI] using hr1, hE1⟩, by simp [intOf]; omega⟩
          | false =>
            rw [hbit, if_neg (by simp)] at esh
            rw [hbit, if_neg (by simp), List.append_nil] at HS
            clear hbit
            go_wp2_with fail
            exact ⟨⟨j + 1, by omega, by go_num, by rw [HS.out]; exact HRj.out, HEj.out⟩, by simp [intOf]; omega⟩
        · obtain rfl : j = 8 := by omega
          rw [HB8.out] at HRj
          obtain ⟨V, vc, e1, -, -⟩ := HRj.out.form
          rw [List.length_map] at e1
          subst e1
          go_wp2_with (at_builtin; go_loud (refine wapp el24 rfl (.tmp 33) (.tmp 35) rfl (w5 := w) rfl ((HX.out.trans HEj.out).alloc _) ((HO.out.row.ext HEj.out).ext ((Ext.refl _).alloc _)) rfl rfl (vs1 _ _ _) (one1 rfl) ?hm ?_; (case hm => (rw [List.length_singleton]; omega)); intro v1 w1 hr1 hE1 hg1 hb1))
          have HP := HO.out.push HEj.out HRj.out hg1 hr1 hb1
          exact ⟨⟨k + 1, _, by omega, by omega, by go_num, by rw [HTK.out]; exact HP, HLo.out.snoc (fun g hg => Nat.le_trans HX.out.size (HRj.out.lt g hg).1), hE1⟩, by simp [intOf]; omega⟩
    · have HT : Hid ((xs.take k).map (fun m => nI (elems m)) = famF xs) := by
        unfold famF
        have : xs.take k = xs.take 10 := by
          rcases Nat.lt_or_ge k 10 with h | h
          · rw [List.take_of_length_le (by omega), List.take_of_length_le (by omega)]
          · have : k = 10 := by omega
            rw [this]
        rw [this]
        exact Lib.hid rfl
      have hor : k = xs.length ∨ (k < xs.length ∧ k = 10) := by omega
      rcases hor with h1 | ⟨h1, h2⟩
      · subst h1
        go_wp2_with fail
        go_ret
        exact ⟨_, _, rfl, by rw [← HT.out]; exact HO.out, HLo.out, HX.out⟩
      · subst h2
        go_wp2_with fail
        go_ret
        exact ⟨_, _, rfl, by rw [← HT.out]; exact HO.out, HLo.out, HX.out⟩
theorem is_kept {w w' : World} {v : Value} {l : List Int} (h : Is w v l) (hb : ∀ k, k < w.heap.size → v.ownBlock = some k → 0 < l.length → w'.heap[k]? = w.heap[k]?) : Is w' v l := by
  rcases Nat.eq_zero_or_pos l.length with h0 | h0
  · have : l = [] := List.eq_nil_of_length_eq_zero h0
    subst this
    obtain ⟨A, c, h1, h2, h3, -⟩ := SlAt.at_ h
    exact ⟨A, c, h1, h2, h3, VsAt.nil _ _⟩
  · exact SlAt.kept h fun k hk hkb => hb k hk hkb h0
/-- Two more lists, which lie elsewhere. -/
theorem Outs.push2 {w wn : World} {B : Nat} {t tn a b : Value} {vs : List Value} {ls : List (List Int)} {x y : List Int} (h : Outs w B t vs ls) {w1 : World} (h1 : Ext w w1) (ha : Is w1 a x) (hb : Is w1 b y)
    (na : ∀ k, a.ownBlock = some k → 0 < x.length → t.ownBlock ≠ some k) (nb : ∀ k, b.ownBlock = some k → 0 < y.length → t.ownBlock ≠ some k) (hg : w1.grownBy wn t.ownBlock) (hr : Row wn B 35 tn (vs ++ [a, b])) : Rs wn tn (ls ++ [x, y]) := by
  have k1 : Cont wn vs ls := ⟨h.len, fun j hj => SlAt.kept ((h.is j hj).ext h1) fun k hk hkb => hg.block k hk (fun e => (h.ne j k hj hkb).1 e.symm)⟩
  have k2 : Cont wn [a, b] [x, y] := cont2 (is_kept ha fun k hk hkb h0 => hg.block k hk (fun e => na k hkb h0 e.symm)) (is_kept hb fun k hk hkb h0 => hg.block k hk (fun e => nb k hkb h0 e.symm))
  have k3 := k1.app k2
  exact ⟨_, hr.sl, k3.len, k3.is⟩
theorem vs2 (w : World) (a b : Value) (e : Nat) : VsAt (w.alloc (.cells #[a, b] e)) (some ⟨w.heap.size, 0, none⟩) [a, b] := fun _ => ⟨_, rfl, by simp, World.news_of_block (cs := #[a, b]) (heap_alloc_new w _)⟩
theorem one2 {a b : Value} (ha : a.oneCell' = true) (hb : b.oneCell' = true) : ∀ x ∈ [a, b], x.oneCell' = true := fun x hx => by
  rcases List.mem_cons.1 hx with rfl | hx
  · exact ha
  · rw [List.mem_singleton.1 hx]; exact hb
theorem lo_one {w : World} {B : Nat} {t : Value} {vs : List Value} {l : List Int} (h : Outs w B t vs [l]) (hLo : LoB B vs) : ∃ g c u, t = .slice (some ⟨g, 0, none⟩) 1 c ∧ w.cell? ⟨g, 0, none⟩ = some u ∧ Is w u l ∧ ∀ k, u.ownBlock = some k → B ≤ k := by
  have hl := h.len
  obtain ⟨u, rfl⟩ : ∃ u, vs = [u] := by
    cases vs with
    | nil => simp at hl
    | cons a r => cases r with
      | nil => exact ⟨a, rfl⟩
      | cons b r => simp at hl
  obtain ⟨A, c, rfl, -, -⟩ := h.row.form
  obtain ⟨g, rfl, -, r1⟩ := h.row.some_of (by rw [List.length_singleton]; omega)
  exact ⟨g, _, u, rfl, r1.cellAt 0 (by simp), h.is 0 (by simp), hLo u (by simp)⟩
theorem fam1_at {w : World} {b k : Nat} (h : k = w.heap.size) : Bs (w.alloc (.cells #[.int .u8 (b : Int)] 5)) (.slice (some ⟨k, 0, none⟩) 1 1) [b] := slC h rfl rfl (by omega)
theorem famF_one {b : Nat} : famF [b] = [nI (elems b)] := rfl
theorem oper_at {l : List Oper} {i : Nat} {o : Oper} (h : l[i]? = some o) : l.toArray[i]? = some o := by simpa using h
theorem rev_get {α : Type} (l : List α) (d : α) {j : Nat} (h : j < l.length) : l.reverse.take (j + 1) = l.reverse.take j ++ [l.getD (l.length - 1 - j) d] := by
  rw [List.take_succ_eq_append_getElem (by rw [List.length_reverse]; exact h), List.getElem_reverse, List.getD_eq_getElem?_getD, List.getElem?_eq_getElem (by omega)]
  rfl
end Go.Proofs.YtdcbejccplonjaaDoor
