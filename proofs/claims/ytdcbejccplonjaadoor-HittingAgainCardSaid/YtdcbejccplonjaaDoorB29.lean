/- A map of numbers that a call has made; the walk over Hits. -/
import Derived.Test.YtdcbejccplonjaaDoorB25
import Derived.WideMake
namespace Go.Proofs.YtdcbejccplonjaaDoor
open Go.RowKit Go.Shelf
attribute [local go_sem ↓] Go.wp_at_zero Go.wp_at_succ
/-- A map holds true at these numbers. -/
structure Mp (w : World) (r : Nat) (zs : List Int) : Prop where
  at_ : ∃ es clock, w.heap[r]? = some (.map es clock) ∧ (∀ e ∈ es.toList, ∃ z ∈ zs, e.key = .int .i64 z ∧ e.val = .bool true) ∧ ∀ z ∈ zs, ∃ e ∈ es.toList, e.key = .int .i64 z
theorem Mp.kept {w w' : World} {r : Nat} {zs : List Int} (h : Mp w r zs) (hb : w'.heap[r]? = w.heap[r]?) : Mp w' r zs := by
  obtain ⟨es, c, h1, h2⟩ := h.at_
  exact ⟨es, c, by rw [hb]; exact h1, h2⟩
theorem Mp.lt {w : World} {r : Nat} {zs : List Int} (h : Mp w r zs) : r < w.heap.size := by
  obtain ⟨es, c, h1, _⟩ := h.at_
  exact (Array.getElem?_eq_some_iff.1 h1).1
theorem Mp.ext {w w' : World} {r : Nat} {zs : List Int} (h : Mp w r zs) (k : Ext w w') : Mp w' r zs := h.kept (k.block r h.lt)
theorem find_ints (x : Int) : ∀ (es : List MapEntry) (i : Nat), (∀ e ∈ es, ∃ z, e.key = .int .i64 z ∧ e.val = .bool true) →
    ((∃ j e, es[j]? = some e ∧ e.key = .int .i64 x ∧ Instr.findNow (.int .i64) (.int .i64 x) es i = some (some (i + j, .bool true))) ∨ ((∀ e ∈ es, e.key ≠ .int .i64 x) ∧ Instr.findNow (.int .i64) (.int .i64 x) es i = some none))
  | [], i, _ => .inr ⟨by simp, rfl⟩
  | e :: es, i, h => by
    obtain ⟨z, hk, hv⟩ := h e (by simp)
    by_cases hz : x = z
    · subst hz
      refine .inl ⟨0, e, rfl, hk, ?_⟩
      simp [Instr.findNow, Instr.sameNow, hk, hv]
    · have hs : Instr.sameNow (.int .i64) (.int .i64 x) e.key = some false := by simp [Instr.sameNow, hk, hz]
      have hf : Instr.findNow (.int .i64) (.int .i64 x) (e :: es) i = Instr.findNow (.int .i64) (.int .i64 x) es (i + 1) := by
        rw [Instr.findNow, hs]
      rcases find_ints x es (i + 1) (fun e' he' => h e' (by simp [he'])) with ⟨j, e', h1, h2, h3⟩ | ⟨h1, h2⟩
      · exact .inl ⟨j + 1, e', by simpa using h1, h2, by rw [hf, h3]; congr 3; omega⟩
      · refine .inr ⟨fun e' he' => ?_, by rw [hf, h2]⟩
        rcases List.mem_cons.1 he' with rfl | he'
        · rw [hk]; intro e2; cases e2; exact hz rfl
        · exact h1 e' he'
theorem same_self (x : Int) : Instr.sameBits 10000 (.int .i64 x) (.int .i64 x) = true := by simp [Instr.sameBits]
theorem run_upd {w : World} {r : Nat} {zs : List Int} (h : Mp w r zs) (x : Int) : ∃ w', (Instr.mapUpdate 70 (.map (some r)) (.int .i64 x) (.bool true)).run Tryd.prog w = .ok () w' ∧ Mp w' r (zs ++ [x]) ∧ w'.os = w.os ∧ w'.tape = w.tape ∧ w'.output = w.output ∧ w'.heap.size = w.heap.size ∧ ∀ k, k ≠ r → w'.heap[k]? = w.heap[k]? := by
  obtain ⟨es, clock, hb, hk, hz⟩ := h.at_
  have hc : (Instr.checkKey false 10000 3 (.int .i64 x)).run Tryd.prog w = .ok () w := MapKept.run_checkKey (d := .int .i64) Tryd.underlying3 (by simp [MapKept.IsKey]) false 9999
  rcases find_ints x es.toList 0 (fun e he => by obtain ⟨z, _, h1, h2⟩ := hk e he; exact ⟨z, h1, h2⟩) with ⟨j, e, h1, h2, h3⟩ | ⟨h1, h2⟩
  · rw [Nat.zero_add] at h3
    have hj : es[j]? = some e := by rw [← Array.getElem?_toList]; exact h1
    have hf := MapKept.run_findKey (P := Tryd.prog) (w := w) (kt := 3) Tryd.underlying3 h3
    refine ⟨{ w with heap := w.heap.setIfInBounds r (.map (es.modify j fun e => { e with key := .int .i64 x, val := .bool true }) clock) }, ?_, ⟨_, clock, (MapKept.heap_set hb).1, ?_, ?_⟩, rfl, rfl, rfl, by simp, (MapKept.heap_set hb).2⟩
    · have hks : (Instr.keyThatStays (.int .i64 x) (.int .i64 x)).run Tryd.prog w = .ok (.int .i64 x) w := by
        unfold Instr.keyThatStays
        rw [if_pos (same_self x)]
        rfl
      simp [Instr.mapUpdate, run_underlying Tryd.underlying70, MapKept.run_getObj_map hb, hc, hf, hj, h2, hks, MapKept.run_setObj_map _ hb, Result.andThen]
    · intro e' he'
      obtain ⟨i, hi⟩ := List.mem_iff_getElem?.1 he'
      rw [Array.getElem?_toList, Array.getElem?_modify] at hi
      split at hi
      · obtain ⟨e0, _, rfl⟩ := Option.map_eq_some_iff.1 hi
        exact ⟨x, by simp, rfl, rfl⟩
      · obtain ⟨z, hz1, hz2⟩ := hk e' (by rw [← Array.getElem?_toList] at hi; exact List.mem_of_getElem? hi)
        exact ⟨z, by simp [hz1], hz2⟩
    · intro z hzm
      have key : ∀ (i : Nat) (e0 : MapEntry), es[i]? = some e0 → e0.key = .int .i64 z → ∃ e' ∈ (es.modify j fun e => { e with key := .int .i64 x, val := .bool true }).toList, e'.key = .int .i64 z := fun i e0 hi hk0 => by
        by_cases hij : j = i
        · subst hij
          rw [hj] at hi
          cases hi
          refine ⟨_, List.mem_iff_getElem?.2 ⟨j, by rw [Array.getElem?_toList, Array.getElem?_modify, if_pos rfl, hj]; rfl⟩, ?_⟩
          rw [h2] at hk0
          exact hk0
        · exact ⟨e0, List.mem_iff_getElem?.2 ⟨i, by rw [Array.getElem?_toList, Array.getElem?_modify, if_neg hij]; exact hi⟩, hk0⟩
      rcases List.mem_append.1 hzm with hm | hm
      · obtain ⟨e0, he0, hk0⟩ := hz z hm
        obtain ⟨i, hi⟩ := List.mem_iff_getElem?.1 he0
        exact key i e0 (by rw [← Array.getElem?_toList]; exact hi) hk0
      · rw [List.mem_singleton.1 hm] at key ⊢
        exact key j e hj h2
  · have hf := MapKept.run_findKey (P := Tryd.prog) (w := w) (kt := 3) Tryd.underlying3 h2
    refine ⟨{ w with heap := w.heap.setIfInBounds r (.map (es.push { key := .int .i64 x, val := .bool true, born := clock }) (clock + 1)) }, ?_, ⟨_, clock + 1, (MapKept.heap_set hb).1, ?_, ?_⟩, rfl, rfl, rfl, by simp, (MapKept.heap_set hb).2⟩
    · simp [Instr.mapUpdate, run_underlying Tryd.underlying70, MapKept.run_getObj_map hb, hc, hf, MapKept.run_setObj_map _ hb, Result.andThen]
    · intro e' he'
      rw [Array.toList_push] at he'
      rcases List.mem_append.1 he' with hm | hm
      · obtain ⟨z, hz1, hz2⟩ := hk e' hm
        exact ⟨z, by simp [hz1], hz2⟩
      · rw [List.mem_singleton.1 hm]
        exact ⟨x, by simp, rfl, rfl⟩
    · intro z hzm
      rw [Array.toList_push]
      rcases List.mem_append.1 hzm with hm | hm
      · obtain ⟨e0, he0, hk0⟩ := hz z hm
        exact ⟨e0, by simp [he0], hk0⟩
      · rw [List.mem_singleton.1 hm]
        exact ⟨_, List.mem_append.2 (.inr (List.mem_singleton.2 rfl)), rfl⟩
theorem run_look {w : World} {r : Nat} {zs : List Int} (h : Mp w r zs) (x : Int) : (Instr.lookup 70 (.map (some r)) (.int .i64 x) false).run Tryd.prog w = .ok (.bool (decide (x ∈ zs))) w := by
  obtain ⟨es, clock, hb, hk, hz⟩ := h.at_
  have hc : (Instr.checkKey es.isEmpty 10000 3 (.int .i64 x)).run Tryd.prog w = .ok () w := MapKept.run_checkKey (d := .int .i64) Tryd.underlying3 (by simp [MapKept.IsKey]) _ 9999
  rcases find_ints x es.toList 0 (fun e he => by obtain ⟨z, _, h1, h2⟩ := hk e he; exact ⟨z, h1, h2⟩) with ⟨j, e, h1, h2, h3⟩ | ⟨h1, h2⟩
  · have hf := MapKept.run_findKey (P := Tryd.prog) (w := w) (kt := 3) Tryd.underlying3 h3
    have hm : decide (x ∈ zs) = true := decide_eq_true (by
      obtain ⟨z, hz1, hz2, _⟩ := hk e (List.mem_of_getElem? h1)
      rw [h2] at hz2
      cases hz2
      exact hz1)
    rw [hm]
    simp [Instr.lookup, run_underlying Tryd.underlying70, MapKept.run_getObj_map hb, hc, hf, Result.andThen]
  · have hf := MapKept.run_findKey (P := Tryd.prog) (w := w) (kt := 3) Tryd.underlying3 h2
    have hm : decide (x ∈ zs) = false := decide_eq_false (fun hx => by
      obtain ⟨e, he, hk2⟩ := hz x hx
      exact h1 e he hk2)
    rw [hm]
    simp [Instr.lookup, run_underlying Tryd.underlying70, MapKept.run_getObj_map hb, hc, hf, Tryd.zeroValue4, Result.andThen]
section
variable {ops : Array Oper} {rest : List Oper} {o : Oper} {a : Act} {Q : Exit → Act → World → Prop} {w : World}
theorem wupd (hgd : o.guard = none) (m k x : Operand) (ho : o.op = .mapUpdate 70 m k x) {r : Nat} {zs : List Int} {z : Int} (hm : a.eval m = .map (some r)) (hk : a.eval k = .int .i64 z) (hx : a.eval x = .bool true) (h : Mp w r zs)
    (hK : ∀ w', Mp w' r (zs ++ [z]) → w'.os = w.os → w'.tape = w.tape → w'.output = w.output → w'.heap.size = w.heap.size → (∀ k, k ≠ r → w'.heap[k]? = w.heap[k]?) → wpList Tryd.prog ops Q rest (a.put o.dst undef) w') :
    wpList Tryd.prog ops Q (o :: rest) a w := by
  refine wpList_plain hgd fun K hK' => ?_
  obtain ⟨w', hrun, h1, h2, h3, h4, h5, h6⟩ := run_upd h z
  unfold Oper.wp
  simp [execOp, ho, hm, hk, hx, hrun, Result.andThen]
  exact hK' _ _ (hK w' h1 h2 h3 h4 h5 h6)
theorem wlook (hgd : o.guard = none) (m k : Operand) (ho : o.op = .lookup 70 m k false) {r : Nat} {zs : List Int} {z : Int} (hm : a.eval m = .map (some r)) (hk : a.eval k = .int .i64 z) (h : Mp w r zs)
    (hK : wpList Tryd.prog ops Q rest (a.put o.dst (.bool (decide (z ∈ zs)))) w) :
    wpList Tryd.prog ops Q (o :: rest) a w := by
  refine wpList_plain hgd fun K hK' => ?_
  have hrun := run_look h z
  unfold Oper.wp
  simp [execOp, ho, hm, hk, hrun, Result.andThen]
  exact hK' _ _ hK
end
set_option maxHeartbeats 4000000 in
theorem hpred_any (g r : Nat) (zs : List Int) (w : World) (h : w.cell? ⟨g, 0, none⟩ = some (.map (some r))) (hm : Mp w r zs) : PredAt Tryd.prog 44 #[.pointer (some ⟨g, 0, none⟩)] iV (fun x => decide (x ∈ zs)) w := by
  intro W x hb
  have hE : Ext w W := hb
  have d := hE.cell h
  have HM := Lib.hid (hm.ext hE)
  clear h hb hm
  show Calls Tryd.prog 44 #[iV x, .pointer (some ⟨g, 0, none⟩)] W _
  go_enter Tryd.func44, Tryd.ntmps44
  go_wp2_with (refine wlook rfl (.tmp 4) (.tmp 5) rfl rfl rfl HM.out ?_)
  go_ret
  exact ⟨rfl, 0, rfl⟩
set_option maxHeartbeats 4000000 in
theorem idxf_any (l zs : List Int) (v : Value) (g r : Nat) (w : World) (h : Is w v l) (hg : w.cell? ⟨g, 0, none⟩ = some (.map (some r))) (hm : Mp w r zs) : Calls Tryd.prog 53 #[v, .func (.func 44) #[] #[.pointer (some ⟨g, 0, none⟩)]] w fun e w' => (∃ z : Int, e = .returned (.int .i64 z) ∧ decide (0 ≤ z) = l.any fun x => decide (x ∈ zs)) ∧ Ext w w' := by
  obtain ⟨A, c, rfl, a1, a2, RA⟩ := h.read
  have HR := Lib.hid RA
  have hl : l.length ≤ 9223372036854775807 := by unfold maxLen at a2; omega
  have HP := Lib.hid (hpred_any g r zs w hg hm)
  clear RA h hg hm a1 a2
  go_enter Tryd.func53, Tryd.ntmps53
  go_wp2_with fail
  go_loopw [8] (fun i wr => ∃ k : Nat, k ≤ l.length ∧ i = iV (k : Int) ∧ ((l.take k).any fun x => decide (x ∈ zs)) = false ∧ Ext w wr) (fun i _ => l.length - (intOf i).toNat)
  case atStart => exact ⟨0, by omega, rfl, by simp, Ext.refl _⟩
  case round =>
    obtain ⟨k, hk, rfl, hn, hE⟩ := hrel
    have HN := Lib.hid hn
    have HE := Lib.hid hE
    clear hn hE
    by_cases hlt : k < l.length
    · obtain ⟨ad, rfl, c1⟩ := HR.out wr HE.out k hlt
      have HA := Lib.hid (any_take (fun x => decide (x ∈ zs)) l (d := (0 : Int)) hlt)
      have HT : Hid (decide (l.getD k 0 ∈ zs) = true → (l.any fun x => decide (x ∈ zs)) = true) := Lib.hid (fun hd => by
        rw [List.any_eq_true]
        refine ⟨l.getD k 0, ?_, hd⟩
        rw [List.getD_eq_getElem?_getD, List.getElem?_eq_getElem hlt]
        exact List.getElem_mem hlt)
      obtain ⟨y, hy⟩ : ∃ y, l.getD k 0 = y := ⟨_, rfl⟩
      rw [hy] at c1 HA HT
      clear hy
      have PC : Hid (Calls Tryd.prog 44 #[iV y, .pointer (some ⟨g, 0, none⟩)] wr fun e w' => e = .returned (.bool (decide (y ∈ zs))) ∧ ∃ q, w' = wr.drewN q) := Lib.hid (HP.out wr y HE.out)
      cases hd : decide (y ∈ zs) with
      | true =>
        have HT' := Lib.hid (HT.out hd)
        rw [hd] at PC
        clear HA HT hd
        go_wp2_with fail
        refine PC.out.mono ?_
        rintro e2 w2 ⟨rfl, q, rfl⟩
        go_wp2_with fail
        go_ret
        exact ⟨⟨_, rfl, by rw [HT'.out]; exact decide_eq_true (by omega)⟩, HE.out.drewN _⟩
      | false =>
        have HA' : Hid (((l.take (k + 1)).any fun x => decide (x ∈ zs)) = false) := by rw [HA.out, HN.out, hd]; exact Lib.hid rfl
        rw [hd] at PC
        clear HA HT hd
        go_wp2_with fail
        refine PC.out.mono ?_
        rintro e2 w2 ⟨rfl, q, rfl⟩
        go_wp2_with fail
        exact ⟨⟨k + 1, by omega, by go_num, HA'.out, HE.out.drewN _⟩, by simp [intOf]; omega⟩
    · obtain rfl : k = l.length := by omega
      have hn := HN.out
      rw [List.take_length] at hn
      have HN' := Lib.hid hn
      clear hn
      go_wp2_with fail
      go_ret
      exact ⟨⟨_, rfl, by rw [HN'.out]; rfl⟩, HE.out⟩
theorem contf_any (l zs : List Int) (v : Value) (g r : Nat) (w : World) (h : Is w v l) (hg : w.cell? ⟨g, 0, none⟩ = some (.map (some r))) (hm : Mp w r zs) : Calls Tryd.prog 43 #[v, .func (.func 44) #[] #[.pointer (some ⟨g, 0, none⟩)]] w (RetB (l.any fun x => decide (x ∈ zs)) w) := by
  have IX := Lib.hid (idxf_any l zs v g r w h hg hm)
  clear h hg hm
  generalize (l.any fun x => decide (x ∈ zs)) = b at *
  go_enter Tryd.func43, Tryd.ntmps43
  go_wp2_with fail
  refine IX.out.mono ?_
  rintro e w1 ⟨⟨z, rfl, hz⟩, hE⟩
  have HZ := Lib.hid hz
  have HE := Lib.hid hE
  clear hz hE
  go_wp2_with fail
  go_ret
  exact ⟨ret_bool HZ.out, HE.out⟩
end Go.Proofs.YtdcbejccplonjaaDoor
