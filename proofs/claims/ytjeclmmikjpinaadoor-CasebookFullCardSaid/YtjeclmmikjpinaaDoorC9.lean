/- The iterator of maps.Keys over a map of cases: the digests come, each once, in some order. -/
import Derived.Test.YtjeclmmikjpinaaDoorC7
import Derived.Sort.MapsRangeIn
import Derived.RangeFuncStops
import Derived.RangeFuncWrites
import Derived.RangeFuncBound
import Derived.RangeFuncCalls
import Derived.RangeFuncLeaves
import Derived.OwnWalkIn
import Derived.TacticsInMore
import Derived.LoopNIn
import Derived.LoopIn
namespace Go.Proofs.YtjeclmmikjpinaaDoor
open Go.RowKit
open Go.ChangeMaps (setBlock)
theorem It.of_walks {w w' : World} {m r : Nat} {us done : List (List UInt8)} {cnt : Nat} (h : It w m r us done cnt) (k : KeepsWalks w w') : It w' m r us done cnt := by
  obtain ⟨es, clock, seen, h1, k1, k2, k3, h2, h3⟩ := h
  exact ⟨es, clock, seen, k.same _ _ h1 rfl, k1, k2, k3, k.same _ _ h2 rfl, h3⟩
section
variable (w : World) {F : Fence} {n : Nat} {ops : Array Oper} {rest : List Oper} {o : Oper} {a : Act} {Q : Exit → Act → World → Prop}
theorem wrangeIn (hg : o.guard = none) (m : Operand) (hop : o.op = Op.range 46 m) (b : Nat) (us : List (List UInt8)) (hm : a.eval m = .map (some b)) (h : Mk w b us)
    (hK : ∀ w', It w' b w.heap.size us [] us.length → w.grownBy w' none → w'.heap.size = w.heap.size + 1 → wpListIn F n Tryd.prog ops Q rest (a.put o.dst (.pointer (some ⟨w.heap.size, 0, none⟩))) w') : wpListIn F n Tryd.prog ops Q (o :: rest) a w := by
  refine wpListIn_plain hg fun K' hK' => ?_
  obtain ⟨es, clock, h1, h2, h3, h4⟩ := h.at_
  have hrun := run_range_map w 46 _ _ b es clock Tryd.underlying46 h1
  have hbl := (Array.getElem?_eq_some_iff.1 h1).1
  unfold Oper.wpIn
  refine ⟨?_, ?_⟩
  · simp [Oper.about, hop]
  · rw [Oper.semAt_plain F _ _ (by rw [hop]; intro c hc'; cases hc')]
    simp [execOp, hop, hm, hrun, Result.andThen]
    refine hK' _ _ (hK _ ⟨es, clock, #[], ?_, h2, h3, h4, heap_alloc_new w _, ?_, List.nodup_nil, fun e he => by simp, by simp, h.long⟩ ?_ (by simp))
    · rw [((Ext.refl w).alloc _).block b hbl]
      exact h1
    · have e1 : leftOf es #[] = es := by unfold leftOf; exact Array.filter_eq_self.2 (fun x hx => by simp)
      rw [e1]
      have := congrArg List.length h2
      simpa using this
    · have e := (Ext.refl w).alloc (.mapIter (some b) clock #[] clock)
      exact ⟨e.os, e.tape, e.output, e.size, fun k hk _ => e.block k hk⟩
theorem wnextIn (hg : o.guard = none) (it : Operand) (hop : o.op = Op.next it false) (b r : Nat) (us done : List (List UInt8)) (cnt : Nat) (hit : a.eval it = .pointer (some ⟨r, 0, none⟩)) (h : It w b r us done cnt)
    (hDone : (∀ k, k ∈ done ↔ k ∈ us) → wpListIn F n Tryd.prog ops Q rest (a.put o.dst (.tuple #[.bool false])) w)
    (hMore : ∀ (k : List UInt8) (s : ByteArray) (A : Option Addr) (l c : Nat) (w' : World) (cnt' : Nat), k.length = 32 → k ∈ us → k ∉ done → It w' b r us (done ++ [k]) cnt' → cnt' < cnt → w.grownBy w' (some r) → w'.heap.size = w.heap.size →
      (Instr.entry (.pointer (some ⟨r, 0, none⟩))).run Tryd.prog w' = .ok (.tuple #[idV k, .agg #[.string s, .slice A l c, .bool false]]) w' → wpListIn F n Tryd.prog ops Q rest (a.put o.dst (.tuple #[.bool true, idV k, .agg #[.string s, .slice A l c, .bool false]])) w') : wpListIn F n Tryd.prog ops Q (o :: rest) a w := by
  refine wpListIn_plain hg fun K' hK' => ?_
  unfold Oper.wpIn
  refine ⟨by simp [Oper.about, hop], ?_⟩
  rw [Oper.semAt_plain F _ _ (by rw [hop]; intro c hc'; cases hc')]
  obtain ⟨es, clock, seen, h1, h2, h3, h4, h5, h6, h7, h8, h9, h10⟩ := h
  rcases run_next_at (P := Tryd.prog) w o.type r b clock clock seen es clock h5 h1 h4.1 (Nat.le_refl _) with ⟨h0, hrun⟩ | ⟨e, he, w1, hw1, hrun⟩
  · simp [execOp, hop, hit, hrun, Result.andThen]
    refine hK' _ _ (hDone fun k => ⟨h9 k, fun hk => ?_⟩)
    have hk' : idV k ∈ es.toList.map (·.key) := by rw [h2]; exact List.mem_map.2 ⟨k, hk, rfl⟩
    obtain ⟨e, he, hek⟩ := List.mem_map.1 hk'
    obtain ⟨k2, hk2, hk3⟩ := (h8 e he).1 (all_seen es seen h0 e he)
    have : k2 = k := idV_inj (h10 k2 (h9 k2 hk2)) (h10 k hk) (by rw [hk3, hek])
    rw [← this]
    exact hk2
  · obtain ⟨he1, he2⟩ := mem_left he
    have hkm : e.key ∈ us.map (fun k => idV k) := by rw [← h2]; exact List.mem_map.2 ⟨e, he1, rfl⟩
    obtain ⟨k, hk, hke⟩ := List.mem_map.1 hkm
    obtain ⟨s, A, l, c, hv⟩ := h3 e he1
    rw [← hke, hv] at hrun
    simp [execOp, hop, hit, hrun, Result.andThen]
    have hw1h : w1.heap = w.heap := by rcases hw1 with rfl | rfl <;> rfl
    have hne : b ≠ r := by
      rintro rfl
      rw [h1] at h5
      cases h5
    have hrl := (Array.getElem?_eq_some_iff.1 h5).1
    have hkd : k ∉ done := fun hd => by
      have := (h8 e he1).2 ⟨k, hd, hke⟩
      rw [he2] at this
      cases this
    have hbk : (setBlock w1 r (.mapIter (some b) clock (seen.push e.born) clock)).heap[b]? = some (.map es clock) := by rw [heap_setBlock _ _ _ _ hne, hw1h]; exact h1
    have hrk : (setBlock w1 r (.mapIter (some b) clock (seen.push e.born) clock)).heap[r]? = some (.mapIter (some b) clock (seen.push e.born) clock) := by
      unfold setBlock
      simp [hw1h, hrl]
    refine hK' _ _ (hMore k s A l c _ _ (h10 k hk) hk hkd ⟨es, clock, seen.push e.born, hbk, h2, h3, h4, hrk, rfl, ?_, ?_, ?_, h10⟩ (by rw [← h6]; exact left_shrinks es seen e he)
      ⟨by rcases hw1 with rfl | rfl <;> rfl, by rcases hw1 with rfl | rfl <;> rfl, by rcases hw1 with rfl | rfl <;> rfl, by rw [size_setBlock, hw1h]; exact Nat.le_refl _, fun i _ hi => by rw [heap_setBlock _ _ _ _ (fun e => hi (by rw [e])), hw1h]⟩ (by rw [size_setBlock, hw1h]) ?_)
    · rw [List.nodup_append]
      exact ⟨h7, by simp, fun a ha b hb e2 => by rw [List.mem_singleton.1 hb] at e2; exact hkd (e2 ▸ ha)⟩
    · intro x hx
      rw [contains_push, Bool.or_eq_true, h8 x hx]
      constructor
      · rintro (⟨k2, hk2, hk3⟩ | hb)
        · exact ⟨k2, by simp [hk2], hk3⟩
        · have hb : x.born = e.born := by simpa using hb
          have hxe : x = e := inj_of_nodup h4.2.1 hx he1 hb
          exact ⟨k, by simp, by rw [hxe, hke]⟩
      · rintro ⟨k2, hk2, hk3⟩
        rcases List.mem_append.1 hk2 with hk2 | hk2
        · exact .inl ⟨k2, hk2, hk3⟩
        · rw [List.mem_singleton.1 hk2] at hk3
          have hxe : x = e := inj_of_nodup h4.2.2 hx he1 (by rw [← hk3, hke])
          exact .inr (by rw [hxe]; simp)
    · intro k2 hk2
      rcases List.mem_append.1 hk2 with hk2 | hk2
      · exact h9 k2 hk2
      · rw [List.mem_singleton.1 hk2]
        exact hk
    · have := run_entry_at (P := Tryd.prog) _ r b clock seen es clock e hrk hbk he1 h4.2.1
      rw [← hke, hv] at this
      exact this
end
attribute [local go_sem ↓] Go.wp_at_zero Go.wp_at_succ
attribute [local go_sem ↓] ld48 st48 al48 bu48
attribute [local go_sem] run_al48 run_bu48 run_st48n
set_option maxRecDepth 100000 in
set_option maxHeartbeats 1000000 in
theorem keys49_in (F : Fence) (n : Nat) (h49 : F.fn 44) (hro : F.round = none) (hn : 1 ≤ n) (l Bm b : Nat) (us : List (List UInt8)) (J Jx : List (List UInt8) → World → Prop)
    (hY : ∀ pre x W, J pre W → pre.length < us.length → x.length = 32 → YieldAt F (n - 1) Tryd.prog l #[idV x] W fun e W' =>
      (e = .returned (.bool true) ∧ J (pre ++ [x]) W' ∧ KeepsWalks W W') ∨ (e = .returned (.bool false) ∧ Jx (pre ++ [x]) W'))
    (W : World) (hJ : AbidesFrom W.heap.size J) (hm : W.cell? ⟨Bm, 0, none⟩ = some (.map (some b))) (hown : Mk W b us) (h0 : J [] W) :
    CallsIn F n Tryd.prog 44 #[.func (.yield l) #[] #[], .pointer (some ⟨Bm, 0, none⟩)] W fun e W' => (∃ v, e = .returned v) ∧
      ((∃ ss : List (List UInt8), (ss.Nodup ∧ ∀ x, x ∈ ss ↔ x ∈ us) ∧ J ss W') ∨ (∃ pre : List (List UInt8), True ∧ Jx pre W')) := by
  have HOWN := Lib.hid hown
  clear hown
  refine callsIn_of_wp Tryd.func44 rfl h49 ?_ hro
  simp only [Tryd.ntmps44, List.size_toArray, List.length_cons, List.length_nil, Nat.reduceAdd, Nat.reduceSub, Array.replicate_succ, Array.replicate_zero, List.push_toArray, List.append_toArray, List.nil_append, List.cons_append]
  gi_wp2_with (first
    | (gi_at_range; refine wrangeIn _ rfl _ rfl b us rfl HOWN.out ?_; intro w0 hit0 hg0 hs0)
    | gi_in)
  go_frame
  gi_loopw [] (fun wr => ∃ (done : List (List UInt8)) (cnt : Nat), It wr b W.heap.size us done cnt ∧ done.length + cnt ≤ us.length ∧ J done wr) (fun wr => leftN wr b W.heap.size)
  case atStart => exact ⟨[], us.length, hit0, by simp, hJ [] W w0 none h0 hg0 (fun r e => by cases e)⟩
  case round =>
    obtain ⟨done, cnt, hit, hcs, hJs⟩ := hrel
    gi_wp2_with (first
      | (gi_at_next; refine wnextIn _ rfl _ rfl b W.heap.size us done cnt rfl hit ?_ ?_)
      | gi_in)
    · intro hall
      gi_wp2
      go_end0
      obtain ⟨es, clock, seen, -, -, -, -, -, -, hnd, -⟩ := hit
      exact ⟨⟨_, rfl⟩, .inl ⟨done, ⟨hnd, hall⟩, hJs⟩⟩
    · intro k ts tA tl tc w2 cnt2 hkl hku hkd hit2 hlt hg2 hs2 hen
      have hJ2 : J done w2 := hJ done wr w2 (some W.heap.size) hJs hg2 (fun r e => by cases e; exact ⟨Nat.le_refl _, by obtain ⟨es, clock, seen, -, -, -, -, h5, -⟩ := hit; exact ⟨_, h5, rfl⟩⟩)
      have hJ3 : J done (w2.alloc (.cells (idA k) 27)) := by
        have e := (Ext.refl w2).alloc (.cells (idA k) 27)
        exact hJ done w2 _ none hJ2 ⟨e.os, e.tape, e.output, e.size, fun i hi _ => e.block i hi⟩ (fun r e => by cases e)
      have HIT3 := Lib.hid (hit2.ext ((Ext.refl w2).alloc (.cells (idA k) 27)))
      have l1 := (Bk.new (w := w2) (n := 32) (T := 27) (f := idF k) (by decide)).run_ld48
      obtain ⟨fn, tmps, assign, body, hy, hR⟩ := hY done k _ hJ3 (by omega) hkl
      clear hs2 hJ2 hit2 hJ3
      gi_wp2
      refine hR.mono ?_
      rintro e W3 (⟨rfl, hJ4, hk3⟩ | ⟨rfl, hJx3⟩)
      · gi_wp2
        have hit3 := HIT3.out.of_walks hk3
        go_roundw
        case rel => exact ⟨done ++ [k], cnt2, hit3, by simp; omega, hJ4⟩
        case measure => rw [hit3.left, hit.left]; exact hlt
      · gi_wp2
        refine bodyPost_ret (results_none rfl _ _ _) rfl ?_
        exact ⟨⟨_, rfl⟩, .inr ⟨done ++ [k], trivial, hJx3⟩⟩
/-- A digest: 32 bytes. -/
abbrev Dg := { x : List UInt8 // x.length = 32 }
abbrev dgV (x : Dg) : Value := idV x.1
theorem map_dg (ds : List Dg) (x : List UInt8) (hx : x.length = 32) : ds.map (fun d : Dg => d.1) ++ [x] = (ds ++ [(⟨x, hx⟩ : Dg)]).map (fun d : Dg => d.1) := by
  rw [List.map_append]
  rfl
/-- maps.Keys hands back a value that gives the digests, each once. -/
theorem keys_stops (F : Fence) (n : Nat) (h49 : F.fn 44) (hro : F.round = none) (hn : 1 ≤ n) (Bm b : Nat) (us : List (List UInt8)) (w : World) (hBm : Bm < w.heap.size) (hm : w.cell? ⟨Bm, 0, none⟩ = some (.map (some b))) (hown : Mk w b us) :
    SeqStops F n Tryd.prog 44 #[.pointer (some ⟨Bm, 0, none⟩)] dgV (fun ss => (ss.map (·.1)).Nodup ∧ ∀ x, x ∈ ss.map (·.1) ↔ x ∈ us) (fun _ => True) us.length w := fun l J Jx W hW hJ hJx hY h0 => by
  refine (keys49_in F n h49 hro hn l Bm b us (fun ss W => ∃ ds : List Dg, ds.map (·.1) = ss ∧ J ds W) (fun ss W => ∃ ds : List Dg, ds.map (·.1) = ss ∧ Jx ds W) (fun pre x W1 hp hl hx => ?_) W (fun s A B row hs hg hr => ?_) ((hW.cell (p := ⟨Bm, 0, none⟩) hBm).trans hm) (hown.kept (hW.block b hown.lt)) ⟨[], rfl, h0⟩).mono ?_
  · obtain ⟨ds, rfl, hj⟩ := hp
    obtain ⟨fn, tmps, assign, body, hy, hR⟩ := hY ds ⟨x, hx⟩ W1 hj (by simpa using hl)
    refine ⟨fn, tmps, assign, body, hy, hR.mono ?_⟩
    rintro e W3 (⟨rfl, hJ4, hk3⟩ | ⟨rfl, hJx3⟩)
    · exact .inl ⟨rfl, ⟨_, (map_dg ds x hx).symm, hJ4⟩, hk3⟩
    · exact .inr ⟨rfl, ⟨_, (map_dg ds x hx).symm, hJx3⟩⟩
  · obtain ⟨ds, e, hj⟩ := hs
    exact ⟨ds, e, hJ ds A B row hj hg hr⟩
  · rintro e W3 ⟨hv, ⟨ss, ⟨h1, h2⟩, ds, rfl, hj⟩ | ⟨pre, -, ds, rfl, hj⟩⟩
    · exact ⟨hv, .inl ⟨ds, ⟨h1, h2⟩, hj⟩⟩
    · exact ⟨hv, .inr ⟨ds, trivial, hj⟩⟩
end Go.Proofs.YtjeclmmikjpinaaDoor
