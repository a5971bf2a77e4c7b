/- Appends at a base; arrivals of the call's own; the walk over Send. -/
import Derived.Test.YtehmpbaiefbemaaGreatN22
namespace Go.Proofs.YtehmpbaiefbemaaGreat
open Go.RowKit
open Go.ChangeMaps (setBlock)
attribute [local go_sem ↓] Go.wp_at_zero Go.wp_at_succ
/-- A world's first blocks. -/
def trunc (w : World) (m : Nat) : World := { w with heap := w.heap.extract 0 m }
theorem trunc_size {w : World} {m : Nat} (h : m ≤ w.heap.size) : (trunc w m).heap.size = m := by simp [trunc]; omega
theorem trunc_ext {w : World} {m : Nat} (h : m ≤ w.heap.size) : Ext (trunc w m) w := by
  refine ⟨rfl, rfl, rfl, by rw [trunc_size h]; exact h, fun k hk => ?_⟩
  rw [trunc_size h] at hk
  show w.heap[k]? = (w.heap.extract 0 m)[k]?
  rw [Array.getElem?_extract, if_pos (by omega)]
  simp
section
variable {ops : Array Oper} {o : Oper} {a : Act} {Q : Exit → Act → World → Prop} {K : Act → World → Prop} {E : Prop} {w : World} {t e s n B : Nat} {z : Value}
theorem wappB {rest : List Oper} (el : El t e z s n) (hgd : o.guard = none) (p x : Operand) (ho : o.op = .call { callee := .builtin .append, args := #[p, x], argTypes := #[t, t] }) {v : Value} {vs us : List (List Value)} (hs : a.eval p = v) (hB : B ≤ w.heap.size) (hrow : Row s w B e v vs)
    {A : Option Addr} {c m : Nat} (hx : a.eval x = .slice A m c) (hn : m = us.length) (hw : Wide s us) (hy : VsAt w A us.flatten) (h1 : ∀ u ∈ us.flatten, u.oneCell' = true) (hm : (vs.length + us.length) * n ≤ 140737488355328) (hm2 : vs.length + us.length ≤ 1000000000000000)
    (h : ∀ v' w', Row s w' B e v' (vs ++ us) → w.grownBy w' v.ownBlock → (v'.ownBlock = v.ownBlock ∨ v'.ownBlock = some w.heap.size) → wpList Tryz.prog ops Q rest (a.put o.dst v') w') :
    wpList Tryz.prog ops Q (o :: rest) a w := by
  refine wapp el hgd p x ho hs (w5 := trunc w B) (trunc_ext hB) (by rw [trunc_size hB]; exact hrow) hx hn hw hy h1 hm hm2 fun v' w' k1 _ k3 k4 => h v' w' ?_ k3 k4
  rw [trunc_size hB] at k1
  exact k1
theorem sappB (el : El t e z s n) (hgd : o.guard = none) (p x : Operand) (ho : o.op = .call { callee := .builtin .append, args := #[p, x], argTypes := #[t, t] }) {v : Value} {vs us : List (List Value)} (hs : a.eval p = v) (hB : B ≤ w.heap.size) (hrow : Row s w B e v vs)
    {A : Option Addr} {c m : Nat} (hx : a.eval x = .slice A m c) (hn : m = us.length) (hw : Wide s us) (hy : VsAt w A us.flatten) (h1 : ∀ u ∈ us.flatten, u.oneCell' = true) (hm : (vs.length + us.length) * n ≤ 140737488355328) (hm2 : vs.length + us.length ≤ 1000000000000000)
    (h : ∀ v' w', Row s w' B e v' (vs ++ us) → w.grownBy w' v.ownBlock → (v'.ownBlock = v.ownBlock ∨ v'.ownBlock = some w.heap.size) → K (a.put o.dst v') w') :
    if Region.wanted o (yielded ops a.tmps) = true then Oper.wp Tryz.prog o a w K Q else E := by
  refine sapp el hgd p x ho hs (w5 := trunc w B) (trunc_ext hB) (by rw [trunc_size hB]; exact hrow) hx hn hw hy h1 hm hm2 fun v' w' k1 _ k3 k4 => h v' w' ?_ k3 k4
  rw [trunc_size hB] at k1
  exact k1
end
theorem Exc.grown {g r : Nat} {w0 w w' : World} {row : Option Nat} (h : Exc g r w0 w) (hg : w.grownBy w' row) (hr : ∀ k, row = some k → w0.heap.size ≤ k) : Exc g r w0 w' :=
  ⟨hg.os.trans h.os, hg.tape.trans h.tape, hg.output.trans h.output, Nat.le_trans h.size hg.size, fun k hk h1 h2 => (hg.block k (Nat.lt_of_lt_of_le hk h.size) (fun e => by have := hr k e.symm; omega)).trans (h.block k hk h1 h2)⟩
theorem Net.grown {w0 w w' : World} {g r : Nat} {cv hv : Value} {cs : List Ch} {hs : List Jh} {x y : St} {row : Option Nat} (h0 : Net w0 g r cv hv cs hs x) (h : Net w g r cv hv cs hs y) (hE : Exc g r w0 w) (hg : w.grownBy w' row) (hr : ∀ k, row = some k → w0.heap.size ≤ k) : Net w' g r cv hv cs hs y ∧ Exc g r w0 w' := by
  have E := hE.grown hg hr
  have hgl := h0.lt
  have hrl := h0.rlt
  obtain ⟨us, h1, h2⟩ := h.map
  refine ⟨h0.exc E ((blkOf_kept (hg.block g h.lt fun e => ?_)).trans h.blk) ⟨us, h1.kept (hg.block r h.rlt fun e => ?_), h2⟩, E⟩
  · have := hr g e.symm; omega
  · have := hr r e.symm; omega
theorem Row.exc {s : Nat} {g r : Nat} {w w' : World} {B e : Nat} {v : Value} {vs : List (List Value)} (h : Row s w B e v vs) (k : Exc g r w w') (hg : g < B) (hr : r < B) : Row s w' B e v vs :=
  h.kept fun i hi => k.block i (h.lt i hi).2 (by have := (h.lt i hi).1; omega) (by have := (h.lt i hi).1; omega)
/-- Arrivals of the call's own. -/
structure ArOwn (w : World) (B : Nat) (v : Value) (js : List Ja) : Prop where
  row : Row 3 w B 69 v (js.map encJ)
  args : ∀ j ∈ js, Row 1 w B 2 j.2 (j.1.2.2.map fun x => [iV x])
theorem ArOwn.nil (w : World) (B : Nat) : ArOwn w B (.slice none 0 0) [] := ⟨Row.nil _ _ _ _, by simp⟩
theorem ArOwn.exc {g r : Nat} {w w' : World} {B : Nat} {v : Value} {js : List Ja} (h : ArOwn w B v js) (k : Exc g r w w') (hg : g < B) (hr : r < B) : ArOwn w' B v js := ⟨h.row.exc k hg hr, fun j hj => (h.args j hj).exc k hg hr⟩
theorem ArOwn.ext {w w' : World} {B : Nat} {v : Value} {js : List Ja} (h : ArOwn w B v js) (k : Ext w w') : ArOwn w' B v js := ⟨h.row.ext k, fun j hj => (h.args j hj).ext k⟩
theorem ArOwn.base {w : World} {B B' : Nat} {v : Value} {js : List Ja} (h : ArOwn w B v js) (hB : B' ≤ B) : ArOwn w B' v js := ⟨h.row.base hB, fun j hj => (h.args j hj).base hB⟩
theorem ArOwn.ja {w : World} {B : Nat} {v : Value} {js : List Ja} (h : ArOwn w B v js) : JaAt w v js := ⟨h.row.sl, fun j hj => (h.args j hj).sl⟩
theorem ArOwn.app {W w6 : World} {B : Nat} {v v6 : Value} {js : List Ja} {j : Ja} (h : ArOwn W B v js) (ha : Row 1 W B 2 j.2 (j.1.2.2.map fun x => [iV x])) (hr : Row 3 w6 B 69 v6 (js.map encJ ++ [encJ j])) (hG : W.grownBy w6 v.ownBlock) : ArOwn w6 B v6 (js ++ [j]) := by
  refine ⟨by rw [List.map_append]; exact hr, fun y hy => ?_⟩
  rcases List.mem_append.1 hy with hy | hy
  · exact (h.args y hy).grown hG (h.row.apart (h.args y hy) (by decide))
  · rw [List.mem_singleton.1 hy]
    exact ha.grown hG (h.row.apart ha (by decide))
def RetSd (g r : Nat) (cv hv : Value) (cs : List Ch) (hs : List Jh) (y : St) (ord : Int) (ts : List Int) (h : Int) (args : List Int) (w : World) (e : Ending) (w' : World) : Prop :=
  ∃ (v : Value) (js : List Ja), e = .returned (.tuple #[iV ord, v]) ∧ js.map (·.1) = ts.map (fun t => (t, h, args)) ∧ ArOwn w' w.heap.size v js ∧ Net w' g r cv hv cs hs y ∧ Exc g r w w'
theorem sendF_in {cs : List Ch} {hs : List Jh} {f t n : Nat} {tick lat : Int} {x x1 : St} (hf : f < 8) (ht : t < 8) (hn : x.s (f * 8 + t) = n) (hx : ({ x with s := upd x.s (f * 8 + t) (n + 1) } : St) = x1) : sendF cs hs (f : Int) (t : Int) tick lat x =
    if hasB hs ((f : Int), (t : Int), (n : Int)) then (x1, (n : Int), [])
    else if (getF cs (5, (f : Int), (t : Int), (n : Int))).isSome then (eatS cs x1 (5, (f : Int), (t : Int), (n : Int)), (n : Int), [])
    else (eatS cs (eatS cs x1 (6, (f : Int), (t : Int), (n : Int))) (7, (f : Int), (t : Int), (n : Int)), (n : Int),
      [tick + max lat 1 + (getF cs (6, (f : Int), (t : Int), (n : Int))).getD 0] ++ (match getF cs (7, (f : Int), (t : Int), (n : Int)) with | some d => [tick + max lat 1 + (getF cs (6, (f : Int), (t : Int), (n : Int))).getD 0 + d] | none => [])) := by
  have hi : ix (f : Int) (t : Int) = f * 8 + t := by unfold ix; omega
  unfold sendF
  rw [if_pos (by unfold inC; omega), hi, hn, ← hx]
  cases hasB hs ((f : Int), (t : Int), (n : Int)) with
  | true => rfl
  | false =>
    simp only [Bool.false_eq_true, if_false]
    cases h5 : getF cs (5, (f : Int), (t : Int), (n : Int)) with
    | some d => simp [eatS, eatF, h5]
    | none =>
      cases h7 : getF cs (7, (f : Int), (t : Int), (n : Int)) with
      | some d => simp [eatS, eatF, h7]
      | none => simp [eatS, eatF, h7]
set_option maxRecDepth 100000 in
set_option maxHeartbeats 8000000 in
theorem send12_any (g r : Nat) (cv hv : Value) (cs : List Ch) (hs : List Jh) (x : St) (fi ti h tick lat : Int) (args : List Int) (av : Value) (w : World) (hN : Net w g r cv hv cs hs x) (ha : AscC cs) (hl : cs.length ≤ 1000) (hb : Bd x 100000) (hm : Sm cs)
    (h1 : -1000000 ≤ tick) (h2 : tick ≤ 1000000) (h3 : -1000000 ≤ lat) (h4 : lat ≤ 1000000) (hA : Stay g r (fun W => ArgsAt W av args) w) (hal : args.length ≤ 4) :
    Calls Tryz.prog 18 #[.pointer (some ⟨g, 0, none⟩), iV fi, iV ti, iV h, av, iV tick, iV lat] w (RetSd g r cv hv cs hs (sendF cs hs fi ti tick lat x).1 (sendF cs hs fi ti tick lat x).2.1 (sendF cs hs fi ti tick lat x).2.2 h args w) := by
  have HN := Lib.hid hN
  have CC := Lib.hid comp_any
  obtain ⟨A0, c0, rfl, -, -, -⟩ := hA.now.at_
  rw [List.length_map] at hA ⊢
  have HAR := Lib.hid hA
  by_cases hc : inC fi ∧ inC ti
  · obtain ⟨⟨hf0, hf8⟩, ht0, ht8⟩ := hc
    obtain ⟨f, rfl⟩ : ∃ n : Nat, fi = (n : Int) := ⟨fi.toNat, by omega⟩
    obtain ⟨t, rfl⟩ : ∃ n : Nat, ti = (n : Int) := ⟨ti.toNat, by omega⟩
    have hf : f < 8 := by omega
    have ht : t < 8 := by omega
    obtain ⟨n, hn⟩ : ∃ n, x.s (f * 8 + t) = n := ⟨_, rfl⟩
    have n1 : w.cell? ⟨g, 2 + f * 8 + t, none⟩ = some (iV (n : Int)) := blkOf_cell (by rw [hN.blk, Nat.add_assoc, ← hn]; exact NV_sent (by omega))
    have nf : ∀ i, w.frozen? ⟨g, i, none⟩ = false := fun i => blkOf_frozen (by rw [hN.blk, NV_size]; omega)
    have htb : (n : Int) ≤ 100000 := by have := (hb (f * 8 + t)).1; omega
    have CF := comp_any (f : Int)
    rw [decide_eq_true (⟨hf0, hf8⟩ : 0 ≤ (f : Int) ∧ (f : Int) < 8)] at CF
    have HCF := Lib.hid CF
    have CT := comp_any (t : Int)
    rw [decide_eq_true (⟨ht0, ht8⟩ : 0 ≤ (t : Int) ∧ (t : Int) < 8)] at CT
    have HCT := Lib.hid CT
    obtain ⟨hN1, hE1⟩ := (hN.ext ((Ext.refl w).drew)).setS (k := f * 8 + t) (by omega) (n + 1)
    obtain ⟨x1, hx1⟩ : ∃ x1 : St, ({ x with s := upd x.s (f * 8 + t) (n + 1) } : St) = x1 := ⟨_, rfl⟩
    have HF := Lib.hid (sendF_in (cs := cs) (hs := hs) (tick := tick) (lat := lat) hf ht hn hx1)
    rw [hx1] at hN1
    have hcast : ((n + 1 : Nat) : Int) = (n : Int) + 1 := by omega
    rw [hcast, show 2 + (f * 8 + t) = 2 + f * 8 + t by omega] at hN1 hE1
    have HN1 := Lib.hid hN1
    have HE1 := Lib.hid ((((Ext.refl w).drew).exc g r).trans hE1)
    clear hcast
    have SM := Lib.hid hm
    have HA := Lib.hid ha
    clear hN hN1 hE1 hx1 hm hb CF CT ha hA hn
    generalize sendF cs hs (f : Int) (t : Int) tick lat x = res at *
    have hwr : IntKind.i64.wrap ((n : Int) + 1) = (n : Int) + 1 := IntWalk.i64_in _ (by omega)
    go_enter Tryz.func18, Tryz.ntmps18
    go_wp2_with fail
    refine (HCF.out _).mono ?_
    rintro e1 w1 ⟨rfl, rfl⟩
    go_wp2_with fail
    refine (HCT.out _).mono ?_
    rintro e1 w1 ⟨rfl, rfl⟩
    go_upto_region 4 with fail
    refine wp_region_noPanic ?_
    refine wp_region_X (S := (fun ww => ww = w.drew)) (z := 13) (by kernel_rfl) ?_ (fun hHeld => ?_)
    · rfl
    refine wpAnyX_take (i := 0) (v := ?_) (oper_at rfl) (by kernel_rfl) (by kernel_rfl) (by kernel_rfl) (by kernel_rfl) (fun _ _ _ h => h) (Or.inl ⟨by rfl, ?_⟩) hHeld ?_
    rotate_left
    · (intro ww hSw; (try dsimp only at hSw); go_simp; try (with_reducible rfl))
    try simp only [Act.put, List.setIfInBounds_toArray, List.set_cons_zero, List.set_cons_succ]
    refine wpAnyX_take (i := 1) (v := ?_) (oper_at rfl) (by kernel_rfl) (by kernel_rfl) (by kernel_rfl) (by kernel_rfl) (fun _ _ _ h => h) (Or.inl ⟨by rfl, ?_⟩) hHeld ?_
    rotate_left
    · (intro ww hSw; (try dsimp only at hSw); go_simp; try (with_reducible rfl))
    try simp only [Act.put, List.setIfInBounds_toArray, List.set_cons_zero, List.set_cons_succ]
    refine wpAnyX_take (i := 2) (v := ?_) (oper_at rfl) (by kernel_rfl) (by kernel_rfl) (by kernel_rfl) (by kernel_rfl) (fun _ _ _ h => h) (Or.inl ⟨by rfl, ?_⟩) hHeld ?_
    rotate_left
    · (intro ww hSw; (try dsimp only at hSw); go_simp; try (with_reducible rfl))
    try simp only [Act.put, List.setIfInBounds_toArray, List.set_cons_zero, List.set_cons_succ]
    refine wpAnyX_take (i := 3) (v := ?_) (oper_at rfl) (by kernel_rfl) (by kernel_rfl) (by kernel_rfl) (by kernel_rfl) (fun _ _ _ h => h) (Or.inl ⟨by rfl, ?_⟩) hHeld ?_
    rotate_left
    · (intro ww hSw; (try dsimp only at hSw); go_simp; try (with_reducible rfl))
    try simp only [Act.put, List.setIfInBounds_toArray, List.set_cons_zero, List.set_cons_succ]
    refine wpAnyX_take (i := 4) (v := ?_) (oper_at rfl) (by kernel_rfl) (by kernel_rfl) (by kernel_rfl) (by kernel_rfl) (fun _ _ _ h => h) (Or.inl ⟨by rfl, ?_⟩) hHeld ?_
    rotate_left
    · (intro ww hSw; (try dsimp only at hSw); go_simp; try (with_reducible rfl))
    try simp only [Act.put, List.setIfInBounds_toArray, List.set_cons_zero, List.set_cons_succ]
    refine wpAnyX_take (i := 5) (v := ?_) (oper_at rfl) (by kernel_rfl) (by kernel_rfl) (by kernel_rfl) (by kernel_rfl) (fun _ _ _ h => h) (Or.inl ⟨by rfl, ?_⟩) hHeld ?_
    rotate_left
    · (intro ww hSw; (try dsimp only at hSw); go_simp; try (with_reducible rfl))
    try simp only [Act.put, List.setIfInBounds_toArray, List.set_cons_zero, List.set_cons_succ]
    refine wpAnyX_take (i := 6) (v := ?_) (oper_at rfl) (by kernel_rfl) (by kernel_rfl) (by kernel_rfl) (by kernel_rfl) (fun _ _ _ h => h) (Or.inl ⟨by rfl, ?_⟩) hHeld ?_
    rotate_left
    · (intro ww hSw; (try dsimp only at hSw); go_simp; try (with_reducible rfl))
    try simp only [Act.put, List.setIfInBounds_toArray, List.set_cons_zero, List.set_cons_succ]
    refine wpAnyX_take (i := 7) (v := ?_) (oper_at rfl) (by kernel_rfl) (by kernel_rfl) (by kernel_rfl) (by kernel_rfl) (fun _ _ _ h => h) (Or.inl ⟨by rfl, ?_⟩) hHeld ?_
    rotate_left
    · (intro ww hSw; (try dsimp only at hSw); go_simp; try (with_reducible rfl))
    try simp only [Act.put, List.setIfInBounds_toArray, List.set_cons_zero, List.set_cons_succ]
    refine wpAnyX_take (i := 8) (v := ?_) (oper_at rfl) (by kernel_rfl) (by kernel_rfl) (by kernel_rfl) (by kernel_rfl) (fun _ _ _ h => h) (Or.inl ⟨by rfl, ?_⟩) hHeld ?_
    rotate_left
    · (intro ww hSw; (try dsimp only at hSw); go_simp; try (with_reducible rfl))
    try simp only [Act.put, List.setIfInBounds_toArray, List.set_cons_zero, List.set_cons_succ]
    refine wpAnyX_ready (rs := [9]) (by kernel_rfl) (by simp) (AllReadyX.cons (by decide) (oper_at rfl) (fun K hK => ?_) AllReadyX.nil)
    go_simp
    refine hK.out _ _ ?_ (fun hHeld => ?_)
    · rfl
    clear hK K
    try simp only [Act.put, List.setIfInBounds_toArray, List.set_cons_zero, List.set_cons_succ]
    refine wpAnyX_ready (rs := [10]) (by kernel_rfl) (by simp) (AllReadyX.cons (by decide) (oper_at rfl) (fun K hK => ?_) AllReadyX.nil)
    go_simp
    refine hK.out _ _ ?_ (fun hHeld => ?_)
    · rfl
    clear hK K
    try simp only [Act.put, List.setIfInBounds_toArray, List.set_cons_zero, List.set_cons_succ]
    refine wpAnyX_ready (rs := [11]) (by kernel_rfl) (by simp) (AllReadyX.cons (by decide) (oper_at rfl) (fun K hK => ?_) AllReadyX.nil)
    go_simp
    refine hK.out _ _ ?_ (fun hHeld => ?_)
    · rfl
    clear hK K
    try simp only [Act.put, List.setIfInBounds_toArray, List.set_cons_zero, List.set_cons_succ]
    refine wpAnyX_ready (rs := [12]) (by kernel_rfl) (by simp) (AllReadyX.cons (by decide) (oper_at rfl) (fun K hK => ?_) AllReadyX.nil)
    go_simp
    refine hK.out _ _ ?_ (fun hHeld => ?_)
    · rfl
    clear hK K
    try simp only [Act.put, List.setIfInBounds_toArray, List.set_cons_zero, List.set_cons_succ]
    refine wpAnyX_ready (rs := [13]) (by kernel_rfl) (by simp) (AllReadyX.last rfl (oper_at rfl) (fun K hK => ?_))
    go_simp
    refine hK.out _ _ ?_
    clear hK K
    try simp only [Act.put, List.setIfInBounds_toArray, List.set_cons_zero, List.set_cons_succ]
    refine wpAnyX_done (by kernel_rfl) ?_ _
    refine NoPanic.normal ?_
    have hwl : w.heap.size ≤ (w.drew.setCell ⟨g, 2 + f * 8 + t, none⟩ (iV ((n : Int) + 1))).heap.size := HE1.out.size
    obtain ⟨w1, hw1⟩ : ∃ w1, w.drew.setCell ⟨g, 2 + f * 8 + t, none⟩ (iV ((n : Int) + 1)) = w1 := ⟨_, rfl⟩
    have hw1' : (w.setCell ⟨g, 2 + f * 8 + t, none⟩ (iV ((n : Int) + 1))).drew = w1 := hw1
    rw [hw1] at HN1 HE1 hwl
    try simp only [World.setCell_drew]
    rw [hw1']
    have CH := Lib.hid (held30_any hs hv ((f : Int), (t : Int), (n : Int)) g w1 (blkOf_cell (by rw [HN1.out.blk]; exact NV_1)) HN1.out.ho.now)
    clear hw1 hw1' n1 nf
    go_wp2_with fail
    refine CH.out.mono ?_
    rintro e2 w2 ⟨b, rfl, hb, hE2⟩
    have HB : Hid (hasB hs ((f : Int), (t : Int), (n : Int)) = b) := Lib.hid (by
      rw [← hasB_iff] at hb
      cases b <;> cases hh : hasB hs ((f : Int), (t : Int), (n : Int)) <;> simp_all)
    have HN2 := Lib.hid (HN1.out.ext hE2)
    have HE2 := Lib.hid (HE1.out.trans (hE2.exc g r))
    have hwl2 : w.heap.size ≤ w2.heap.size := HE2.out.size
    clear hb hE2 CH HN1 HE1 hwl
    cases b with
    | true =>
      go_wp2_with fail
      go_ret2
      rw [HF.out, if_pos HB.out]
      exact ⟨_, [], rfl, rfl, ArOwn.nil _ _, HN2.out, HE2.out⟩
    | false =>
      rw [HB.out, if_neg (by decide)] at HF
      have CD : Calls Tryz.prog 52 #[.pointer (some ⟨g, 0, none⟩), .int .u8 5, iV (f : Int), iV (t : Int), iV (n : Int)] w2 _ := take31_any g r cv hv cs hs x1 (5, (f : Int), (t : Int), (n : Int)) _ HN2.out HA.out hl
      have HCD := Lib.hid CD
      clear CD
      go_wp2_with fail
      refine HCD.out.mono ?_
      rintro e3 w3 ⟨rfl, hN3, hE3⟩
      have HE3 := Lib.hid (HE2.out.trans hE3)
      have HN3 := Lib.hid hN3
      clear hN3 hE3 HCD HN2 HE2 hwl2 HB
      cases hg5 : getF cs (5, (f : Int), (t : Int), (n : Int)) with
      | some d =>
        have HG5 := Lib.hid hg5
        clear hg5
        simp only [chO, Option.isSome_some]
        go_wp2_with fail
        go_ret2
        rw [HF.out, if_pos (by rw [HG5.out]; rfl)]
        exact ⟨_, [], rfl, rfl, ArOwn.nil _ _, HN3.out.ext ((Ext.refl _).alloc _), HE3.out.alloc _⟩
      | none =>
        have HX : Hid (eatS cs x1 (5, (f : Int), (t : Int), (n : Int)) = x1) := Lib.hid (by unfold eatS eatF; rw [hg5]; rfl)
        rw [HX.out] at HN3
        rw [if_neg (by rw [hg5]; decide)] at HF
        clear hg5 HX
        simp only [chO, Option.isSome_none]
        obtain ⟨lm, hlm⟩ : ∃ lm, max lat 1 = lm := ⟨_, rfl⟩
        have hlm1 : 1 ≤ lm := by omega
        have hlm2 : lm ≤ 1000000 := by omega
        have CD : Calls Tryz.prog 52 #[.pointer (some ⟨g, 0, none⟩), .int .u8 6, iV (f : Int), iV (t : Int), iV (n : Int)] (w3.alloc (.cells #[kV 0, iV 0, iV 0, iV 0, iV 0, iV 0, .slice none 0 0] 61)) _ := take31_any g r cv hv cs hs x1 (6, (f : Int), (t : Int), (n : Int)) _ (HN3.out.ext ((Ext.refl _).alloc _)) HA.out hl
        have HCD := Lib.hid CD
        clear CD
        obtain ⟨x2, hx2⟩ : ∃ x2, eatS cs x1 (6, (f : Int), (t : Int), (n : Int)) = x2 := ⟨_, rfl⟩
        rw [hx2] at HF
        have HX2 := Lib.hid hx2
        obtain ⟨at6, hat6⟩ : ∃ y, tick + lm + (getF cs (6, (f : Int), (t : Int), (n : Int))).getD 0 = y := ⟨_, rfl⟩
        rw [hlm, hat6] at HF
        have HAT := Lib.hid hat6
        clear hx2 hat6
        go_wp2_with fail
        refine HCD.out.mono ?_
        rintro e4 w4 ⟨rfl, hN4, hE4⟩
        rw [HX2.out] at hN4
        have HN4 := Lib.hid hN4
        have HE4 := Lib.hid ((HE3.out.alloc _).trans hE4)
        clear hN4 hE4 HCD HN3 HE3 HX2
        obtain ⟨⟨⟨c1, c2, c3, c4⟩, c5⟩, hco⟩ : ∃ y, chO (6, (f : Int), (t : Int), (n : Int)) (getF cs (6, (f : Int), (t : Int), (n : Int))) = y := ⟨_, rfl⟩
        obtain ⟨ok, hok⟩ : ∃ ok, (getF cs (6, (f : Int), (t : Int), (n : Int))).isSome = ok := ⟨_, rfl⟩
        rw [hco, hok]
        have HCO := Lib.hid hco
        have HOK := Lib.hid hok
        clear hco hok
        go_upto_if 85 with fail
        go_cut [18] (fun s18 wx => s18 = iV at6 ∧ -3000000 ≤ at6 ∧ at6 ≤ 3000000 ∧ Net wx g r cv hv cs hs x2 ∧ Exc g r w wx)
        case first =>
          cases hg6 : getF cs (6, (f : Int), (t : Int), (n : Int)) with
          | none =>
            have e6 : at6 = tick + lm := by rw [← HAT.out, hg6]; exact Int.add_zero _
            have h9 := HOK.out
            rw [hg6] at h9
            subst h9
            clear hg6
            go_wp2_with fail
            go_meet
            exact ⟨by rw [e6], by omega, by omega, HN4.out.ext ((Ext.refl _).alloc _), HE4.out.alloc _⟩
          | some d =>
            have hd := SM.out _ (getF_mem hg6)
            simp only [] at hd
            obtain ⟨d1, d2⟩ := hd
            have e6 : at6 = tick + lm + d := by rw [← HAT.out, hg6]; rfl
            have h9 := HOK.out
            rw [hg6] at h9
            subst h9
            have h8 := HCO.out
            rw [hg6] at h8
            simp only [chO, Prod.mk.injEq] at h8
            obtain ⟨-, rfl⟩ := h8
            clear hg6
            go_wp2_with fail
            go_meet
            exact ⟨by rw [e6], by omega, by omega, HN4.out.ext ((Ext.refl _).alloc _), HE4.out.alloc _⟩
        case rest =>
          obtain ⟨w5, rfl⟩ : ∃ w5, w5 = wc := ⟨_, rfl⟩
          obtain ⟨rfl, hat1, hat2, hN5, hE5⟩ := hcut
          have HN5 := Lib.hid hN5
          have HE5 := Lib.hid hE5
          clear hN5 hE5 HN4 HE4 HAT
          have CL := Lib.hid (fun y W (hW : Exc g r w W) => cloneA_any y h args _ W (HAR.out W hW) hal)
          have hsz5 : w.heap.size ≤ w5.heap.size := HE5.out.size
          have hgs := HN.out.lt
          have hrs := HN.out.rlt
          go_wp2_with fail
          refine (CL.out _ _ HE5.out).mono ?_
          rintro e6 w6 ⟨t6, rfl, hr6, hE6⟩
          obtain ⟨At, ct, et, -, -⟩ := hr6.form
          rw [List.length_map] at et
          subst et
          have HR6 := Lib.hid hr6
          have HE6 := Lib.hid hE6
          clear hr6 hE6
          go_wp2_with (at_builtin; refine wappB el40 rfl (.tmp 90) (.tmp 96) rfl (B := w.heap.size) (vs := []) (us := [encJ ((at6, h, args), .slice At args.length ct)]) rfl (by have := HE6.out.size; simp; omega) (Row.nil _ _ _ _) rfl rfl (Wide.one rfl) (vs1 _ _ _) one_encJ (by simp) (by simp) ?_; intro v7 w7 hr7 hg7 hb7; have A7 := Lib.hid ((ArOwn.nil _ w.heap.size).app (j := ((at6, h, args), .slice At args.length ct)) ((HR6.out.base hsz5).ext ((Ext.refl _).alloc _)) hr7 hg7); have N7 := HN.out.grown (HN5.out.ext (HE6.out.alloc _)) ((HE5.out.trans (HE6.out.exc g r)).alloc _) hg7 (fun k hk => by cases hk); have HN7 := Lib.hid N7.1; have HE7 := Lib.hid N7.2; obtain ⟨A1, c7, e7, -, -⟩ := hr7.form; rw [List.nil_append, List.length_singleton] at e7; subst e7; clear hr7 hg7 hb7 N7)
          have CD : Calls Tryz.prog 52 #[.pointer (some ⟨g, 0, none⟩), .int .u8 7, iV (f : Int), iV (t : Int), iV (n : Int)] w7 _ := take31_any g r cv hv cs hs x2 (7, (f : Int), (t : Int), (n : Int)) _ HN7.out HA.out hl
          have HCD := Lib.hid CD
          clear CD
          refine HCD.out.mono ?_
          rintro e8 w8 ⟨rfl, hN8, hE8⟩
          have HN8 := Lib.hid hN8
          have A8 := Lib.hid (A7.out.exc hE8 hgs hrs)
          have HE8 := Lib.hid (HE7.out.trans hE8)
          have hsz8 : w.heap.size ≤ w8.heap.size := HE8.out.size
          clear hN8 hE8 HCD A7 HN7 HE7 HR6 HE6
          cases hg7 : getF cs (7, (f : Int), (t : Int), (n : Int)) with
          | none =>
            rw [hg7] at HF
            clear hg7
            simp only [chO, Option.isSome_none]
            go_wp2_with fail
            go_ret2
            rw [HF.out]
            exact ⟨_, [((at6, h, args), .slice At args.length ct)], rfl, rfl, A8.out.ext ((Ext.refl _).alloc _), HN8.out.ext ((Ext.refl _).alloc _), HE8.out.alloc _⟩
          | some d =>
            have hd := SM.out _ (getF_mem hg7)
            simp only [] at hd
            obtain ⟨d1, d2⟩ := hd
            rw [hg7] at HF
            clear hg7
            simp only [chO, Option.isSome_some]
            go_wp2_with fail
            refine (CL.out _ _ (HE8.out.alloc _)).mono ?_
            rintro e9 w9 ⟨t9, rfl, hr9, hE9⟩
            obtain ⟨Au, cu, eu, -, -⟩ := hr9.form
            rw [List.length_map] at eu
            subst eu
            have HR9 := Lib.hid (hr9.base (B' := w8.heap.size) (by simp))
            have HE9 := Lib.hid hE9
            have A9 := Lib.hid (fun o => (A8.out.ext (((Ext.refl _).alloc _).trans hE9)).ext ((Ext.refl _).alloc o))
            clear hr9 hE9
            go_wp2_with (at_builtin; go_loud (refine wappB el40 rfl (.tmp 107) (.tmp 116) rfl (B := w.heap.size) (vs := [encJ ((at6, h, args), .slice At args.length ct)]) (us := [encJ ((at6 + d, h, args), .slice Au args.length cu)]) rfl (by have := HE9.out.size; simp at this ⊢; omega) ((A9.out _).row) rfl rfl (Wide.one rfl) (vs1 _ _ _) one_encJ (by simp) (by simp) ?_; intro v10 w10 hr10 hg10 hb10; have A10 := Lib.hid ((A9.out _).app (j := ((at6 + d, h, args), .slice Au args.length cu)) ((HR9.out.base hsz8).ext ((Ext.refl _).alloc _)) hr10 hg10); have N10 := HN.out.grown (HN8.out.ext (((((Ext.refl _).alloc _).trans HE9.out).alloc _))) ((HE8.out.trans (((Ext.refl _).alloc _).trans HE9.out |>.exc g r)).alloc _) hg10 (fun k hk => ((A9.out (.cells #[] 0)).row.lt k hk).1); have HN10 := Lib.hid N10.1; have HE10 := Lib.hid N10.2; obtain ⟨A2, c10, e10, -, -⟩ := hr10.form; rw [show ([encJ ((at6, h, args), .slice At args.length ct)] ++ [encJ ((at6 + d, h, args), .slice Au args.length cu)]).length = 2 from rfl] at e10; subst e10; clear hr10 hg10 hb10 N10))
            go_ret2
            rw [HF.out]
            exact ⟨_, [((at6, h, args), .slice At args.length ct), ((at6 + d, h, args), .slice Au args.length cu)], rfl, rfl, A10.out, HN10.out, HE10.out⟩
  · have HF : Hid (sendF cs hs fi ti tick lat x = (x, -1, [])) := Lib.hid (by unfold sendF; rw [if_neg hc])
    rw [HF.out]
    by_cases hf : inC fi
    · have ht : ¬ inC ti := fun h => hc ⟨hf, h⟩
      have CF := comp_any fi
      rw [decide_eq_true (show 0 ≤ fi ∧ fi < 8 from hf)] at CF
      have HCF := Lib.hid CF
      have CT := comp_any ti
      rw [decide_eq_false (show ¬ (0 ≤ ti ∧ ti < 8) from ht)] at CT
      have HCT := Lib.hid CT
      clear CF CT hf ht hc hN hb
      go_enter Tryz.func18, Tryz.ntmps18
      go_wp2_with fail
      refine (HCF.out _).mono ?_
      rintro e1 w1 ⟨rfl, rfl⟩
      go_wp2_with fail
      refine (HCT.out _).mono ?_
      rintro e1 w1 ⟨rfl, rfl⟩
      go_wp2_with fail
      go_ret2
      exact ⟨_, [], rfl, rfl, ArOwn.nil _ _, HN.out, Exc.refl _ _ _⟩
    · have CF := comp_any fi
      rw [decide_eq_false (show ¬ (0 ≤ fi ∧ fi < 8) from hf)] at CF
      have HCF := Lib.hid CF
      clear CF hf hc hN hb
      go_enter Tryz.func18, Tryz.ntmps18
      go_wp2_with fail
      refine (HCF.out _).mono ?_
      rintro e1 w1 ⟨rfl, rfl⟩
      go_wp2_with fail
      go_ret2
      exact ⟨_, [], rfl, rfl, ArOwn.nil _ _, HN.out, Exc.refl _ _ _⟩
end Go.Proofs.YtehmpbaiefbemaaGreat
