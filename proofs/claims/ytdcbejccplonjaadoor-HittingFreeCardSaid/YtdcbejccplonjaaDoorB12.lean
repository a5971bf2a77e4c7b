/- The walk over lists, with slices.SortFunc. -/
import Derived.Test.YtdcbejccplonjaaDoorB11
import Derived.Shelf.SlSortCmp.NoneTotal
namespace Go.Proofs.YtdcbejccplonjaaDoor
open Go.RowKit Go.Shelf Go.Sort
attribute [local go_sem ↓] Go.wp_at_zero Go.wp_at_succ
set_option maxHeartbeats 2000000 in
theorem compare_grow (a b : List Int) (va vb : Value) (w : World) (ha : Is w va a) (hb : Is w vb b) : Calls Tryd.prog 45 #[va, vb] w fun e w' => e = .returned (.int .i64 (cmpF a b)) ∧ ∃ q os, w' = grow (w.drewN q) os := by
  have LX := Lib.hid (lex_any a b va vb w ha hb)
  obtain ⟨A, ca, rfl, _, lA, RA⟩ := ha.read
  obtain ⟨B, cb, rfl, _, lB, RB⟩ := hb.read
  have CM := Lib.hid (cmp_any (a.length : Int) (b.length : Int) w)
  have HC := Lib.hid (cmp_or a b)
  clear RA RB ha hb lA lB
  generalize Lib.compareInt (a.length : Int) (b.length : Int) = x at *
  generalize lexC a b = y at *
  go_enter Tryd.func45, Tryd.ntmps45
  go_wp2_with fail
  refine CM.out.mono ?_
  rintro e w1 ⟨rfl, rfl⟩
  go_wp2_with fail
  refine LX.out.mono ?_
  rintro e w1 ⟨rfl, rfl⟩
  go_wp2_with fail
  refine (or_any x y w.heap.size _ (new_at _ _ _ _ _ rfl) (new_at _ _ _ _ _ rfl)).mono ?_
  rintro e w1 ⟨rfl, rfl⟩
  go_wp2_with fail
  go_ret
  exact ⟨ret_int HC.out.symm, 0, #[_], alloc_eq_grow _ _⟩
/-- A world where a block was sorted. -/
theorem sw_block {α : Type} [Inhabited α] (enc : α → Value) (w : World) (blk off m : Nat) (dk : Array α) (os : Array Obj) {b : Nat} (hb : b < w.heap.size) (hne : b ≠ blk) : (sortWorld enc w blk off m dk os).heap[b]? = w.heap[b]? := by
  unfold sortWorld
  have h1 : b < (Sort.putRow enc (Sort.ahead w m) blk off dk).heap.size := by rw [Sort.size_putRow]; exact hb
  show ((Sort.putRow enc (Sort.ahead w m) blk off dk).heap ++ os)[b]? = w.heap[b]?
  rw [Array.getElem?_append_left h1]
  unfold Sort.putRow Sort.mapBlock
  simp only [Array.getElem?_modify]
  rw [if_neg (Ne.symm hne)]
  rfl
/-- The order of lists, by places. -/
def cfAt (ls : List (List Int)) (i j : Nat) : Int := cmpF (ls.getD i []) (ls.getD j [])
theorem cf_lt (ls : List (List Int)) (i j : Nat) : ltOf (cfAt ls) i j = true ↔ Lt (ls.getD i []) (ls.getD j []) := by
  unfold ltOf cfAt
  rw [decide_eq_true_iff, cmp_neg]
theorem cf_swo (ls : List (List Int)) : SWO (ltOf (cfAt ls)) where
  irrefl x := by rw [Bool.eq_false_iff, ne_eq, cf_lt]; exact Lt.irrefl _
  trans x y z h k := by rw [cf_lt] at *; exact h.trans k
  ntrans x y z h k := by
    rw [Bool.eq_false_iff, ne_eq, cf_lt] at *
    intro hxz
    rcases Lt.total (ls.getD x []) (ls.getD y []) with h1 | h1 | h1
    · exact h h1
    · exact k (h1 ▸ hxz)
    · exact k (h1.trans hxz)
theorem sw_ext {α : Type} [Inhabited α] (enc : α → Value) (w w0 : World) (blk off m : Nat) (dk : Array α) (os : Array Obj) (h : Ext w0 w) (hb : w0.heap.size ≤ blk) : Ext w0 (sortWorld enc w blk off m dk os) := by
  refine ⟨h.os, h.tape, h.output, ?_, fun k hk => ?_⟩
  · refine Nat.le_trans h.size ?_
    unfold sortWorld
    rw [size_grow, Sort.size_putRow]
    show w.heap.size ≤ w.heap.size + _
    omega
  · rw [sw_block enc w blk off m dk os (h.lt k hk) (by omega)]
    exact h.block k hk
/-- The lists that a call has made: their row, and where they lie. -/
structure Outs (w : World) (B : Nat) (t : Value) (vs : List Value) (ls : List (List Int)) : Prop where
  row : Row w B 35 t vs
  len : vs.length = ls.length
  is : ∀ j, j < ls.length → Is w (vs.getD j (.slice none 0 0)) (ls.getD j [])
  ne : ∀ j k, j < ls.length → (vs.getD j (.slice none 0 0)).ownBlock = some k → t.ownBlock ≠ some k ∧ k < w.heap.size
theorem getD_append {α : Type} {l : List α} {a d : α} {j : Nat} : (l ++ [a]).getD j d = if j < l.length then l.getD j d else if j = l.length then a else d := by
  rw [List.getD_eq_getElem?_getD, List.getD_eq_getElem?_getD, List.getElem?_append]
  split
  · rfl
  · rename_i h
    by_cases e : j = l.length
    · subst e; simp
    · rw [if_neg e, List.getElem?_eq_none (by simp; omega)]; rfl
theorem Outs.sl {w : World} {B : Nat} {t : Value} {vs : List Value} {ls : List (List Int)} (h : Outs w B t vs ls) : Rs w t ls := ⟨vs, h.row.sl, h.len, h.is⟩
theorem Outs.one {w : World} {B : Nat} {t : Value} {vs : List Value} {ls : List (List Int)} (h : Outs w B t vs ls) (j : Nat) : (vs.getD j (.slice none 0 0)).oneCell' = true := by
  rcases Nat.lt_or_ge j ls.length with h1 | h1
  · obtain ⟨A, c, e, _⟩ := (h.is j h1).at_
    rw [e]; rfl
  · rw [List.getD_eq_getElem?_getD, List.getElem?_eq_none (by rw [h.len]; exact h1)]; rfl
/-- One more list. -/
theorem Outs.push {w w3 wn : World} {B : Nat} {t v tn : Value} {vs : List Value} {l : List Int} {ls : List (List Int)} (h : Outs w B t vs ls) (h3 : Ext w w3) (hv : Row w3 w.heap.size 3 v (l.map iV)) {o : Obj}
    (hg : (w3.alloc o).grownBy wn t.ownBlock) (hr : Row wn B 35 tn (vs ++ [v])) (hb : tn.ownBlock = t.ownBlock ∨ tn.ownBlock = some (w3.alloc o).heap.size) : Outs wn B tn (vs ++ [v]) (ls ++ [l]) := by
  have szn : w3.heap.size < wn.heap.size := by
    have := hg.size
    rw [World.size_alloc] at this
    omega
  have tl : ∀ k, t.ownBlock = some k → k < w.heap.size := fun k hk => (h.row.lt k hk).2
  have key : ∀ (x : Value), (∀ k, x.ownBlock = some k → t.ownBlock ≠ some k ∧ k < w3.heap.size) → ∀ k, x.ownBlock = some k → tn.ownBlock ≠ some k ∧ k < wn.heap.size := fun x hx k hk => by
    obtain ⟨h1, h2⟩ := hx k hk
    refine ⟨?_, by omega⟩
    rcases hb with e | e
    · rw [e]; exact h1
    · rw [e, World.size_alloc]
      intro e'
      cases e'
      omega
  have keep : ∀ k, k < w3.heap.size → t.ownBlock ≠ some k → wn.heap[k]? = w3.heap[k]? := fun k hk hne => by
    rw [hg.block k (by rw [World.size_alloc]; omega) (Ne.symm hne)]
    exact ((Ext.refl w3).alloc o).block k hk
  have vne : ∀ k, v.ownBlock = some k → t.ownBlock ≠ some k ∧ k < w3.heap.size := fun k hk => by
    obtain ⟨h1, h2⟩ := hv.lt k hk
    exact ⟨fun e => by have := tl k e; omega, h2⟩
  have ne3 : ∀ j k, j < ls.length → (vs.getD j (.slice none 0 0)).ownBlock = some k → t.ownBlock ≠ some k ∧ k < w3.heap.size := fun j k hj hk => by
    obtain ⟨h1, h2⟩ := h.ne j k hj hk
    exact ⟨h1, h3.lt k h2⟩
  refine ⟨hr, by simp [h.len], fun j hj => ?_, fun j k hj => ?_⟩
  · rw [getD_append, getD_append, h.len]
    rcases Nat.lt_or_ge j ls.length with h1 | h1
    · rw [if_pos h1, if_pos h1]
      exact SlAt.kept ((h.is j h1).ext h3) fun k hk hkb => keep k hk (ne3 j k h1 hkb).1
    · have e : j = ls.length := by simp at hj; omega
      subst e
      simp only [Nat.lt_irrefl, if_false, if_true]
      exact SlAt.kept hv.sl fun k hk hkb => keep k hk (vne k hkb).1
  · rw [getD_append, h.len]
    rcases Nat.lt_or_ge j ls.length with h1 | h1
    · rw [if_pos h1]
      exact key _ (ne3 j · h1) k
    · have e : j = ls.length := by simp at hj; omega
      subst e
      simp only [Nat.lt_irrefl, if_false, if_true]
      exact key _ vne k
theorem Outs.nil (w : World) (B : Nat) : Outs w B (.slice none 0 0) [] [] := ⟨Row.nil _ _ _, rfl, fun j hj => by simp at hj, fun j k hj => by simp at hj⟩
theorem map_range_getD {α : Type} (l : List α) (d : α) : (List.range l.length).map (fun i => l.getD i d) = l := by
  apply List.ext_getElem
  · simp
  · intro i h1 h2
    simp [List.getElem?_eq_getElem h2]
theorem add0 {g j : Nat} : (⟨g, 0, none⟩ : Addr).add j = ⟨g, j, none⟩ := by
  unfold Addr.add
  split <;> simp_all
/-- slices.SortFunc at the lists of a call. -/
theorem sort_any {w0 w : World} {B : Nat} {t : Value} {vs : List Value} {ls : List (List Int)} (h : Outs w B t vs ls) (hE : Ext w0 w) (hB : w0.heap.size ≤ B) (hl : ls.length ≤ 100000) (hn : ls.Nodup) :
    Calls Tryd.prog 48 #[t, .func (.func 45) #[] #[]] w fun e w' => e = .returned (.tuple #[]) ∧ Ext w0 w' ∧ ∃ rs, Rs w' t rs ∧ rs.Pairwise Lt ∧ ∀ x, x ∈ rs ↔ x ∈ ls := by
  obtain ⟨A, c, e, hc, h0⟩ := h.row.form
  rw [h.len] at e hc h0
  by_cases hz : ls.length = 0
  · have hnil := List.eq_nil_of_length_eq_zero hz
    subst hnil
    rw [e]
    refine (AnyF.slices_SortFunc_none (P := Tryd.prog) (ρ := Tryd.laysSort_ren) { Tryd.laysSort with } A c _ w).mono ?_
    rintro e w' ⟨rfl, rfl⟩
    exact ⟨rfl, hE, [], by have := h.sl; rw [← e]; exact this, List.Pairwise.nil, fun x => Iff.rfl⟩
  · have h' : w.ownsRow B 35 1 t vs.length vs := h.row
    rcases h'.2 with ⟨_, h1⟩ | ⟨g, cap, cur, e2, hB2, hc2, h2, h3, h4, h5⟩
    · exact absurd (h.len.symm.trans h1) hz
    · rw [h.len] at e2
      subst e2
      have hg : g < w.heap.size := (h.row.lt g rfl).2
      have hds : (Array.range ls.length).size = ls.length := Array.size_range
      have hH : Holds (fun i => vs.getD i (.slice none 0 0)) w g 0 (Array.range ls.length) := fun j hj => by
        rw [hds] at hj
        have gj : (Array.range ls.length)[j]! = j := by rw [getElem!_pos _ j (by rw [hds]; exact hj)]; simp
        refine ⟨?_, ?_⟩
        · have := World.ownsRow.cells h' rfl j (vs.getD j (.slice none 0 0)) (by rw [List.getD_eq_getElem?_getD, List.getElem?_eq_getElem (by rw [h.len]; exact hj)]; rfl)
          rw [gj, Nat.zero_add]
          rw [add0] at this
          exact this
        · unfold World.frozen?
          rw [hc2]
          simp
      have hcmp : CmpLays1 Tryd.prog 45 #[] (fun i => vs.getD i (.slice none 0 0)) (cfAt ls) g 0 (Array.range ls.length).size w := fun m os dk _ x y => by
        have isx : ∀ x, Is (sortWorld (fun i => vs.getD i (.slice none 0 0)) w g 0 m dk os) (vs.getD x (.slice none 0 0)) (ls.getD x []) := fun x => by
          rcases Nat.lt_or_ge x ls.length with hx | hx
          · refine SlAt.kept (h.is x hx) fun k hk hkb => sw_block _ w g 0 m dk os hk fun e => (h.ne x k hx hkb).1 (by rw [e]; rfl)
          · rw [List.getD_eq_getElem?_getD, List.getD_eq_getElem?_getD, List.getElem?_eq_none (by rw [h.len]; exact hx), List.getElem?_eq_none hx]
            exact SlAt.nil _
        exact compare_grow _ _ _ _ _ (isx x) (isx y)
      have eg : ∀ args w, (callFunc 45 args).run Tryd.prog w = .ok (.enter 45 args) w := enters_of Tryd.func45 (by kernel_rfl) rfl
      have hs := Any.slices_SortFunc Tryd.laysSort (fun i => vs.getD i (.slice none 0 0)) (fun x => h.one x) (cfAt ls) (cf_swo ls) 45 #[] g 0 cap (Array.range ls.length) w eg hcmp hH hg (by rw [hds]; omega)
      rw [hds] at hs
      refine hs.mono ?_
      rintro e w' ⟨rfl, d', n, os, hp, hsd, rfl⟩
      obtain ⟨p1, _, p3⟩ := hp
      rw [hds] at p1
      have hd' : d'.toList.Perm (List.range ls.length) := by
        have e1 : (d'.extract 0 ls.length) = d' := by rw [← p1]; simp
        have e2 : ((Array.range ls.length).extract 0 ls.length) = Array.range ls.length := by
          have := Array.extract_size (xs := Array.range ls.length)
          rw [hds] at this
          exact this
        rw [e1, e2] at p3
        simpa using p3
      have hlt : ∀ i, i < ls.length → d'[i]! < ls.length := fun i hi => by
        have : d'[i]! ∈ d'.toList := by
          rw [getElem!_pos d' i (by rw [p1]; exact hi)]
          exact Array.getElem_mem_toList _
        have := hd'.mem_iff.1 this
        exact List.mem_range.1 this
      have hperm : (d'.toList.map fun i => ls.getD i []).Perm ls := by
        have := hd'.map fun i => ls.getD i []
        rw [map_range_getD] at this
        exact this
      have hnd : (d'.toList.map fun i => ls.getD i []).Nodup := hperm.nodup_iff.2 hn
      have gi : ∀ i, i < ls.length → d'.toList[i]? = some d'[i]! := fun i hi => by
        rw [getElem!_pos d' i (by rw [p1]; exact hi), Array.getElem?_toList, Array.getElem?_eq_getElem]
      have hll : (d'.toList.map fun i => ls.getD i []).length = ls.length := by simp [p1]
      refine ⟨rfl, sw_ext _ w w0 g 0 n d' os hE (by omega), (d'.toList.map fun i => ls.getD i []), ⟨d'.toList.map fun i => vs.getD i (.slice none 0 0), ?_, by simp, fun j hj => ?_⟩, ?_, fun x => hperm.mem_iff⟩
      · have hh := holds_sortWorld (fun i => vs.getD i (.slice none 0 0)) w g 0 n (Array.range ls.length) d' os hg hH (by rw [hds]; exact p1)
        refine ⟨some ⟨g, 0, none⟩, cap, by simp [p1], by rw [List.length_map, Array.length_toList, p1, ← h.len]; exact h2, h3, fun _ => ⟨⟨g, 0, none⟩, rfl, lt_sortWorld _ w g 0 n d' os hg, fun j u hj => ?_⟩⟩
        rw [List.getElem?_map] at hj
        have hjl : j < ls.length := by
          refine Classical.byContradiction fun hn => ?_
          rw [List.getElem?_eq_none (by simp [p1]; omega)] at hj
          cases hj
        rw [gi j hjl] at hj
        have := (hh j (by rw [p1]; exact hjl)).1
        rw [Nat.zero_add] at this
        have hu : vs.getD d'[j]! (.slice none 0 0) = u := by simpa using hj
        change _ = some (vs.getD d'[j]! (.slice none 0 0)) at this
        rw [hu] at this
        rw [add0]
        exact this
      · rw [hll] at hj
        rw [List.getD_eq_getElem?_getD, List.getD_eq_getElem?_getD, List.getElem?_map, List.getElem?_map, gi j hj]
        have hx := hlt j hj
        exact SlAt.kept (h.is _ hx) fun k hk hkb => sw_block _ w g 0 n d' os hk fun e => (h.ne _ k hx hkb).1 (by rw [e]; rfl)
      · rw [List.pairwise_iff_getElem]
        intro i j hi hj hij
        have hi' : i < ls.length := by rw [hll] at hi; exact hi
        have hj' : j < ls.length := by rw [hll] at hj; exact hj
        have e1 : (d'.toList.map fun i => ls.getD i [])[i] = ls.getD d'[i]! [] := by
          have := gi i hi'
          rw [List.getElem_map]
          congr 1
          rw [List.getElem?_eq_getElem (by simpa [p1] using hi')] at this
          exact Option.some.inj this
        have e2 : (d'.toList.map fun i => ls.getD i [])[j] = ls.getD d'[j]! [] := by
          have := gi j hj'
          rw [List.getElem_map]
          congr 1
          rw [List.getElem?_eq_getElem (by simpa [p1] using hj')] at this
          exact Option.some.inj this
        have hns := hsd i j (Nat.zero_le _) hij hj'
        rw [Bool.eq_false_iff, ne_eq, cf_lt] at hns
        rcases Lt.total (ls.getD d'[i]! []) (ls.getD d'[j]! []) with h1 | h1 | h1
        · rw [e1, e2]; exact h1
        · have := (List.getElem_inj (h₀ := hi) (h₁ := hj) hnd).1 (by rw [e1, e2]; exact h1)
          omega
        · exact absurd h1 hns
def RetRs (ls : List (List Int)) (w : World) (e : Ending) (w' : World) : Prop := ∃ v, e = .returned v ∧ Rs w' v ls ∧ Ext w w'
theorem elems_inj {a b : Nat} (ha : a < 2 ^ 64) (hb : b < 2 ^ 64) (h : nI (elems a) = nI (elems b)) : a = b := by
  have := congrArg maskI h
  rwa [mask_of_list ha, mask_of_list hb] at this
set_option maxRecDepth 100000 in
set_option maxHeartbeats 4000000 in
theorem lists_any (xs : List Nat) (v : Value) (w : World) (h : Us w v xs) (hu : U64 xs) (hl : xs.length ≤ 100000) (hn : xs.Nodup) (hT : Tab w) : Calls Tryd.prog 36 #[v] w (RetRs (lsF xs) w) := by
  obtain ⟨A, c, rfl, _, _, RA⟩ := h.read
  have HR := Lib.hid RA
  have HU := Lib.hid hu
  have HT := Lib.hid hT
  have HN := Lib.hid hn
  clear RA h hu hT hn
  go_enter Tryd.func36, Tryd.ntmps36
  go_wp2_with fail
  go_loopw [3, 8] (fun t i wr => ∃ (k : Nat) (vs : List Value), k ≤ xs.length ∧ i = iV (k : Int) ∧ Outs wr w.heap.size t vs ((xs.take k).map fun m => nI (elems m)) ∧ Ext w wr) (fun _ i _ => xs.length - (intOf i).toNat)
  case atStart => exact ⟨0, [], by omega, rfl, Outs.nil _ _, Ext.refl _⟩
  case round =>
    obtain ⟨k, vs, hk, rfl, hO, hE⟩ := hrel
    have HO := Lib.hid hO
    have HX := Lib.hid hE
    clear hO hE
    by_cases hlt : k < xs.length
    · obtain ⟨ad, rfl, c1⟩ := HR.out wr HX.out k hlt
      have sl := getD_lt HU.out k
      have HTK : Hid ((xs.take (k + 1)).map (fun m => nI (elems m)) = (xs.take k).map (fun m => nI (elems m)) ++ [nI (elems (xs.getD k 0))]) := by
        rw [List.take_succ_eq_append_getElem hlt, List.map_append, List.getD_eq_getElem?_getD, List.getElem?_eq_getElem hlt]; exact Lib.hid rfl
      have LI := Lib.hid (list_any (xs.getD k 0) wr sl (HT.out.ext HX.out))
      have hvl : vs.length ≤ 100000 := by have := HO.out.len; simp at this; omega
      generalize xs.getD k 0 = m at *
      go_wp2_with fail
      refine LI.out.mono ?_
      rintro e3 w3 ⟨v3, rfl, hr3, hE3⟩
      obtain ⟨A3, c3, e3, -, -⟩ := hr3.form
      rw [List.length_map] at e3
      subst e3
      have HO3 := Lib.hid hr3
      have HE3 := Lib.hid hE3
      clear hr3 hE3
      go_wp2_with (at_builtin; go_loud (refine wapp el24 rfl (.tmp 12) (.tmp 15) rfl (w5 := w) rfl ((HX.out.trans HE3.out).alloc _) ((HO.out.row.ext HE3.out).ext ((Ext.refl _).alloc _)) rfl rfl (vs1 w3 _ 35) (one1 rfl) ?hm ?_; (case hm => (rw [List.length_singleton]; omega)); intro v1 w1 hr1 hE1 hg1 hb1))
      have HP := HO.out.push HE3.out HO3.out hg1 hr1 hb1
      exact ⟨⟨k + 1, vs ++ [_], by omega, by go_num, by rw [HTK.out]; exact HP, hE1⟩, by simp [intOf]; omega⟩
    · obtain rfl : k = xs.length := by omega
      rw [List.take_length] at HO
      have SO := Lib.hid (sort_any HO.out HX.out (Nat.le_refl _) (by simpa using hl) (by
        refine nodup_map_on HN.out fun a ha b hb e => elems_inj (HU.out a ha) (HU.out b hb) e))
      go_wp2_with fail
      refine SO.out.mono ?_
      rintro e3 w3 ⟨rfl, hE3, rs, hrs, hp, hm⟩
      have HRS := Lib.hid hrs
      have HE3 := Lib.hid hE3
      have HEQ : Hid (rs = lsF xs) := Lib.hid (sorted_ext hp (lsF_sorted _) fun x => by rw [hm, mem_lsF, List.mem_map])
      clear hrs hE3 hp hm SO
      go_wp2_with fail
      go_ret
      exact ⟨_, rfl, by rw [← HEQ.out]; exact HRS.out, HE3.out⟩
end Go.Proofs.YtdcbejccplonjaaDoor
