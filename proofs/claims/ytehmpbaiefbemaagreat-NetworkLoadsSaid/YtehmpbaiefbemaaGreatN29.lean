/- The walk over Consumed. Whole networks of the reference, loaded, stored, made: operations on 83 cells that are not run. The plain scan of Consume. -/
import Derived.Test.YtehmpbaiefbemaaGreatN27
namespace Go.Proofs.YtehmpbaiefbemaaGreat
open Go.RowKit Go.Shelf Go.Sort
open Go.ChangeMaps (setBlock)
attribute [local go_sem ↓] Go.wp_at_zero Go.wp_at_succ
theorem sorted_keys {l done us ks : List Ky} (hp : l.Perm done) (hs : l.Pairwise fun x y => ltOf cfK y x = false) (hn : done.Nodup) (h1 : ∀ k, k ∈ done ↔ k ∈ us) (h2 : ∀ k, k ∈ us ↔ k ∈ ks) (ha : Asc ks) : l = ks := by
  refine asc_ext ?_ ha fun k => by rw [hp.mem_iff, h1, h2]
  have nd : l.Nodup := hp.nodup_iff.2 hn
  unfold Asc
  refine (List.pairwise_and_iff.2 ⟨hs, nd⟩).imp ?_
  rintro x y ⟨h3, h4⟩
  rw [Bool.eq_false_iff, ne_eq, cfK_lt] at h3
  rcases klt_total x y with h5 | h5 | h5
  · exact h5
  · exact absurd h5 h4
  · exact absurd h5 h3
set_option maxRecDepth 100000 in
set_option maxHeartbeats 4000000 in
theorem consumed19_any (g r : Nat) (cv hv : Value) (cs : List Ch) (hs : List Jh) (x : St) (w : World) (hN : Net w g r cv hv cs hs x) (ha : Asc x.ks) (hl : x.ks.length ≤ 1000) :
    Calls Tryz.prog 11 #[.pointer (some ⟨g, 0, none⟩)] w fun e w' => ∃ t, e = .returned t ∧ Row 4 w' w.heap.size 58 t (x.ks.map encK) ∧ Ext w w' := by
  have n82 : w.cell? ⟨g, 82, none⟩ = some (.map (some r)) := blkOf_cell (by rw [hN.blk]; exact NV_82)
  obtain ⟨us, hM, hus⟩ := hN.map
  have hul : us.length ≤ 1000 := Nat.le_trans (nodup_len us x.ks hM.nodup fun k hk => (hus k).1 hk) hl
  have HUS := Lib.hid hus
  have HA := Lib.hid ha
  have HM := Lib.hid hM
  obtain ⟨es, clock, hes, hek, -, -⟩ := hM.at_
  have hesz : es.size = us.length := by have := congrArg List.length hek; simpa using this
  have hgl := hN.lt
  have hrl := hN.rlt
  have HL := Lib.hid (run_len_map (P := Tryz.prog) (w := w) 73 3 r es clock Tryz.underlying73 hes)
  rw [hesz] at HL
  have HL := HL.out
  clear hN hM hus ha hek hesz
  go_enter Tryz.func11, Tryz.ntmps11
  go_upto_region 3 with fail
  go_wp2_with (first | at_make; refine wmake el30 rfl _ _ rfl rfl rfl (m := us.length) (by omega) (Ext.refl w) ?_; intro v2 w2 hr2 hE2; have HR2 := Lib.hid hr2; have HE2 := Lib.hid hE2; have n2 := hE2.cell n82; clear hr2 hE2 | at_range; refine wrange _ rfl (.tmp 16) rfl r us rfl (HM.out.ext HE2.out) ?_; intro w3 hit hE3 hs3; have HIT := Lib.hid hit; have HE3 := Lib.hid (HE2.out.trans hE3); have HR3 := Lib.hid (HR2.out.ext hE3); clear hit hE3 hs3)
  go_frame
  go_loopw [3] (fun l wr => ∃ (done : List Ky) (cnt : Nat), It wr r w2.heap.size us done cnt ∧ cnt + done.length ≤ us.length ∧ Row 4 wr w.heap.size 58 l (done.map encK) ∧ Ext w wr) (fun _ wr => leftN wr r w2.heap.size)
  case atStart => exact ⟨[], us.length, HIT.out, by simp, HR3.out, HE3.out⟩
  case round =>
    obtain ⟨done, cnt, hit, hct, hr, hX⟩ := hrel
    obtain ⟨Al, cl, el, -, -⟩ := hr.form
    rw [List.length_map] at el
    subst el
    have hw2 := HE2.out.size
    have eg : ∀ args W, (callFunc 29 args).run Tryz.prog W = .ok (.enter 29 args) W := enters_of Tryz.func29 (by kernel_rfl) rfl
    have SO := Lib.hid (sort_row Tryz.laysKe 4 (by omega) Tryz.isAgg58 Tryz.sizeOf58 encK (fun _ => rfl) (fun y v hv => one_encK (k := y) v (by simpa using hv)) cfK cfK_swo 29 eg done wr w w.heap.size 58 _ hr hX (Nat.le_refl _) (fun W a b _ _ => cmp46_any a b W) (by omega))
    have HRk := Lib.hid hr
    have HX := Lib.hid hX
    have HIT := Lib.hid hit
    have HND : Hid done.Nodup := Lib.hid (by
      obtain ⟨es, clock, seen, -, -, -, -, -, -, h, -⟩ := hit
      exact h)
    clear eg hr hX HR3 HE3 hes
    go_wp2_with (at_next; refine wnext _ rfl (.tmp 17) rfl r w2.heap.size us done cnt rfl HIT.out ?_ ?_)
    · intro hall
      have HALL := Lib.hid (fun k : Ky => hall k.1 k.2.1 k.2.2.1 k.2.2.2)
      clear hall
      go_wp2_with fail
      refine SO.out.mono ?_
      rintro e4 w4 ⟨rfl, hE4, -, l', hp, hs', hr4⟩
      have e5 := sorted_keys hp hs' HND.out HALL.out HUS.out HA.out
      rw [e5] at hr4
      have HR4 := Lib.hid hr4
      have HE4 := Lib.hid hE4
      clear hp hs' e5 hr4 hE4 SO
      go_wp2_with fail
      go_ret
      exact ⟨_, rfl, HR4.out, HE4.out⟩
    · intro k1 k2 k3 k4 w' cnt' hit' hlt hblk hsz hos htp hout hen
      have hne : some w2.heap.size ≠ (Value.slice Al done.length cl).ownBlock := (HIT.out.apart HRk.out).2
      have HR5 : Hid (Row 4 w' w.heap.size 58 (.slice Al done.length cl) (done.map encK)) := Lib.hid (HRk.out.kept fun i hi => hblk i (fun e => hne (by rw [hi, e])))
      have HE5 : Hid (Ext w w') := Lib.hid ⟨hos.trans HX.out.os, htp.trans HX.out.tape, hout.trans HX.out.output, by rw [hsz]; exact HX.out.size, fun i hi => (hblk i (by omega)).trans (HX.out.block i hi)⟩
      have HIT5 := Lib.hid hit'
      have HCT : Hid (leftN wr r w2.heap.size = cnt) := Lib.hid HIT.out.left
      have hdl : done.length ≤ 1000 := by omega
      have HBk : Hid (w.heap.size ≤ w'.heap.size) := Lib.hid HE5.out.size
      clear hit' hblk hsz hos htp hout hne SO HIT HRk HX
      go_wp2_with (at_builtin; go_loud (refine wappB el30 rfl (.tmp 22) (.tmp 24) rfl (B := w.heap.size) (vs := done.map encK) (us := [encK (k1, k2, k3, k4)]) rfl (by have := HBk.out; simp; omega) ((HR5.out.ext ((Ext.refl _).alloc _)).ext ((Ext.refl _).alloc _)) rfl rfl (Wide.one rfl) (vs1n (by simp)) one_encK (by rw [List.length_map, List.length_singleton]; omega) (by rw [List.length_map, List.length_singleton]; omega) ?_; intro v6 w6 hr6 hg6 hb6; have HR6 := Lib.hid hr6; have HG6 := Lib.hid hg6; clear hr6 hg6 hb6))
      have HE6 := ext_grow ((HE5.out.alloc _).alloc _) HG6.out (fun k hk => (HR5.out.lt k hk).1)
      have I5 := HIT5.out.ext (((Ext.refl w').alloc (.cells #[kV k1, iV k2, iV k3, iV k4] 58)).alloc (.cells #[kV k1, iV k2, iV k3, iV k4] 58))
      have AP := I5.apart (HR5.out.ext (((Ext.refl w').alloc (.cells #[kV k1, iV k2, iV k3, iV k4] 58)).alloc (.cells #[kV k1, iV k2, iV k3, iV k4] 58)))
      have HIT6 := I5.kept (HG6.out.block r I5.lt.1 AP.1) (HG6.out.block w2.heap.size I5.lt.2 AP.2)
      exact ⟨⟨done ++ [(k1, k2, k3, k4)], cnt', HIT6, by rw [List.length_append, List.length_singleton]; omega, by rw [List.map_append]; exact HR6.out, HE6⟩, by rw [HIT6.left, HCT.out]; exact hlt⟩
end Go.Proofs.YtehmpbaiefbemaaGreat
namespace Go.Proofs.YtehmpbaiefbemaaGreat
open Go.RowKit
open Go.ChangeMaps (setBlock)
@[irreducible] def ldS (t : TypeId) (v : Value) : Sem Value := Instr.loadAt t v
@[irreducible] def stS (t : TypeId) (p v : Value) : Sem Unit := Instr.storeAt t p v
@[irreducible] def alS (t : TypeId) (h : Bool) (old : Value) : Sem Value := Instr.alloc t h old
@[irreducible] def buS (t : TypeId) (ps : Array (Nat × Value)) : Sem Value := Instr.build t ps
theorem ld32 (v : Value) : Instr.loadAt 32 v = ldS 32 v := by unfold ldS; rfl
theorem st32 (p v : Value) : Instr.storeAt 32 p v = stS 32 p v := by unfold stS; rfl
theorem al32 (h : Bool) (v : Value) : Instr.alloc 32 h v = alS 32 h v := by unfold alS; rfl
theorem bu32 (ps : Array (Nat × Value)) : Instr.build 32 ps = buS 32 ps := by unfold buS; rfl
abbrev nilS : Value := .slice none 0 0
abbrev NV0 : Array Value := NV nilS nilS (fun _ => 0) (fun _ => 0) (fun _ => 0) nilS
theorem Tryz.size32 : (Tryz.prog.info? 32).map (·.size) = some 83 := by kernel_rfl
theorem NV0_list : NV0.toList = nvl nilS nilS (fun _ => 0) (fun _ => 0) (fun _ => 0) nilS := by
  show (NV nilS nilS (fun _ => 0) (fun _ => 0) (fun _ => 0) nilS).toList = _
  unfold NV
  rfl
theorem Tryz.zero32 : (Tryz.prog.info? 32).map (·.zero) = some (some (.agg (nvl nilS nilS (fun _ => 0) (fun _ => 0) (fun _ => 0) nilS).toArray)) := by kernel_rfl
theorem NV0_eq : (nvl nilS nilS (fun _ => 0) (fun _ => 0) (fun _ => 0) nilS).toArray = NV0 := by rw [← NV0_list]
theorem blkOf_setRow_same {w : World} {g : Nat} {cs : Array Value} (h : (blkOf w g).size = 83) : blkOf (w.setRow g cs) g = cs := by
  obtain ⟨T, e⟩ := of_blkOf h
  exact blkOf_of (setRow_heap w g _ cs T _ e)
theorem blkOf_setRow_other {w : World} {g g' : Nat} {cs : Array Value} (h : g' ≠ g) : blkOf (w.setRow g cs) g' = blkOf w g' := by unfold blkOf; rw [setRow_other w g g' cs h]
theorem Ext.setRow {w w' : World} (h : Ext w w') {g : Nat} (hg : w.heap.size ≤ g) (cs : Array Value) : Ext w (w'.setRow g cs) :=
  ⟨h.os, h.tape, h.output, by rw [setRow_size]; exact h.size, fun k hk => by rw [setRow_other _ _ _ _ (by omega)]; exact h.block k hk⟩
theorem run_ld32 {w : World} {g : Nat} (h : (blkOf w g).size = 83) : (ldS 32 (.pointer (some ⟨g, 0, none⟩))).run Tryz.prog w = .ok (.agg (blkOf w g)) w := by
  obtain ⟨T, e⟩ := of_blkOf h
  unfold ldS Instr.loadAt Instr.sureAddr
  rw [Sem.run_bind, Sem.run_pure, Result.andThen_ok]
  exact run_loadVar_row w g T 32 _ _ _ e Tryz.underlying32 rfl (by rw [h]; exact Tryz.size32)
theorem run_st32 {w : World} {g : Nat} {cs : Array Value} (hz : cs.size = 83) (h1 : cs.all (·.oneCell') = true) (h : (blkOf w g).size = 83) : (stS 32 (.pointer (some ⟨g, 0, none⟩)) (.agg cs)).run Tryz.prog w = .ok () (w.setRow g cs) := by
  obtain ⟨T, e⟩ := of_blkOf h
  unfold stS Instr.storeAt Instr.sureAddr
  rw [Sem.run_bind, Sem.run_pure, Result.andThen_ok]
  exact run_storeVar_row w g T 32 _ _ e (by rw [hz]; exact Tryz.size32) (by rw [h, hz]) h1
theorem NV_one' {a d p : Option Addr} {b c e f q r : Nat} {s t u : Nat → Nat} : (NV (.slice a b c) (.slice d e f) s t u (.slice p q r)).all (·.oneCell') = true := NV_one rfl rfl rfl
theorem run_st32n {w : World} {g : Nat} {a d p : Option Addr} {b c e f q r : Nat} {s t u : Nat → Nat} (h : (blkOf w g).size = 83) :
    (stS 32 (.pointer (some ⟨g, 0, none⟩)) (.agg (NV (.slice a b c) (.slice d e f) s t u (.slice p q r)))).run Tryz.prog w = .ok () (w.setRow g (NV (.slice a b c) (.slice d e f) s t u (.slice p q r))) := run_st32 NV_size NV_one' h
theorem run_zero32 (w : World) : (zeroValue 32).run Tryz.prog w = .ok (.agg NV0) w := by
  have h := Tryz.zero32
  rw [NV0_eq] at h
  unfold zeroValue typeInfo
  cases hq : Tryz.prog.info? 32 with
  | none => rw [hq] at h; cases h
  | some i =>
    rw [hq] at h
    have hz : i.zero = some (.agg NV0) := by simpa using h
    simp [hq, hz]
theorem run_al32 (w : World) (hp : Bool) (old : Value) (h : hp = true ∨ old = undef) : (alS 32 hp old).run Tryz.prog w = .ok (.pointer (some ⟨w.heap.size, 0, none⟩)) (w.alloc (.cells NV0 32)) := by
  unfold alS Instr.alloc
  rw [Sem.run_bind, run_zero32, Result.andThen_ok]
  rcases h with rfl | rfl
  · go_simp
  · cases hp
    · unfold undef; go_simp
    · go_simp
theorem res32 {fn : Func} {p : Tmp} (h : fn.results = #[.cell p 32]) {tmps : Array Value} {w : World} {g : Nat} {cs : Array Value} (hp : tmps.getD p undef = .pointer (some ⟨g, 0, none⟩)) (hb : blkOf w g = cs) (hz : cs.size = 83) :
    (results fn tmps).run Tryz.prog w = .ok (.agg cs) w := by
  obtain ⟨T, e⟩ := of_blkOf (show (blkOf w g).size = 83 by rw [hb, hz])
  rw [hb] at e
  exact results_cell_row h tmps w g T _ _ _ hp e Tryz.underlying32 rfl (by rw [hz]; exact Tryz.size32)
theorem run_lv32 {w : World} {g : Nat} {cs : Array Value} (hb : blkOf w g = cs) (hz : cs.size = 83) : (loadVar 32 ⟨g, 0, none⟩).run Tryz.prog w = .ok (.agg cs) w := by
  obtain ⟨T, e⟩ := of_blkOf (show (blkOf w g).size = 83 by rw [hb, hz])
  rw [hb] at e
  exact run_loadVar_row w g T 32 _ _ _ e Tryz.underlying32 rfl (by rw [hz]; exact Tryz.size32)
theorem res32b {fn : Func} {p u : Tmp} (h : fn.results = #[.cell p 32, .tmp u]) {tmps : Array Value} {w : World} {g : Nat} {cs : Array Value} {x : Value} (hp : tmps.getD p undef = .pointer (some ⟨g, 0, none⟩)) (hx : tmps.getD u undef = x) (hb : blkOf w g = cs) (hz : cs.size = 83) :
    (results fn tmps).run Tryz.prog w = .ok (.tuple #[.agg cs, x]) w := by
  rw [results_cell_tmp h, hp, hx]
  simp [asAddr, run_lv32 hb hz]
theorem results_cell_tmp2 {fn : Func} {p u v : Tmp} {ty : TypeId} (h : fn.results = #[.cell p ty, .tmp u, .tmp v]) (tmps : Array Value) (P : Program) (w : World) :
    (results fn tmps).run P w = ((asAddr (tmps.getD p undef)).run P w).andThen fun a w₁ => ((loadVar ty a).run P w₁).andThen fun x w₂ => .ok (.tuple #[x, tmps.getD u undef, tmps.getD v undef]) w₂ := by
  simp only [results, h]
  simp [Sem.run_bind, Result.andThen]
theorem res32c {fn : Func} {p u v : Tmp} (h : fn.results = #[.cell p 32, .tmp u, .tmp v]) {tmps : Array Value} {w : World} {g : Nat} {cs : Array Value} {x y : Value} (hp : tmps.getD p undef = .pointer (some ⟨g, 0, none⟩)) (hx : tmps.getD u undef = x) (hy : tmps.getD v undef = y) (hb : blkOf w g = cs) (hz : cs.size = 83) :
    (results fn tmps).run Tryz.prog w = .ok (.tuple #[.agg cs, x, y]) w := by
  rw [results_cell_tmp2 h, hp, hx, hy]
  simp [asAddr, run_lv32 hb hz]
/-- One row of a scan: behind x. -/
theorem insK_end {k : Ky} : ∀ {l : List Ky}, (∀ x ∈ l, klt x k) → insK k l = l ++ [k]
  | [], _ => rfl
  | y :: l, h => by
    have h1 := h y (by simp)
    rw [insK, if_neg (fun e => klt_irrefl y (by rw [e] at h1; exact h1)), if_neg (klt_asymm h1), insK_end (fun x hx => h x (by simp [hx]))]
    rfl
theorem insK_mid {k x : Ky} (hx : klt k x) : ∀ {l : List Ky}, (∀ y ∈ l, klt y k) → insK k (l ++ [x]) = l ++ [k] ++ [x]
  | [], _ => by
    show insK k [x] = [k, x]
    rw [insK, if_neg (klt_ne hx), if_pos hx]
  | y :: l, h => by
    have h1 := h y (by simp)
    rw [List.cons_append, insK, if_neg (fun e => klt_irrefl y (by rw [e] at h1; exact h1)), if_neg (klt_asymm h1), insK_mid hx (fun x hx => h x (by simp [hx]))]
    rfl
theorem insK_past {k x : Ky} : ∀ {l : List Ky}, (∃ y ∈ l, klt k y) → insK k (l ++ [x]) = insK k l ++ [x]
  | [], h => by
    obtain ⟨y, hy, _⟩ := h
    cases hy
  | y :: l, h => by
    rw [List.cons_append, insK, insK]
    by_cases h1 : k = y
    · rw [if_pos h1, if_pos h1]; rfl
    · rw [if_neg h1, if_neg h1]
      by_cases h2 : klt k y
      · rw [if_pos h2, if_pos h2]; rfl
      · rw [if_neg h2, if_neg h2, insK_past]
        · rfl
        · obtain ⟨z, hz, hk⟩ := h
          rcases List.mem_cons.1 hz with rfl | hz
          · exact absurd hk h2
          · exact ⟨z, hz, hk⟩
theorem take_getD {ks : List Ky} {k : Nat} (h : k < ks.length) : ks.take (k + 1) = ks.take k ++ [ks.getD k (0, 0, 0, 0)] := by
  rw [List.take_succ_eq_append_getElem h, List.getD_eq_getElem?_getD, List.getElem?_eq_getElem h]
  rfl
end Go.Proofs.YtehmpbaiefbemaaGreat
