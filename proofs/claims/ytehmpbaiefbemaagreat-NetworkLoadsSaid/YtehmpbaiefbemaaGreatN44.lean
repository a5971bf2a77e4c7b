/- Copy: a second network, with a map of its own. -/
import Derived.Test.YtehmpbaiefbemaaGreatN43
namespace Go.Proofs.YtehmpbaiefbemaaGreat
open Go.RowKit Go.Shelf Go.Sort
open Go.ChangeMaps (setBlock)
theorem ld91 (v : Value) : Instr.loadAt 75 v = ldS 75 v := by unfold ldS; rfl
theorem st91 (p v : Value) : Instr.storeAt 75 p v = stS 75 p v := by unfold stS; rfl
theorem al91 (h : Bool) (v : Value) : Instr.alloc 75 h v = alS 75 h v := by unfold alS; rfl
abbrev NM0 : Array Value := NV nilS nilS (fun _ => 0) (fun _ => 0) (fun _ => 0) (.map none)
theorem Tryz.size75 : (Tryz.prog.info? 75).map (·.size) = some 83 := by kernel_rfl
theorem NM0_list : NM0.toList = nvl nilS nilS (fun _ => 0) (fun _ => 0) (fun _ => 0) (.map none) := by
  show (NV nilS nilS (fun _ => 0) (fun _ => 0) (fun _ => 0) (.map none)).toList = _
  unfold NV
  rfl
theorem Tryz.zero75 : (Tryz.prog.info? 75).map (·.zero) = some (some (.agg (nvl nilS nilS (fun _ => 0) (fun _ => 0) (fun _ => 0) (.map none)).toArray)) := by kernel_rfl
theorem NM0_eq : (nvl nilS nilS (fun _ => 0) (fun _ => 0) (fun _ => 0) (.map none)).toArray = NM0 := by rw [← NM0_list]
theorem run_ld91 {w : World} {g : Nat} (h : (blkOf w g).size = 83) : (ldS 75 (.pointer (some ⟨g, 0, none⟩))).run Tryz.prog w = .ok (.agg (blkOf w g)) w := by
  obtain ⟨T, e⟩ := of_blkOf h
  unfold ldS Instr.loadAt Instr.sureAddr
  rw [Sem.run_bind, Sem.run_pure, Result.andThen_ok]
  exact run_loadVar_row w g T 75 _ _ _ e Tryz.underlying75 rfl (by rw [h]; exact Tryz.size75)
theorem NM_one' {a d : Option Addr} {b c e f : Nat} {s t u : Nat → Nat} {m : Option Nat} : (NV (.slice a b c) (.slice d e f) s t u (.map m)).all (·.oneCell') = true := NV_one rfl rfl rfl
theorem run_st91n {w : World} {g : Nat} {a d : Option Addr} {b c e f : Nat} {s t u : Nat → Nat} {m : Option Nat} (h : (blkOf w g).size = 83) :
    (stS 75 (.pointer (some ⟨g, 0, none⟩)) (.agg (NV (.slice a b c) (.slice d e f) s t u (.map m)))).run Tryz.prog w = .ok () (w.setRow g (NV (.slice a b c) (.slice d e f) s t u (.map m))) := by
  obtain ⟨T, e⟩ := of_blkOf h
  unfold stS Instr.storeAt Instr.sureAddr
  rw [Sem.run_bind, Sem.run_pure, Result.andThen_ok]
  exact run_storeVar_row w g T 75 _ _ e (by rw [NV_size]; exact Tryz.size75) (by rw [h, NV_size]) NM_one'
theorem run_zero91 (w : World) : (zeroValue 75).run Tryz.prog w = .ok (.agg NM0) w := by
  have h := Tryz.zero75
  rw [NM0_eq] at h
  unfold zeroValue typeInfo
  cases hq : Tryz.prog.info? 75 with
  | none => rw [hq] at h; cases h
  | some i =>
    rw [hq] at h
    have hz : i.zero = some (.agg NM0) := by simpa using h
    simp [hq, hz]
theorem run_al91 (w : World) (hp : Bool) (old : Value) (h : hp = true ∨ old = undef) : (alS 75 hp old).run Tryz.prog w = .ok (.pointer (some ⟨w.heap.size, 0, none⟩)) (w.alloc (.cells NM0 75)) := by
  unfold alS Instr.alloc
  rw [Sem.run_bind, run_zero91, Result.andThen_ok]
  rcases h with rfl | rfl
  · go_simp
  · cases hp
    · unfold undef; go_simp
    · go_simp
attribute [local go_sem ↓] Go.wp_at_zero Go.wp_at_succ
attribute [local go_sem ↓] ld91 st91 al91
attribute [local go_sem] run_ld91 run_st91n run_al91 blkOf_drew blkOf_setRow_same blkOf_setRow_other NV_size blkOf_alloc blkOf_new run_makeMap_plain
def RetCp (cv hv : Value) (cs : List Ch) (hs : List Jh) (x : St) (w : World) (e : Ending) (w' : World) : Prop :=
  ∃ g' r', e = .returned (.pointer (some ⟨g', 0, none⟩)) ∧ w.heap.size ≤ g' ∧ w.heap.size ≤ r' ∧ Net w' g' r' cv hv cs hs x ∧ Ext w w'
set_option maxRecDepth 100000 in
set_option maxHeartbeats 4000000 in
theorem copy22_any (g r : Nat) (cv hv : Value) (cs : List Ch) (hs : List Jh) (x : St) (w : World) (hN : Net w g r cv hv cs hs x) : Calls Tryz.prog 8 #[.pointer (some ⟨g, 0, none⟩)] w (RetCp cv hv cs hs x w) := by
  have n82 : w.cell? ⟨g, 82, none⟩ = some (.map (some r)) := blkOf_cell (by rw [hN.blk]; exact NV_82)
  obtain ⟨us, hM, hus⟩ := hN.map
  have HUS := Lib.hid hus
  have HM := Lib.hid hM
  have hgl := hN.lt
  have hrl := hN.rlt
  have HCH := Lib.hid hN.ch.now
  have HHO := Lib.hid hN.ho.now
  have hblk := hN.blk
  obtain ⟨A, c, rfl, -, -, -⟩ := HCH.out.read
  obtain ⟨B, d, rfl, -, -, -⟩ := HHO.out.sl.read
  rw [List.length_map] at hblk HCH ⊢
  rw [List.length_map] at hblk HHO ⊢
  have hz : (blkOf w g).size = 83 := by rw [hblk]; exact NV_size
  clear hN hM hus
  go_enter Tryz.func8, Tryz.ntmps8
  go_upto_region 4 with fail
  generalize hw1 : (w.alloc (.cells NM0 75)).setRow w.heap.size _ = w1
  have hE1 : Ext w w1 := by rw [← hw1]; exact ((Ext.refl _).alloc _).setRow (Nat.le_refl _) _
  have b1 : blkOf w1 w.heap.size = NV (.slice A cs.length c) (.slice B hs.length d) x.s x.t x.d (.map (some r)) := by rw [← hw1]; exact blkOf_setRow_same (by rw [blkOf_new, NV_size])
  have hs1 : w1.heap.size = w.heap.size + 1 := by rw [← hw1, setRow_size]; simp
  have t82 : w1.cell? ⟨w.heap.size, 82, none⟩ = some (.map (some r)) := blkOf_cell (by rw [b1]; exact NV_82)
  have tf : w1.frozen? ⟨w.heap.size, 82, none⟩ = false := blkOf_frozen (by rw [b1, NV_size]; omega)
  have hz1 : w.heap.size < w1.heap.size := by omega
  have HE1 := Lib.hid hE1
  have HB1 := Lib.hid b1
  have N82 := Lib.hid n82
  have n82 := hE1.cell n82
  have hg1 : g < w1.heap.size := by omega
  clear hw1 hE1 b1 hz hblk
  go_upto_region 5 with fail
  generalize hw2 : World.alloc (w1.setCell _ _) _ = w2
  have hE2 : Ext w w2 := by rw [← hw2]; exact (HE1.out.set (Nat.le_refl _) _).alloc _
  have hss : (w1.setCell ⟨w.heap.size, 82, none⟩ (.map (some (w.heap.size + 1)))).heap.size = w.heap.size + 1 := by simp [hs1]
  have b2 : blkOf w2 w.heap.size = NV (.slice A cs.length c) (.slice B hs.length d) x.s x.t x.d (.map (some (w.heap.size + 1))) := by
    rw [← hw2, blkOf_ext ((Ext.refl _).alloc _) (by rw [hss]; omega), blkOf_set (by rw [HB1.out, NV_size]; omega), HB1.out, NV_setU]
  have m2 : Mk w2 (w.heap.size + 1) [] := by
    rw [← hw2]
    have := Mk.new (w1.setCell ⟨w.heap.size, 82, none⟩ (.map (some (w.heap.size + 1))))
    rw [hss] at this
    exact this
  have hs2 : w2.heap.size = w.heap.size + 2 := by rw [← hw2]; simp [hs1]
  have HE2 := Lib.hid hE2
  have HB2 := Lib.hid b2
  have HM2 := Lib.hid m2
  have n82 := hE2.cell (p := ⟨g, 82, none⟩) N82.out
  have HS2 := Lib.hid hs2
  clear hw2 hE2 b2 m2 t82 tf hss hz1 hg1 hs2 hs1
  go_wp2_with (at_range; refine wrange _ rfl (.tmp 15) rfl r us rfl (HM.out.ext HE2.out) ?_; intro w3 hit hE3 hs3; have HIT := Lib.hid hit; have HE3 := Lib.hid hE3; clear hit hE3 hs3)
  go_frame
  go_loopw [] (fun wr => ∃ (done : List Ky) (cnt : Nat), It wr r w2.heap.size us done cnt ∧ Mk wr (w.heap.size + 1) done ∧ blkOf wr w.heap.size = NV (.slice A cs.length c) (.slice B hs.length d) x.s x.t x.d (.map (some (w.heap.size + 1))) ∧ Ext w wr) (fun wr => leftN wr r w2.heap.size)
  case atStart => exact ⟨[], us.length, HIT.out, HM2.out.ext HE3.out, (blkOf_ext HE3.out (by have := HS2.out; omega)).trans HB2.out, HE2.out.trans HE3.out⟩
  case round =>
    obtain ⟨done, cnt, hit, hm, hb, hX⟩ := hrel
    have HMK := Lib.hid hm
    have HX := Lib.hid hX
    have HIT' := Lib.hid hit
    have HBK := Lib.hid hb
    clear hit hm hb hX
    go_wp2_with (at_next; refine wnext _ rfl (.tmp 16) rfl r w2.heap.size us done cnt rfl HIT'.out ?_ ?_)
    · intro hall
      have HALL := Lib.hid (fun k : Ky => hall k.1 k.2.1 k.2.2.1 k.2.2.2)
      clear hall
      go_wp2_with fail
      go_ret
      exact ⟨w.heap.size, w.heap.size + 1, rfl, Nat.le_refl _, Nat.le_succ _, ⟨HBK.out, ⟨done, HMK.out, fun k => (HALL.out k).trans (HUS.out k)⟩, fun W hW => HCH.out.ext (hW.ext HX.out (Nat.le_refl _) (Nat.le_succ _)), fun W hW => HHO.out.ext (hW.ext HX.out (Nat.le_refl _) (Nat.le_succ _)), by omega⟩, HX.out⟩
    · intro k1 k2 k3 k4 w' cnt' hit' hlt hblk hsz hos htp hout hen
      have hw2 := HS2.out
      have HX5 : Hid (Ext w w') := Lib.hid ⟨hos.trans HX.out.os, htp.trans HX.out.tape, hout.trans HX.out.output, by rw [hsz]; exact HX.out.size, fun i hi => (hblk i (by omega)).trans (HX.out.block i hi)⟩
      have HM5 := Lib.hid (HMK.out.kept (hblk (w.heap.size + 1) (by omega)))
      have hb5 := (blkOf_kept (hblk w.heap.size (by omega))).trans HBK.out
      have HB5 := Lib.hid hb5
      have t82 : w'.cell? ⟨w.heap.size, 82, none⟩ = some (.map (some (w.heap.size + 1))) := blkOf_cell (by rw [hb5]; exact NV_82)
      have HIT5 := Lib.hid hit'
      have HLT := Lib.hid (show cnt' < leftN wr r w2.heap.size by rw [HIT'.out.left]; exact hlt)
      have hsw : w.heap.size < w'.heap.size := HIT5.out.lt.2 |> fun h => by omega
      have HW2 := Lib.hid hw2
      clear hit' hlt hblk hsz hos htp hout hb5 HIT' HMK HBK hw2
      go_wp2_with (refine wupd rfl (.tmp 22) (.tmp 23) (.const (.bool true)) rfl (z := (k1, k2, k3, k4)) rfl rfl rfl (HM5.out.ext ((Ext.refl _).alloc _)) ?_; intro o' hm6; have HM6 := Lib.hid hm6; clear hm6)
      have E1 : Ext w' (w'.alloc (.cells #[.int .u8 k1, .int .i64 k2, .int .i64 k3, .int .i64 k4] 58)) := (Ext.refl _).alloc _
      have I6 := HIT5.out.ext E1
      have hit6 := I6.kept (heap_setBlock _ (w.heap.size + 1) r o' (by omega)) (heap_setBlock _ (w.heap.size + 1) w2.heap.size o' (by have := HW2.out; omega))
      have hb6 := (blkOf_kept (heap_setBlock (w'.alloc (.cells #[.int .u8 k1, .int .i64 k2, .int .i64 k3, .int .i64 k4] 58)) (w.heap.size + 1) w.heap.size o' (by omega))).trans ((blkOf_ext E1 hsw).trans HB5.out)
      have hX6 : Ext w (setBlock (w'.alloc (.cells #[.int .u8 k1, .int .i64 k2, .int .i64 k3, .int .i64 k4] 58)) (w.heap.size + 1) o') := by
        have e := HX5.out.trans E1
        exact ⟨e.os, e.tape, e.output, by rw [size_setBlock]; exact e.size, fun i hi => (heap_setBlock _ _ _ _ (by omega)).trans (e.block i hi)⟩
      have hput : putM done (k1, k2, k3, k4) = done ++ [(k1, k2, k3, k4)] := by
        have hn : (done ++ [((k1, k2, k3, k4) : Ky)]).Nodup := by
          obtain ⟨es, clock, seen, -, -, -, -, -, -, h, -⟩ := HIT5.out
          exact h
        unfold putM
        rw [if_neg]
        intro hm
        rw [List.nodup_append] at hn
        exact hn.2.2 _ hm _ (List.mem_singleton.2 rfl) rfl
      have hm6 := HM6.out
      rw [hput] at hm6
      refine ⟨⟨_, _, _, _, _, _, _, _, ⟨done ++ [(k1, k2, k3, k4)], cnt', hit6, hm6, hb6, hX6⟩, rfl⟩, ?_⟩
      rw [hit6.left]
      exact HLT.out
end Go.Proofs.YtehmpbaiefbemaaGreat
