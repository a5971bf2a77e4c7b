/- The walk over Hits. -/
import Derived.Test.YtdcbejccplonjaaDoorB29
namespace Go.Proofs.YtdcbejccplonjaaDoor
open Go.RowKit
attribute [local go_sem ↓] Go.wp_at_zero Go.wp_at_succ
theorem Mp.new (w : World) : Mp (w.alloc (.map #[] 0)) w.heap.size [] := ⟨#[], 0, heap_alloc_new w _, by simp, by simp⟩
theorem wmk {ops : Array Oper} {rest : List Oper} {o : Oper} {a : Act} {Q : Exit → Act → World → Prop} {w : World} (hgd : o.guard = none) (ho : o.op = .makeMap 70 none)
    (hK : wpList Tryd.prog ops Q rest (a.put o.dst (.map (some w.heap.size))) (w.alloc (.map #[] 0))) : wpList Tryd.prog ops Q (o :: rest) a w := by
  refine wpList_plain hgd fun K hK' => ?_
  have hrun := run_makeMap_plain (P := Tryd.prog) (w := w) 70
  unfold Oper.wp
  simp [execOp, ho, hrun, Result.andThen]
  exact hK' _ _ hK
set_option maxRecDepth 100000 in
set_option maxHeartbeats 4000000 in
theorem hitsM_any (set : List Int) (fam : List (List Int)) (vs vf : Value) (w : World) (hs : Is w vs set) (hf : Rs w vf fam) : Calls Tryd.prog 25 #[vs, vf] w (RetB (hitsR set fam) w) := by
  obtain ⟨S, sc, rfl, s1, s2, RSt⟩ := hs.read
  obtain ⟨F, fc, rfl, f1, f2, RF⟩ := hf.read
  have HS := Lib.hid RSt
  have HF := Lib.hid RF
  have hsl : set.length ≤ 9223372036854775807 := by unfold maxLen at s2; omega
  have hfl : fam.length ≤ 9223372036854775807 := by unfold maxLen at f2; omega
  have HW : Hid (hitsR set fam = fam.all fun s => s.any fun x => decide (x ∈ set)) := Lib.hid rfl
  clear RSt RF hs hf s1 s2 f1 f2
  go_enter Tryd.func25, Tryd.ntmps25
  go_wp2_with (refine wmk rfl rfl ?_)
  have hgc : ((w.alloc (.map #[] 0)).alloc (.cells #[.map (some w.heap.size)] 70)).cell? ⟨w.heap.size + 1, 0, none⟩ = some (.map (some w.heap.size)) := by
    simp
  have M0 : Mp ((w.alloc (.map #[] 0)).alloc (.cells #[.map (some w.heap.size)] 70)) w.heap.size [] := (Mp.new w).ext ((Ext.refl _).alloc _)
  have X0 : Ext w ((w.alloc (.map #[] 0)).alloc (.cells #[.map (some w.heap.size)] 70)) := ((Ext.refl _).alloc _).alloc _
  generalize (w.alloc (.map #[] 0)).alloc (.cells #[.map (some w.heap.size)] 70) = w0 at *
  obtain ⟨r, hr⟩ : ∃ r, w.heap.size = r := ⟨_, rfl⟩
  rw [hr] at hgc M0 ⊢
  have HR := Lib.hid hr
  have HM0 := Lib.hid M0
  have HX0 := Lib.hid X0
  have HG := Lib.hid hgc
  clear hr M0 X0 hgc
  go_loopw [13] (fun i wr => ∃ k : Nat, k ≤ set.length ∧ i = iV (k : Int) ∧ Mp wr r (set.take k) ∧ wr.cell? ⟨r + 1, 0, none⟩ = some (.map (some r)) ∧ Ext w wr) (fun i _ => set.length - (intOf i).toNat)
  case atStart => exact ⟨0, by omega, rfl, HM0.out, HG.out, HX0.out⟩
  case round =>
    obtain ⟨k, hk, rfl, hm, hc, hE⟩ := hrel
    have HM := Lib.hid hm
    have HE := Lib.hid hE
    clear hm hE
    by_cases hlt : k < set.length
    · obtain ⟨ad, rfl, c1⟩ := HS.out wr HE.out k hlt
      have HTK : Hid (set.take (k + 1) = set.take k ++ [set.getD k 0]) := by
        rw [take_snoc hlt, List.getD_eq_getElem?_getD, List.getElem?_eq_getElem hlt]; exact Lib.hid rfl
      obtain ⟨x, hx⟩ : ∃ x, set.getD k 0 = x := ⟨_, rfl⟩
      rw [hx] at c1 HTK
      clear hx
      have HC := Lib.hid hc
      go_wp2_with (refine wupd rfl (.tmp 17) (.tmp 18) _ rfl rfl rfl rfl HM.out ?_; intro w1 hm1 o1 o2 o3 o4 o5)
      have hE1 : Ext w w1 := ⟨o1.trans HE.out.os, o2.trans HE.out.tape, o3.trans HE.out.output, by rw [o4]; exact HE.out.size, fun b hb => by rw [o5 b (by have := HR.out; omega)]; exact HE.out.block b hb⟩
      have hc1 : w1.cell? ⟨r + 1, 0, none⟩ = some (.map (some r)) := by
        rw [World.cell?_of_block (a := ⟨r + 1, 0, none⟩) (o5 (r + 1) (by omega))]; exact HC.out
      exact ⟨⟨k + 1, by omega, by go_num, by rw [HTK.out]; exact hm1, hc1, hE1⟩, by simp [intOf]; omega⟩
    · obtain rfl : k = set.length := by omega
      rw [List.take_length] at HM
      have HC := Lib.hid hc
      clear hc
      generalize hwr : wr = wc at *
      go_wp2_with fail
      go_loopw [22] (fun i wq => ∃ k : Nat, k ≤ fam.length ∧ i = iV (k : Int) ∧ ((fam.take k).all fun s => s.any fun x => decide (x ∈ set)) = true ∧ Ext wc wq) (fun i _ => fam.length - (intOf i).toNat)
      case atStart => exact ⟨0, by omega, rfl, by simp, Ext.refl _⟩
      case round =>
        obtain ⟨k, hk, rfl, hn, hE⟩ := hrel
        have HN := Lib.hid hn
        have HE2 := Lib.hid hE
        clear hn hE
        by_cases hlt : k < fam.length
        · obtain ⟨ad, u, rfl, c1, hu⟩ := HF.out wr (HE.out.trans HE2.out) k hlt
          have HA := Lib.hid (all_take (fun s => s.any fun x => decide (x ∈ set)) fam (d := ([] : List Int)) hlt)
          have HFF := Lib.hid (fun h => all_false (fun s => s.any fun x => decide (x ∈ set)) (l := fam) (d := ([] : List Int)) hlt h)
          obtain ⟨s, hs⟩ : ∃ s, fam.getD k [] = s := ⟨_, rfl⟩
          rw [hs] at hu HA HFF
          clear hs
          have CF := Lib.hid (contf_any s set u (r + 1) r wr hu (HE2.out.cell HC.out) (HM.out.ext HE2.out))
          clear hu
          cases hd : (s.any fun x => decide (x ∈ set)) with
          | true =>
            have HA' : Hid (((fam.take (k + 1)).all fun s => s.any fun x => decide (x ∈ set)) = true) := by rw [HA.out, HN.out, hd]; exact Lib.hid rfl
            rw [hd] at CF
            clear HA HFF hd
            go_wp2_with fail
            refine CF.out.mono ?_
            rintro e2 w2 ⟨rfl, hE3⟩
            have HE3 := Lib.hid (HE2.out.trans hE3)
            clear hE3 CF
            go_wp2_with fail
            exact ⟨⟨k + 1, by omega, by go_num, HA'.out, HE3.out⟩, by simp [intOf]; omega⟩
          | false =>
            have HA' : Hid (hitsR set fam = false) := by rw [HW.out]; exact Lib.hid (HFF.out hd)
            rw [hd] at CF
            clear HA HFF hd
            go_wp2_with fail
            refine CF.out.mono ?_
            rintro e2 w2 ⟨rfl, hE3⟩
            have HE3 := Lib.hid (HE2.out.trans hE3)
            clear hE3 CF
            go_wp2_with fail
            go_ret
            rw [HA'.out]
            exact ⟨rfl, HE.out.trans HE3.out⟩
        · obtain rfl : k = fam.length := by omega
          have HA' : Hid (hitsR set fam = true) := by
            have := HN.out
            rw [List.take_length] at this
            rw [HW.out]
            exact Lib.hid this
          go_wp2_with fail
          go_ret
          rw [HA'.out]
          exact ⟨rfl, HE.out.trans HE2.out⟩
end Go.Proofs.YtdcbejccplonjaaDoor
