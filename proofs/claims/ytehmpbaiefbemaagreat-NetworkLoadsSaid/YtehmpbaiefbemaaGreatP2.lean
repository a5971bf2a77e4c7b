/- NetworkLoads returns true for every argument, and leaves its arguments alone. -/
import Derived.Test.YtehmpbaiefbemaaGreatF0
import Derived.Test.YtehmpbaiefbemaaGreatL2
namespace Go.Proofs.YtehmpbaiefbemaaGreat.networkLoads
open Go.ChangeShapes Go.WideShapes Go.ChangeAt Go.RowKit
set_option maxRecDepth 100000 in
theorem contract (H : Type) (enc : TypeId × Value → H) (W : World) (base : Nat) (args : Array Value) (ds gs : List (DataW H)) (before : List MemPlace)
    (hval : ∀ (j : Nat) t v, Tryz.f4.params[j]? = some t → args[j]? = some v → Value.okWide Tryz.prog W .any base t v)
    (hW : DataW.Whole enc Tryz.prog Tryz.f4.params.toList Rows.networkLoadsSpec.vars false W args.toList ds gs before) :
    Calls Tryz.prog 4 args W fun e W' => ∃ v, e = .returned v ∧ Rows.networkLoadsSpec.post enc Tryz.prog Tryz.f4 false true false false W args v W' := by
  have hW' := hW
  obtain ⟨p, q, hA0, hV, rfl, hfz, hnd⟩ := hW
  have hA : DataW.TrodAll enc Tryz.prog W 0 (fun _ => true) true Tryz.f4.params.toList args.toList ds p := hA0
  rw [Tryz.params4] at hA hval
  obtain ⟨v0, vs0, d0, ds0, p0, q0, hargs, rfl, rfl, h0, r0⟩ := trodAll_cons hA
  obtain ⟨v1, vs1, d1, ds1, p1, q1, e1, rfl, rfl, h1, r1⟩ := trodAll_cons r0
  obtain ⟨v2, vs2, d2, ds2, p2, q2, e2, rfl, rfl, h2, r2⟩ := trodAll_cons r1
  obtain ⟨rfl, rfl, rfl⟩ := trodAll_nil r2
  subst e2
  subst e1
  obtain rfl : args = #[v0, v1, v2] := by cases args; simp_all
  obtain ⟨rfl, rfl⟩ := trodVars_none hV
  have hok0 := hval 0 25 v0 rfl rfl
  obtain ⟨u0, u1, y0, y1, n, rfl, -, -, g0, g1⟩ := Go.Joins.open_agg2 Tryz.underlying25 (by kernel_rfl) Tryz.cells25 hok0 h0
  obtain ⟨rs, hr1, hr2⟩ := raws_of g0
  obtain ⟨hs, hh⟩ := hs_of g1
  have hok1 := hval 1 26 v1 rfl rfl
  obtain ⟨A, m, c, rfl⟩ := okWide_slice Tryz.underlying26 hok1
  obtain ⟨al, ha⟩ : ∃ al, AsAt W (.slice A m c) al := by
    obtain ⟨fuel, hf⟩ := h1
    exact acts_of hf
  have hok2 := hval 2 26 v2 rfl rfl
  obtain ⟨A2, m2, c2, rfl⟩ := okWide_slice Tryz.underlying26 hok2
  obtain ⟨ml, hm⟩ : ∃ al, AsAt W (.slice A2 m2 c2) al := by
    obtain ⟨fuel, hf⟩ := h2
    exact acts_of hf
  clear hA0
  simp only [List.append_nil] at hW'
  refine (loads_law rs hs al ml u0 u1 _ _ W hr1 hr2 hh ha hm).mono fun e W' ⟨he, hg⟩ => ?_
  subst he
  have hlt : ∀ x ∈ p0 ++ (p1 ++ p2), x.block < W.heap.size := fun x hx => hW'.lt x hx
  exact ⟨_, rfl, post_of_below (pa := p0 ++ (p1 ++ p2)) (pv := []) hW' (fun _ _ _ => (trodAll_cons_mk (shut_bool Tryz.underlying4 _) trodAll_mk0)) (fun sp hsp => by
      have := (trodAll_cons_mk (trod_keep (by decide) h0 hg (fun x hx => hlt x (List.mem_append.2 (.inl hx))) (fun x hx => hsp x (List.mem_append.2 (.inl hx)))) (trodAll_cons_mk (trod_keep (by decide) h1 hg (fun x hx => hlt x (List.mem_append.2 (.inr (List.mem_append.2 (.inl hx))))) (fun x hx => hsp x (List.mem_append.2 (.inr (List.mem_append.2 (.inl hx)))))) (trodAll_cons_mk (trod_keep (by decide) h2 hg (fun x hx => hlt x (List.mem_append.2 (.inr (List.mem_append.2 (.inr hx))))) (fun x hx => hsp x (List.mem_append.2 (.inr (List.mem_append.2 (.inr hx)))))) trodAll_mk0)))
      simp only [List.append_nil] at this
      exact this) (fun _ _ => rfl) (by simp)
    hg (ok_one (by kernel_rfl) rfl (okWide_bool_mk Tryz.underlying4 _))⟩
abbrev wit : Array Value := #[.agg #[.slice none 0 0, .slice none 0 0], .slice none 0 0, .slice none 0 0]
theorem laid_met (os : Os) : laidMet Tryz.prog Rows.networkLoadsRow.laid ((laidWorld os).forCall (fun _ _ => 0) ⟨#[], wit, []⟩).memory :=
  laidMet_of_run' 64 (by kernel_rfl) (by kernel_rfl)
theorem reads (os : Os) {H : Type} (enc : TypeId × Value → H) : ∃ places, DataW.whole enc Tryz.prog ((laidWorld os).forCall (fun _ _ => 0) ⟨#[], wit, []⟩).memory Tryz.f4.params.toList Rows.networkLoadsSpec.vars false wit.toList 8 = some ([.agg [.nil, .nil], .nil, .nil], [], places) :=
  ⟨[], by kernel_rfl⟩
set_option maxRecDepth 100000 in
theorem lifted (os : Os) (started : os.Started) (H : Type) (enc : TypeId × Value → H) (F : Stop.Interp) :
    ReturnsInHanded {} Tryz.checked os 4 .any ((OpenSpec.ofChange Rows.networkLoadsSpec).preRow enc Tryz.prog Tryz.f4 Rows.networkLoadsRow.domain false Rows.networkLoadsRow.laid) (((OpenSpec.ofChange Rows.networkLoadsSpec).at F).post enc Tryz.prog Tryz.f4 false true false false) := by
  obtain ⟨places, hx⟩ := reads os enc
  refine returnsInHanded_of_row (C := Tryz.checked) (s := OpenSpec.ofChange Rows.networkLoadsSpec) own0 started (by kernel_rfl) Tryz.func4
    (witness_row_at (enc := enc) (C := Tryz.checked) false (laidWorld os) wit rfl (by kernel_rfl) (by kernel_rfl) (by kernel_rfl)
      (OpenSpec.preRow_of_cond 8 hx (by kernel_rfl) (fun k hk => by cases hk) (by kernel_rfl) (laid_met os))) ?_
  intro W base args ds gs before hval hW _ _ _ hL _ _
  exact contract H enc W base args ds gs before hval hW
theorem said : Rows.NetworkLoadsSaid :=
  OpenClaim.holds_of_cond 4 Tryz.f4 rfl rfl rfl rfl rfl rfl rfl ⟨rfl, rfl, rfl, rfl, rfl⟩ rfl rfl rfl rfl rfl (by kernel_rfl) Tryz.func4 (by kernel_rfl)
    (of_decide_eq_true (by kernel_rfl)) (by unfold Func.isWrapper; first | (rw [if_pos (by decide +kernel)]; kernel_rfl) | (rw [if_neg (by decide +kernel)]; exact ⟨rfl, rfl⟩))
    (fun os started H enc _ F => by rw [OpenClaim.pre_eq_preRow]; exact lifted os started H enc F)
end Go.Proofs.YtehmpbaiefbemaaGreat.networkLoads
