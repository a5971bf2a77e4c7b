/- RedactBytes returns true for every argument, and leaves its arguments alone: the card. -/
import Derived.Test.YtjedhndhdkiidaaDoorF0
import Derived.Test.YtjedhndhdkiidaaDoorL9
namespace Go.Proofs.YtjedhndhdkiidaaDoor.redactBytes
open Go.ChangeShapes Go.WideShapes Go.ChangeAt Go.RowKit
set_option maxRecDepth 100000 in
theorem contract (H : Type) (enc : TypeId × Value → H) (W : World) (base : Nat) (args : Array Value) (ds gs : List (DataW H)) (before : List MemPlace)
    (hval : ∀ (j : Nat) t v, Tryd.f9.params[j]? = some t → args[j]? = some v → Value.okWide Tryd.prog W .any base t v)
    (hW : DataW.Whole enc Tryd.prog Tryd.f9.params.toList Rows.redactBytesSpec.vars false W args.toList ds gs before)
    (htab : Tab W) :
    Calls Tryd.prog 9 args W fun e W' => ∃ v, e = .returned v ∧ Rows.redactBytesSpec.post enc Tryd.prog Tryd.f9 false true false false W args v W' := by
  have hW' := hW
  obtain ⟨p, q, hA0, hV, rfl, hfz, hnd⟩ := hW
  have hA : DataW.TrodAll enc Tryd.prog W 0 (fun _ => true) true Tryd.f9.params.toList args.toList ds p := hA0
  rw [Tryd.params9] at hA hval
  obtain ⟨v0, vs0, d0, ds0, p0, q0, hargs, rfl, rfl, h0, r0⟩ := trodAll_cons hA
  obtain ⟨v1, vs1, d1, ds1, p1, q1, e1, rfl, rfl, h1, r1⟩ := trodAll_cons r0
  obtain ⟨v2, vs2, d2, ds2, p2, q2, e2, rfl, rfl, h2, r2⟩ := trodAll_cons r1
  obtain ⟨rfl, rfl, rfl⟩ := trodAll_nil r2
  subst e2
  subst e1
  obtain rfl : args = #[v0, v1, v2] := by cases args; simp_all
  obtain ⟨rfl, rfl⟩ := trodVars_none hV
  have hok0 := hval 0 22 v0 rfl rfl
  obtain ⟨x0, hx0⟩ := rs_of_trod h0 (okWide_slice Tryd.underlying22 hok0)
  have hok1 := hval 1 23 v1 rfl rfl
  obtain ⟨x1, hx1, rfl⟩ := u16_of_trod (okWide_int Tryd.underlying23 hok1) h1
  have hok2 := hval 2 38 v2 rfl rfl
  obtain ⟨x2, hx2⟩ := by_of_trod h2 (okWide_slice Tryd.underlying38 hok2)
  clear hA0
  simp only [List.append_nil] at hW'
  refine (bytes_law x0 v0 x1 x2 v2 W hx0 hx1 hx2 htab).mono fun e W' ⟨he, hg⟩ => ?_
  subst he
  have hlt : ∀ x ∈ p0 ++ (p1 ++ p2), x.block < W.heap.size := fun x hx => hW'.lt x hx
  exact ⟨_, rfl, post_of_below (pa := p0 ++ (p1 ++ p2)) (pv := []) hW' (fun _ _ _ => (trodAll_cons_mk (shut_bool Tryd.underlying4 _) trodAll_mk0)) (fun sp hsp => by
      have := (trodAll_cons_mk (trod_keep (.inl rfl) h0 hg (fun x hx => hlt x (List.mem_append.2 (.inl hx))) (fun x hx => hsp x (List.mem_append.2 (.inl hx)))) (trodAll_cons_mk (trod_keep (.inr (.inr (.inr (.inl rfl)))) h1 hg (fun x hx => hlt x (List.mem_append.2 (.inr (List.mem_append.2 (.inl hx))))) (fun x hx => hsp x (List.mem_append.2 (.inr (List.mem_append.2 (.inl hx)))))) (trodAll_cons_mk (trod_keep (.inr (.inr (.inl rfl))) h2 hg (fun x hx => hlt x (List.mem_append.2 (.inr (List.mem_append.2 (.inr hx))))) (fun x hx => hsp x (List.mem_append.2 (.inr (List.mem_append.2 (.inr hx)))))) trodAll_mk0)))
      simp only [List.append_nil] at this
      exact this) (fun _ _ => rfl) (by simp)
    hg (ok_one (by kernel_rfl) rfl (okWide_bool_mk Tryd.underlying4 _))⟩
theorem laid_met (os : Os) : laidMet Tryd.prog Rows.redactBytesRow.laid ((laidWorld os).forCall (fun _ _ => 0) ⟨#[], #[.slice none 0 0, .int .u16 0, .slice none 0 0], []⟩).memory :=
  laidMet_of_run' 64 (by kernel_rfl) (by kernel_rfl)
theorem reads (os : Os) {H : Type} (enc : TypeId × Value → H) : ∃ places, DataW.whole enc Tryd.prog ((laidWorld os).forCall (fun _ _ => 0) ⟨#[], #[.slice none 0 0, .int .u16 0, .slice none 0 0], []⟩).memory Tryd.f9.params.toList Rows.redactBytesSpec.vars false #[Value.slice none 0 0, Value.int .u16 0, Value.slice none 0 0].toList 8 = some ([.nil, .lit (.int .u16 0), .nil], [], places) :=
  ⟨[], by kernel_rfl⟩
set_option maxRecDepth 100000 in
theorem lifted (os : Os) (started : os.Started) (H : Type) (enc : TypeId × Value → H) (F : Stop.Interp) :
    ReturnsInHanded {} Tryd.checked os 9 .any ((OpenSpec.ofChange Rows.redactBytesSpec).preRow enc Tryd.prog Tryd.f9 Rows.redactBytesRow.domain false Rows.redactBytesRow.laid) (((OpenSpec.ofChange Rows.redactBytesSpec).at F).post enc Tryd.prog Tryd.f9 false true false false) := by
  obtain ⟨places, hx⟩ := reads os enc
  refine returnsInHanded_of_row (C := Tryd.checked) (s := OpenSpec.ofChange Rows.redactBytesSpec) own0 started (by kernel_rfl) Tryd.func9
    (witness_row_at (enc := enc) (C := Tryd.checked) false (laidWorld os) #[.slice none 0 0, .int .u16 0, .slice none 0 0] rfl (by kernel_rfl) (by kernel_rfl) (by kernel_rfl)
      (OpenSpec.preRow_of_cond 8 hx (by kernel_rfl) (fun k hk => by cases hk) (by kernel_rfl) (laid_met os))) ?_
  intro W base args ds gs before hval hW _ _ _ hL _ _
  exact contract H enc W base args ds gs before hval hW (tab_laid hL)
theorem said : Rows.RedactBytesSaid :=
  OpenClaim.holds_of_cond 9 Tryd.f9 rfl rfl rfl rfl rfl rfl rfl ⟨rfl, rfl, rfl, rfl, rfl⟩ rfl rfl rfl rfl rfl (by kernel_rfl) Tryd.func9 (by kernel_rfl)
    (of_decide_eq_true (by kernel_rfl)) (by unfold Func.isWrapper; first | (rw [if_pos (by decide +kernel)]; kernel_rfl) | (rw [if_neg (by decide +kernel)]; exact ⟨rfl, rfl⟩))
    (fun os started H enc _ F => by rw [OpenClaim.pre_eq_preRow]; exact lifted os started H enc F)
theorem plain (f : FuncId) (fn : Func) (hf : Tryd.pinned.checked.prog.funcNamed "rootcause/rootcauselaw53.RedactBytes" = some f) (hfn : Tryd.pinned.checked.prog.funcs[f]? = some fn) :
    false = Tryd.pinned.checked.prog.looks [] ∧ ∀ (j : Nat) t, fn.params[j]? = some t → Tryd.pinned.checked.prog.wantsStandIn t = false := by
  obtain rfl : f = 9 := Option.some.inj ((show Tryd.prog.funcNamed "rootcause/rootcauselaw53.RedactBytes" = some 9 by kernel_rfl).symm.trans hf) |>.symm
  obtain rfl : fn = Tryd.f9 := (Option.some.inj (Tryd.func9.symm.trans hfn)).symm
  refine ⟨by kernel_rfl, fun j t ht => ?_⟩
  rw [Tryd.params9] at ht
  have ht' := Array.mem_of_getElem? ht
  have : t = 22 ∨ t = 23 ∨ t = 38 := by simpa using ht'
  rcases this with rfl | rfl | rfl
  · exact (show Tryd.prog.wantsStandIn 22 = false by kernel_rfl)
  · exact (show Tryd.prog.wantsStandIn 23 = false by kernel_rfl)
  · exact (show Tryd.prog.wantsStandIn 38 = false by kernel_rfl)
theorem card : Rows.RedactBytesCardSaid :=
  Claim7.holds_tied_plain_at .later [] _ _ _ _ said (fun _ h => by cases h) (by kernel_rfl) (fun _ h => by cases h) redactBytes_row_tie rfl ⟨rfl, rfl⟩ (by kernel_rfl) rfl plain (by kernel_rfl)
end Go.Proofs.YtjedhndhdkiidaaDoor.redactBytes
