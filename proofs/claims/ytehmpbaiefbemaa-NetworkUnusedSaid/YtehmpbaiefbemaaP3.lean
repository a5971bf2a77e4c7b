/- NetworkUnused returns true for every argument, and leaves its arguments alone. -/
import Derived.Test.YtehmpbaiefbemaaF0
import Derived.Test.YtehmpbaiefbemaaL3
namespace Go.Proofs.Ytehmpbaiefbemaa
open Go.RowKit Go.WideShapes Go.ChangeShapes Go.Deep Go.Lib
theorem Try.bytes38 : Try.prog.bytesOf 38 = 64 := by kernel_rfl
theorem reach_second {H : Type} {t0 t1 : TypeId} {ts : List TypeId} {d0 d1 : DataW H} {r : List (DataW H)} (h : (DataW.weightsEach Try.prog ([t0, t1] ++ ts) ([d0, d1] ++ r)).all (· ≤ reachBytes) = true) : ∀ n ∈ d1.weights Try.prog t1, n ≤ reachBytes := by
  intro n hn
  have h1 := List.all_eq_true.1 h n (by
    simp only [List.cons_append, List.nil_append, DataW.weightsEach, List.mem_append]
    exact Or.inr (Or.inl hn))
  exact of_decide_eq_true h1
/-- A slice of acts that a process can hold is no longer than this. -/
theorem acts_len {H : Type} {enc : TypeId × Value → H} {W : World} {v : Value} {d : DataW H} {p : List MemPlace} {al : List (Ac × Value)} (ha : AsAt W v al) (h : DataW.Trod enc Try.prog W 0 (fun _ => true) true 26 v d p) (hw : ∀ n ∈ d.weights Try.prog 26, n ≤ reachBytes) : al.length ≤ 2199023255488 := by
  obtain ⟨A, c, rfl, -, -, -⟩ := ha.sl.read
  rw [List.length_map] at h
  obtain ⟨fuel, hf⟩ := h
  rcases open_slice Try.underlying26 hf with ⟨e1, _⟩ | ⟨a, len, cap, m, n, D, Pl, e1, _, hl, hm, hmm, e2, _⟩
  · injection e1 with e1
    injection e1 with _ e3
    omega
  · have e3 : al.length = len := by
      injection e1 with e1
      injection e1
    have e4 : d = .slice ((List.range len).map D) ((List.range (m - len)).map fun j => D (len + j)) := by injection e2
    subst e4
    have h1 := hw ((((List.range len).map D).length + ((List.range (m - len)).map fun j => D (len + j)).length) * Try.prog.bytesOf 38) (by
      unfold DataW.weights
      rw [Try.underlying26]
      exact List.mem_cons_self)
    rw [Try.bytes38] at h1
    simp [reachBytes] at h1
    omega
end Go.Proofs.Ytehmpbaiefbemaa
namespace Go.Proofs.Ytehmpbaiefbemaa.networkUnused
open Go.ChangeShapes Go.WideShapes Go.ChangeAt Go.RowKit
set_option maxRecDepth 100000 in
theorem contract (H : Type) (enc : TypeId × Value → H) (W : World) (base : Nat) (args : Array Value) (ds gs : List (DataW H)) (before : List MemPlace)
    (hval : ∀ (j : Nat) t v, Try.f7.params[j]? = some t → args[j]? = some v → Value.okWide Try.prog W .any base t v)
    (hW : DataW.Whole enc Try.prog Try.f7.params.toList Rows.networkUnusedSpec.vars false W args.toList ds gs before)
    (hwt : (DataW.weightsEach Try.prog (Try.f7.params.toList ++ (OpenSpec.ofChange Rows.networkUnusedSpec).bare.plain.varTypes Try.prog) (ds ++ gs)).all (· ≤ reachBytes) = true) :
    Calls Try.prog 7 args W fun e W' => ∃ v, e = .returned v ∧ Rows.networkUnusedSpec.post enc Try.prog Try.f7 false true false false W args v W' := by
  have hW' := hW
  obtain ⟨p, q, hA0, hV, rfl, hfz, hnd⟩ := hW
  have hA : DataW.TrodAll enc Try.prog W 0 (fun _ => true) true Try.f7.params.toList args.toList ds p := hA0
  rw [Try.params7] at hA hval
  obtain ⟨v0, vs0, d0, ds0, p0, q0, hargs, rfl, rfl, h0, r0⟩ := trodAll_cons hA
  obtain ⟨v1, vs1, d1, ds1, p1, q1, e1, rfl, rfl, h1, r1⟩ := trodAll_cons r0
  obtain ⟨rfl, rfl, rfl⟩ := trodAll_nil r1
  subst e1
  obtain rfl : args = #[v0, v1] := by cases args; simp_all
  obtain ⟨rfl, rfl⟩ := trodVars_none hV
  have hok0 := hval 0 25 v0 rfl rfl
  obtain ⟨u0, u1, y0, y1, n, rfl, -, -, g0, g1⟩ := Go.Joins.open_agg2 Try.underlying25 (by kernel_rfl) Try.cells25 hok0 h0
  obtain ⟨rs, hr1, hr2⟩ := raws_of g0
  obtain ⟨hs, hh⟩ := hs_of g1
  have hok1 := hval 1 26 v1 rfl rfl
  obtain ⟨A, m, c, rfl⟩ := okWide_slice Try.underlying26 hok1
  obtain ⟨al, ha⟩ : ∃ al, AsAt W (.slice A m c) al := by
    obtain ⟨fuel, hf⟩ := h1
    exact acts_of hf
  have hal := acts_len ha h1 (reach_second (r := []) (ts := []) (by rw [Try.params7] at hwt; exact hwt))
  clear hA0
  simp only [List.append_nil] at hW'
  refine (unused_law rs hs al u0 u1 _ W hr1 hr2 hh ha hal).mono fun e W' ⟨he, hg⟩ => ?_
  subst he
  have hlt : ∀ x ∈ p0 ++ p1, x.block < W.heap.size := fun x hx => hW'.lt x hx
  exact ⟨_, rfl, post_of_below (pa := p0 ++ p1) (pv := []) hW' (fun _ _ _ => (trodAll_cons_mk (shut_bool Try.underlying4 _) trodAll_mk0)) (fun sp hsp => by
      have := (trodAll_cons_mk (trod_keep (by decide) h0 hg (fun x hx => hlt x (List.mem_append.2 (.inl hx))) (fun x hx => hsp x (List.mem_append.2 (.inl hx)))) (trodAll_cons_mk (trod_keep (by decide) h1 hg (fun x hx => hlt x (List.mem_append.2 (.inr hx))) (fun x hx => hsp x (List.mem_append.2 (.inr hx)))) trodAll_mk0))
      simp only [List.append_nil] at this
      exact this) (fun _ _ => rfl) (by simp)
    hg (ok_one (by kernel_rfl) rfl (okWide_bool_mk Try.underlying4 _))⟩
abbrev wit : Array Value := #[.agg #[.slice none 0 0, .slice none 0 0], .slice none 0 0]
theorem laid_met (os : Os) : laidMet Try.prog Rows.networkUnusedRow.laid ((laidWorld os).forCall (fun _ _ => 0) ⟨#[], wit, []⟩).memory :=
  laidMet_of_run' 64 (by kernel_rfl) (by kernel_rfl)
theorem reads (os : Os) {H : Type} (enc : TypeId × Value → H) : ∃ places, DataW.whole enc Try.prog ((laidWorld os).forCall (fun _ _ => 0) ⟨#[], wit, []⟩).memory Try.f7.params.toList Rows.networkUnusedSpec.vars false wit.toList 8 = some ([.agg [.nil, .nil], .nil], [], places) :=
  ⟨[], by kernel_rfl⟩
set_option maxRecDepth 100000 in
theorem lifted (os : Os) (started : os.Started) (H : Type) (enc : TypeId × Value → H) (F : Stop.Interp) :
    ReturnsInHanded {} Try.checked os 7 .any ((OpenSpec.ofChange Rows.networkUnusedSpec).preRow enc Try.prog Try.f7 Rows.networkUnusedRow.domain false Rows.networkUnusedRow.laid) (((OpenSpec.ofChange Rows.networkUnusedSpec).at F).post enc Try.prog Try.f7 false true false false) := by
  obtain ⟨places, hx⟩ := reads os enc
  refine returnsInHanded_of_row (C := Try.checked) (s := OpenSpec.ofChange Rows.networkUnusedSpec) own0 started (by kernel_rfl) Try.func7
    (witness_row_at (enc := enc) (C := Try.checked) false (laidWorld os) wit rfl (by kernel_rfl) (by kernel_rfl) (by kernel_rfl)
      (OpenSpec.preRow_of_cond 8 hx (by kernel_rfl) (fun k hk => by cases hk) (by kernel_rfl) (laid_met os))) ?_
  intro W base args ds gs before hval hW _ _ hwt _ _ _
  exact contract H enc W base args ds gs before hval hW hwt
theorem said : Rows.NetworkUnusedSaid :=
  OpenClaim.holds_of_cond 7 Try.f7 rfl rfl rfl rfl rfl rfl rfl ⟨rfl, rfl, rfl, rfl, rfl⟩ rfl rfl rfl rfl rfl (by kernel_rfl) Try.func7 (by kernel_rfl)
    (of_decide_eq_true (by kernel_rfl)) (by unfold Func.isWrapper; first | (rw [if_pos (by decide +kernel)]; kernel_rfl) | (rw [if_neg (by decide +kernel)]; exact ⟨rfl, rfl⟩))
    (fun os started H enc _ F => by rw [OpenClaim.pre_eq_preRow]; exact lifted os started H enc F)
end Go.Proofs.Ytehmpbaiefbemaa.networkUnused
