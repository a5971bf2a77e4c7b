/- What the reference writes of a document with closed fields: plain; a region's condition on the world strengthened half-way. -/
import Derived.Test.YtjedhndhdkiidaaDoorV26
import Derived.Test.YtjedhndhdkiidaaDoorV33
namespace Go.Proofs.YtjedhndhdkiidaaDoor
open Go.RowKit
theorem wpAnyH_weaken {P : Program} {md : Region.Mode} {ops : Array Oper} {Q : Exit → Act → World → Prop} {S S' : World → Prop} (h : ∀ w, S' w → S w) : ∀ (fuel : Nat) (listed : Array Bool) (a : Act) (w : World), wpAnyH P md ops Q S' fuel listed a w → wpAnyH P md ops Q S fuel listed a w
  | 0, _, _, _, H => H
  | fuel + 1, _, _, _, H => ⟨H.1, fun i hi => wpOp_mono (fun a' w' h' => ⟨h _ h'.1, wpAnyH_weaken h fuel _ a' w' h'.2⟩) (H.2 i hi)⟩
/-- A field of which nothing is told but its name, unless it is open. -/
def blF (ss : List (List UInt8)) (f : Fd) : Fd := if f.nm ∈ ss then f else ⟨f.nm, [], []⟩
theorem blF_nm (ss : List (List UInt8)) (f : Fd) : (blF ss f).nm = f.nm := by unfold blF; split <;> rfl
theorem encB_ref (ss : List (List UInt8)) (f : Fd) : encB (keepF ss (itOf f)) = refB ss (blF ss f) (comD f) := by
  unfold encB refB
  rw [keepF_nm, blF_nm]
  show putU f.nm.length ++ f.nm ++ _ = putU f.nm.length ++ f.nm ++ _
  by_cases h : f.nm ∈ ss
  · have e : keepF ss (itOf f) = itOf f := by unfold keepF; exact if_pos h
    have e2 : blF ss f = f := by unfold blF; exact if_pos h
    rw [e, e2, if_pos h, if_pos (show (itOf f).op = true from rfl)]
    show _ ++ 1 :: (f.sl ++ putU f.vl.length ++ f.vl) = _
    rw [List.append_assoc f.sl]
  · have e : keepF ss (itOf f) = cloF (itOf f) := by unfold keepF; exact if_neg h
    rw [e, if_neg h, if_neg (by show ¬ false = true; decide), comD_it]
    rfl
theorem encD_ref (ss : List (List UInt8)) (ys : List Fd) : encD ((ys.map itOf).map (keepF ss)) = refK (ys.map (blF ss)) (ys.map comD) ss ys.length := by
  unfold encD encK refK
  rw [List.take_length]
  congr 1
  · rw [List.length_map, List.length_map, List.length_map]
  · congr 1
    apply List.ext_getElem?
    intro j
    rw [List.getElem?_map, List.getElem?_map, List.getElem?_map, List.getElem?_map]
    rcases Nat.lt_or_ge j ys.length with h | h
    · rw [List.getElem?_eq_getElem h, List.getElem?_range h]
      show some (encB (keepF ss (itOf ys[j]))) = some (refB ss ((ys.map (blF ss)).getD j Fd0) ((ys.map comD).getD j []))
      rw [encB_ref, List.getD_eq_getElem?_getD, List.getD_eq_getElem?_getD, List.getElem?_map, List.getElem?_map, List.getElem?_eq_getElem h]
      rfl
    · rw [List.getElem?_eq_none h, List.getElem?_eq_none (by simpa using h)]
      rfl
/-- Digests as slices. -/
abbrev QC := Option Addr × Nat
def encC (q : QC) : List Value := [.slice q.1 32 q.2]
theorem encC_wide (qs : List QC) : Wide 1 (qs.map encC) := Wide.map (f := encC) (s := 1) (fun _ => rfl) qs
theorem encC_one (qs : List QC) : ∀ u ∈ (qs.map encC).flatten, u.oneCell' = true := by
  intro u hu
  obtain ⟨x, hx, hu2⟩ := List.mem_flatten.1 hu
  obtain ⟨q, -, rfl⟩ := List.mem_map.1 hx
  rw [List.mem_singleton.1 hu2]
  rfl
theorem el62 : El 62 38 (.slice none 0 0) 1 24 := ⟨Tryd.underlying62, by kernel_rfl, rfl, by decide, by decide⟩
/-- The slices hold these digests. -/
def QsAt (w : World) (B : Nat) (qs : List QC) (cs : List (List UInt8)) : Prop := ∀ j, j < qs.length → SlN w B (.slice (qs.getD j (none, 0)).1 (cs.getD j []).length (qs.getD j (none, 0)).2) (cs.getD j [])
theorem QsAt.ext {w w' : World} {B : Nat} {qs : List QC} {cs : List (List UInt8)} (h : QsAt w B qs cs) (k : Ext w w') : QsAt w' B qs cs := fun j hj => (h j hj).ext k
theorem QsAt.grown {s B B' T : Nat} {w w' : World} {t : Value} {us : List (List Value)} {qs : List QC} {cs : List (List UInt8)} (h : QsAt w B qs cs) (hr : Row s w B' T t us) (hT : T ≠ 5) (hg : w.grownBy w' t.ownBlock) : QsAt w' B qs cs := fun j hj => (h j hj).grown hg hr.ty hT
theorem QsAt.cs {w : World} {B T : Nat} {v : Value} {qs : List QC} {cs : List (List UInt8)} (h : QsAt w B qs cs) (hr : Row 1 w B T v (qs.map encC)) (hl : qs.length = cs.length) (h32 : ∀ d ∈ cs, d.length = 32) : CsAt w v cs := by
  refine ⟨qs.map encC, hr.sl, by rw [List.length_map, hl], fun j hj => ⟨.slice (qs.getD j (none, 0)).1 (cs.getD j []).length (qs.getD j (none, 0)).2, ?_, (h j (by omega)).sl⟩⟩
  have hj' : j < qs.length := by omega
  rw [h32 _ (mem_getD hj), List.getD_eq_getElem?_getD, List.getElem?_map, List.getElem?_eq_getElem hj', List.getD_eq_getElem?_getD, List.getElem?_eq_getElem hj']
  rfl
theorem ids_at {w : World} {v : Value} {cs : List (List UInt8)} (h : SlAt 32 w v (cs.map idC)) : ∃ A c, v = .slice A cs.length c ∧ ∀ j, j < cs.length → ∃ b o : Nat, A = some ⟨b, o, none⟩ ∧ ∀ W, Ext w W → (ldS 48 (.pointer (some ⟨b, o + j * 32, none⟩))).run Tryd.prog W = .ok (idV (cs.getD j [])) W := by
  obtain ⟨A, c, e, -, -, hr⟩ := h.read
  rw [List.length_map] at e hr
  refine ⟨A, c, e, fun j hj => ?_⟩
  obtain ⟨b, o, e2, hb, hc⟩ := hr w (Ext.refl _) j hj (by decide)
  refine ⟨b, o, e2, fun W hW => run_ld48 fun i hi => hW.cell (hc i _ hi ?_)⟩
  rw [List.getD_eq_getElem?_getD, List.getElem?_map, List.getElem?_eq_getElem hj, List.getD_eq_getElem?_getD, List.getElem?_eq_getElem hj]
  show (idC cs[j])[i]? = _
  unfold idC
  rw [Array.getElem?_toList, arV_at hi]
  rfl
end Go.Proofs.YtjedhndhdkiidaaDoor
