/- The frame of this seat's rows: arguments are read, and read again behind the call. -/
import Derived.Test.YtehmpbaiefbemaaGreatRows
import Derived.Test.YtehmpbaiefbemaaGreatN42
import Derived.ProofKit
import Derived.OpenShut
import Derived.Below
import Derived.ChangeSame
import Derived.Deep.DeepHandedRow
import Derived.Lib.LaidTab
import Derived.ChangeStays
import Derived.ChangeSlices
import Derived.Deep.Slices
import Derived.Lib.SmallJoins
namespace Go.Proofs.YtehmpbaiefbemaaGreat
open Go.RowKit Go.WideShapes Go.ChangeShapes Go.Deep Go.Lib
section
variable {H : Type} {enc : TypeId × Value → H} {P : Program}
theorem post_of_below {f : Func} {s : ChangeSpec} {apart fresh handsOn again : Bool} {W W' : World} {args : Array Value} {v : Value} {ds gs : List (DataW H)} {before pa pv : List MemPlace}
    (hW : DataW.Whole enc P f.params.toList s.vars apart W args.toList ds gs before)
    (hres : ∀ (b : Nat) (sp : Nat → Bool) (hd : Bool), DataW.TrodAll enc P W' b sp hd f.resultTypes.toList (v.resultList f.resultTypes.size) (s.fn H (ds ++ gs)).results [])
    (hargs : ∀ sp : Nat → Bool, (∀ p ∈ before, sp p.block = true) → DataW.TrodAll enc P W' 0 sp true f.params.toList args.toList (s.fn H (ds ++ gs)).args pa)
    (hvars : ∀ sp : Nat → Bool, (∀ p ∈ before, sp p.block = true) → DataW.TrodVars enc P W' sp s.vars (s.fn H (ds ++ gs)).vars pv)
    (hps : before = pa ++ pv) (hb : Below W.heap.size W W')
    (hok : ∀ (j : Nat) (t : TypeId) (r : Value), f.resultTypes[j]? = some t → (v.resultList f.resultTypes.size)[j]? = some r → Value.okWide P W' .any 0 t r) :
    s.post enc P f apart fresh handsOn again W args v W' := by
  have hlt : ∀ p ∈ before, p.block < W.heap.size := fun p hp => hW.lt p hp
  have hold : ∀ p ∈ before, (fun b => decide (b < W.heap.size)) p.block = true := fun p hp => by simpa using hlt p hp
  refine ⟨ds, gs, before, [], pa, pv, hW, hres _ _ _, hargs _ hold, hvars _ hold, World.keptBut_mono (fun p hp => ⟨hp, ?_⟩) (hb.frame (· ∈ before)), fun _ => ?_⟩
  · rw [hps, List.mem_append] at hp
    exact Or.inr hp
  · obtain ⟨_, _, _, _, _, hz, hn⟩ := hW
    refine ⟨hok, _, _, ([] ++ pa) ++ pv, ⟨[] ++ pa, pv, trodAll_append (hargs _ (fun _ _ => rfl)) (hres _ _ _), hvars _ (fun _ _ => rfl), rfl, ?_, ?_⟩, ?_⟩
    · intro b off hp
      have hin : MemPlace.cell b off ∈ before := by rw [hps]; simpa using hp
      rw [hb.frozen (hlt _ hin)]
      exact hz b off hin
    · intro ha
      have := hn ha
      rw [hps] at this
      simpa using this
    · intro p hp _
      rw [hps]
      simpa using hp
end
theorem own0 : ownKnob Tryz.prog.godebug = none := by kernel_rfl
/-- A world for the witness. -/
noncomputable def laidWorld (os : Os) : World := World.holding Tryz.prog os ⟨#[], #[], []⟩
theorem Tryz.cells61 : Tryz.prog.cellsOf 61 = 7 := by kernel_rfl
theorem Tryz.cells58 : Tryz.prog.cellsOf 58 = 4 := by kernel_rfl
theorem Tryz.cells56 : Tryz.prog.cellsOf 56 = 1 := by kernel_rfl
theorem Tryz.cells3 : Tryz.prog.cellsOf 3 = 1 := by kernel_rfl
theorem Tryz.cells2 : Tryz.prog.cellsOf 2 = 1 := by kernel_rfl
theorem Tryz.cells59 : Tryz.prog.cellsOf 59 = 1 := by kernel_rfl
theorem Tryz.cells62 : Tryz.prog.cellsOf 62 = 1 := by kernel_rfl
theorem Tryz.cells22 : Tryz.prog.cellsOf 22 = 1 := by kernel_rfl
theorem Tryz.cells23 : Tryz.prog.cellsOf 23 = 1 := by kernel_rfl
theorem Tryz.cells79 : Tryz.prog.cellsOf 79 = 3 := by kernel_rfl
theorem Tryz.cells81 : Tryz.prog.cellsOf 81 = 4 := by kernel_rfl
theorem Tryz.cells69 : Tryz.prog.cellsOf 69 = 3 := by kernel_rfl
theorem Tryz.cells72 : Tryz.prog.cellsOf 72 = 6 := by kernel_rfl
theorem Tryz.cells25 : Tryz.prog.cellsOf 25 = 2 := by kernel_rfl
/-- The types of the arguments of this seat's laws, and of their parts. -/
def ArgT (t : TypeId) : Prop := t = 25 ∨ t = 26 ∨ t = 22 ∨ t = 23 ∨ t = 61 ∨ t = 58 ∨ t = 56 ∨ t = 3 ∨ t = 59 ∨ t = 2 ∨ t = 81 ∨ t = 79 ∨ t = 62 ∨ t = 69 ∨ t = 72 ∨ t = 5
instance (t : TypeId) : Decidable (ArgT t) := by unfold ArgT; exact inferInstance
theorem argKids : Go.Kids Tryz.prog ArgT := by
  refine ⟨?_, ?_, ?_, ?_, ?_⟩
  · rintro t e (rfl | rfl | rfl | rfl | rfl | rfl | rfl | rfl | rfl | rfl | rfl | rfl | rfl | rfl | rfl | rfl) h <;>
      simp only [Tryz.underlying25, Tryz.underlying26, Tryz.underlying22, Tryz.underlying23, Tryz.underlying61, Tryz.underlying58, Tryz.underlying56, Tryz.underlying3, Tryz.underlying59, Tryz.underlying2, Tryz.underlying81, Tryz.underlying79, Tryz.underlying62, Tryz.underlying69, Tryz.underlying72, Tryz.underlying5] at h <;> cases h
  · rintro t e (rfl | rfl | rfl | rfl | rfl | rfl | rfl | rfl | rfl | rfl | rfl | rfl | rfl | rfl | rfl | rfl) h <;>
      simp only [Tryz.underlying25, Tryz.underlying26, Tryz.underlying22, Tryz.underlying23, Tryz.underlying61, Tryz.underlying58, Tryz.underlying56, Tryz.underlying3, Tryz.underlying59, Tryz.underlying2, Tryz.underlying81, Tryz.underlying79, Tryz.underlying62, Tryz.underlying69, Tryz.underlying72, Tryz.underlying5] at h <;> cases h <;> decide
  · rintro t e n (rfl | rfl | rfl | rfl | rfl | rfl | rfl | rfl | rfl | rfl | rfl | rfl | rfl | rfl | rfl | rfl) h <;>
      simp only [Tryz.underlying25, Tryz.underlying26, Tryz.underlying22, Tryz.underlying23, Tryz.underlying61, Tryz.underlying58, Tryz.underlying56, Tryz.underlying3, Tryz.underlying59, Tryz.underlying2, Tryz.underlying81, Tryz.underlying79, Tryz.underlying62, Tryz.underlying69, Tryz.underlying72, Tryz.underlying5] at h <;> cases h
  · rintro t fs (rfl | rfl | rfl | rfl | rfl | rfl | rfl | rfl | rfl | rfl | rfl | rfl | rfl | rfl | rfl | rfl) h <;>
      simp only [Tryz.underlying25, Tryz.underlying26, Tryz.underlying22, Tryz.underlying23, Tryz.underlying61, Tryz.underlying58, Tryz.underlying56, Tryz.underlying3, Tryz.underlying59, Tryz.underlying2, Tryz.underlying81, Tryz.underlying79, Tryz.underlying62, Tryz.underlying69, Tryz.underlying72, Tryz.underlying5] at h <;> cases h <;>
      (refine ⟨by decide, by kernel_rfl, ?_⟩
       intro j f hf
       rcases j with _ | _ | _ | _ | _ | _ | j <;> first | (simp at hf; done) | (simp at hf; subst hf; kernel_rfl))
  · rintro t k e (rfl | rfl | rfl | rfl | rfl | rfl | rfl | rfl | rfl | rfl | rfl | rfl | rfl | rfl | rfl | rfl) h <;>
      simp only [Tryz.underlying25, Tryz.underlying26, Tryz.underlying22, Tryz.underlying23, Tryz.underlying61, Tryz.underlying58, Tryz.underlying56, Tryz.underlying3, Tryz.underlying59, Tryz.underlying2, Tryz.underlying81, Tryz.underlying79, Tryz.underlying62, Tryz.underlying69, Tryz.underlying72, Tryz.underlying5] at h <;> cases h
theorem argSize : ∀ {t e : TypeId}, ArgT t → Tryz.prog.underlying t = some (.slice e) → 0 < Tryz.prog.cellsOf e := by
  rintro t e (rfl | rfl | rfl | rfl | rfl | rfl | rfl | rfl | rfl | rfl | rfl | rfl | rfl | rfl | rfl | rfl) h <;>
    simp only [Tryz.underlying25, Tryz.underlying26, Tryz.underlying22, Tryz.underlying23, Tryz.underlying61, Tryz.underlying58, Tryz.underlying56, Tryz.underlying3, Tryz.underlying59, Tryz.underlying2, Tryz.underlying81, Tryz.underlying79, Tryz.underlying62, Tryz.underlying69, Tryz.underlying72, Tryz.underlying5] at h <;> cases h <;>
    first | (rw [Tryz.cells72]; decide) | (rw [Tryz.cells61]; decide) | (rw [Tryz.cells81]; decide) | (rw [Tryz.cells69]; decide) | (rw [Tryz.cells2]; decide)
section
variable {H : Type} {enc : TypeId × Value → H} {W W' : World}
/-- An argument reads behind the call as it read before it. -/
theorem trod_keep {t : TypeId} {v : Value} {d : DataW H} {p : List MemPlace} (ht : ArgT t) (h : DataW.Trod enc Tryz.prog W 0 (fun _ => true) true t v d p) (hb : Below W.heap.size W W') (hlt : ∀ x ∈ p, x.block < W.heap.size)
    {sp : Nat → Bool} (hs : ∀ x ∈ p, sp x.block = true) : DataW.Trod enc Tryz.prog W' 0 sp true t v d p := by
  obtain ⟨fuel, hf⟩ := h
  exact ⟨fuel, DataW.trod_stays argKids argSize (fun h => by cases h) ht hf (fun x hx => hb.same (hlt x hx)) hs⟩
theorem spot_none {w : World} {a : Addr} {v : Value} (h : w.cell? a = some v) : ∃ b o, a = ⟨b, o, none⟩ := by
  obtain ⟨b, o, s⟩ := a
  cases s with
  | none => exact ⟨b, o, rfl⟩
  | some s =>
    unfold World.cell? at h
    split at h <;> simp at h
theorem choose_list {α : Type} {Q : Nat → α → Prop} : ∀ n, (∀ i, i < n → ∃ a, Q i a) → ∃ l : List α, l.length = n ∧ ∀ i (h : i < l.length), Q i l[i]
  | 0, _ => ⟨[], rfl, fun i h => by simp at h⟩
  | n + 1, h => by
    obtain ⟨l, hl, hq⟩ := choose_list n fun i hi => h i (by omega)
    obtain ⟨a, ha⟩ := h n (by omega)
    refine ⟨l ++ [a], by simp [hl], fun i hi => ?_⟩
    rw [List.getElem_append]
    split
    · exact hq i _
    · have : i = n := by simp at hi; omega
      subst this
      simpa using ha
variable {base : Nat} {sp : Nat → Bool} {held : Bool}
/-- A slice whose elements can be read. -/
theorem sl_of_trod {α : Type} {t e : TypeId} {s : Nat} (f : α → List Value) (Q : α → Prop) (ht : Tryz.prog.underlying t = some (.slice e)) (hc : Tryz.prog.cellsOf e = s) (hs : 0 < s) (hlen : ∀ x, (f x).length = s)
    (hel : ∀ n cs y, cs.length = s → DataW.trod enc Tryz.prog W base sp held n e cs = some y → ∃ x, cs = f x ∧ Q x) {fuel : Nat} {v : Value} {x : DataW H × List MemPlace} (h : DataW.trod enc Tryz.prog W base sp held fuel t [v] = some x) :
    ∃ xs : List α, SlAt s W v (xs.map f) ∧ ∀ x ∈ xs, Q x := by
  rcases open_slice ht h with ⟨e1, _⟩ | ⟨a, len, cap, m, n, D, Pl, e1, _, hl, hm, hmm, _, hx⟩
  · obtain rfl : v = .slice none 0 0 := by simpa using e1
    exact ⟨[], SlAt.nil _ _, by simp⟩
  · obtain rfl : v = .slice (some a) len cap := by simpa using e1
    rw [hc] at hx
    have hlm : len ≤ m := by rw [hmm]; split <;> omega
    obtain ⟨xs, hxl, hq⟩ := choose_list (Q := fun i (z : α) => Q z ∧ W.cells? base (a.add (i * s)) s = some (f z)) len fun i hi => by
      obtain ⟨cs', h1, h2⟩ := hx i (by omega)
      obtain ⟨z, rfl, hz⟩ := hel _ _ _ (World.cells?_some h1).2.1 h2
      exact ⟨z, hz, h1⟩
    refine ⟨xs, ⟨⟨some a, cap, by rw [List.length_map, hxl], by rw [List.length_map, hxl]; exact hl, hm, fun h0 => ?_⟩, Wide.map hlen _⟩, fun z hz => ?_⟩
    · have hw : Wide s (xs.map f) := Wide.map hlen _
      rw [hw.flat, List.length_map, hxl] at h0
      have hl0 : 0 < len := Nat.pos_of_mul_pos_right h0
      have hc0 := (World.cells?_some (hq 0 (by omega)).2).2.2 0 hs
      rw [Nat.zero_mul] at hc0
      have e0 : ∀ a : Addr, (a.add 0).add 0 = a := fun a => by simp [Addr.add]
      rw [e0] at hc0
      have hf0 : (f (xs[0]'(by omega)))[0]? ≠ none := by
        rw [List.getElem?_eq_getElem (by rw [hlen]; exact hs)]
        simp
      obtain ⟨u0, hu0⟩ := Option.ne_none_iff_exists'.1 hf0
      rw [hu0] at hc0
      obtain ⟨b, o, rfl⟩ := spot_none hc0
      refine ⟨b, o, rfl, World.block_lt_of_cell? W _ hc0, fun j u hj => ?_⟩
      have hjl : j < (xs.map f).flatten.length := by
        rcases Nat.lt_or_ge j (xs.map f).flatten.length with h | h
        · exact h
        · rw [List.getElem?_eq_none h] at hj; cases hj
      rw [hw.flat, List.length_map, hxl] at hjl
      have hq1 : j / s < len := Nat.div_lt_of_lt_mul (by rw [Nat.mul_comm]; exact hjl)
      have hr1 : j % s < s := Nat.mod_lt _ hs
      have hjd : j / s * s + j % s = j := by rw [Nat.mul_comm]; exact Nat.div_add_mod j s
      rw [← hjd, hw.at_ (by rw [List.length_map, hxl]; exact hq1) hr1, List.getD_eq_getElem?_getD, List.getElem?_map, List.getElem?_eq_getElem (show j / s < xs.length by omega)] at hj
      have hcj := (World.cells?_some (hq (j / s) (by omega)).2).2.2 (j % s) hr1
      rw [addE, addE, Nat.add_assoc, hjd] at hcj
      rw [hcj]
      exact hj
    · obtain ⟨i, hi, rfl⟩ := List.getElem_of_mem hz
      exact (hq i hi).1
theorem list3 {α : Type} {l : List α} (h : l.length = 3) : ∃ a b c, l = [a, b, c] := by
  match l, h with
  | [a, b, c], _ => exact ⟨a, b, c, rfl⟩
theorem list4 {α : Type} {l : List α} (h : l.length = 4) : ∃ a b c d, l = [a, b, c, d] := by
  match l, h with
  | [a, b, c, d], _ => exact ⟨a, b, c, d, rfl⟩
theorem list1 {α : Type} {l : List α} (h : l.length = 1) : ∃ a, l = [a] := by
  match l, h with
  | [a], _ => exact ⟨a, rfl⟩
theorem list6 {α : Type} {l : List α} (h : l.length = 6) : ∃ a b c d e f, l = [a, b, c, d, e, f] := by
  match l, h with
  | [a, b, c, d, e, f], _ => exact ⟨a, b, c, d, e, f, rfl⟩
theorem list7 {α : Type} {l : List α} (h : l.length = 7) : ∃ a b c d e f g, l = [a, b, c, d, e, f, g] := by
  match l, h with
  | [a, b, c, d, e, f, g], _ => exact ⟨a, b, c, d, e, f, g, rfl⟩
theorem int_of {n : Nat} {c : Value} {y : DataW H × List MemPlace} (h : DataW.trod enc Tryz.prog W base sp held n 3 [c] = some y) : ∃ z, c = iV z := by
  obtain ⟨z, e, -, -⟩ := DataW.trod_int Tryz.underlying3 h
  exact ⟨z, by simpa using e⟩
theorem int2_of {n : Nat} {c : Value} {y : DataW H × List MemPlace} (h : DataW.trod enc Tryz.prog W base sp held n 2 [c] = some y) : ∃ z, c = iV z := by
  obtain ⟨z, e, -, -⟩ := DataW.trod_int Tryz.underlying2 h
  exact ⟨z, by simpa using e⟩
theorem kind_of {n : Nat} {c : Value} {y : DataW H × List MemPlace} (h : DataW.trod enc Tryz.prog W base sp held n 56 [c] = some y) : ∃ z : Nat, c = kV z ∧ z < 256 := by
  obtain ⟨z, e, -, hw⟩ := DataW.trod_int Tryz.underlying56 h
  have m0 : IntKind.u8.min = 0 := rfl
  have m1 : IntKind.u8.max = 255 := rfl
  simp [Lit.wf] at hw
  refine ⟨z.toNat, ?_, by omega⟩
  have e1 : c = .int .u8 z := by simpa using e
  rw [e1]
  show Value.int .u8 z = Value.int .u8 ((z.toNat : Nat) : Int)
  rw [Int.toNat_of_nonneg (by omega)]
/-- Arguments. -/
theorem args_of {n : Nat} {v : Value} {y : DataW H × List MemPlace} (h : DataW.trod enc Tryz.prog W base sp held n 59 [v] = some y) : ∃ xs, ArgsAt W v xs := by
  obtain ⟨xs, h1, -⟩ := sl_of_trod (fun x : Int => [iV x]) (fun _ => True) Tryz.underlying59 Tryz.cells2 (by decide) (fun _ => rfl) (fun n cs y hl hy => by
    obtain ⟨a, rfl⟩ := list1 hl
    obtain ⟨z, rfl⟩ := int2_of hy
    exact ⟨z, rfl, trivial⟩) h
  exact ⟨xs, h1⟩
theorem raw_of {n : Nat} {cs : List Value} {y : DataW H × List MemPlace} (hl : cs.length = 7) (h : DataW.trod enc Tryz.prog W base sp held n 61 cs = some y) : ∃ r : Raw, cs = encR r ∧ r.kd < 256 := by
  obtain ⟨c0, c1, c2, c3, c4, c5, c6, rfl⟩ := list7 hl
  obtain ⟨y0, y1, y2, y3, m, -, -, h0, h1, h2, -⟩ := Go.Joins.trod_struct4 Tryz.underlying61 h
  simp [Tryz.cells58, Tryz.cells3] at h0 h1 h2
  obtain ⟨k0, k1, k2, k3, m', -, -, g0, g1, g2, g3⟩ := Go.Joins.trod_struct4 Tryz.underlying58 h0
  simp [Tryz.cells56, Tryz.cells3] at g0 g1 g2 g3
  obtain ⟨z0, rfl, hz⟩ := kind_of g0
  obtain ⟨z1, rfl⟩ := int_of g1
  obtain ⟨z2, rfl⟩ := int_of g2
  obtain ⟨z3, rfl⟩ := int_of g3
  obtain ⟨z4, rfl⟩ := int_of h1
  obtain ⟨z5, rfl⟩ := int_of h2
  exact ⟨⟨z0, z1, z2, z3, z4, z5, c6⟩, rfl, hz⟩
theorem raws_of {n : Nat} {v : Value} {y : DataW H × List MemPlace} (h : DataW.trod enc Tryz.prog W base sp held n 22 [v] = some y) : ∃ rs, Raws W v rs ∧ ∀ r ∈ rs, r.kd < 256 :=
  sl_of_trod encR (fun r => r.kd < 256) Tryz.underlying22 Tryz.cells61 (by decide) (fun _ => rfl) (fun _ _ _ hl hy => raw_of hl hy) h
theorem ja_of {n : Nat} {v : Value} {y : DataW H × List MemPlace} (h : DataW.trod enc Tryz.prog W base sp held n 62 [v] = some y) : ∃ js, JaAt W v js := by
  obtain ⟨js, h1, h2⟩ := sl_of_trod encJ (fun j : Ja => ArgsAt W j.2 j.1.2.2) Tryz.underlying62 Tryz.cells69 (by decide) (fun _ => rfl) (fun n cs y hl hy => by
    obtain ⟨c0, c1, c2, rfl⟩ := list3 hl
    obtain ⟨y0, y1, y2, m, -, -, h0, h1, h2⟩ := trod_struct3 Tryz.underlying69 hy
    simp [Tryz.cells3, Tryz.cells59] at h0 h1 h2
    obtain ⟨z0, rfl⟩ := int_of h0
    obtain ⟨z1, rfl⟩ := int_of h1
    obtain ⟨xs, hx⟩ := args_of h2
    exact ⟨((z0, z1, xs), c2), rfl, hx⟩) h
  exact ⟨js, h1, h2⟩
theorem hs_of {n : Nat} {v : Value} {y : DataW H × List MemPlace} (h : DataW.trod enc Tryz.prog W base sp held n 23 [v] = some y) : ∃ hs, HsAt W v hs := by
  obtain ⟨hs, h1, h2⟩ := sl_of_trod encH (fun h : Jh => JaAt W h.2.2 h.2.1) Tryz.underlying23 Tryz.cells81 (by decide) (fun _ => rfl) (fun n cs y hl hy => by
    obtain ⟨c0, c1, c2, c3, rfl⟩ := list4 hl
    obtain ⟨y0, y1, m, -, -, h0, h1⟩ := trod_struct2 Tryz.underlying81 hy
    simp [Tryz.cells79, Tryz.cells62] at h0 h1
    obtain ⟨k0, k1, k2, m', -, -, g0, g1, g2⟩ := trod_struct3 Tryz.underlying79 h0
    simp [Tryz.cells3] at g0 g1 g2
    obtain ⟨z0, rfl⟩ := int_of g0
    obtain ⟨z1, rfl⟩ := int_of g1
    obtain ⟨z2, rfl⟩ := int_of g2
    obtain ⟨js, hj⟩ := ja_of h1
    exact ⟨((z0, z1, z2), js, c3), rfl, hj⟩) h
  exact ⟨hs, h1, h2⟩
theorem acts_of {n : Nat} {v : Value} {y : DataW H × List MemPlace} (h : DataW.trod enc Tryz.prog W base sp held n 26 [v] = some y) : ∃ al, AsAt W v al := by
  obtain ⟨al, h1, h2⟩ := sl_of_trod encA (fun a : Ac × Value => ArgsAt W a.2 a.1.args) Tryz.underlying26 Tryz.cells72 (by decide) (fun _ => rfl) (fun n cs y hl hy => by
    obtain ⟨c0, c1, c2, c3, c4, c5, rfl⟩ := list6 hl
    obtain ⟨xs, m, -, -, -, hlx, hf⟩ := DataW.trod_struct Tryz.underlying72 hy
    obtain ⟨u0, u1, u2, u3, u4, u5, rfl⟩ := list6 hlx
    have h0 := hf 0 _ rfl
    have h1 := hf 1 _ rfl
    have h2 := hf 2 _ rfl
    have h3 := hf 3 _ rfl
    have h4 := hf 4 _ rfl
    have h5 := hf 5 _ rfl
    simp [Tryz.cells3, Tryz.cells59] at h0 h1 h2 h3 h4 h5
    obtain ⟨z0, rfl⟩ := int_of h0
    obtain ⟨z1, rfl⟩ := int_of h1
    obtain ⟨z2, rfl⟩ := int_of h2
    obtain ⟨z3, rfl⟩ := int_of h3
    obtain ⟨z4, rfl⟩ := int_of h4
    obtain ⟨xa, ha⟩ := args_of h5
    exact ⟨(⟨z0, z1, z2, z3, z4, xa⟩, c5), rfl, ha⟩) h
  exact ⟨al, h1, h2⟩
end
end Go.Proofs.YtehmpbaiefbemaaGreat
