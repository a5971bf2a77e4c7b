/- The frame of the cards of this seat: arguments are read, and read again behind the call; a world for the witness in which the listed table holds what the program's text lays. -/
import Derived.Test.YtjeclmmikjpinaaDoorCards
import Derived.Test.YtjeclmmikjpinaaDoorTie
import Derived.Test.YtjeclmmikjpinaaDoorC2
import Derived.ProofKit
import Derived.OpenShut
import Derived.Below
import Derived.ChangeSame
import Derived.Deep.DeepHandedRow
import Derived.Lib.LaidTab
import Derived.ChangeStays
import Derived.ChangeSlices
import Derived.Deep.Slices
import Derived.Lib.SmallJoins
namespace Go.Proofs.YtjeclmmikjpinaaDoor
open Go.RowKit Go.WideShapes Go.ChangeShapes Go.Deep Go.Lib
section
variable {H : Type} {enc : TypeId × Value → H} {P : Program}
theorem post_of_below {f : Func} {s : ChangeSpec} {apart fresh handsOn again : Bool} {W W' : World} {args : Array Value} {v : Value} {ds gs : List (DataW H)} {before pa pv : List MemPlace}
    (hW : DataW.Whole enc P f.params.toList s.vars apart W args.toList ds gs before)
    (hres : ∀ (b : Nat) (sp : Nat → Bool) (hd : Bool), DataW.TrodAll enc P W' b sp hd f.resultTypes.toList (v.resultList f.resultTypes.size) (s.fn H (ds ++ gs)).results [])
    (hargs : ∀ sp : Nat → Bool, (∀ p ∈ before, sp p.block = true) → DataW.TrodAll enc P W' 0 sp true f.params.toList args.toList (s.fn H (ds ++ gs)).args pa)
    (hvars : ∀ sp : Nat → Bool, (∀ p ∈ before, sp p.block = true) → DataW.TrodVars enc P W' sp s.vars (s.fn H (ds ++ gs)).vars pv)
    (hps : before = pa ++ pv) (hb : Below W.heap.size W W')
    (hok : ∀ (j : Nat) (t : TypeId) (r : Value), f.resultTypes[j]? = some t → (v.resultList f.resultTypes.size)[j]? = some r → Value.okWide P W' .any 0 t r) :
    s.post enc P f apart fresh handsOn again W args v W' := by
  have hlt : ∀ p ∈ before, p.block < W.heap.size := fun p hp => hW.lt p hp
  have hold : ∀ p ∈ before, (fun b => decide (b < W.heap.size)) p.block = true := fun p hp => by simpa using hlt p hp
  refine ⟨ds, gs, before, [], pa, pv, hW, hres _ _ _, hargs _ hold, hvars _ hold, World.keptBut_mono (fun p hp => ⟨hp, ?_⟩) (hb.frame (· ∈ before)), fun _ => ?_⟩
  · rw [hps, List.mem_append] at hp
    exact Or.inr hp
  · obtain ⟨_, _, _, _, _, hz, hn⟩ := hW
    refine ⟨hok, _, _, ([] ++ pa) ++ pv, ⟨[] ++ pa, pv, trodAll_append (hargs _ (fun _ _ => rfl)) (hres _ _ _), hvars _ (fun _ _ => rfl), rfl, ?_, ?_⟩, ?_⟩
    · intro b off hp
      have hin : MemPlace.cell b off ∈ before := by rw [hps]; simpa using hp
      rw [hb.frozen (hlt _ hin)]
      exact hz b off hin
    · intro ha
      have := hn ha
      rw [hps] at this
      simpa using this
    · intro p hp _
      rw [hps]
      simpa using hp
end
theorem own0 : ownKnob Tryd.prog.godebug = none := by kernel_rfl
def layCells (c : Array Value) : Obj → Obj
  | .cells _ t frozen => .cells c t frozen
  | o => o
/-- A world for the witness: the settled one, the table (block 0) holding what its initialiser lays. -/
noncomputable def laidWorld (os : Os) : World :=
  { World.holding Tryd.prog os ⟨#[], #[], []⟩ with heap := (World.holding Tryd.prog os ⟨#[], #[], []⟩).heap.modify 0 (layCells #[.int .u32 1116352408, .int .u32 1899447441, .int .u32 3049323471, .int .u32 3921009573, .int .u32 961987163, .int .u32 1508970993, .int .u32 2453635748, .int .u32 2870763221, .int .u32 3624381080, .int .u32 310598401, .int .u32 607225278, .int .u32 1426881987, .int .u32 1925078388, .int .u32 2162078206, .int .u32 2614888103, .int .u32 3248222580, .int .u32 3835390401, .int .u32 4022224774, .int .u32 264347078, .int .u32 604807628, .int .u32 770255983, .int .u32 1249150122, .int .u32 1555081692, .int .u32 1996064986, .int .u32 2554220882, .int .u32 2821834349, .int .u32 2952996808, .int .u32 3210313671, .int .u32 3336571891, .int .u32 3584528711, .int .u32 113926993, .int .u32 338241895, .int .u32 666307205, .int .u32 773529912, .int .u32 1294757372, .int .u32 1396182291, .int .u32 1695183700, .int .u32 1986661051, .int .u32 2177026350, .int .u32 2456956037, .int .u32 2730485921, .int .u32 2820302411, .int .u32 3259730800, .int .u32 3345764771, .int .u32 3516065817, .int .u32 3600352804, .int .u32 4094571909, .int .u32 275423344, .int .u32 430227734, .int .u32 506948616, .int .u32 659060556, .int .u32 883997877, .int .u32 958139571, .int .u32 1322822218, .int .u32 1537002063, .int .u32 1747873779, .int .u32 1955562222, .int .u32 2024104815, .int .u32 2227730452, .int .u32 2361852424, .int .u32 2428436474, .int .u32 2756734187, .int .u32 3204031479, .int .u32 3329325298]) }
theorem Tryd.cells22 : Tryd.prog.cellsOf 22 = 1 := by kernel_rfl
theorem Tryd.cells5 : Tryd.prog.cellsOf 5 = 1 := by kernel_rfl
/-- The types of the arguments of this seat's law, and of their parts. -/
def ArgT (t : TypeId) : Prop := t = 22 ∨ t = 5
instance (t : TypeId) : Decidable (ArgT t) := by unfold ArgT; exact inferInstance
theorem argKids : Go.Kids Tryd.prog ArgT := by
  refine ⟨?_, ?_, ?_, ?_, ?_⟩
  · rintro t e (rfl | rfl) h <;>
      simp only [Tryd.underlying22, Tryd.underlying5] at h <;> cases h
  · rintro t e (rfl | rfl) h <;>
      simp only [Tryd.underlying22, Tryd.underlying5] at h <;> cases h <;> decide
  · rintro t e n (rfl | rfl) h <;>
      simp only [Tryd.underlying22, Tryd.underlying5] at h <;> cases h
  · rintro t fs (rfl | rfl) h <;>
      simp only [Tryd.underlying22, Tryd.underlying5] at h <;> cases h <;>
      (refine ⟨by decide, by kernel_rfl, ?_⟩
       intro j f hf
       rcases j with _ | _ | _ | _ | _ | _ | _ | j <;> first | (simp at hf; done) | (simp at hf; subst hf; kernel_rfl))
  · rintro t k e (rfl | rfl) h <;>
      simp only [Tryd.underlying22, Tryd.underlying5] at h <;> cases h
theorem argSize : ∀ {t e : TypeId}, ArgT t → Tryd.prog.underlying t = some (.slice e) → 0 < Tryd.prog.cellsOf e := by
  rintro t e (rfl | rfl) h <;>
    simp only [Tryd.underlying22, Tryd.underlying5] at h <;> cases h <;>
    (rw [Tryd.cells5]; decide)
section
variable {H : Type} {enc : TypeId × Value → H} {W W' : World}
/-- An argument reads behind the call as it read before it. -/
theorem trod_keep {t : TypeId} {v : Value} {d : DataW H} {p : List MemPlace} (ht : ArgT t) (h : DataW.Trod enc Tryd.prog W 0 (fun _ => true) true t v d p) (hb : Below W.heap.size W W') (hlt : ∀ x ∈ p, x.block < W.heap.size)
    {sp : Nat → Bool} (hs : ∀ x ∈ p, sp x.block = true) : DataW.Trod enc Tryd.prog W' 0 sp true t v d p := by
  obtain ⟨fuel, hf⟩ := h
  exact ⟨fuel, DataW.trod_stays argKids argSize (fun h => by cases h) ht hf (fun x hx => hb.same (hlt x hx)) hs⟩
variable {base : Nat} {sp : Nat → Bool} {held : Bool}
/-- Sixteen bits. -/
theorem u16_of_trod {v : Value} {d : DataW H} {p : List MemPlace} (hv : ∃ n, v = .int .u16 n) (h : DataW.Trod enc Tryd.prog W base sp held 22 v d p) : ∃ n : Nat, n < 65536 ∧ v = .int .u16 (n : Int) := by
  obtain ⟨n, rfl⟩ := hv
  obtain ⟨fuel, hf⟩ := h
  obtain ⟨n', e, -, hw⟩ := DataW.trod_int Tryd.underlying22 hf
  have e1 : [Value.int .u16 n] = [Value.int .u16 n'] := e
  obtain rfl : n = n' := by simpa using e1
  have m0 : IntKind.u16.min = 0 := rfl
  have m1 : IntKind.u16.max = 65535 := rfl
  simp [Lit.wf] at hw
  exact ⟨n.toNat, by omega, by rw [Int.toNat_of_nonneg (by omega)]⟩
/-- A byte. -/
theorem u8_of_trod {v : Value} {d : DataW H} {p : List MemPlace} (hv : ∃ n, v = .int .u8 n) (h : DataW.Trod enc Tryd.prog W base sp held 5 v d p) : ∃ n : Nat, n < 256 ∧ v = .int .u8 (n : Int) := by
  obtain ⟨n, rfl⟩ := hv
  obtain ⟨fuel, hf⟩ := h
  obtain ⟨n', e, -, hw⟩ := DataW.trod_int Tryd.underlying5 hf
  have e1 : [Value.int .u8 n] = [Value.int .u8 n'] := e
  obtain rfl : n = n' := by simpa using e1
  have m0 : IntKind.u8.min = 0 := rfl
  have m1 : IntKind.u8.max = 255 := rfl
  simp [Lit.wf] at hw
  exact ⟨n.toNat, by omega, by rw [Int.toNat_of_nonneg (by omega)]⟩
end
theorem tab_of {W : World} (h : Lib.TabIs Tryd.prog W "rootcause/digest.constants" .u32 shaList) : Tab W := by
  unfold Lib.TabIs at h
  intro j hj
  have hg : Tryd.prog.globalNamed "rootcause/digest.constants" = some 0 := by kernel_rfl
  have hl : shaList.length = 64 := by decide
  rw [World.var?_cell hg h j, List.getElem?_toArray, List.getElem?_map, List.getElem?_eq_getElem (by omega)]
  unfold shaK
  rw [List.getD_eq_getElem?_getD, List.getElem?_eq_getElem (by omega)]
  rfl
theorem tab_laid {W : World} (h : laidMet Tryd.prog [("rootcause/digest.constants", Rows.laid_rootcause_digest_constants)] W) : Tab W :=
  tab_of (tabIs_of_head (g := 0) (t := 118) (e := 96) (n := 64) (by kernel_rfl) (by kernel_rfl) Tryd.underlying118 Tryd.underlying96 (by kernel_rfl) (by kernel_rfl) h)
end Go.Proofs.YtjeclmmikjpinaaDoor
