/- The frame of the cards of this seat: arguments are read, and read again behind the call; a world for the witness in which the listed table holds what the program's text lays. -/
import Derived.Test.YtjedhndhdkiidaaDoorCards
import Derived.Test.YtjedhndhdkiidaaDoorTie
import Derived.Test.YtjedhndhdkiidaaDoorV20
import Derived.ProofKit
import Derived.OpenShut
import Derived.Below
import Derived.ChangeSame
import Derived.Deep.DeepHandedRow
import Derived.Lib.LaidTab
import Derived.ChangeStays
import Derived.ChangeSlices
import Derived.Deep.Slices
import Derived.Lib.SmallJoins
namespace Go.Proofs.YtjedhndhdkiidaaDoor
open Go.RowKit Go.WideShapes Go.ChangeShapes Go.Deep Go.Lib
section
variable {H : Type} {enc : TypeId × Value → H} {P : Program}
theorem post_of_below {f : Func} {s : ChangeSpec} {apart fresh handsOn again : Bool} {W W' : World} {args : Array Value} {v : Value} {ds gs : List (DataW H)} {before pa pv : List MemPlace}
    (hW : DataW.Whole enc P f.params.toList s.vars apart W args.toList ds gs before)
    (hres : ∀ (b : Nat) (sp : Nat → Bool) (hd : Bool), DataW.TrodAll enc P W' b sp hd f.resultTypes.toList (v.resultList f.resultTypes.size) (s.fn H (ds ++ gs)).results [])
    (hargs : ∀ sp : Nat → Bool, (∀ p ∈ before, sp p.block = true) → DataW.TrodAll enc P W' 0 sp true f.params.toList args.toList (s.fn H (ds ++ gs)).args pa)
    (hvars : ∀ sp : Nat → Bool, (∀ p ∈ before, sp p.block = true) → DataW.TrodVars enc P W' sp s.vars (s.fn H (ds ++ gs)).vars pv)
    (hps : before = pa ++ pv) (hb : Below W.heap.size W W')
    (hok : ∀ (j : Nat) (t : TypeId) (r : Value), f.resultTypes[j]? = some t → (v.resultList f.resultTypes.size)[j]? = some r → Value.okWide P W' .any 0 t r) :
    s.post enc P f apart fresh handsOn again W args v W' := by
  have hlt : ∀ p ∈ before, p.block < W.heap.size := fun p hp => hW.lt p hp
  have hold : ∀ p ∈ before, (fun b => decide (b < W.heap.size)) p.block = true := fun p hp => by simpa using hlt p hp
  refine ⟨ds, gs, before, [], pa, pv, hW, hres _ _ _, hargs _ hold, hvars _ hold, World.keptBut_mono (fun p hp => ⟨hp, ?_⟩) (hb.frame (· ∈ before)), fun _ => ?_⟩
  · rw [hps, List.mem_append] at hp
    exact Or.inr hp
  · obtain ⟨_, _, _, _, _, hz, hn⟩ := hW
    refine ⟨hok, _, _, ([] ++ pa) ++ pv, ⟨[] ++ pa, pv, trodAll_append (hargs _ (fun _ _ => rfl)) (hres _ _ _), hvars _ (fun _ _ => rfl), rfl, ?_, ?_⟩, ?_⟩
    · intro b off hp
      have hin : MemPlace.cell b off ∈ before := by rw [hps]; simpa using hp
      rw [hb.frozen (hlt _ hin)]
      exact hz b off hin
    · intro ha
      have := hn ha
      rw [hps] at this
      simpa using this
    · intro p hp _
      rw [hps]
      simpa using hp
end
theorem own0 : ownKnob Tryd.prog.godebug = none := by kernel_rfl
def layCells (c : Array Value) : Obj → Obj
  | .cells _ t frozen => .cells c t frozen
  | o => o
/-- A world for the witness: the settled one, the table (block 0) holding what its initialiser lays. -/
noncomputable def laidWorld (os : Os) : World :=
  { World.holding Tryd.prog os ⟨#[], #[], []⟩ with heap := (World.holding Tryd.prog os ⟨#[], #[], []⟩).heap.modify 0 (layCells #[.int .u32 1116352408, .int .u32 1899447441, .int .u32 3049323471, .int .u32 3921009573, .int .u32 961987163, .int .u32 1508970993, .int .u32 2453635748, .int .u32 2870763221, .int .u32 3624381080, .int .u32 310598401, .int .u32 607225278, .int .u32 1426881987, .int .u32 1925078388, .int .u32 2162078206, .int .u32 2614888103, .int .u32 3248222580, .int .u32 3835390401, .int .u32 4022224774, .int .u32 264347078, .int .u32 604807628, .int .u32 770255983, .int .u32 1249150122, .int .u32 1555081692, .int .u32 1996064986, .int .u32 2554220882, .int .u32 2821834349, .int .u32 2952996808, .int .u32 3210313671, .int .u32 3336571891, .int .u32 3584528711, .int .u32 113926993, .int .u32 338241895, .int .u32 666307205, .int .u32 773529912, .int .u32 1294757372, .int .u32 1396182291, .int .u32 1695183700, .int .u32 1986661051, .int .u32 2177026350, .int .u32 2456956037, .int .u32 2730485921, .int .u32 2820302411, .int .u32 3259730800, .int .u32 3345764771, .int .u32 3516065817, .int .u32 3600352804, .int .u32 4094571909, .int .u32 275423344, .int .u32 430227734, .int .u32 506948616, .int .u32 659060556, .int .u32 883997877, .int .u32 958139571, .int .u32 1322822218, .int .u32 1537002063, .int .u32 1747873779, .int .u32 1955562222, .int .u32 2024104815, .int .u32 2227730452, .int .u32 2361852424, .int .u32 2428436474, .int .u32 2756734187, .int .u32 3204031479, .int .u32 3329325298]) }
theorem Tryd.cells69 : Tryd.prog.cellsOf 69 = 4 := by kernel_rfl
theorem Tryd.cells38 : Tryd.prog.cellsOf 38 = 1 := by kernel_rfl
theorem Tryd.cells9 : Tryd.prog.cellsOf 9 = 1 := by kernel_rfl
theorem Tryd.cells5 : Tryd.prog.cellsOf 5 = 1 := by kernel_rfl
theorem Tryd.cells4 : Tryd.prog.cellsOf 4 = 1 := by kernel_rfl
/-- The types of the arguments of this seat's laws, and of their parts. -/
def ArgT (t : TypeId) : Prop := t = 22 ∨ t = 69 ∨ t = 38 ∨ t = 23 ∨ t = 9 ∨ t = 5 ∨ t = 4
instance (t : TypeId) : Decidable (ArgT t) := by unfold ArgT; exact inferInstance
theorem argKids : Go.Kids Tryd.prog ArgT := by
  refine ⟨?_, ?_, ?_, ?_, ?_⟩
  · rintro t e (rfl | rfl | rfl | rfl | rfl | rfl | rfl) h <;>
      simp only [Tryd.underlying22, Tryd.underlying69, Tryd.underlying38, Tryd.underlying23, Tryd.underlying9, Tryd.underlying5, Tryd.underlying4] at h <;> cases h
  · rintro t e (rfl | rfl | rfl | rfl | rfl | rfl | rfl) h <;>
      simp only [Tryd.underlying22, Tryd.underlying69, Tryd.underlying38, Tryd.underlying23, Tryd.underlying9, Tryd.underlying5, Tryd.underlying4] at h <;> cases h <;> decide
  · rintro t e n (rfl | rfl | rfl | rfl | rfl | rfl | rfl) h <;>
      simp only [Tryd.underlying22, Tryd.underlying69, Tryd.underlying38, Tryd.underlying23, Tryd.underlying9, Tryd.underlying5, Tryd.underlying4] at h <;> cases h
  · rintro t fs (rfl | rfl | rfl | rfl | rfl | rfl | rfl) h <;>
      simp only [Tryd.underlying22, Tryd.underlying69, Tryd.underlying38, Tryd.underlying23, Tryd.underlying9, Tryd.underlying5, Tryd.underlying4] at h <;> cases h <;>
      (refine ⟨by decide, by kernel_rfl, ?_⟩
       intro j f hf
       rcases j with _ | _ | _ | _ | _ | _ | j <;> first | (simp at hf; done) | (simp at hf; subst hf; kernel_rfl))
  · rintro t k e (rfl | rfl | rfl | rfl | rfl | rfl | rfl) h <;>
      simp only [Tryd.underlying22, Tryd.underlying69, Tryd.underlying38, Tryd.underlying23, Tryd.underlying9, Tryd.underlying5, Tryd.underlying4] at h <;> cases h
theorem argSize : ∀ {t e : TypeId}, ArgT t → Tryd.prog.underlying t = some (.slice e) → 0 < Tryd.prog.cellsOf e := by
  rintro t e (rfl | rfl | rfl | rfl | rfl | rfl | rfl) h <;>
    simp only [Tryd.underlying22, Tryd.underlying69, Tryd.underlying38, Tryd.underlying23, Tryd.underlying9, Tryd.underlying5, Tryd.underlying4] at h <;> cases h <;>
    first | (rw [Tryd.cells69]; decide) | (rw [Tryd.cells5]; decide)
section
variable {H : Type} {enc : TypeId × Value → H} {W W' : World}
/-- An argument reads behind the call as it read before it. -/
theorem trod_keep {t : TypeId} {v : Value} {d : DataW H} {p : List MemPlace} (ht : ArgT t) (h : DataW.Trod enc Tryd.prog W 0 (fun _ => true) true t v d p) (hb : Below W.heap.size W W') (hlt : ∀ x ∈ p, x.block < W.heap.size)
    {sp : Nat → Bool} (hs : ∀ x ∈ p, sp x.block = true) : DataW.Trod enc Tryd.prog W' 0 sp true t v d p := by
  obtain ⟨fuel, hf⟩ := h
  exact ⟨fuel, DataW.trod_stays argKids argSize (fun h => by cases h) ht hf (fun x hx => hb.same (hlt x hx)) hs⟩
theorem spot_none {w : World} {a : Addr} {v : Value} (h : w.cell? a = some v) : ∃ b o, a = ⟨b, o, none⟩ := by
  obtain ⟨b, o, s⟩ := a
  cases s with
  | none => exact ⟨b, o, rfl⟩
  | some s =>
    unfold World.cell? at h
    split at h <;> simp at h
theorem choose_list {α : Type} {Q : Nat → α → Prop} : ∀ n, (∀ i, i < n → ∃ a, Q i a) → ∃ l : List α, l.length = n ∧ ∀ i (h : i < l.length), Q i l[i]
  | 0, _ => ⟨[], rfl, fun i h => by simp at h⟩
  | n + 1, h => by
    obtain ⟨l, hl, hq⟩ := choose_list n fun i hi => h i (by omega)
    obtain ⟨a, ha⟩ := h n (by omega)
    refine ⟨l ++ [a], by simp [hl], fun i hi => ?_⟩
    rw [List.getElem_append]
    split
    · exact hq i _
    · have : i = n := by simp at hi; omega
      subst this
      simpa using ha
variable {base : Nat} {sp : Nat → Bool} {held : Bool}
/-- A slice whose elements can be read. -/
theorem sl_of_trod {α : Type} {t e : TypeId} {s : Nat} (f : α → List Value) (Q : α → Prop) (ht : Tryd.prog.underlying t = some (.slice e)) (hc : Tryd.prog.cellsOf e = s) (hs : 0 < s) (hlen : ∀ x, (f x).length = s)
    (hel : ∀ n cs y, cs.length = s → DataW.trod enc Tryd.prog W base sp held n e cs = some y → ∃ x, cs = f x ∧ Q x) {fuel : Nat} {v : Value} {x : DataW H × List MemPlace} (h : DataW.trod enc Tryd.prog W base sp held fuel t [v] = some x) :
    ∃ xs : List α, SlAt s W v (xs.map f) ∧ ∀ x ∈ xs, Q x := by
  rcases open_slice ht h with ⟨e1, _⟩ | ⟨a, len, cap, m, n, D, Pl, e1, _, hl, hm, hmm, _, hx⟩
  · obtain rfl : v = .slice none 0 0 := by simpa using e1
    exact ⟨[], SlAt.nil _ _, by simp⟩
  · obtain rfl : v = .slice (some a) len cap := by simpa using e1
    rw [hc] at hx
    have hlm : len ≤ m := by rw [hmm]; split <;> omega
    obtain ⟨xs, hxl, hq⟩ := choose_list (Q := fun i (z : α) => Q z ∧ W.cells? base (a.add (i * s)) s = some (f z)) len fun i hi => by
      obtain ⟨cs', h1, h2⟩ := hx i (by omega)
      obtain ⟨z, rfl, hz⟩ := hel _ _ _ (World.cells?_some h1).2.1 h2
      exact ⟨z, hz, h1⟩
    refine ⟨xs, ⟨⟨some a, cap, by rw [List.length_map, hxl], by rw [List.length_map, hxl]; exact hl, hm, fun h0 => ?_⟩, Wide.map hlen _⟩, fun z hz => ?_⟩
    · have hw : Wide s (xs.map f) := Wide.map hlen _
      rw [hw.flat, List.length_map, hxl] at h0
      have hl0 : 0 < len := Nat.pos_of_mul_pos_right h0
      have hc0 := (World.cells?_some (hq 0 (by omega)).2).2.2 0 hs
      rw [Nat.zero_mul] at hc0
      have e0 : ∀ a : Addr, (a.add 0).add 0 = a := fun a => by simp [Addr.add]
      rw [e0] at hc0
      have hf0 : (f (xs[0]'(by omega)))[0]? ≠ none := by
        rw [List.getElem?_eq_getElem (by rw [hlen]; exact hs)]
        simp
      obtain ⟨u0, hu0⟩ := Option.ne_none_iff_exists'.1 hf0
      rw [hu0] at hc0
      obtain ⟨b, o, rfl⟩ := spot_none hc0
      refine ⟨b, o, rfl, World.block_lt_of_cell? W _ hc0, fun j u hj => ?_⟩
      have hjl : j < (xs.map f).flatten.length := by
        rcases Nat.lt_or_ge j (xs.map f).flatten.length with h | h
        · exact h
        · rw [List.getElem?_eq_none h] at hj; cases hj
      rw [hw.flat, List.length_map, hxl] at hjl
      have hq1 : j / s < len := Nat.div_lt_of_lt_mul (by rw [Nat.mul_comm]; exact hjl)
      have hr1 : j % s < s := Nat.mod_lt _ hs
      have hjd : j / s * s + j % s = j := by rw [Nat.mul_comm]; exact Nat.div_add_mod j s
      rw [← hjd, hw.at_ (by rw [List.length_map, hxl]; exact hq1) hr1, List.getD_eq_getElem?_getD, List.getElem?_map, List.getElem?_eq_getElem (show j / s < xs.length by omega)] at hj
      have hcj := (World.cells?_some (hq (j / s) (by omega)).2).2.2 (j % s) hr1
      rw [addE, addE, Nat.add_assoc, hjd] at hcj
      rw [hcj]
      exact hj
    · obtain ⟨i, hi, rfl⟩ := List.getElem_of_mem hz
      exact (hq i hi).1
theorem list4 {α : Type} {l : List α} (h : l.length = 4) : ∃ a b c d, l = [a, b, c, d] := by
  match l, h with
  | [a, b, c, d], _ => exact ⟨a, b, c, d, rfl⟩
theorem list1 {α : Type} {l : List α} (h : l.length = 1) : ∃ a, l = [a] := by
  match l, h with
  | [a], _ => exact ⟨a, rfl⟩
theorem bytes_of {n : Nat} {v : Value} {y : DataW H × List MemPlace} (h : DataW.trod enc Tryd.prog W base sp held n 38 [v] = some y) : ∃ xs, SlB W v xs := by
  have h0 : ∃ xs : List UInt8, SlAt 1 W v (bv xs) ∧ ∀ x ∈ xs, True := sl_of_trod (fun b : UInt8 => [Value.int .u8 ((b.toNat : Nat) : Int)]) (fun _ => True) Tryd.underlying38 Tryd.cells5 (by decide) (fun _ => rfl) (fun n cs y hl hy => by
    obtain ⟨a, rfl⟩ := list1 hl
    obtain ⟨z, e, -, hw⟩ := DataW.trod_int Tryd.underlying5 hy
    have m0 : IntKind.u8.min = 0 := rfl
    have m1 : IntKind.u8.max = 255 := rfl
    simp [Lit.wf] at hw
    refine ⟨UInt8.ofNat z.toNat, ?_, trivial⟩
    rw [e]
    have : (UInt8.ofNat z.toNat).toNat = z.toNat := by rw [UInt8.toNat_ofNat']; omega
    rw [this, Int.toNat_of_nonneg (by omega)]) h
  obtain ⟨xs, ⟨⟨A, c, e, h1, h2, h3⟩, -⟩, -⟩ := h0
  refine ⟨xs, A, c, by rw [e, bv_len], by rw [bv_len] at h1; exact h1, h2, h3.bytes⟩
theorem str_of {n : Nat} {v : Value} {y : DataW H × List MemPlace} (h : DataW.trod enc Tryd.prog W base sp held n 9 [v] = some y) : ∃ s : List UInt8, v = sV s ∧ s.length ≤ maxLen := by
  obtain ⟨s, e, -, hl⟩ := DataW.trod_string Tryd.underlying9 h
  obtain rfl : v = .string s := by simpa using e
  obtain ⟨l⟩ := s
  exact ⟨l.toList, by unfold sV; rw [Array.toArray_toList], by rw [Array.length_toList]; exact hl⟩
theorem bool_of {n : Nat} {v : Value} {y : DataW H × List MemPlace} (h : DataW.trod enc Tryd.prog W base sp held n 4 [v] = some y) : ∃ b, v = .bool b := by
  obtain ⟨b, e, -⟩ := DataW.trod_bool Tryd.underlying4 h
  exact ⟨b, by simpa using e⟩
theorem slB_pair {w : World} {v : Value} {xs : List UInt8} (h : SlB w v xs) : ∃ q : Option Addr × Nat, v = .slice q.1 xs.length q.2 := by
  obtain ⟨A, c, e, -⟩ := h
  exact ⟨(A, c), e⟩
/-- The entries of an argument. -/
theorem raws_of {n : Nat} {v : Value} {y : DataW H × List MemPlace} (h : DataW.trod enc Tryd.prog W base sp held n 22 [v] = some y) : ∃ rs, RsAt W v rs := by
  obtain ⟨ps, h1, h2⟩ := sl_of_trod encR (fun p : PR => SlB W (.slice p.2.1.1 p.1.vl.length p.2.1.2) p.1.vl ∧ SlB W (.slice p.2.2.1 p.1.sl.length p.2.2.2) p.1.sl) Tryd.underlying22 Tryd.cells69 (by decide) (fun _ => rfl) (fun n cs y hl hy => by
    obtain ⟨c0, c1, c2, c3, rfl⟩ := list4 hl
    obtain ⟨y0, y1, y2, y3, m, -, -, h0, h1, h2, h3⟩ := Go.Joins.trod_struct4 Tryd.underlying69 hy
    simp [Tryd.cells38, Tryd.cells9, Tryd.cells4] at h0 h1 h2 h3
    obtain ⟨nm, rfl, -⟩ := str_of h0
    obtain ⟨vl, hv⟩ := bytes_of h1
    obtain ⟨sl, hs⟩ := bytes_of h2
    obtain ⟨pl, rfl⟩ := bool_of h3
    obtain ⟨q, rfl⟩ := slB_pair hv
    obtain ⟨q', rfl⟩ := slB_pair hs
    exact ⟨(⟨nm, vl, sl, pl⟩, q, q'), rfl, hv, hs⟩) h
  exact ⟨_, RsAt.of_row h1 h2⟩
theorem rs_of_trod {v : Value} {d : DataW H} {p : List MemPlace} (h : DataW.Trod enc Tryd.prog W base sp held 22 v d p) (hv : ∃ A n c, v = .slice A n c) : ∃ rs, RsAt W v rs := by
  obtain ⟨A, n, c, rfl⟩ := hv
  obtain ⟨fuel, hf⟩ := h
  exact raws_of hf
theorem by_of_trod {v : Value} {d : DataW H} {p : List MemPlace} (h : DataW.Trod enc Tryd.prog W base sp held 38 v d p) (hv : ∃ A n c, v = .slice A n c) : ∃ xs, SlB W v xs := by
  obtain ⟨A, n, c, rfl⟩ := hv
  obtain ⟨fuel, hf⟩ := h
  exact bytes_of hf
theorem str_of_trod {v : Value} {d : DataW H} {p : List MemPlace} (h : DataW.Trod enc Tryd.prog W base sp held 9 v d p) (hv : ∃ s, v = .string s) : ∃ s : List UInt8, v = sV s ∧ s.length ≤ maxLen := by
  obtain ⟨s, rfl⟩ := hv
  obtain ⟨fuel, hf⟩ := h
  exact str_of hf
/-- Sixteen bits. -/
theorem u16_of_trod {v : Value} {d : DataW H} {p : List MemPlace} (hv : ∃ n, v = .int .u16 n) (h : DataW.Trod enc Tryd.prog W base sp held 23 v d p) : ∃ n : Nat, n < 65536 ∧ v = .int .u16 (n : Int) := by
  obtain ⟨n, rfl⟩ := hv
  obtain ⟨fuel, hf⟩ := h
  obtain ⟨n', e, -, hw⟩ := DataW.trod_int Tryd.underlying23 hf
  have e1 : [Value.int .u16 n] = [Value.int .u16 n'] := e
  obtain rfl : n = n' := by simpa using e1
  have m0 : IntKind.u16.min = 0 := rfl
  have m1 : IntKind.u16.max = 65535 := rfl
  simp [Lit.wf] at hw
  exact ⟨n.toNat, by omega, by rw [Int.toNat_of_nonneg (by omega)]⟩
/-- A byte. -/
theorem u8_of_trod {v : Value} {d : DataW H} {p : List MemPlace} (hv : ∃ n, v = .int .u8 n) (h : DataW.Trod enc Tryd.prog W base sp held 5 v d p) : ∃ n : Nat, n < 256 ∧ v = .int .u8 (n : Int) := by
  obtain ⟨n, rfl⟩ := hv
  obtain ⟨fuel, hf⟩ := h
  obtain ⟨n', e, -, hw⟩ := DataW.trod_int Tryd.underlying5 hf
  have e1 : [Value.int .u8 n] = [Value.int .u8 n'] := e
  obtain rfl : n = n' := by simpa using e1
  have m0 : IntKind.u8.min = 0 := rfl
  have m1 : IntKind.u8.max = 255 := rfl
  simp [Lit.wf] at hw
  exact ⟨n.toNat, by omega, by rw [Int.toNat_of_nonneg (by omega)]⟩
end
theorem tab_of {W : World} (h : Lib.TabIs Tryd.prog W "rootcause/digest.constants" .u32 shaList) : Tab W := by
  unfold Lib.TabIs at h
  intro j hj
  have hg : Tryd.prog.globalNamed "rootcause/digest.constants" = some 0 := by kernel_rfl
  have hl : shaList.length = 64 := by decide
  rw [World.var?_cell hg h j, List.getElem?_toArray, List.getElem?_map, List.getElem?_eq_getElem (by omega)]
  unfold shaK
  rw [List.getD_eq_getElem?_getD, List.getElem?_eq_getElem (by omega)]
  rfl
theorem tab_laid {W : World} (h : laidMet Tryd.prog [("rootcause/digest.constants", Rows.laid_rootcause_digest_constants)] W) : Tab W :=
  tab_of (tabIs_of_head (g := 0) (t := 136) (e := 121) (n := 64) (by kernel_rfl) (by kernel_rfl) Tryd.underlying136 Tryd.underlying121 (by kernel_rfl) (by kernel_rfl) h)
end Go.Proofs.YtjedhndhdkiidaaDoor
