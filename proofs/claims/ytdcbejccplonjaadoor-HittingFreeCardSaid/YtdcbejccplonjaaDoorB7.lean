/- The walk over run. -/
import Derived.Test.YtdcbejccplonjaaDoorB6
namespace Go.Proofs.YtdcbejccplonjaaDoor
open Go.RowKit
attribute [local go_sem ↓] Go.wp_at_zero Go.wp_at_succ
section
variable {vs : Value} {hv : Nat → Nat} {most limit : Nat} {vf ve vc vf' ve' vc' : Value} {o A : Nat}
theorem srcF_set67 : ∀ j, j < 72 → srcF vs hv most limit vf' ve vc o A j = if j = 67 then vf' else srcF vs hv most limit vf ve vc o A j := fun j _ => by
  unfold srcF
  by_cases h : j = 67
  · subst h; rfl
  · simp only [h, if_false]
theorem srcF_set68 : ∀ j, j < 72 → srcF vs hv most limit vf ve' vc o A j = if j = 68 then ve' else srcF vs hv most limit vf ve vc o A j := fun j _ => by
  unfold srcF
  by_cases h : j = 68
  · subst h; rfl
  · simp only [h, if_false]
theorem srcF_set69 : ∀ j, j < 72 → srcF vs hv most limit vf ve vc' o A j = if j = 69 then vc' else srcF vs hv most limit vf ve vc o A j := fun j _ => by
  unfold srcF
  by_cases h : j = 69
  · subst h; rfl
  · simp only [h, if_false]
end
section
variable {wB w w0 w1 : World} {g : Nat} {sets els : List Nat} {vs vf ve vc v1 : Value} {most limit A m : Nat} {found : List Nat}
theorem own_lt {w : World} {B e : Nat} {v : Value} {vs : List Value} (h : Row w B e v vs) {k : Nat} (hk : v.ownBlock = some k) : k < w.heap.size := (h.lt k hk).2
/-- One more set is found. -/
theorem St.push (h : St wB w g sets els vs vf ve vc most limit A found) (hE : Ext w w0) (hg : w0.grownBy w1 vf.ownBlock) (hE1 : Ext wB w1) (hr : Row w1 wB.heap.size 52 v1 (found.map uV ++ [uV m])) (hb : v1.ownBlock = vf.ownBlock ∨ v1.ownBlock = some w0.heap.size) :
    SAt w1 g (srcF vs (hav sets) most limit vf ve vc (opnF sets els) A) ∧ St wB (w1.setCell ⟨g, 67, none⟩ v1) g sets els vs v1 ve vc most limit A (found ++ [m]) ∧ Fr w (w1.setCell ⟨g, 67, none⟩ v1) g vf ve ∧ Mv w vf v1 := by
  have hgl := h.s.lt
  have S1 : SAt w1 g (srcF vs (hav sets) most limit vf ve vc (opnF sets els) A) := (h.s.ext hE).kept (hg.block g (hE.lt _ hgl) (Ne.symm h.fg))
  have mv : Mv w vf v1 := by
    rcases hb with h1 | h1
    · exact .inl h1
    · exact .inr ⟨_, h1, hE.size⟩
  have v1g : v1.ownBlock ≠ some g := mv.ne hgl h.fg
  have keep : ∀ k, k < w.heap.size → k ≠ g → vf.ownBlock ≠ some k → (w1.setCell ⟨g, 67, none⟩ v1).heap[k]? = w.heap[k]? := fun k hk hkg hf => by
    rw [heap_set (Ne.symm hkg), hg.block k (hE.lt _ hk) (Ne.symm hf), hE.block k hk]
  refine ⟨S1, ⟨hE1.set h.gB _, h.gB, S1.set (by omega) _ srcF_set67, ?_, ?_, ?_, v1g, h.eg, ?_, h.cg, ?_, h.ce, ?_⟩, ?_, mv⟩
  · rw [List.map_append]
    exact hr.kept fun k hk => heap_set (fun e => v1g (by rw [hk]; exact congrArg some e.symm))
  · exact h.re.kept fun k hk => keep k (own_lt h.re hk) (fun e => h.eg (by rw [hk, e])) (fun e => h.fe k e hk)
  · by_cases h0 : 0 < w.heap.size
    · refine SlAt.kept h.rc fun k hkl hk => keep k hkl (fun e => h.cg (by rw [hk, e])) (h.cf k hk)
    · exact absurd hgl (by omega)
  · intro k hk he
    have := own_lt h.re he
    exact mv.ne this (fun e => h.fe k e he) hk
  · intro k hk hv
    rcases hb with h1 | h1
    · exact h.cf k hk (by rw [← h1]; exact hv)
    · rw [h1] at hv
      cases hv
      have := h.cl _ hk
      have := hE.size
      omega
  · intro k hk
    have := h.cl k hk
    have h1 := hE.size
    have h2 := hg.size
    simp
    omega
  · exact ((Fr.of_ext hE).grown hg fun b _ hf _ => hf).set 67 v1
end
set_option maxRecDepth 100000 in
set_option maxHeartbeats 4000000 in
theorem run_leaf {wB w : World} {g : Nat} {sets els : List Nat} {vs vf ve vc : Value} {most limit A : Nat} {found : List Nat} (h : St wB w g sets els vs vf ve vc most limit A found) (hk : ElsOk els A) (h0 : opnF sets els = 0) (hf : found.length ≤ 100000) :
    Calls Tryd.prog 34 #[.pointer (some ⟨g, 0, none⟩)] w (RetRun wB g sets els vs vf ve vc most limit (found ++ [maskOf els]) w) := by
  have HS := Lib.hid h
  have HK := Lib.hid hk
  have d70 := h.s.cell 70 (by omega)
  rw [show srcF vs (hav sets) most limit vf ve vc (opnF sets els) A 70 = .int .u64 0 by rw [h0]; rfl] at d70
  have d68 : w.cell? ⟨g, 68, none⟩ = some ve := h.s.cell 68 (by omega)
  have d67 : w.cell? ⟨g, 67, none⟩ = some vf := h.s.cell 67 (by omega)
  have hI : Is w ve (nI els) := h.re.sl
  obtain ⟨L, c, e1, _, _, RL⟩ := hI.read
  have hln : (nI els).length = els.length := by simp [nI]
  rw [hln] at e1 RL
  have HL := Lib.hid (RL w (Ext.refl _))
  have hlen := hk.len
  have HE := Lib.hid e1
  rw [e1] at d68
  clear h hk h0 RL hI hln e1
  go_enter Tryd.func34, Tryd.ntmps34
  go_wp2_with fail
  go_loop [2, 20] (fun s j => ∃ k : Nat, k ≤ els.length ∧ j = iV (k : Int) ∧ s = uV (maskOf (els.take k))) (fun _ j => els.length - (intOf j).toNat)
  case atStart => exact ⟨0, by omega, rfl, rfl⟩
  case round =>
    obtain ⟨k, hkl, rfl, rfl⟩ := hrel
    by_cases hlt : k < els.length
    · obtain ⟨ad, rfl, c1⟩ := HL.out k hlt
      have x64 := HK.out.lt _ (List.getElem_mem hlt)
      have ex : (nI els).getD k 0 = ((els[k] : Nat) : Int) := by
        rw [List.getD_eq_getElem?_getD, nI, List.getElem?_map, List.getElem?_eq_getElem hlt]; rfl
      have HM : Hid (maskOf (els.take (k + 1)) = maskOf (els.take k) ||| 2 ^ els[k]) := by
        rw [List.take_succ_eq_append_getElem hlt, maskOf_snoc]; exact Lib.hid rfl
      have ml : maskOf (els.take k) < 18446744073709551616 := maskOf_lt (n := 64) fun x hx => HK.out.lt x (List.mem_of_mem_take hx)
      rw [ex] at c1
      clear ex
      generalize els[k] = x at *
      generalize maskOf (els.take k) = m at *
      have sh := powW x64
      have eo := orP ml x64
      have q1 : (0 : Int) ≤ (x : Int) := by omega
      go_wp2_with fail
      exact ⟨⟨k + 1, by omega, by go_num, by rw [HM.out]⟩, by simp [intOf]; omega⟩
    · obtain rfl : k = els.length := by omega
      rw [List.take_length]
      generalize maskOf els = m at *
      have hl1 : (found.map uV ++ [uV m]).length = found.length + 1 := by simp
      go_wp2_with (at_builtin; refine wapp el48 rfl (.tmp 33) (.tmp 35) rfl (w5 := wB) rfl (HS.out.ext.alloc _) (HS.out.rf.ext ((Ext.refl _).alloc _)) rfl rfl (vs1 _ _ _) (one1 rfl) (by simp; omega) ?_; intro v1 w1 hr1 hE1 hg1 hb1; obtain ⟨A1, c1, e1, -, -⟩ := hr1.form; rw [hl1] at e1; subst e1; obtain ⟨S1, T1, F1, M1⟩ := HS.out.push ((Ext.refl _).alloc _) hg1 hE1 hr1 hb1; have d1 := S1.cell 67 (by omega); have f1 := S1.free 67 (by omega); clear S1 hr1 hg1 hb1)
      go_end0
      exact ⟨rfl, _, ve, A, T1, F1, M1, Mv.refl _ _⟩
end Go.Proofs.YtdcbejccplonjaaDoor
