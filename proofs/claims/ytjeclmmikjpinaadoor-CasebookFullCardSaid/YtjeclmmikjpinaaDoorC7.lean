/- A map of cases is ranged over; maps.Copy. -/
import Derived.Test.YtjeclmmikjpinaaDoorC6
namespace Go.Proofs.YtjeclmmikjpinaaDoor
open Go.RowKit
open Go.ChangeMaps (setBlock)
open I (IdT EvT IdAt EvAt SeenAt StAt)
attribute [local go_sem ↓] Go.wp_at_zero Go.wp_at_succ
attribute [local go_sem ↓] ld48 st48 al48 bu48
attribute [local go_sem] run_al48 run_bu48 run_st48n run_eqm
/-- A map of cases is ranged over: these digests have come, so many are still to come. -/
def It (w : World) (m r : Nat) (us done : List (List UInt8)) (cnt : Nat) : Prop :=
  ∃ (es : Array MapEntry) (clock : Nat) (seen : Array Nat), w.heap[m]? = some (.map es clock) ∧ es.toList.map (·.key) = us.map (fun k => idV k) ∧ (∀ e ∈ es.toList, IsKv e.val) ∧ MapKept.Stamped es clock ∧
    w.heap[r]? = some (.mapIter (some m) clock seen clock) ∧ (leftOf es seen).size = cnt ∧ done.Nodup ∧ (∀ e ∈ es.toList, seen.contains e.born = true ↔ ∃ k ∈ done, idV k = e.key) ∧ (∀ k ∈ done, k ∈ us) ∧ ∀ k ∈ us, k.length = 32
def leftN (w : World) (m r : Nat) : Nat := match w.heap[m]?, w.heap[r]? with
  | some (.map es _), some (.mapIter _ _ seen _) => (leftOf es seen).size
  | _, _ => 0
theorem It.left {w : World} {m r : Nat} {us done : List (List UInt8)} {cnt : Nat} (h : It w m r us done cnt) : leftN w m r = cnt := by
  obtain ⟨es, clock, seen, h1, -, -, -, h2, h3, -⟩ := h
  unfold leftN
  rw [h1, h2]
  exact h3
theorem It.kept {w w' : World} {m r : Nat} {us done : List (List UInt8)} {cnt : Nat} (h : It w m r us done cnt) (hm : w'.heap[m]? = w.heap[m]?) (hr : w'.heap[r]? = w.heap[r]?) : It w' m r us done cnt := by
  obtain ⟨es, clock, seen, h1, k1, k2, k3, h2, h3⟩ := h
  exact ⟨es, clock, seen, hm.trans h1, k1, k2, k3, hr.trans h2, h3⟩
theorem It.lt {w : World} {m r : Nat} {us done : List (List UInt8)} {cnt : Nat} (h : It w m r us done cnt) : m < w.heap.size ∧ r < w.heap.size := by
  obtain ⟨es, clock, seen, h1, -, -, -, h2, -⟩ := h
  exact ⟨(Array.getElem?_eq_some_iff.1 h1).1, (Array.getElem?_eq_some_iff.1 h2).1⟩
theorem It.ext {w w' : World} {m r : Nat} {us done : List (List UInt8)} {cnt : Nat} (h : It w m r us done cnt) (k : Ext w w') : It w' m r us done cnt := h.kept (k.block m h.lt.1) (k.block r h.lt.2)
theorem It.ne {w : World} {m r T b : Nat} {us done : List (List UInt8)} {cnt : Nat} (h : It w m r us done cnt) (k : TyB w T b) : b ≠ r := by
  obtain ⟨es, clock, seen, h1, -, -, -, h2, -⟩ := h
  rintro rfl
  obtain ⟨cs, fr, h3⟩ := k
  rw [h2] at h3
  cases h3
theorem It.neM {w : World} {m r b : Nat} {us done : List (List UInt8)} {cnt : Nat} (h : It w m r us done cnt) (k : MpB w b) : b ≠ r := by
  obtain ⟨es, clock, seen, h1, -, -, -, h2, -⟩ := h
  rintro rfl
  obtain ⟨cs, fr, h3⟩ := k
  rw [h2] at h3
  cases h3
theorem It.mk {w : World} {m r : Nat} {us done : List (List UInt8)} {cnt : Nat} (h : It w m r us done cnt) : Mk w m us := by
  obtain ⟨es, clock, seen, h1, h2, h3, h4, _, _, _, _, _, h5⟩ := h
  exact ⟨⟨es, clock, h1, h2, h3, h4⟩, h5⟩
theorem inj_of_nodup {α β : Type} {f : α → β} : ∀ {l : List α}, (l.map f).Nodup → ∀ {x y : α}, x ∈ l → y ∈ l → f x = f y → x = y
  | [], _, x, _, hx, _, _ => by cases hx
  | a :: l, h, x, y, hx, hy, e => by
    rw [List.map_cons, List.nodup_cons] at h
    rcases List.mem_cons.1 hx with h1 | h1
    · rcases List.mem_cons.1 hy with h2 | h2
      · rw [h1, h2]
      · exact absurd (List.mem_map.2 ⟨y, h2, by rw [← e, h1]⟩) h.1
    · rcases List.mem_cons.1 hy with h2 | h2
      · exact absurd (List.mem_map.2 ⟨x, h1, by rw [e, h2]⟩) h.1
      · exact inj_of_nodup h.2 h1 h2 e
section
variable (w : World) {ops : Array Oper} {rest : List Oper} {o : Oper} {a : Act} {Q : Exit → Act → World → Prop}
theorem wrange (hg : o.guard = none) (m : Operand) (hop : o.op = Op.range 46 m) (b : Nat) (us : List (List UInt8)) (hm : a.eval m = .map (some b)) (h : Mk w b us)
    (hK : ∀ w', It w' b w.heap.size us [] us.length → Ext w w' → w'.heap.size = w.heap.size + 1 → wpList Tryd.prog ops Q rest (a.put o.dst (.pointer (some ⟨w.heap.size, 0, none⟩))) w') : wpList Tryd.prog ops Q (o :: rest) a w := by
  refine wpList_plain hg fun K' hK' => ?_
  obtain ⟨es, clock, h1, h2, h3, h4⟩ := h.at_
  have hrun := run_range_map w 46 _ _ b es clock Tryd.underlying46 h1
  have hbl := (Array.getElem?_eq_some_iff.1 h1).1
  unfold Oper.wp
  simp [execOp, hop, hm, hrun, Result.andThen]
  refine hK' _ _ (hK _ ⟨es, clock, #[], ?_, h2, h3, h4, heap_alloc_new w _, ?_, List.nodup_nil, fun e he => by simp, by simp, h.long⟩ ((Ext.refl _).alloc _) (by simp))
  · rw [((Ext.refl w).alloc _).block b hbl]
    exact h1
  · have e1 : leftOf es #[] = es := by unfold leftOf; exact Array.filter_eq_self.2 (fun x hx => by simp)
    rw [e1]
    have := congrArg List.length h2
    simpa using this
theorem wnext (hg : o.guard = none) (it : Operand) (hop : o.op = Op.next it false) (b r : Nat) (us done : List (List UInt8)) (cnt : Nat) (hit : a.eval it = .pointer (some ⟨r, 0, none⟩)) (h : It w b r us done cnt)
    (hDone : (∀ k, k ∈ done ↔ k ∈ us) → wpList Tryd.prog ops Q rest (a.put o.dst (.tuple #[.bool false])) w)
    (hMore : ∀ (k : List UInt8) (s : ByteArray) (A : Option Addr) (l c : Nat) (w' : World) (cnt' : Nat), k.length = 32 → k ∈ us → k ∉ done → It w' b r us (done ++ [k]) cnt' → cnt' < cnt → (∀ i, i ≠ r → w'.heap[i]? = w.heap[i]?) → w'.heap.size = w.heap.size → w'.os = w.os → w'.tape = w.tape → w'.output = w.output →
      (Instr.entry (.pointer (some ⟨r, 0, none⟩))).run Tryd.prog w' = .ok (.tuple #[idV k, .agg #[.string s, .slice A l c, .bool false]]) w' → wpList Tryd.prog ops Q rest (a.put o.dst (.tuple #[.bool true, idV k, .agg #[.string s, .slice A l c, .bool false]])) w') : wpList Tryd.prog ops Q (o :: rest) a w := by
  refine wpList_plain hg fun K' hK' => ?_
  unfold Oper.wp
  obtain ⟨es, clock, seen, h1, h2, h3, h4, h5, h6, h7, h8, h9, h10⟩ := h
  rcases run_next_at (P := Tryd.prog) w o.type r b clock clock seen es clock h5 h1 h4.1 (Nat.le_refl _) with ⟨h0, hrun⟩ | ⟨e, he, w1, hw1, hrun⟩
  · simp [execOp, hop, hit, hrun, Result.andThen]
    refine hK' _ _ (hDone fun k => ⟨h9 k, fun hk => ?_⟩)
    have hk' : idV k ∈ es.toList.map (·.key) := by rw [h2]; exact List.mem_map.2 ⟨k, hk, rfl⟩
    obtain ⟨e, he, hek⟩ := List.mem_map.1 hk'
    obtain ⟨k2, hk2, hk3⟩ := (h8 e he).1 (all_seen es seen h0 e he)
    have : k2 = k := idV_inj (h10 k2 (h9 k2 hk2)) (h10 k hk) (by rw [hk3, hek])
    rw [← this]
    exact hk2
  · obtain ⟨he1, he2⟩ := mem_left he
    have hkm : e.key ∈ us.map (fun k => idV k) := by rw [← h2]; exact List.mem_map.2 ⟨e, he1, rfl⟩
    obtain ⟨k, hk, hke⟩ := List.mem_map.1 hkm
    obtain ⟨s, A, l, c, hv⟩ := h3 e he1
    rw [← hke, hv] at hrun
    simp [execOp, hop, hit, hrun, Result.andThen]
    have hw1h : w1.heap = w.heap := by rcases hw1 with rfl | rfl <;> rfl
    have hne : b ≠ r := by
      rintro rfl
      rw [h1] at h5
      cases h5
    have hrl := (Array.getElem?_eq_some_iff.1 h5).1
    have hkd : k ∉ done := fun hd => by
      have := (h8 e he1).2 ⟨k, hd, hke⟩
      rw [he2] at this
      cases this
    have hbk : (setBlock w1 r (.mapIter (some b) clock (seen.push e.born) clock)).heap[b]? = some (.map es clock) := by rw [heap_setBlock _ _ _ _ hne, hw1h]; exact h1
    have hrk : (setBlock w1 r (.mapIter (some b) clock (seen.push e.born) clock)).heap[r]? = some (.mapIter (some b) clock (seen.push e.born) clock) := by
      unfold setBlock
      simp [hw1h, hrl]
    refine hK' _ _ (hMore k s A l c _ _ (h10 k hk) hk hkd ⟨es, clock, seen.push e.born, hbk, h2, h3, h4, hrk, rfl, ?_, ?_, ?_, h10⟩ (by rw [← h6]; exact left_shrinks es seen e he) (fun i hi => by rw [heap_setBlock _ _ _ _ hi, hw1h]) (by rw [size_setBlock, hw1h]) (by rcases hw1 with rfl | rfl <;> rfl) (by rcases hw1 with rfl | rfl <;> rfl) (by rcases hw1 with rfl | rfl <;> rfl) ?_)
    · rw [List.nodup_append]
      exact ⟨h7, by simp, fun a ha b hb e2 => by rw [List.mem_singleton.1 hb] at e2; exact hkd (e2 ▸ ha)⟩
    · intro x hx
      rw [contains_push, Bool.or_eq_true, h8 x hx]
      constructor
      · rintro (⟨k2, hk2, hk3⟩ | hb)
        · exact ⟨k2, by simp [hk2], hk3⟩
        · have hb : x.born = e.born := by simpa using hb
          have hxe : x = e := by
            have nd := h4.2.1
            exact inj_of_nodup nd hx he1 hb
          exact ⟨k, by simp, by rw [hxe, hke]⟩
      · rintro ⟨k2, hk2, hk3⟩
        rcases List.mem_append.1 hk2 with hk2 | hk2
        · exact .inl ⟨k2, hk2, hk3⟩
        · rw [List.mem_singleton.1 hk2] at hk3
          have hxe : x = e := inj_of_nodup h4.2.2 hx he1 (by rw [← hk3, hke])
          exact .inr (by rw [hxe]; simp)
    · intro k2 hk2
      rcases List.mem_append.1 hk2 with hk2 | hk2
      · exact h9 k2 hk2
      · rw [List.mem_singleton.1 hk2]
        exact hk
    · have := run_entry_at (P := Tryd.prog) _ r b clock seen es clock e hrk hbk he1 h4.2.1
      rw [← hke, hv] at this
      exact this
end
section
variable {ops : Array Oper} {rest : List Oper} {o : Oper} {a : Act} {Q : Exit → Act → World → Prop} {w : World}
/-- A digest is stored into a block of its own. -/
theorem wst27 (hgd : o.guard = none) (p v : Operand) (ho : o.op = .store 27 p v) {b : Nat} {f : Nat → Value} {d : List UInt8} (hp : a.eval p = .pointer (some ⟨b, 0, none⟩)) (hv : a.eval v = idV d) (hb : Bk w b 32 f)
    (hK : ∀ w2, w.setCells b 0 (idA d).toList = w2 → wpList Tryd.prog ops Q rest (a.put o.dst undef) w2) : wpList Tryd.prog ops Q (o :: rest) a w := by
  refine wpList_plain hgd fun K hK' => ?_
  have hrun := run_st48 hb d
  rw [← st48] at hrun
  unfold Oper.wp
  simp [execOp, ho, hp, hv, hrun, Result.andThen]
  exact hK' _ _ (hK _ rfl)
end
/-- The two variables of a range over cases: a digest and a case, at two new blocks. -/
abbrev pairW (w : World) : World := (w.alloc (.cells (idA []) 27)).alloc (.cells #[.string ⟨#[]⟩, .slice none 0 0, .bool false] 53)
theorem pairW_bk (w : World) : Bk (pairW w) w.heap.size 32 (idF []) := (Bk.new (by decide)).ext ((Ext.refl _).alloc _)
theorem pairW_kv (w : World) : Bk (pairW w) (w.heap.size + 1) 3 (kvF (.string ⟨#[]⟩) (.slice none 0 0)) := by
  have := Bk.new_kv (w.alloc (.cells (idA []) 27)) (.string ⟨#[]⟩) (.slice none 0 0)
  rwa [show (w.alloc (.cells (idA []) 27)).heap.size = w.heap.size + 1 by simp] at this
theorem pairW_ext (w : World) : Ext w (pairW w) := ((Ext.refl _).alloc _).alloc _
theorem pair_key {w w2 : World} {k : List UInt8} (h : (pairW w).setCells w.heap.size 0 (idA k).toList = w2) : Bk w2 w.heap.size 32 (idF k) ∧ Bk w2 (w.heap.size + 1) 3 (kvF (.string ⟨#[]⟩) (.slice none 0 0)) ∧ Ext w w2 := by
  have e := exg_setCells w.heap.size 0 (idA k).toList (pairW w)
  rw [h] at e
  refine ⟨by rw [← h]; exact (pairW_bk w).putAll, (pairW_kv w).kept (e.2.2.2.2 _ (pairW_kv w).lt (by omega)), e.ext (pairW_ext w) (Nat.le_refl _)⟩
theorem pair_all {w w2 w4 : World} {g : Nat} {k : List UInt8} {x y : Value} (hg : g = w.heap.size + 1) (h : (pairW w).setCells w.heap.size 0 (idA k).toList = w2) (h4 : ((w2.setCell ⟨g, 0, none⟩ x).setCell ⟨g, 1, none⟩ y).setCell ⟨g, 2, none⟩ (.bool false) = w4) :
    Bk w4 w.heap.size 32 (idF k) ∧ Bk w4 (w.heap.size + 1) 3 (kvF x y) ∧ Ext w w4 := by
  subst hg
  obtain ⟨h1, h2, h3⟩ := pair_key h
  have n : ∀ v : Value, ∀ j, (⟨w.heap.size + 1, j, none⟩ : Addr).block ≠ w.heap.size := fun _ j => by show w.heap.size + 1 ≠ w.heap.size; omega
  refine ⟨by rw [← h4]; exact ((h1.far (n x 0) _).far (n x 1) _).far (n x 2) _, ?_, by rw [← h4]; exact ((h3.set (by show w.heap.size ≤ w.heap.size + 1; omega) _).set (by show w.heap.size ≤ w.heap.size + 1; omega) _).set (by show w.heap.size ≤ w.heap.size + 1; omega) _⟩
  rw [← h4]
  refine (((h2.set 0 x).set 1 y).set 2 (.bool false)).congr fun i hi => ?_
  unfold upd kvF
  rcases i with _ | _ | _ | i
  · rfl
  · rfl
  · rfl
  · omega
/-- What is copied. -/
def RetCp (d : Nat) (ks us : List (List UInt8)) (w : World) (e : Ending) (w' : World) : Prop := e = .returned (.tuple #[]) ∧ (∃ ks', Mk w' d ks' ∧ ∀ x, x ∈ ks' ↔ x ∈ ks ∨ x ∈ us) ∧ Exc d d w w'
set_option maxRecDepth 100000 in
set_option maxHeartbeats 4000000 in
theorem copy35_ok (d s : Nat) (ks us : List (List UInt8)) (w : World) (hd : Mk w d ks) (hs : Mk w s us) (hne : s ≠ d) : Calls Tryd.prog 23 #[.map (some d), .map (some s)] w (RetCp d ks us w) := by
  have HD := Lib.hid hd
  have HS := Lib.hid hs
  have hdl := hd.lt
  have hsl := hs.lt
  clear hd hs
  go_enter Tryd.func23, Tryd.ntmps23
  go_wp2_with (at_range; refine wrange _ rfl (.tmp 6) rfl s us rfl HS.out ?_; intro w3 hit hE3 hs3; have HIT := Lib.hid hit; have HE3 := Lib.hid hE3; clear hit hE3 hs3)
  go_frame
  go_loopw [] (fun wr => ∃ (done : List (List UInt8)) (cnt : Nat) (ks' : List (List UInt8)), It wr s w.heap.size us done cnt ∧ Mk wr d ks' ∧ (∀ x, x ∈ ks' ↔ x ∈ ks ∨ x ∈ done) ∧ Exc d d w wr) (fun wr => leftN wr s w.heap.size)
  case atStart => exact ⟨[], us.length, ks, HIT.out, HD.out.ext HE3.out, by simp, HE3.out.exc d d⟩
  case round =>
    obtain ⟨done, cnt, ks', hit, hm, hmem, hX⟩ := hrel
    have HMK := Lib.hid hm
    have HMEM := Lib.hid hmem
    have HX := Lib.hid hX
    have HIT' := Lib.hid hit
    clear hit hm hmem hX
    go_wp2_with (at_next; refine wnext _ rfl (.tmp 7) rfl s w.heap.size us done cnt rfl HIT'.out ?_ ?_)
    · intro hall
      have HALL := Lib.hid hall
      clear hall
      go_wp2_with fail
      exact bodyPost_end (results_none Tryd.results23 _ _ _) rfl ⟨rfl, ⟨ks', HMK.out, fun x => by rw [HMEM.out x, HALL.out x]⟩, HX.out⟩
    · intro k ts tA tl tc w' cnt' hkl hku hkd hit' hlt hblk hsz hos htp hout hen
      have HX5 : Hid (Exc d d w w') := Lib.hid ⟨hos.trans HX.out.os, htp.trans HX.out.tape, hout.trans HX.out.output, by rw [hsz]; exact HX.out.size, fun i hi h1 h2 => (hblk i (by omega)).trans (HX.out.block i hi h1 h2)⟩
      have HM5 := Lib.hid (HMK.out.kept (hblk d (by omega)))
      have HIT5 := Lib.hid hit'
      have HLT := Lib.hid (show cnt' < leftN wr s w.heap.size by rw [HIT'.out.left]; exact hlt)
      have hsw : w.heap.size < w'.heap.size := HIT5.out.lt.2
      have HKL := Lib.hid hkl
      clear hit' hlt hblk hsz hos htp hout HIT' HMK hkl hku hkd
      go_upto_region 3 with (refine wst27 rfl _ _ rfl rfl rfl (pairW_bk w') ?_; intro w2 hw2; obtain ⟨-, k2, -⟩ := pair_key hw2; have HW2 := Lib.hid hw2; have v0 := k2.cell (k := 0) (by decide); have v1 := k2.cell (k := 1) (by decide); have v2 := k2.cell (k := 2) (by decide); have f0 := k2.frozen 0; have f1 := k2.frozen 1; have f2 := k2.frozen 2; clear hw2 k2)
      generalize hw4 : ((w2.setCell ⟨w'.heap.size + 1, 0, none⟩ (.string ts)).setCell ⟨w'.heap.size + 1, 1, none⟩ (.slice tA tl tc)).setCell ⟨w'.heap.size + 1, 2, none⟩ (.bool false) = w4
      obtain ⟨p1, p2, p3⟩ := pair_all rfl HW2.out hw4
      have HE4 := Lib.hid p3
      clear hw4 v0 v1 v2 f0 f1 f2 hen HW2
      have l1 := p1.run_ld48
      have v0 := p2.cell (k := 0) (by decide)
      have v1 := p2.cell (k := 1) (by decide)
      have v2 := p2.cell (k := 2) (by decide)
      simp only [kvF, if_true, if_false, Nat.one_ne_zero, Nat.reduceEqDiff] at v0 v1 v2
      clear p1 p2 p3
      go_wp2_with (refine wupd rfl (.tmp 13) (.tmp 14) (.tmp 15) rfl rfl rfl rfl HKL.out ⟨_, _, _, _, rfl⟩ (HM5.out.ext HE4.out) ?_; intro o' hm6; have HM6 := Lib.hid hm6; clear hm6)
      have hd5 : d < w'.heap.size := HM5.out.lt
      have I6 := (HIT5.out.ext HE4.out).kept (heap_setBlock w4 d s o' hne) (heap_setBlock w4 d w.heap.size o' (by omega))
      refine ⟨⟨_, _, _, _, _, _, _, _, _, _, ⟨done ++ [k], cnt', putM ks' k, I6, HM6.out, fun x => ?_, (HX5.out.grown HE4.out).map o'⟩, rfl⟩, ?_⟩
      · rw [mem_putM, HMEM.out x, List.mem_append, List.mem_singleton]
        constructor
        · rintro (h | h | h) <;> simp [h]
        · rintro (h | h | h) <;> simp [h]
      · rw [I6.left]
        exact HLT.out
end Go.Proofs.YtjeclmmikjpinaaDoor
