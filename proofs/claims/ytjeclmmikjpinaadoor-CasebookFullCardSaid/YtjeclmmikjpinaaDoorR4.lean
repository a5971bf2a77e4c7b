/- SHA-256: bytes that are written to a hash, plainly, and the walk over Write. -/
import Derived.Test.YtjeclmmikjpinaaDoorR3
import Derived.Test.YtjeclmmikjpinaaDoorQ4
import Derived.Laws.IdiomCopy
namespace Go.Proofs.YtjeclmmikjpinaaDoor
open Go.RowKit
/-- A hash: words, the bytes behind the last whole block, how many. -/
structure HS where
  W : Nat → Int
  B : Nat → Int
  T : Nat
def byF (x : HS) (b : UInt8) : HS :=
  if x.T % 64 = 63 then ⟨mixF x.W (upd x.B 63 ((b.toNat : Nat) : Int)), upd x.B 63 ((b.toNat : Nat) : Int), (x.T + 1) % 18446744073709551616⟩
  else ⟨x.W, upd x.B (x.T % 64) ((b.toNat : Nat) : Int), (x.T + 1) % 18446744073709551616⟩
/-- The hash behind some bytes. -/
def wrF (x : HS) (p : List UInt8) : HS := p.foldl byF x
theorem wrF_app (x : HS) (p q : List UInt8) : wrF x (p ++ q) = wrF (wrF x p) q := by unfold wrF; rw [List.foldl_append]
def putB (B : Nat → Int) (o : Nat) (p : List UInt8) : Nat → Int := updR B o p.length (fun j => (((p.getD j 0).toNat : Nat) : Int))
def chF (x : HS) (p : List UInt8) : HS := ⟨if x.T % 64 + p.length = 64 then mixF x.W (putB x.B (x.T % 64) p) else x.W, putB x.B (x.T % 64) p, (x.T + p.length) % 18446744073709551616⟩
theorem putB_cons (B : Nat → Int) (o : Nat) (b : UInt8) (p : List UInt8) : putB B o (b :: p) = putB (upd B o ((b.toNat : Nat) : Int)) (o + 1) p := by
  funext i
  unfold putB updR upd
  rw [List.length_cons]
  by_cases h1 : i = o
  · subst h1
    rw [if_pos (by omega), if_neg (by omega), if_pos rfl, Nat.sub_self]
    rfl
  · by_cases h2 : o + 1 ≤ i ∧ i < o + 1 + p.length
    · rw [if_pos (by omega), if_pos h2, show i - o = (i - (o + 1)) + 1 by omega]
      rfl
    · rw [if_neg (by omega), if_neg h2, if_neg h1]
theorem putB_nil (B : Nat → Int) (o : Nat) : putB B o [] = B := by
  funext i
  unfold putB updR
  rw [if_neg (by rw [List.length_nil]; omega)]
theorem wrF_ch : ∀ (p : List UInt8) (x : HS), x.T % 64 + p.length ≤ 64 → 0 < p.length → wrF x p = chF x p
  | [], _, _, h => by simp at h
  | [b], x, h, _ => by
    show byF x b = _
    unfold byF chF
    rw [putB_cons, putB_nil]
    by_cases h1 : x.T % 64 = 63
    · rw [if_pos h1, if_pos (by simp; omega), h1]
      rfl
    · rw [if_neg h1, if_neg (by simp; omega)]
      rfl
  | b :: c :: p, x, h, _ => by
    have hl : x.T % 64 + (p.length + 2) ≤ 64 := by simpa using h
    have e : byF x b = ⟨x.W, upd x.B (x.T % 64) ((b.toNat : Nat) : Int), (x.T + 1) % 18446744073709551616⟩ := by unfold byF; rw [if_neg (by omega)]
    have e1 : (x.T + 1) % 18446744073709551616 % 64 = x.T % 64 + 1 := by omega
    show wrF (byF x b) (c :: p) = _
    rw [e, wrF_ch (c :: p) _ (by show (x.T + 1) % 18446744073709551616 % 64 + _ ≤ 64; rw [e1]; simp; omega) (by simp)]
    unfold chF
    simp only [e1]
    rw [putB_cons x.B (x.T % 64) b (c :: p)]
    have e2 : ((x.T + 1) % 18446744073709551616 + (c :: p).length) % 18446744073709551616 = (x.T + (b :: c :: p).length) % 18446744073709551616 := by simp; omega
    have e3 : (x.T % 64 + 1 + (c :: p).length = 64) = (x.T % 64 + (b :: c :: p).length = 64) := by simp; omega
    simp only [e2, e3]
/-- A hash that lies in the block g. -/
def Hs (w : World) (g : Nat) (x : HS) : Prop := Bk w g 73 (hsF x.W x.B (x.T : Int)) ∧ x.T < 18446744073709551616
theorem Hs.ext {w w' : World} {g : Nat} {x : HS} (h : Hs w g x) (k : Ext w w') : Hs w' g x := ⟨h.1.ext k, h.2⟩
theorem Hs.tot {w : World} {g : Nat} {x : HS} (h : Hs w g x) : w.cell? ⟨g, 72, none⟩ = some (.int .u64 (x.T : Int)) := h.1.cell (by decide)
theorem BytesAt.exg {w w' : World} {g : Nat} {A : Option Addr} {xs : List UInt8} (h : BytesAt w A xs) (k : Exg g w w') (hne : ∀ ad, A = some ad → ad.block ≠ g) : BytesAt w' A xs := fun h0 => by
  obtain ⟨ad, e, hb, hc⟩ := h h0
  refine ⟨ad, e, Nat.lt_of_lt_of_le hb k.size, fun j b hj => ?_⟩
  have := hc j b hj
  have e1 : (ad.add j).block = ad.block := block_of_add ad j
  have hk := k.2.2.2.2 (ad.add j).block (by rw [e1]; exact hb) (by rw [e1]; exact hne ad e)
  unfold World.cell? at this ⊢
  rw [hk]
  exact this
theorem Tab.exg {w w' : World} {g : Nat} (h : Tab w) (k : Exg g w w') (hg : 0 < g) : Tab w' := fun j hj => by
  have := h j hj
  have hb := World.block_lt_of_cell? w _ this
  unfold World.cell? at this ⊢
  rw [k.2.2.2.2 0 hb (by omega)]
  exact this
theorem hsF_put {W B : Nat → Int} {T : Int} {o : Nat} {p : List UInt8} (h : o + p.length ≤ 64) (i : Nat) : updR (hsF W B T) (8 + o) p.length (fun j => (bytesV p).getD j undef) i = hsF W (putB B o p) T i := by
  unfold updR hsF putB updR
  by_cases h1 : 8 + o ≤ i ∧ i < 8 + o + p.length
  · rw [if_pos h1, if_neg (by omega), if_pos (by omega), if_pos (by omega)]
    have e : i - (8 + o) = i - 8 - o := by omega
    have hj : i - 8 - o < p.length := by omega
    rw [e]
    unfold bytesV
    show (List.map (fun b => Value.int IntKind.u8 ((b.toNat : Nat) : Int)) p).getD (i - 8 - o) undef = vU8 (((p.getD (i - 8 - o) 0).toNat : Nat) : Int)
    rw [List.getD_eq_getElem?_getD, List.getElem?_map, List.getElem?_eq_getElem hj, List.getD_eq_getElem?_getD, List.getElem?_eq_getElem hj]
    rfl
  · rw [if_neg h1]
    by_cases h2 : i < 8
    · rw [if_pos h2, if_pos h2]
    · rw [if_neg h2, if_neg h2]
      by_cases h3 : i < 72
      · rw [if_pos h3, if_pos h3, if_neg (by omega)]
      · rw [if_neg h3, if_neg h3]
theorem Hs.wrote {w : World} {g : Nat} {x : HS} (h : Hs w g x) {p : List UInt8} (hp : x.T % 64 + p.length ≤ 64) : Bk (w.setCells g (8 + x.T % 64) (bytesV p)) g 73 (hsF x.W (putB x.B (x.T % 64) p) (x.T : Int)) :=
  (h.1.setCells (bytesV p) (8 + x.T % 64)).congr fun i _ => by
    rw [bytesV_length]
    exact hsF_put hp i
theorem hsF_tot_upd {W B : Nat → Int} {T T' : Int} {i : Nat} (hi : i < 73) : upd (hsF W B T) 72 (.int .u64 T') i = hsF W B T' i := by
  unfold upd hsF
  by_cases h : i = 72
  · subst h; rfl
  · rw [if_neg h]
    by_cases h2 : i < 8
    · rw [if_pos h2, if_pos h2]
    · rw [if_neg h2, if_neg h2, if_pos (by omega), if_pos (by omega)]
theorem BytesAt.take {w : World} {A : Option Addr} {xs : List UInt8} (h : BytesAt w A xs) (n : Nat) : BytesAt w A (xs.take n) := fun h0 => by
  rw [List.length_take] at h0
  obtain ⟨ad, e, hb, hc⟩ := h (by omega)
  refine ⟨ad, e, hb, fun j b hj => hc j b ?_⟩
  rw [List.getElem?_take] at hj
  split at hj
  · exact hj
  · cases hj
def sLen : Value → Nat
  | .slice _ n _ => n
  | _ => 0
theorem run_sl123l (w : World) (g o l n c : Nat) (h2 : l < 64) (kl : Int) (el : kl = (l : Int)) (en : 64 - l = n) (ec : 64 - l = c) : (Instr.sliceAt 98 (.pointer (some ⟨g, o, none⟩)) (some (.int .i64 kl)) none none).run Tryd.prog w = .ok (.slice (some ⟨g, o + l, none⟩) n c) w := by
  subst el
  subst en
  subst ec
  have e1 : Tryd.prog.arrayLen 98 = 64 := by kernel_rfl
  have e2 : Tryd.prog.elem 98 = 5 := by kernel_rfl
  have hs : (sizeOf 5).run Tryd.prog w = .ok 1 w := by kernel_rfl
  rw [run_sliceAt_array_l w 98 ⟨g, o, none⟩ (by rw [e1, e2]; exact Tryd.underlying98) .i64 (l : Int) (by omega) (by rw [e1]; omega), e1, e2, hs]
  simp [Result.andThen, slicedAt, Addr.add, show ¬ 64 = l by omega]
theorem run_slice38l (w : World) (A A2 : Option Addr) (len c n : Nat) (h : n ≤ len) (hA : (if c = n then A else A.map (·.add n)) = A2) : (Instr.slice 31 (.slice A len c) (some (.int .i64 (n : Int))) none none).run Tryd.prog w = .ok (.slice A2 (len - n) (c - n)) w := by
  subst hA
  have e2 : Tryd.prog.elem 31 = 5 := by kernel_rfl
  have hs : (sizeOf 5).run Tryd.prog w = .ok 1 w := by kernel_rfl
  rw [run_slice_l w 31 A len c (by rw [e2]; exact Tryd.underlying31) .i64 (n : Int) (by omega) (by omega), e2, hs]
  simp [Result.andThen, sliced]
def RetW (g : Nat) (x : HS) (w : World) (e : Ending) (w' : World) : Prop := e = .returned (.tuple #[]) ∧ Hs w' g x ∧ Exg g w w'
set_option maxRecDepth 100000 in
set_option maxHeartbeats 4000000 in
theorem write64_ok (g : Nat) (x : HS) (xs : List UInt8) (A : Option Addr) (c : Nat) (w : World) (h : Hs w g x) (hT : Tab w) (hg : 0 < g) (hb : BytesAt w A xs) (hne : 0 < xs.length → ∀ ad, A = some ad → ad.block ≠ g) (hc : xs.length ≤ c) (hc2 : c ≤ maxLen) :
    Calls Tryd.prog 35 #[.pointer (some ⟨g, 0, none⟩), .slice A xs.length c] w (RetW g (wrF x xs) w) := by
  have HH := Lib.hid h
  have HT := Lib.hid hT
  have HG := Lib.hid hg
  have HB := Lib.hid hb
  have HN := Lib.hid hne
  have HC := Lib.hid (And.intro hc hc2)
  clear h hT hg hb hne hc hc2
  go_enter Tryd.func35, Tryd.ntmps35
  go_wp2_with fail
  go_loopw [1] (fun t wr => ∃ (A' : Option Addr) (c' : Nat) (ys : List UInt8) (y : HS), t = .slice A' ys.length c' ∧ BytesAt wr A' ys ∧ wrF y ys = wrF x xs ∧ Hs wr g y ∧ Exg g w wr ∧ (0 < ys.length → ∀ ad, A' = some ad → ad.block ≠ g) ∧ ys.length ≤ c' ∧ c' ≤ maxLen) (fun t _ => sLen t)
  case atStart => exact ⟨A, c, xs, x, rfl, HB.out, rfl, HH.out, Exg.refl _ _, HN.out, HC.out.1, HC.out.2⟩
  case round =>
    obtain ⟨A', c', ys, y, rfl, hb, hy, hh, he, hne, hc, hc2⟩ := hrel
    by_cases h0 : 0 < ys.length
    · obtain ⟨a, ha⟩ : ∃ a, y.T % 64 = a := ⟨_, rfl⟩
      have ha64 : a < 64 := by omega
      have e1 : (y.T : Int) % 64 = (a : Int) := by omega
      obtain ⟨m, hm⟩ : ∃ m, 64 - a = m := ⟨_, rfl⟩
      obtain ⟨n, hn⟩ : ∃ n, min ys.length m = n := ⟨_, rfl⟩
      have sl := run_sl123l wr g 8 a m m ha64 (a : Int) rfl hm hm
      obtain ⟨ad, rfl, hab, hcs⟩ := hb h0
      have hnl : (ys.take n).length = n := by rw [List.length_take]; omega
      have cp : (Builtin.copy_ #[31, 31] 3 #[.slice (some ⟨g, 8 + a, none⟩) m m, .slice (some ad) ys.length c']).run Tryd.prog wr = .ok (.int .i64 (n : Int)) (wr.setCells g (8 + a) (bytesV (ys.take n))) := by
        rw [run_copy_cells (P := Tryd.prog) wr 31 31 3 5 g (8 + a) m m ad ys.length c' (bytesV (ys.take n)) Tryd.underlying31 (by kernel_rfl) (by rw [bytesV_length, hnl]; exact hn.symm) (fun j v hj => by
          rw [bytesV_get, List.getElem?_take] at hj
          split at hj
          · cases hq : ys[j]? with
            | none => rw [hq] at hj; cases hj
            | some b =>
              rw [hq] at hj
              cases hj
              exact hcs j b hq
          · cases hj) (fun j hj => by
            rw [bytesV_length, hnl] at hj
            rw [hh.1.cell (k := 8 + a + j) (by omega)]
            rfl) (fun j _ => hh.1.frozen _) (bytesV_plain _), bytesV_length, hnl]
        rfl
      have t0 := hh.tot
      have q0 : (0 : Int) < (ys.length : Int) := by omega
      have HA := Lib.hid (And.intro ha (And.intro ha64 hm))
      have HNN := Lib.hid (And.intro hn hnl)
      have HBB := Lib.hid hb
      have HY := Lib.hid hy
      have HHH := Lib.hid hh
      have HE := Lib.hid he
      have HNE := Lib.hid (hne h0)
      have HCC := Lib.hid (And.intro hc hc2)
      clear ha ha64 hm hn hnl hb hy hh he hne hc hc2 hcs hab
      go_upto_region 4 with fail
      clear sl cp t0
      generalize hw2 : wr.setCells g (8 + a) (bytesV (ys.take n)) = w2
      have HX2 : Hid (Exg g wr w2) := Lib.hid (by rw [← hw2]; exact Exg.setCells (Or.inl rfl) _ _ (Exg.refl _ _))
      have HB2 : Hid (Bk w2 g 73 (hsF y.W (putB y.B a (ys.take n)) (y.T : Int))) := Lib.hid (by
        rw [← hw2, ← HA.out.1]
        exact HHH.out.wrote (by have := HA.out; have := HNN.out; rw [HNN.out.2]; omega))
      clear hw2
      have t0 : w2.cell? ⟨g, 72, none⟩ = some (.int .u64 (y.T : Int)) := HB2.out.cell (by decide)
      have f0 := HB2.out.frozen 72
      have q2 : (n : Int) ≤ (ys.length : Int) := by have := HNN.out; omega
      obtain ⟨A2, hA2⟩ : ∃ A2, (if c' = n then some ad else (some ad).map (·.add n)) = A2 := ⟨_, rfl⟩
      have s2 := run_slice38l w2 (some ad) A2 ys.length c' n (by omega) hA2
      have HA2 := Lib.hid hA2
      obtain ⟨l2, hl2⟩ : ∃ l2, ys.length - n = l2 := ⟨_, rfl⟩
      obtain ⟨c2, hc2⟩ : ∃ c2, c' - n = c2 := ⟨_, rfl⟩
      rw [hl2, hc2] at s2
      have HLC := Lib.hid (And.intro hl2 hc2)
      clear hA2 hl2 hc2
      have q3 : (0 : Int) ≤ (n : Int) := by omega
      have q4 : (ys.length : Int) ≤ (c' : Int) := by have := HCC.out; omega
      have HN1 : Hid (0 < n ∧ n ≤ ys.length) := Lib.hid (by have := HNN.out; have := HA.out; omega)
      have HT3 : Hid (IntKind.u64.wrap ((y.T : Int) + (n : Int)) = (((y.T + n) % 18446744073709551616 : Nat) : Int)) := Lib.hid (by
        have := HN1.out
        have := HNN.out
        have := HA.out
        show ((y.T : Int) + (n : Int)) % 18446744073709551616 = _
        omega)
      have HCH : Hid (wrF y ys = wrF (chF y (ys.take n)) (ys.drop n)) := Lib.hid (by
        have h1 := HN1.out
        have h2 := HNN.out
        have h3 := HA.out
        rw [← wrF_ch (ys.take n) y (by rw [h2.2]; omega) (by rw [h2.2]; omega), ← wrF_app, List.take_append_drop])
      have HAD : Hid (∀ ad', A2 = some ad' → ad'.block ≠ g) := Lib.hid (by
        intro ad' e
        have h1 := HNE.out ad rfl
        rw [← HA2.out] at e
        split at e
        · cases e; exact h1
        · cases e
          rw [block_of_add]
          exact h1)
      have HBY : Hid (BytesAt w2 A2 (ys.drop n)) := Lib.hid (by
        have h1 := (HBB.out.exg HX2.out HNE.out).cut (k := n) HCC.out.1
        rw [HA2.out] at h1
        exact h1)
      have HLD : Hid ((ys.drop n).length = l2 ∧ l2 ≤ c2 ∧ c2 ≤ maxLen ∧ l2 < ys.length) := Lib.hid (by
        have h1 := HLC.out
        have h2 := HCC.out
        have h3 := HN1.out
        rw [List.length_drop]
        omega)
      have q6 : (0 : Int) ≤ (a : Int) ∧ (a : Int) < 64 := by have := HA.out; omega
      have q7 : (n : Int) ≤ 64 := by have := HA.out; have := HNN.out; omega
      obtain ⟨q6, q8⟩ := q6
      by_cases hf : a + n = 64
      · have q5 : ((a : Int) + (n : Int) == 64) = true := by rw [beq_iff_eq]; omega
        have HF := Lib.hid hf
        clear hf
        go_wp2_with fail
        rw [HT3.out]
        generalize hw3 : w2.setCell ⟨g, 72, none⟩ (.int .u64 (((y.T + n) % 18446744073709551616 : Nat) : Int)) = w3
        have HX3 : Hid (Exg g w2 w3) := Lib.hid (by rw [← hw3]; exact (Exg.refl _ _).set (Or.inl rfl) _)
        have HB3 : Hid (Bk w3 g 73 (hsF y.W (putB y.B a (ys.take n)) (((y.T + n) % 18446744073709551616 : Nat) : Int))) := Lib.hid (by
          rw [← hw3]
          exact (HB2.out.set 72 _).congr fun i hi => hsF_tot_upd hi)
        clear hw3 s2 t0 f0
        have HXW : Hid (Exg g w w3) := Lib.hid (HE.out.trans (HX2.out.trans HX3.out))
        refine (mix76_ok g _ _ _ w3 HB3.out (HT.out.exg HXW.out HG.out)).mono ?_
        rintro _ w4 ⟨rfl, hB4, hX4⟩
        have HB4 := Lib.hid hB4
        have HX4 := Lib.hid hX4
        clear hB4 hX4
        go_wp2_with fail
        refine ⟨⟨A2, c2, ys.drop n, chF y (ys.take n), by rw [HLD.out.1], (HBY.out.exg (HX3.out.trans HX4.out) HAD.out), by rw [← HCH.out]; exact HY.out, ⟨?_, ?_⟩, HXW.out.trans HX4.out, fun _ => HAD.out, by rw [HLD.out.1]; exact HLD.out.2.1, HLD.out.2.2.1⟩, HLD.out.2.2.2⟩
        · unfold chF
          rw [HA.out.1, HNN.out.2, if_pos HF.out]
          exact HB4.out
        · exact Nat.mod_lt _ (by decide)
      · have q5 : ((a : Int) + (n : Int) == 64) = false := by rw [beq_eq_false_iff_ne]; omega
        have HF := Lib.hid hf
        clear hf
        go_wp2_with fail
        rw [HT3.out]
        generalize hw3 : w2.setCell ⟨g, 72, none⟩ (.int .u64 (((y.T + n) % 18446744073709551616 : Nat) : Int)) = w3
        have HX3 : Hid (Exg g w2 w3) := Lib.hid (by rw [← hw3]; exact (Exg.refl _ _).set (Or.inl rfl) _)
        have HB3 : Hid (Bk w3 g 73 (hsF y.W (putB y.B a (ys.take n)) (((y.T + n) % 18446744073709551616 : Nat) : Int))) := Lib.hid (by
          rw [← hw3]
          exact (HB2.out.set 72 _).congr fun i hi => hsF_tot_upd hi)
        clear hw3 s2 t0 f0
        have HXW : Hid (Exg g w w3) := Lib.hid (HE.out.trans (HX2.out.trans HX3.out))
        refine ⟨⟨A2, c2, ys.drop n, chF y (ys.take n), by rw [HLD.out.1], (HBY.out.exg HX3.out HAD.out), by rw [← HCH.out]; exact HY.out, ⟨?_, ?_⟩, HXW.out, fun _ => HAD.out, by rw [HLD.out.1]; exact HLD.out.2.1, HLD.out.2.2.1⟩, HLD.out.2.2.2⟩
        · unfold chF
          rw [HA.out.1, HNN.out.2, if_neg HF.out]
          exact HB3.out
        · exact Nat.mod_lt _ (by decide)
    · obtain rfl : ys = [] := List.eq_nil_of_length_eq_zero (by omega)
      have hy' := hy
      go_wp2_with fail
      go_end0
      refine ⟨rfl, ?_, he⟩
      rw [← hy']
      exact hh
end Go.Proofs.YtjeclmmikjpinaaDoor
