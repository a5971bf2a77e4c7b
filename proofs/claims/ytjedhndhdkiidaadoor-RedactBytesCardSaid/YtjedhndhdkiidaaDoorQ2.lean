/- The writers of numbers (num.put, PutUint), in the numbers of the seat of Redact. -/
import Derived.Test.YtjedhndhdkiidaaDoorQ1
import Derived.Deep.AppendLies
import Derived.OwnWalk
namespace Go.Proofs.YtjedhndhdkiidaaDoor
open Go.RowKit
attribute [local go_sem ↓] Go.wp_at_zero Go.wp_at_succ
theorem BytesAt.nil_ (w : World) (A : Option Addr) : BytesAt w A [] := fun h => absurd h (by simp)
theorem own_kept_ext {w w' : World} {B e size n : Nat} {v : Value} {xs : List Value} (h : w.ownsRow B e size v n xs) (k : Ext w w') : w'.ownsRow B e size v n xs := by
  refine ⟨h.1, ?_⟩
  rcases h.2 with h' | ⟨g, cap, cur, rfl, hb, hc, h3⟩
  · exact .inl h'
  · have hlt : g < w.heap.size := (Array.getElem?_eq_some_iff.1 hc).1
    exact .inr ⟨g, cap, cur, rfl, hb, by rw [k.block g hlt]; exact hc, h3⟩
theorem Tryd.info5 : (Tryd.prog.info? 5).map (fun i => (i.zero, i.size, i.bytes)) = some (some (.int .u8 0), 1, 1) := by kernel_rfl
def bytesV (xs : List UInt8) : List Value := xs.map fun b => .int .u8 ((b.toNat : Nat) : Int)
theorem bytesV_append (xs ys : List UInt8) : bytesV (xs ++ ys) = bytesV xs ++ bytesV ys := by simp [bytesV]
theorem bytesV_length (xs : List UInt8) : (bytesV xs).length = xs.length := by simp [bytesV]
theorem bytesV_get (xs : List UInt8) (j : Nat) : (bytesV xs)[j]? = xs[j]?.map fun b => .int .u8 ((b.toNat : Nat) : Int) := by simp [bytesV]
theorem bytesV_one (n : Nat) (h : n < 256) : bytesV [UInt8.ofNat n] = [.int .u8 (n : Int)] := by
  have : (UInt8.ofNat n).toNat = n := by simp; omega
  simp only [bytesV, List.map_cons, List.map_nil, this]
theorem bytesV_plain (xs : List UInt8) : ∀ u ∈ bytesV xs, u.oneCell' = true := by
  intro u hu
  obtain ⟨b, _, rfl⟩ := List.mem_map.1 hu
  rfl
/-- A row that was appended to: only its own block, and new ones, have changed; where it lies now. -/
structure Grw (w w' : World) (v v' : Value) : Prop where
  g : w.grownBy w' v.ownBlock
  at_ : v'.ownBlock = v.ownBlock ∨ ∃ k, v'.ownBlock = some k ∧ w.heap.size ≤ k
theorem Grw.refl (w : World) (v : Value) : Grw w w v v := ⟨⟨rfl, rfl, rfl, Nat.le_refl _, fun _ _ _ => rfl⟩, .inl rfl⟩
theorem Grw.trans {w w1 w2 : World} {v v1 v2 : Value} (h : Grw w w1 v v1) (k : Grw w1 w2 v1 v2) : Grw w w2 v v2 := by
  refine ⟨⟨k.g.os.trans h.g.os, k.g.tape.trans h.g.tape, k.g.output.trans h.g.output, Nat.le_trans h.g.size k.g.size, fun i hi hne => ?_⟩, ?_⟩
  · rw [k.g.block i (Nat.lt_of_lt_of_le hi h.g.size) ?_, h.g.block i hi hne]
    rcases h.at_ with e | ⟨g, e, hg⟩
    · rw [e]; exact hne
    · rw [e]; intro e'; injection e' with e'; omega
  · rcases k.at_ with e | ⟨g, e, hg⟩
    · rw [e]; exact h.at_
    · exact .inr ⟨g, e, Nat.le_trans h.g.size hg⟩
theorem Grw.ext {w w1 w2 : World} {v v1 : Value} (h : Ext w w1) (k : Grw w1 w2 v v1) : Grw w w2 v v1 := by
  refine ⟨⟨k.g.os.trans h.os, k.g.tape.trans h.tape, k.g.output.trans h.output, Nat.le_trans h.size k.g.size, fun i hi hne => ?_⟩, ?_⟩
  · rw [k.g.block i (h.lt _ hi) hne, h.block i hi]
  · rcases k.at_ with e | ⟨g, e, hg⟩
    · exact .inl e
    · exact .inr ⟨g, e, Nat.le_trans h.size hg⟩
/-- Behind an append. -/
theorem Grw.lies {w w' : World} {v : Value} {g n cap H : Nat} (hg : w.grownBy w' v.ownBlock) (hat : v.ownBlock = some g ∨ g = H) (hH : w.heap.size = H) : Grw w w' v (.slice (some ⟨g, 0, none⟩) n cap) := by
  refine ⟨hg, ?_⟩
  rcases hat with h | h
  · exact .inl h.symm
  · exact .inr ⟨g, rfl, by omega⟩
/-- Bytes in a row of the call's own. -/
def ByRow (w : World) (B : Nat) (v : Value) (xs : List UInt8) : Prop := w.ownsRow B 5 1 v xs.length (bytesV xs)
theorem ByRow.ext {w w' : World} {B : Nat} {v : Value} {xs : List UInt8} (h : ByRow w B v xs) (k : Ext w w') : ByRow w' B v xs := own_kept_ext h k
def RetRow (B : Nat) (v : Value) (ys : List UInt8) (w : World) (e : Ending) (w' : World) : Prop := ∃ v', e = .returned v' ∧ ByRow w' B v' ys ∧ Grw w w' v v'
theorem news1 {w : World} {B T : Nat} {x : Value} {fr : Nat × Nat} (h : w.heap[B]? = some (.cells #[x] T fr)) : ∀ j u, [x][j]? = some u → w.cell? ((⟨B, 0, none⟩ : Addr).add j) = some u := World.news_of_block (cs := #[x]) h
set_option maxRecDepth 100000 in
theorem or128 : ∀ x : Fin 256, x.val ||| 128 = x.val % 128 + 128 := by decide
theorem byte_or (m : Nat) : (m % 256 ||| 128 : Nat) = m % 128 + 128 := by
  have := or128 ⟨m % 256, Nat.mod_lt _ (by decide)⟩
  simp only [] at this
  rw [this]; omega
set_option maxRecDepth 100000 in
set_option maxHeartbeats 1000000 in
theorem put_any (B n : Nat) (v : Value) (xs : List UInt8) (w : World) (h : ByRow w B v xs) (hB : B ≤ w.heap.size) (hn : n < 18446744073709551616) (hx : xs.length ≤ 1099511627776) : Calls Tryd.prog 66 #[v, .int .u64 (n : Int)] w (RetRow B v (xs ++ putU n) w) := by
  obtain ⟨i0, hi0, hz0, hz1, hz2⟩ := info_parts Tryd.info5
  have I0 := Lib.hid hi0
  have Z0 := Lib.hid hz0
  have Z1 := Lib.hid hz1
  have Z2 := Lib.hid hz2
  have HR := Lib.hid h
  clear hi0 hz0 hz1 hz2 h
  go_enter Tryd.func66, Tryd.ntmps66
  go_wp2_with fail
  go_loopw [0, 1] (fun p u wr => ∃ (m j : Nat) (ys : List UInt8), u = .int .u64 (m : Int) ∧ m * 128 ^ j ≤ n ∧ j ≤ 9 ∧ ys.length = xs.length + j ∧ xs ++ putU n = ys ++ putU m ∧ ByRow wr B p ys ∧ Grw w wr v p) (fun _ u _ => (intOf u).toNat)
  case atStart => exact ⟨n, 0, xs, rfl, by simp, by omega, rfl, rfl, HR.out, Grw.refl _ _⟩
  case round =>
    obtain ⟨m, j, ys, rfl, hm, hj, hy, he, hr, hg⟩ := hrel
    have HE := Lib.hid he
    have HY := Lib.hid hy
    have HRR := Lib.hid hr
    have HG := Lib.hid hg
    have hyl : ys.length ≤ 1099511627790 := by omega
    have zB : B ≤ wr.heap.size := Nat.le_trans hB hg.g.size
    have HM := Lib.hid hm
    have hm64 : m < 18446744073709551616 := by
      have : m ≤ m * 128 ^ j := Nat.le_mul_of_pos_right _ (Nat.pos_of_ne_zero (by simp))
      omega
    clear he hy hr hg hm
    by_cases hlt : m < 128
    · have PU : Hid (putU m = [UInt8.ofNat m]) := putU_small hlt
      go_wp2_with (at_builtin; refine wpList_append_lies _ rfl (.tmp 15) (.tmp 18) 38 rfl B 5 i0 _ 1 1 Tryd.underlying38 I0.out Z0.out Z1.out Z2.out rfl (by decide) _ ys.length (bytesV ys) rfl (World.ownsRow.alloc HRR.out _) ⟨wr.heap.size, 0, none⟩ 1 1 [.int .u8 (m : Int)] rfl rfl (news1 (heap_alloc_new _ _)) (by simp [Value.oneCell']) (by omega) (by unfold maxLen; omega) (by omega) (by simp; omega) _ rfl ?_; intro g5 cap5 w6 hown6 hgrow6 hat6 hlt6)
      go_ret
      refine ⟨_, rfl, ?_, HG.out.trans (Grw.ext ((Ext.refl wr).alloc _) (Grw.lies hgrow6 hat6 rfl))⟩
      unfold ByRow
      rw [HE.out, PU.out, bytesV_append, bytesV_one _ (by omega), List.length_append]
      exact hown6
    · have PU : Hid (putU m = UInt8.ofNat (m % 128 + 128) :: putU (m / 128)) := putU_large hlt
      go_upto_region 3 with (at_builtin; refine wpList_append_lies _ rfl (.tmp 7) (.tmp 11) 38 rfl B 5 i0 _ 1 1 Tryd.underlying38 I0.out Z0.out Z1.out Z2.out rfl (by decide) _ ys.length (bytesV ys) rfl (World.ownsRow.alloc HRR.out _) ⟨wr.heap.size, 0, none⟩ 1 1 [_] rfl rfl (news1 (heap_alloc_new _ _)) (by simp [Value.oneCell']) (by omega) (by unfold maxLen; omega) (by omega) (by simp; omega) _ rfl ?_; intro g5 cap5 w6 hown6 hgrow6 hat6 hlt6)
      go_wp2_with fail
      have eb : bits .or .u8 ((m : Int) % 256) 128 = ((m % 128 + 128 : Nat) : Int) := by
        have := u8_or_nat (m % 256) 128 (by omega) (by decide)
        rw [byte_or] at this
        rw [← this]; rfl
      rw [eb] at hown6
      refine ⟨⟨m / 128, j + 1, ys ++ [UInt8.ofNat (m % 128 + 128)], by simp, ?_, ?_, ?_, ?_, ?_, ?_⟩, by simp [intOf]; omega⟩
      · have h1 : m / 128 * 128 ^ (j + 1) ≤ m * 128 ^ j := by
          rw [Nat.pow_succ, Nat.mul_comm (128 ^ j) 128, ← Nat.mul_assoc]
          exact Nat.mul_le_mul_right _ (by omega)
        exact Nat.le_trans h1 HM.out
      · have h1 := HM.out
        have h2 : 128 * 128 ^ j ≤ m * 128 ^ j := Nat.mul_le_mul_right _ (by omega)
        rcases Nat.lt_or_ge j 9 with h3 | h3
        · omega
        · obtain rfl : j = 9 := by omega
          omega
      · rw [List.length_append, HY.out]; rfl
      · rw [HE.out, PU.out]; simp
      · unfold ByRow
        rw [bytesV_append, bytesV_one _ (by omega), List.length_append]
        exact hown6
      · exact HG.out.trans (Grw.ext ((Ext.refl wr).alloc _) (Grw.lies hgrow6 hat6 rfl))
/-- What a row holds, read as bytes. -/
theorem ByRow.bytes {w : World} {B : Nat} {v : Value} {xs : List UInt8} (h : ByRow w B v xs) : ∃ A c, v = .slice A xs.length c ∧ BytesAt w A xs ∧ c ≤ maxLen := by
  have h' : w.ownsRow B 5 1 v xs.length (bytesV xs) := h
  rcases h'.2 with ⟨rfl, h0⟩ | ⟨g, cap, cur, rfl, hb, hc, h1, h2, h3, h4⟩
  · have : xs = [] := List.eq_nil_of_length_eq_zero h0
    subst this
    exact ⟨none, 0, rfl, BytesAt.nil_ _ _, by unfold maxLen; omega⟩
  · refine ⟨some ⟨g, 0, none⟩, cap, rfl, fun h0 => ⟨⟨g, 0, none⟩, rfl, (Array.getElem?_eq_some_iff.1 hc).1, fun j b hj => ?_⟩, h2⟩
    exact World.ownsRow.cells h rfl j _ (by rw [bytesV_get, hj]; rfl)
def RetNew (ys : List UInt8) (w : World) (e : Ending) (w' : World) : Prop := ∃ v', e = .returned v' ∧ ByRow w' w.heap.size v' ys ∧ Ext w w'
set_option maxRecDepth 100000 in
set_option maxHeartbeats 1000000 in
theorem putuint_any (n : Nat) (A : Option Addr) (c : Nat) (xs : List UInt8) (w : World) (h : BytesAt w A xs) (h0 : 0 < xs.length) (hn : n < 18446744073709551616) (hx : xs.length ≤ 1099511627770) : Calls Tryd.prog 42 #[.slice A xs.length c, .int .u64 (n : Int)] w (RetNew (xs ++ putU n) w) := by
  obtain ⟨i0, hi0, hz0, hz1, hz2⟩ := info_parts Tryd.info5
  have I0 := Lib.hid hi0
  have Z0 := Lib.hid hz0
  have Z1 := Lib.hid hz1
  have Z2 := Lib.hid hz2
  obtain ⟨ad, rfl, hadb, hc⟩ := h h0
  have HC := Lib.hid hc
  clear hi0 hz0 hz1 hz2 h hc
  go_enter Tryd.func42, Tryd.ntmps42
  go_upto_region 2 with (at_make; refine wpList_make_own _ rfl _ _ 38 rfl w.heap.size 5 i0 _ 1 Tryd.underlying38 I0.out Z0.out Z1.out .i64 .i64 _ (xs.length + 10) rfl rfl (by simp) (by rw [Z2.out]; omega) (by unfold maxLen; omega) (Nat.le_refl _) ?_; intro w1 hown1 hgrow1)
  have E1 : Ext w w1 := ext_of_grown hgrow1
  have O1 := Lib.hid hown1
  have HC1 : Hid (∀ j u, (bytesV xs)[j]? = some u → w1.cell? (ad.add j) = some u) := fun j u hu => by
    rw [bytesV_get] at hu
    cases hx : xs[j]? with
    | none => rw [hx] at hu; cases hu
    | some b =>
      rw [hx] at hu
      obtain rfl := Option.some.inj hu
      exact E1.cell (HC.out j b hx)
  have z1 : w.heap.size ≤ w1.heap.size := E1.size
  clear hown1 hgrow1
  go_wp2_with (at_builtin; refine wpList_append_lies _ rfl (.tmp 10) (.tmp 11) 38 rfl w.heap.size 5 i0 _ 1 1 Tryd.underlying38 I0.out Z0.out Z1.out Z2.out rfl (by decide) _ 0 [] rfl O1.out ad xs.length c (bytesV xs) rfl (by rw [bytesV_length]; omega) HC1.out (bytesV_plain xs) h0 (by unfold maxLen; omega) (by omega) z1 _ rfl ?_; intro g2 cap2 w2 hown2 hgrow2 hat2 hlt2)
  rw [Nat.zero_add, List.nil_append] at hown2
  have E2 : Ext w w2 := ext_grow E1 hgrow2 (fun k hk => by have hk' : w.heap.size = k := Option.some.inj hk; omega)
  refine (put_any w.heap.size n _ xs w2 hown2 E2.size hn (by omega)).mono ?_
  rintro e w3 ⟨v3, rfl, hr3, hg3⟩
  have hg2 : w.heap.size ≤ g2 := by
    rcases hat2 with h | h
    · have h' : w.heap.size = g2 := Option.some.inj h
      omega
    · omega
  have E3 : Ext w w3 := ext_grow E2 hg3.g (fun k hk => by have hk' : g2 = k := Option.some.inj hk; omega)
  clear hown2 hgrow2 hat2 hg3
  have R3 := Lib.hid hr3
  clear hr3
  go_wp2_with fail
  go_ret
  exact ⟨_, rfl, R3.out, E3⟩
end Go.Proofs.YtjedhndhdkiidaaDoor
