/- One call of both: all kinds; what is kept from call to call. -/
import Derived.Test.YtehmpbaiefbemaaGreatN37
import Derived.Test.YtehmpbaiefbemaaGreatN38
import Derived.Test.YtehmpbaiefbemaaGreatN39
import Derived.Test.YtehmpbaiefbemaaGreatN40
namespace Go.Proofs.YtehmpbaiefbemaaGreat
open Go.RowKit
theorem do48_any (g r B : Nat) (cv hv lv kh kv : Value) (cp cs : List Ch) (os hs : List Jh) (x : St) (a : Ac) (av : Value) (w : World) (H : Both w g r B cv hv lv kh kv cp cs os hs x) (G : Good cp cs x) (hA : Stay g r (fun W => ArgsAt W av a.args) w) (hag : agrF cp os cs hs a x) :
    Calls Tryz.prog 20 #[.pointer (some ⟨g, 0, none⟩), .agg (NV lv kh x.s x.t x.d kv), acV a av] w (RetDo g r B cv hv lv kh cp cs os hs (doF cs hs a x) w) := by
  by_cases h3 : modF a.kd 6 = 3
  · exact do_timer g r B cv hv lv kh kv cp cs os hs x a av w H G hA hag h3
  by_cases h4 : modF a.kd 6 = 4
  · exact do_disk g r B cv hv lv kh kv cp cs os hs x a av w H G hA hag h4
  by_cases h5 : modF a.kd 6 = 5
  · exact do_consume g r B cv hv lv kh kv cp cs os hs x a av w H G hA hag h5
  exact do_send g r B cv hv lv kh kv cp cs os hs x a av w H G hA hag ⟨h3, h4, h5⟩
theorem Both.to {w w1 wz : World} {g r B : Nat} {cv hv lv kh kv0 kv : Value} {cp cs : List Ch} {os hs : List Jh} {x y : St} (h0 : Both w g r B cv hv lv kh kv0 cp cs os hs x) (h1 : Both w1 g r B cv hv lv kh kv cp cs os hs y) (hE : Exc g r w wz) (hg : wz.heap[g]? = w1.heap[g]?) (hr : wz.heap[r]? = w1.heap[r]?)
    (hk : Row 4 wz B 58 kv (y.ks.map encK)) : Both wz g r B cv hv lv kh kv cp cs os hs y :=
  ⟨h0.net.to h1.net hE hg hr, h0.rc.exc hE, h0.rh.exc hE, hk, Nat.lt_of_lt_of_le h0.gB hE.size, Nat.lt_of_lt_of_le h0.rB hE.size, Nat.le_trans h0.Bw hE.size⟩
theorem Both.ext {w w' : World} {g r B : Nat} {cv hv lv kh kv : Value} {cp cs : List Ch} {os hs : List Jh} {x : St} (h : Both w g r B cv hv lv kh kv cp cs os hs x) (k : Ext w w') : Both w' g r B cv hv lv kh kv cp cs os hs x :=
  ⟨h.net.ext k, h.rc.exc (k.exc g r), h.rh.exc (k.exc g r), h.rk.ext k, Nat.lt_of_lt_of_le h.gB k.size, Nat.lt_of_lt_of_le h.rB k.size, Nat.le_trans h.Bw k.size⟩
/-- What every state of a play meets. -/
structure Inv (cs : List Ch) (x : St) (n : Nat) : Prop where
  asc : Asc x.ks
  mem : ∀ k ∈ x.ks, k ∈ cs.map (·.1)
  bd : Bd x n
theorem upd_le {f : Nat → Nat} {n c k : Nat} (h : ∀ i, f i ≤ n) : ∀ i, upd f k (f k + c) i ≤ n + c := fun i => by
  unfold upd
  split
  · have := h k; omega
  · have := h i; omega
theorem eatF_mem {cs : List Ch} {ks : List Ky} {k : Ky} (h : ∀ k ∈ ks, k ∈ cs.map (·.1)) : ∀ y ∈ eatF cs ks k, y ∈ cs.map (·.1) := fun y hy => by
  rcases mem_eatF.1 hy with ⟨rfl, h1⟩ | h1
  · exact h1
  · exact h y h1
theorem insK_mem {cs : List Ch} {ks : List Ky} {k : Ky} (h : ∀ k ∈ ks, k ∈ cs.map (·.1)) (hk : k ∈ cs.map (·.1)) : ∀ y ∈ insK k ks, y ∈ cs.map (·.1) := fun y hy => by
  rcases mem_insK.1 hy with rfl | h1
  · exact hk
  · exact h y h1
theorem some_mem {cs : List Ch} {k : Ky} {d : Int} (h : getF cs k = some d) : k ∈ cs.map (·.1) := getF_some.1 (by rw [h]; rfl)
theorem Inv.mono {cs : List Ch} {x : St} {n m : Nat} (h : Inv cs x n) (hm : n ≤ m) : Inv cs x m := ⟨h.asc, h.mem, h.bd.mono hm⟩
theorem doF_inv {cs : List Ch} {hs : List Jh} {a : Ac} {x : St} {n : Nat} (h : Inv cs x n) : Inv cs (doF cs hs a x) (n + 3) := by
  obtain ⟨h1, h2, h3⟩ := h
  have hs' : ∀ i, x.s i ≤ n := fun i => (h3 i).1
  have ht' : ∀ i, x.t i ≤ n := fun i => (h3 i).2.1
  have hd' : ∀ i, x.d i ≤ n := fun i => (h3 i).2.2
  have B0 : Bd x (n + 3) := h3.mono (by omega)
  have S1 : ∀ k i, upd x.s k (x.s k + 1) i ≤ n + 3 := fun k i => Nat.le_trans (upd_le hs' i) (by omega)
  have T1 : ∀ k i, upd x.t k (x.t k + 1) i ≤ n + 3 := fun k i => Nat.le_trans (upd_le ht' i) (by omega)
  unfold doF
  split
  · unfold timF
    split
    · exact ⟨eatF_asc h1, eatF_mem h2, fun i => ⟨(B0 i).1, T1 _ i, (B0 i).2.2⟩⟩
    · exact ⟨h1, h2, B0⟩
  · split
    · have hr := modF_range (a := a.b) (n := 4) (by omega)
      unfold exeF
      split
      · refine ⟨foldI_asc _ _ h1, fun k hk => ?_, fun i => ⟨(B0 i).1, (B0 i).2.1, ?_⟩⟩
        · rcases (mem_foldI _ _).1 hk with h4 | h4
          · unfold failK at h4
            exact (List.mem_filter.1 h4).1
          · exact h2 k h4
        · exact Nat.le_trans (upd_le hd' i) (by omega)
      · exact ⟨h1, h2, B0⟩
    · split
      · exact ⟨eatF_asc h1, eatF_mem h2, B0⟩
      · unfold sendF
        split
        · split
          · exact ⟨h1, h2, fun i => ⟨S1 _ i, (B0 i).2⟩⟩
          · split
            · rename_i hg5
              exact ⟨insK_asc h1, insK_mem h2 (some_mem hg5), fun i => ⟨S1 _ i, (B0 i).2⟩⟩
            · split
              · rename_i hg7
                exact ⟨insK_asc (eatF_asc h1), insK_mem (eatF_mem h2) (some_mem hg7), fun i => ⟨S1 _ i, (B0 i).2⟩⟩
              · exact ⟨eatF_asc h1, eatF_mem h2, fun i => ⟨S1 _ i, (B0 i).2⟩⟩
        · exact ⟨h1, h2, B0⟩
theorem Inv.len {cs : List Ch} {x : St} {n : Nat} (h : Inv cs x n) : x.ks.length ≤ cs.length := by
  have := nodup_len x.ks (cs.map (·.1)) h.asc.nodup h.mem
  rwa [List.length_map] at this
/-- The state behind the first calls. -/
def stF (cs : List Ch) (hs : List Jh) (al : List (Ac × Value)) (x : St) (i : Nat) : St := (al.take i).foldl (fun x a => doF cs hs a.1 x) x
abbrev Ac0 : Ac × Value := (⟨0, 0, 0, 0, 0, []⟩, .slice none 0 0)
theorem stF_succ {cs : List Ch} {hs : List Jh} {al : List (Ac × Value)} {x : St} {i : Nat} (h : i < al.length) : stF cs hs al x (i + 1) = doF cs hs (al.getD i Ac0).1 (stF cs hs al x i) := by
  unfold stF
  rw [List.take_succ_eq_append_getElem h, List.foldl_append, List.getD_eq_getElem?_getD, List.getElem?_eq_getElem h]
  rfl
theorem stF_inv {cs : List Ch} {hs : List Jh} {al : List (Ac × Value)} {x : St} {n : Nat} (h : Inv cs x n) : ∀ i, i ≤ al.length → Inv cs (stF cs hs al x i) (n + 3 * i)
  | 0, _ => h
  | i + 1, hi => by
    rw [stF_succ (by omega)]
    exact (doF_inv (stF_inv h i (by omega))).mono (by omega)
/-- Calls in memory. -/
structure AsAt (w : World) (v : Value) (al : List (Ac × Value)) : Prop where
  sl : SlAt 6 w v (al.map encA)
  args : ∀ a ∈ al, ArgsAt w a.2 a.1.args
theorem encA_at {al : List (Ac × Value)} {k : Nat} (h : k < al.length) (x : Ac × Value) (e : al.getD k Ac0 = x) : (al.map encA).getD k [] = encA x := by
  rw [List.getD_eq_getElem?_getD, List.getElem?_map, List.getElem?_eq_getElem h, ← e, List.getD_eq_getElem?_getD, List.getElem?_eq_getElem h]
  rfl
theorem getD_memA {al : List (Ac × Value)} {k : Nat} (h : k < al.length) : al.getD k Ac0 ∈ al := by
  rw [List.getD_eq_getElem?_getD, List.getElem?_eq_getElem h]
  exact List.getElem_mem h
theorem AsAt.ext {w w' : World} {v : Value} {al : List (Ac × Value)} (h : AsAt w v al) (k : Ext w w') : AsAt w' v al := ⟨h.sl.ext k, fun a ha => (h.args a ha).ext k⟩
/-- What is known of the choices of both sides. -/
structure Sta (cp cs : List Ch) : Prop where
  ascP : AscC cp
  ascR : AscC cs
  d0R : Disk0 cs
  smP : Sm cp
  smR : Sm cs
  keyP : KeyS cp
  lenP : cp.length ≤ 50
  lenR : cs.length ≤ 50
theorem Sta.good {cp cs : List Ch} {x : St} {n : Nat} (h : Sta cp cs) (k : Inv cs x n) (hn : n ≤ 50000) : Good cp cs x :=
  ⟨h.ascP, h.ascR, h.d0R, h.smP, h.smR, h.keyP, Nat.le_trans h.lenP (by omega), k.asc, Nat.le_trans k.len (Nat.le_trans h.lenR (by omega)), k.bd.mono hn⟩
theorem OkL.sm {cs : List Ch} (h : OkL cs) : Sm cs := fun c hc => by
  have o := h.ok c hc
  have h6 := o.six
  have h9 := o.nine
  have hn := o.none
  omega
theorem OkL.keyS {cs : List Ch} (h : OkL cs) : KeyS cs := fun c hc => (h.ok c hc).key.n
theorem OkL.sta {cs : List Ch} (h : OkL cs) (hl : cs.length ≤ 50) : Sta cs cs := ⟨h.asc, h.asc, h.disk0, h.sm, h.sm, h.keyS, hl, hl⟩
end Go.Proofs.YtehmpbaiefbemaaGreat
