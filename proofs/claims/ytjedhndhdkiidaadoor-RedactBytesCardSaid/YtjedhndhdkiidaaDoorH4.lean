/- Reading a disclosure: plain. -/
import Derived.Test.YtjedhndhdkiidaaDoorV32
namespace Go.Proofs.YtjedhndhdkiidaaDoor
/-- What a reader has before it; none behind an error. -/
abbrev Sg := Option (List UInt8)
def uintR (most : Nat) : Sg → Nat × Sg
  | none => (0, none)
  | some xs => match uintF xs with
    | none => (0, none)
    | some (v, n) => if most < v then (0, none) else (v, some (xs.drop n))
def bytesR (most : Nat) : Sg → List UInt8 × Sg
  | none => ([], none)
  | some xs => match uintF xs with
    | none => ([], none)
    | some (v, n) => if most < v then ([], none) else if xs.length - n < v then ([], none) else ((xs.drop n).take v, some (xs.drop (n + v)))
def byteR : Sg → UInt8 × Sg
  | none => (0, none)
  | some [] => (0, none)
  | some (x :: xs) => (x, some xs)
def manyR : Nat → Sg → List UInt8 × Sg
  | 0, s => ([], s)
  | n + 1, s => ((byteR s).1 :: (manyR n (byteR s).2).1, (manyR n (byteR s).2).2)
theorem manyR_len : ∀ (n : Nat) (s : Sg), (manyR n s).1.length = n
  | 0, _ => rfl
  | n + 1, s => by rw [manyR, List.length_cons, manyR_len n]
theorem manyR_succ : ∀ (n : Nat) (s : Sg), manyR (n + 1) s = ((manyR n s).1 ++ [(byteR (manyR n s).2).1], (byteR (manyR n s).2).2)
  | 0, s => rfl
  | n + 1, s => by
    have ih := manyR_succ n (byteR s).2
    rw [manyR, ih]
    rfl
def rdGo : Nat → List UInt8 → Sg → List It → Option (List It)
  | 0, _, s, acc => if s = some [] then some acc else none
  | n + 1, bf, s, acc =>
    if okN (bytesR 32 s).1 = true ∧ bf < (bytesR 32 s).1 then
      if (byteR (bytesR 32 s).2).1 = 0 then rdGo n (bytesR 32 s).1 (manyR 32 (byteR (bytesR 32 s).2).2).2 (acc ++ [⟨(bytesR 32 s).1, false, (manyR 32 (byteR (bytesR 32 s).2).2).1, [], []⟩])
      else if (byteR (bytesR 32 s).2).1 = 1 then rdGo n (bytesR 32 s).1 (bytesR 4000 (manyR 16 (byteR (bytesR 32 s).2).2).2).2 (acc ++ [⟨(bytesR 32 s).1, true, [], (bytesR 4000 (manyR 16 (byteR (bytesR 32 s).2).2).2).1, (manyR 16 (byteR (bytesR 32 s).2).2).1⟩])
      else none
    else none
/-- What Read makes of bytes. -/
def rdF (p : List UInt8) : Option (List It) := rdGo (uintR 64 (some p)).1 [] (uintR 64 (some p)).2 []
theorem okN_nil : okN [] = false := by decide
theorem rdGo_none : ∀ (n : Nat) (bf : List UInt8) (acc : List It), rdGo n bf none acc = none
  | 0, _, _ => rfl
  | n + 1, bf, acc => by
    rw [rdGo, if_neg]
    intro h
    have h1 : okN (bytesR 32 none).1 = true := h.1
    rw [show (bytesR 32 none).1 = [] from rfl, okN_nil] at h1
    cases h1
theorem byteR_some {s : Sg} {rest : List UInt8} (h : (byteR s).2 = some rest) : s = some ((byteR s).1 :: rest) := by
  match s, h with
  | none, h => cases h
  | some [], h => cases h
  | some (x :: xs), h =>
    have : xs = rest := Option.some.inj h
    rw [← this]
    rfl
theorem manyR_some : ∀ {n : Nat} {s : Sg} {rest : List UInt8}, (manyR n s).2 = some rest → s = some ((manyR n s).1 ++ rest)
  | 0, _, _, h => h
  | n + 1, s, rest, h => by
    have h1 := manyR_some (n := n) (s := (byteR s).2) h
    have h2 := byteR_some h1
    exact h2
theorem bytesR_some {m : Nat} {s : Sg} {rest : List UInt8} (h : (bytesR m s).2 = some rest) : s = some (putU (bytesR m s).1.length ++ (bytesR m s).1 ++ rest) ∧ (bytesR m s).1.length ≤ m := by
  match s, h with
  | none, h => cases h
  | some xs, h =>
    unfold bytesR at h ⊢
    simp only at h ⊢
    cases hu : uintF xs with
    | none => rw [hu] at h; cases h
    | some p =>
      obtain ⟨v, n⟩ := p
      rw [hu] at h
      simp only at h ⊢
      obtain ⟨h1, h2, h3⟩ := uintF_facts hu
      split at h
      · cases h
      · split at h
        · cases h
        · rename_i hm hl
          rw [if_neg hm, if_neg hl]
          have hr := Option.some.inj h
          have hlen : ((xs.drop n).take v).length = v := by rw [List.length_take, List.length_drop]; omega
          simp only [hlen]
          refine ⟨?_, by omega⟩
          rw [← h3, ← hr, ← List.drop_drop, List.append_assoc, List.take_append_drop, List.take_append_drop]
theorem bytesR_put {m : Nat} {b : List UInt8} (hb : b.length ≤ m) (hm : m ≤ 1000000) (rest : List UInt8) : bytesR m (some (putU b.length ++ (b ++ rest))) = (b, some rest) := by
  unfold bytesR
  simp only
  rw [uintF_put (by omega)]
  simp only
  rw [if_neg (by omega), if_neg (by rw [List.length_append, List.length_append]; omega), List.drop_left, List.take_left, ← List.drop_drop, List.drop_left, List.drop_left]
theorem manyR_app : ∀ (b rest : List UInt8), manyR b.length (some (b ++ rest)) = (b, some rest)
  | [], _ => rfl
  | x :: b, rest => by
    rw [List.length_cons, List.cons_append, manyR]
    have := manyR_app b rest
    show ((x :: (manyR b.length (some (b ++ rest))).1), (manyR b.length (some (b ++ rest))).2) = _
    rw [this]
/-- An item that can be read. -/
def RdOk (x : It) : Prop := okN x.nm = true ∧ x.vl.length ≤ 4000 ∧ ItOk x ∧ (x.op = true → x.cm = [])
theorem rdGo_some : ∀ (n : Nat) (bf : List UInt8) (s : Sg) (acc res : List It), rdGo n bf s acc = some res → ∃ ys, res = acc ++ ys ∧ ys.length = n ∧ s = some ((ys.map encB).flatten) ∧ ∀ y ∈ ys, RdOk y
  | 0, bf, s, acc, res, h => by
    rw [rdGo] at h
    split at h
    · rename_i hs
      exact ⟨[], by rw [List.append_nil]; exact (Option.some.inj h).symm, rfl, hs, fun y hy => by cases hy⟩
    · cases h
  | n + 1, bf, s, acc, res, h => by
    rw [rdGo] at h
    split at h
    · rename_i hok
      obtain ⟨nm, hnm⟩ : ∃ nm, (bytesR 32 s).1 = nm := ⟨_, rfl⟩
      split at h
      · rename_i ht
        obtain ⟨ys, e1, e2, e3, e4⟩ := rdGo_some n _ _ _ _ h
        have h1 := manyR_some e3
        have h2 := byteR_some h1
        rw [ht] at h2
        have h3 := bytesR_some h2
        refine ⟨⟨(bytesR 32 s).1, false, (manyR 32 (byteR (bytesR 32 s).2).2).1, [], []⟩ :: ys, by rw [e1, List.append_assoc]; rfl, by rw [List.length_cons, e2], ?_, ?_⟩
        · refine h3.1.trans (congrArg some ?_)
          rw [List.map_cons, List.flatten_cons]
          unfold encB
          simp
        · intro y hy
          rcases List.mem_cons.1 hy with rfl | hy
          · exact ⟨hok.1, Nat.zero_le _, ⟨fun h' => (by cases h'), fun _ => ⟨manyR_len _ _, rfl, rfl⟩⟩, fun h' => (by cases h')⟩
          · exact e4 y hy
      · split at h
        · rename_i ht0 ht
          obtain ⟨ys, e1, e2, e3, e4⟩ := rdGo_some n _ _ _ _ h
          have h0 := bytesR_some e3
          have h1 := manyR_some h0.1
          have h2 := byteR_some h1
          rw [ht] at h2
          have h3 := bytesR_some h2
          refine ⟨⟨(bytesR 32 s).1, true, [], (bytesR 4000 (manyR 16 (byteR (bytesR 32 s).2).2).2).1, (manyR 16 (byteR (bytesR 32 s).2).2).1⟩ :: ys, by rw [e1, List.append_assoc]; rfl, by rw [List.length_cons, e2], ?_, ?_⟩
          · refine h3.1.trans (congrArg some ?_)
            rw [List.map_cons, List.flatten_cons]
            unfold encB
            rw [if_pos rfl]
            simp
          · intro y hy
            rcases List.mem_cons.1 hy with rfl | hy
            · exact ⟨hok.1, h0.2, ⟨fun _ => ⟨manyR_len _ _, by have := h0.2; show (bytesR 4000 _).1.length ≤ 100000; omega⟩, fun h' => (by cases h')⟩, fun _ => rfl⟩
            · exact e4 y hy
        · cases h
    · cases h
theorem rdGo_enc : ∀ (ys : List It) (bf : List UInt8) (acc : List It), (∀ y ∈ ys, RdOk y) → (∀ y, ys.head? = some y → bf < y.nm) → Asc ys → rdGo ys.length bf (some ((ys.map encB).flatten)) acc = some (acc ++ ys)
  | [], bf, acc, _, _, _ => by
    rw [List.append_nil]
    rfl
  | y :: ys, bf, acc, hok, hbf, hasc => by
    have hy := hok y (by simp)
    have hn := okN_len hy.1
    have hb := hbf y rfl
    have hnext : ∀ z, ys.head? = some z → y.nm < z.nm := fun z hz => (List.pairwise_cons.1 hasc).1 z (by
      cases ys with
      | nil => cases hz
      | cons a l => simp at hz; subst hz; simp)
    have ih := fun acc' => rdGo_enc ys y.nm acc' (fun z hz => hok z (by simp [hz])) hnext (List.pairwise_cons.1 hasc).2
    obtain ⟨nm, op, cm, vl, sl⟩ := y
    rw [List.length_cons, List.map_cons, List.flatten_cons, rdGo]
    cases op with
    | false =>
      obtain ⟨hc, hv, hs⟩ := hy.2.2.1.2 rfl
      obtain rfl : vl = [] := hv
      obtain rfl : sl = [] := hs
      have hc' : cm.length = 32 := hc
      have e : encB ⟨nm, false, cm, [], []⟩ ++ (ys.map encB).flatten = putU nm.length ++ (nm ++ (0 :: (cm ++ (ys.map encB).flatten))) := by
        unfold encB
        simp
      rw [e, bytesR_put hn.2 (by decide), if_pos ⟨hy.1, hb⟩]
      show (if (0 : UInt8) = 0 then rdGo ys.length nm (manyR 32 (some (cm ++ (ys.map encB).flatten))).2 (acc ++ [⟨nm, false, (manyR 32 (some (cm ++ (ys.map encB).flatten))).1, [], []⟩]) else _) = _
      rw [if_pos rfl, ← hc', manyR_app, ih, List.append_assoc]
      rfl
    | true =>
      obtain ⟨hs, -⟩ := hy.2.2.1.1 rfl
      obtain rfl : cm = [] := hy.2.2.2 rfl
      have hs' : sl.length = 16 := hs
      have hv' : vl.length ≤ 4000 := hy.2.1
      have e : encB ⟨nm, true, [], vl, sl⟩ ++ (ys.map encB).flatten = putU nm.length ++ (nm ++ (1 :: (sl ++ (putU vl.length ++ (vl ++ (ys.map encB).flatten))))) := by
        unfold encB
        rw [if_pos rfl]
        simp
      rw [e, bytesR_put hn.2 (by decide), if_pos ⟨hy.1, hb⟩]
      show (if (1 : UInt8) = 0 then _ else if (1 : UInt8) = 1 then rdGo ys.length nm (bytesR 4000 (manyR 16 (some (sl ++ (putU vl.length ++ (vl ++ (ys.map encB).flatten))))).2).2 (acc ++ [⟨nm, true, [], (bytesR 4000 (manyR 16 (some (sl ++ (putU vl.length ++ (vl ++ (ys.map encB).flatten))))).2).1, (manyR 16 (some (sl ++ (putU vl.length ++ (vl ++ (ys.map encB).flatten))))).1⟩]) else _) = _
      rw [if_neg (by decide), if_pos rfl, ← hs', manyR_app]
      simp only
      rw [bytesR_put hv' (by decide), ih, List.append_assoc]
      rfl
theorem rdF_enc {xs : List It} (h : ∀ y ∈ xs, RdOk y) (ha : Asc xs) (hl : xs.length ≤ 64) : rdF (encD xs) = some xs := by
  have e : uintR 64 (some (encD xs)) = (xs.length, some ((xs.map encB).flatten)) := by
    unfold encD encK uintR
    simp only
    rw [uintF_put (by omega)]
    simp only
    rw [if_neg (by omega), List.drop_left, List.take_length]
  unfold rdF
  rw [e, rdGo_enc xs [] [] h (fun y hy => ?_) ha]
  · rfl
  · have hm : y ∈ xs := by
      cases xs with
      | nil => cases hy
      | cons a l => simp at hy; subst hy; simp
    have := okN_len (h y hm).1
    cases hn : y.nm with
    | nil => rw [hn] at this; simp at this
    | cons a l => exact List.nil_lt_cons a l
theorem rdF_some {p : List UInt8} {xs : List It} (h : rdF p = some xs) : encD xs = p ∧ xs.length ≤ 64 ∧ ∀ y ∈ xs, RdOk y := by
  unfold rdF at h
  obtain ⟨ys, e1, e2, e3, e4⟩ := rdGo_some _ _ _ _ _ h
  rw [List.nil_append] at e1
  subst e1
  unfold uintR at e2 e3
  simp only at e2 e3
  cases hu : uintF p with
  | none => rw [hu] at e3; cases e3
  | some q =>
    obtain ⟨v, n⟩ := q
    rw [hu] at e2 e3
    simp only at e2 e3
    obtain ⟨h1, h2, h3⟩ := uintF_facts hu
    by_cases hm : 64 < v
    · rw [if_pos hm] at e3; cases e3
    · rw [if_neg hm] at e2 e3
      refine ⟨?_, by omega, e4⟩
      unfold encD encK
      rw [List.take_length, e2, ← Option.some.inj e3, ← h3, List.take_append_drop]
end Go.Proofs.YtjedhndhdkiidaaDoor
