/- The reckoned digest is the program's. -/
import Derived.Test.YtjeclmmikjpinaaDoorE1
namespace Go.Proofs.YtjeclmmikjpinaaDoor
/-! ### The schedule -/
theorem m2_other (f : Nat → Int) {k t : Nat} (h : t ≠ 16 + k) : m2 f (k + 1) t = m2 f k t := by
  rw [m2]
  unfold upd
  rw [if_neg h]
theorem m2_stable (f : Nat → Int) {k t : Nat} : ∀ n, t < 16 + k → m2 f (k + n) t = m2 f k t
  | 0, _ => rfl
  | n + 1, h => by rw [← Nat.add_assoc, m2_other f (by omega), m2_stable f n h]
theorem m2_low (f : Nat → Int) {k t : Nat} (h : t < 16) : m2 f k t = f t := by
  have := m2_stable f (k := 0) (t := t) k (by omega)
  rw [Nat.zero_add] at this
  exact this
theorem sch_congr {f g : Nat → Int} {t : Nat} (h1 : f (t - 16) = g (t - 16)) (h2 : f (t - 15) = g (t - 15)) (h3 : f (t - 7) = g (t - 7)) (h4 : f (t - 2) = g (t - 2)) : schF f t = schF g t := by
  unfold schF
  rw [h1, h2, h3, h4]
theorem m2_at (f : Nat → Int) (n k : Nat) : m2 f (k + 1 + n) (16 + k) = schF (m2 f (k + 1 + n)) (16 + k) := by
  rw [m2_stable f n (by omega), m2]
  unfold upd
  rw [if_pos rfl]
  have e : ∀ t, t < 16 + k → m2 f k t = m2 f (k + 1 + n) t := fun t ht => by rw [Nat.add_assoc, m2_stable f (1 + n) ht]
  exact sch_congr (e _ (by omega)) (e _ (by omega)) (e _ (by omega)) (e _ (by omega))
theorem m3_congr {F G : Nat → Int} (W : Nat → Int) : ∀ k, (∀ j, j < k → F j = G j) → m3 F W k = m3 G W k
  | 0, _ => rfl
  | k + 1, h => by rw [m3, m3, m3_congr W k (fun j hj => h j (by omega)), h k (by omega)]
/-! ### The rounds -/
/-- Sixteen words from the j-th on. -/
def W16 (F : Nat → Int) (j : Nat) (w0 w1 w2 w3 w4 w5 w6 w7 w8 w9 w10 w11 w12 w13 w14 w15 : Nat) : Prop :=
  (Wn (F j) w0 ∧ Wn (F (j + 1)) w1 ∧ Wn (F (j + 2)) w2 ∧ Wn (F (j + 3)) w3 ∧ Wn (F (j + 4)) w4 ∧ Wn (F (j + 5)) w5 ∧ Wn (F (j + 6)) w6 ∧ Wn (F (j + 7)) w7) ∧
  (Wn (F (j + 8)) w8 ∧ Wn (F (j + 9)) w9 ∧ Wn (F (j + 10)) w10 ∧ Wn (F (j + 11)) w11 ∧ Wn (F (j + 12)) w12 ∧ Wn (F (j + 13)) w13 ∧ Wn (F (j + 14)) w14 ∧ Wn (F (j + 15)) w15)
theorem KL_at {j : Nat} (h : j < 64) : ∃ K, KL.drop j = K :: KL.drop (j + 1) ∧ shaK j = (K : Int) := by
  have hl : KL.length = 64 := by unfold KL; rw [List.length_map]; rfl
  refine ⟨KL[j]'(by omega), (List.getElem_cons_drop (by omega)).symm, ?_⟩
  have hall : ∀ x ∈ shaList, x = ((x.toNat : Nat) : Int) := by decide
  have hs : j < shaList.length := by have e : shaList.length = 64 := rfl; omega
  unfold shaK
  rw [List.getD_eq_getElem?_getD, List.getElem?_eq_getElem hs]
  show shaList[j] = _
  rw [hall _ (List.getElem_mem hs)]
  unfold KL
  rw [List.getElem_map]
theorem goR_ok (f W : Nat → Int) : ∀ (n j : Nat), j + n = 64 → ∀ {w0 w1 w2 w3 w4 w5 w6 w7 w8 w9 w10 w11 w12 w13 w14 w15 a b c d e g h i : Nat}, W16 (m2 f 64) j w0 w1 w2 w3 w4 w5 w6 w7 w8 w9 w10 w11 w12 w13 w14 w15 →
    St8 (m3 (m2 f 64) W j) a b c d e g h i →
    ∃ a' b' c' d' e' g' h' i', St8 (m3 (m2 f 64) W 64) a' b' c' d' e' g' h' i' ∧ ∀ (k : Nat → Nat → Nat → Nat → Nat → Nat → Nat → Nat → Nat), goR k (KL.drop j) w0 w1 w2 w3 w4 w5 w6 w7 w8 w9 w10 w11 w12 w13 w14 w15 a b c d e g h i = k a' b' c' d' e' g' h' i'
  | 0, j, hj, w0, w1, w2, w3, w4, w5, w6, w7, w8, w9, w10, w11, w12, w13, w14, w15, a, b, c, d, e, g, h, i, _, hs => by
    obtain rfl : j = 64 := by omega
    refine ⟨a, b, c, d, e, g, h, i, hs, fun k => ?_⟩
    have : KL.drop 64 = [] := rfl
    rw [this, goR]
  | n + 1, j, hj, w0, w1, w2, w3, w4, w5, w6, w7, w8, w9, w10, w11, w12, w13, w14, w15, a, b, c, d, e, g, h, i, hw, hs => by
    obtain ⟨K, hK, hk⟩ := KL_at (j := j) (by omega)
    obtain ⟨⟨x0, x1, x2, x3, x4, x5, x6, x7⟩, x8, x9, x10, x11, x12, x13, x14, x15⟩ := hw
    have h16 : Wn (m2 f 64 (j + 16)) ((w0 + (rotN 7 w1 ^^^ rotN 18 w1 ^^^ w1 / 8) + w9 + (rotN 17 w14 ^^^ rotN 19 w14 ^^^ w14 / 1024)) % 4294967296) := by
      have e1 : m2 f 64 (j + 16) = schF (m2 f 64) (16 + j) := by
        have := m2_at f (63 - j) j
        rw [show j + 1 + (63 - j) = 64 by omega] at this
        rw [Nat.add_comm j 16]
        exact this
      rw [e1]
      exact Wn.sch (by rw [show 16 + j - 16 = j by omega]; exact x0) (by rw [show 16 + j - 15 = j + 1 by omega]; exact x1) (by rw [show 16 + j - 7 = j + 9 by omega]; exact x9) (by rw [show 16 + j - 2 = j + 14 by omega]; exact x14)
    have hr := hs.rnd hk x0 rfl
    obtain ⟨a', b', c', d', e', g', h', i', k1, k2⟩ := goR_ok f W n (j + 1) (by omega) (w0 := w1) (w1 := w2) (w2 := w3) (w3 := w4) (w4 := w5) (w5 := w6) (w6 := w7) (w7 := w8) (w8 := w9) (w9 := w10) (w10 := w11) (w11 := w12) (w12 := w13) (w13 := w14) (w14 := w15)
      ⟨⟨x1, by rw [Nat.add_assoc]; exact x2, by rw [Nat.add_assoc]; exact x3, by rw [Nat.add_assoc]; exact x4, by rw [Nat.add_assoc]; exact x5, by rw [Nat.add_assoc]; exact x6, by rw [Nat.add_assoc]; exact x7, by rw [Nat.add_assoc]; exact x8⟩, by rw [Nat.add_assoc]; exact x9, by rw [Nat.add_assoc]; exact x10, by rw [Nat.add_assoc]; exact x11, by rw [Nat.add_assoc]; exact x12, by rw [Nat.add_assoc]; exact x13, by rw [Nat.add_assoc]; exact x14, by rw [Nat.add_assoc]; exact x15, by rw [Nat.add_assoc]; exact h16⟩
      (by rw [m3]; exact hr)
    refine ⟨a', b', c', d', e', g', h', i', k1, fun k => ?_⟩
    rw [hK, goR, seqN_eq, seqN_eq, seqN_eq, seqN_eq]
    exact k2 k
/-! ### A block -/
theorem wordF_n {B : Nat → Int} {k : Nat} {a b c d : Nat} (ha : B (4 * k) = (a : Int)) (hb : B (4 * k + 1) = (b : Int)) (hc : B (4 * k + 2) = (c : Int)) (hd : B (4 * k + 3) = (d : Int)) (ld : d < 256) :
    Wn (wordF B k) ((((a * 16777216 % 4294967296) ||| (b * 65536 % 4294967296)) ||| (c * 256 % 4294967296)) ||| d) := by
  unfold wordF
  rw [ha, hb, hc, hd]
  refine ((Wn.or (Wn.or ⟨?_, Nat.mod_lt _ (by decide)⟩ ⟨?_, Nat.mod_lt _ (by decide)⟩) ⟨?_, Nat.mod_lt _ (by decide)⟩).or ⟨?_, by omega⟩) <;> omega
theorem m1_other (B : Nat → Int) {k t : Nat} (h : t ≠ k) : m1 B (k + 1) t = m1 B k t := by
  rw [m1]
  unfold upd
  rw [if_neg h]
theorem m1_at (B : Nat → Int) {t : Nat} : ∀ {k : Nat}, t < k → m1 B k t = wordF B t
  | 0, h => absurd h (Nat.not_lt_zero _)
  | k + 1, h => by
    by_cases e : t = k
    · subst e
      rw [m1]
      unfold upd
      rw [if_pos rfl]
    · rw [m1_other B e, m1_at B (by omega)]
theorem mixF_at (W B : Nat → Int) (i : Nat) : mixF W B i = (W i + m3 (m2 (m1 B 16) 64) W 64 i) % 4294967296 := by
  unfold mixF
  rw [m3_congr W 64 (F := m2 (m1 B 16) 48) (G := m2 (m1 B 16) 64) fun j hj => (m2_stable (m1 B 16) (k := 48) 16 (by omega)).symm]
theorem Wn.add {x y : Int} {a b : Nat} (h : Wn x a) (k : Wn y b) : Wn ((x + y) % 4294967296) ((a + b) % 4294967296) := by
  rw [h.1, k.1]
  exact ⟨by omega, Nat.mod_lt _ (by decide)⟩
/-- The bytes of a block, as its function tells them. -/
def By (B : Nat → Int) (bs : List Nat) : Prop := bs.length = 64 ∧ ∀ i, i < 64 → B i = ((bs.getD i 0 : Nat) : Int) ∧ bs.getD i 0 < 256
theorem toW_app : ∀ (n : Nat) (xs ys : List Nat), xs.length = 4 * n → toW (xs ++ ys) = toW xs ++ toW ys
  | 0, xs, ys, h => by
    have : xs = [] := List.eq_nil_of_length_eq_zero (by omega)
    subst this
    rfl
  | n + 1, xs, ys, h => by
    match xs, h with
    | a :: b :: c :: d :: r, h =>
      rw [List.cons_append, List.cons_append, List.cons_append, List.cons_append, toW, toW, toW_app n r ys (by simp at h; omega)]
      rfl
theorem By.words {B : Nat → Int} {bs : List Nat} (h : By B bs) : ∃ w0 w1 w2 w3 w4 w5 w6 w7 w8 w9 w10 w11 w12 w13 w14 w15, toW bs = [w0, w1, w2, w3, w4, w5, w6, w7, w8, w9, w10, w11, w12, w13, w14, w15] ∧ W16 (m2 (m1 B 16) 64) 0 w0 w1 w2 w3 w4 w5 w6 w7 w8 w9 w10 w11 w12 w13 w14 w15 := by
  obtain ⟨hl, hb⟩ := h
  have hw : ∀ k, k < 16 → Wn (m2 (m1 B 16) 64 k) ((((bs.getD (4 * k) 0 * 16777216 % 4294967296) ||| (bs.getD (4 * k + 1) 0 * 65536 % 4294967296)) ||| (bs.getD (4 * k + 2) 0 * 256 % 4294967296)) ||| bs.getD (4 * k + 3) 0) := fun k hk => by
    rw [m2_low _ hk, m1_at B hk]
    exact wordF_n (hb _ (by omega)).1 (hb _ (by omega)).1 (hb _ (by omega)).1 (hb _ (by omega)).1 (hb _ (by omega)).2
  have hbs : bs = (List.range 64).map fun i => bs.getD i 0 := by
    apply List.ext_getElem?
    intro t
    rw [List.getElem?_map]
    rcases Nat.lt_or_ge t 64 with h | h
    · rw [List.getElem?_range h, List.getElem?_eq_getElem (by omega)]
      show some bs[t] = some (bs.getD t 0)
      rw [List.getD_eq_getElem?_getD, List.getElem?_eq_getElem (by omega)]
      rfl
    · rw [List.getElem?_eq_none (by omega), List.getElem?_eq_none (by simpa using h)]
      rfl
  refine ⟨_, _, _, _, _, _, _, _, _, _, _, _, _, _, _, _, ?_, ⟨hw 0 (by decide), hw 1 (by decide), hw 2 (by decide), hw 3 (by decide), hw 4 (by decide), hw 5 (by decide), hw 6 (by decide), hw 7 (by decide)⟩, hw 8 (by decide), hw 9 (by decide), hw 10 (by decide), hw 11 (by decide), hw 12 (by decide), hw 13 (by decide), hw 14 (by decide), hw 15 (by decide)⟩
  obtain ⟨f, hf⟩ : ∃ f : Nat → Nat, (fun i => bs.getD i 0) = f := ⟨_, rfl⟩
  have hfa : ∀ i, bs.getD i 0 = f i := fun i => congrFun hf i
  rw [hf] at hbs
  simp only [hfa]
  rw [hbs]
  rfl
theorem absW_block {B W : Nat → Int} {bs : List Nat} (h : By B bs) {a b c d e f g i : Nat} (hs : St8 W a b c d e f g i) : ∃ a' b' c' d' e' f' g' i', St8 (mixF W B) a' b' c' d' e' f' g' i' ∧
    ∀ (k : Nat → Nat → Nat → Nat → Nat → Nat → Nat → Nat → Nat) (r : List Nat), absW k (toW bs ++ r) a b c d e f g i = absW k r a' b' c' d' e' f' g' i' := by
  obtain ⟨w0, w1, w2, w3, w4, w5, w6, w7, w8, w9, w10, w11, w12, w13, w14, w15, e0, hw⟩ := h.words
  obtain ⟨a', b', c', d', e', f', g', i', h1, h2⟩ := goR_ok (m1 B 16) W 64 0 rfl hw (by rw [m3]; exact hs)
  obtain ⟨y0, y1, y2, y3, y4, y5, y6, y7⟩ := hs
  obtain ⟨z0, z1, z2, z3, z4, z5, z6, z7⟩ := h1
  refine ⟨_, _, _, _, _, _, _, _, ⟨by rw [mixF_at]; exact y0.add z0, by rw [mixF_at]; exact y1.add z1, by rw [mixF_at]; exact y2.add z2, by rw [mixF_at]; exact y3.add z3, by rw [mixF_at]; exact y4.add z4, by rw [mixF_at]; exact y5.add z5, by rw [mixF_at]; exact y6.add z6, by rw [mixF_at]; exact y7.add z7⟩, fun k r => ?_⟩
  rw [e0]
  simp only [List.cons_append, List.nil_append]
  rw [absW]
  have := h2 (fun a' b' c' d' e' f' g' h' =>
      seqN ((a + a') % 4294967296) fun a => seqN ((b + b') % 4294967296) fun b => seqN ((c + c') % 4294967296) fun c => seqN ((d + d') % 4294967296) fun d =>
      seqN ((e + e') % 4294967296) fun e => seqN ((f + f') % 4294967296) fun f => seqN ((g + g') % 4294967296) fun g => seqN ((i + h') % 4294967296) fun h =>
      absW k r a b c d e f g h)
  rw [List.drop_zero] at this
  rw [this]
  simp only [seqN_eq]
theorem By.of {p : List UInt8} (hp : p.length = 64) (B : Nat → Int) : By (putB B 0 p) (p.map UInt8.toNat) := by
  refine ⟨by rw [List.length_map]; exact hp, fun i hi => ?_⟩
  have e : (p.map UInt8.toNat).getD i 0 = (p.getD i 0).toNat := by
    rw [List.getD_eq_getElem?_getD, List.getElem?_map, List.getElem?_eq_getElem (by omega), List.getD_eq_getElem?_getD, List.getElem?_eq_getElem (by omega)]
    rfl
  rw [e]
  refine ⟨?_, (p.getD i 0).toNat_lt⟩
  unfold putB updR
  rw [if_pos (by omega), Nat.sub_zero]
theorem absW_all : ∀ (n : Nat) (p : List UInt8) (x : HS) {a b c d e f g i : Nat}, p.length = 64 * n → x.T % 64 = 0 → St8 x.W a b c d e f g i → ∃ a' b' c' d' e' f' g' i', St8 (wrF x p).W a' b' c' d' e' f' g' i' ∧
    ∀ (k : Nat → Nat → Nat → Nat → Nat → Nat → Nat → Nat → Nat), absW k (toW (p.map UInt8.toNat)) a b c d e f g i = k a' b' c' d' e' f' g' i'
  | 0, p, x, a, b, c, d, e, f, g, i, hp, hx, hs => by
    have : p = [] := List.eq_nil_of_length_eq_zero (by omega)
    subst this
    exact ⟨_, _, _, _, _, _, _, _, hs, fun k => rfl⟩
  | n + 1, p, x, a, b, c, d, e, f, g, i, hp, hx, hs => by
    have hl : (p.take 64).length = 64 := by rw [List.length_take]; omega
    have hd : (p.drop 64).length = 64 * n := by rw [List.length_drop]; omega
    have e1 : wrF x p = wrF (wrF x (p.take 64)) (p.drop 64) := by rw [← wrF_app, List.take_append_drop]
    have e2 : wrF x (p.take 64) = chF x (p.take 64) := wrF_ch _ _ (by rw [hl]; omega) (by rw [hl]; decide)
    have e3 : (chF x (p.take 64)).W = mixF x.W (putB x.B 0 (p.take 64)) := by
      show (if x.T % 64 + (p.take 64).length = 64 then mixF x.W (putB x.B (x.T % 64) (p.take 64)) else x.W) = _
      rw [hl, hx]
      exact if_pos rfl
    have e4 : (chF x (p.take 64)).T % 64 = 0 := by
      show (x.T + (p.take 64).length) % 18446744073709551616 % 64 = 0
      rw [hl]
      omega
    obtain ⟨a1, b1, c1, d1, f1, g1, h1, i1, k1, k2⟩ := absW_block (By.of hl x.B) hs
    rw [← e3, ← e2] at k1
    rw [← e2] at e4
    obtain ⟨a2, b2, c2, d2, f2, g2, h2, i2, m1, m2⟩ := absW_all n (p.drop 64) _ hd e4 k1
    refine ⟨a2, b2, c2, d2, f2, g2, h2, i2, by rw [e1]; exact m1, fun k => ?_⟩
    have e5 : toW (p.map UInt8.toNat) = toW ((p.take 64).map UInt8.toNat) ++ toW ((p.drop 64).map UInt8.toNat) := by
      rw [← toW_app 16 _ _ (by rw [List.length_map, hl]), ← List.map_append, List.take_append_drop]
    rw [e5, k2, m2]
/-! ### The digest's first bytes -/
theorem dig_inj {V W : Nat → Int} {a b c d e f g i a' b' c' d' e' f' g' i' : Nat} (h : St8 V a b c d e f g i) (k : St8 W a' b' c' d' e' f' g' i') (hd : digF V = digF W) : a = a' ∧ b = b' := by
  have hb : ∀ j, j < 32 → dF V j = dF W j := fun j hj => by
    have e := congrArg (fun l : List UInt8 => (l.getD j 0).toNat) hd
    unfold digF at e
    simp only [List.getD_eq_getElem?_getD, List.getElem?_map, List.getElem?_range hj, Option.map_some, Option.getD_some] at e
    have h0 : ∀ X : Nat → Int, 0 ≤ dF X j ∧ dF X j < 256 := fun X => by unfold dF; omega
    have h1 := h0 V
    have h2 := h0 W
    simp at e
    omega
  have w0 := h.1.1
  have w1 := h.2.1.1
  have v0 := k.1.1
  have v1 := k.2.1.1
  have l0 := h.1.2
  have l1 := h.2.1.2
  have m0 := k.1.2
  have m1 := k.2.1.2
  have p0 := hb 0 (by decide)
  have p1 := hb 1 (by decide)
  have p2 := hb 2 (by decide)
  have p3 := hb 3 (by decide)
  have p4 := hb 4 (by decide)
  have p5 := hb 5 (by decide)
  have p6 := hb 6 (by decide)
  have p7 := hb 7 (by decide)
  unfold dF at p0 p1 p2 p3 p4 p5 p6 p7
  simp only [Nat.reduceDiv, Nat.reduceMod, Nat.reduceMul, Nat.reduceSub, w0, w1, v0, v1] at p0 p1 p2 p3 p4 p5 p6 p7
  omega
/-- What is digested, with the padding. -/
def padded (xs : List UInt8) : List UInt8 := xs ++ (padF (wrF hs0 xs).T ++ e8F ((wrF hs0 xs).T * 8 % 18446744073709551616))
theorem wrF_T : ∀ (p : List UInt8) (x : HS), x.T + p.length < 18446744073709551616 → (wrF x p).T = x.T + p.length
  | [], x, _ => rfl
  | b :: p, x, h => by
    have e : (byF x b).T = x.T + 1 := by
      have h1 : (byF x b).T = (x.T + 1) % 18446744073709551616 := by unfold byF; split <;> rfl
      rw [h1]
      rw [List.length_cons] at h
      omega
    show (wrF (byF x b) p).T = _
    rw [wrF_T p _ (by rw [e]; rw [List.length_cons] at h; omega), e, List.length_cons]
    omega
theorem st_sha0 : St8 sha0 1779033703 3144134277 1013904242 2773480762 1359893119 2600822924 528734635 1541459225 := by
  refine ⟨⟨rfl, by decide⟩, ⟨rfl, by decide⟩, ⟨rfl, by decide⟩, ⟨rfl, by decide⟩, ⟨rfl, by decide⟩, ⟨rfl, by decide⟩, ⟨rfl, by decide⟩, ⟨rfl, by decide⟩⟩
theorem pad_len (m : Nat) : ∃ n, m + ((padF m).length + 8) = 64 * n := by
  unfold padF
  rw [List.length_cons, List.length_replicate]
  split
  · exact ⟨m / 64 + 1, by omega⟩
  · exact ⟨m / 64 + 2, by omega⟩
/-- Two messages of one digest have one key. -/
theorem key_eq {xs ys : List UInt8} (hx : xs.length < 1000000) (hy : ys.length < 1000000) (h : shaF xs = shaF ys) :
    keyN ((xs ++ (padF xs.length ++ e8F (xs.length * 8))).map UInt8.toNat) = keyN ((ys ++ (padF ys.length ++ e8F (ys.length * 8))).map UInt8.toNat) := by
  have tx : ∀ zs : List UInt8, zs.length < 1000000 → (wrF hs0 zs).T = zs.length ∧ zs.length * 8 % 18446744073709551616 = zs.length * 8 := fun zs hz => by
    refine ⟨?_, by omega⟩
    rw [wrF_T zs hs0 (by show 0 + _ < _; omega)]
    exact Nat.zero_add _
  have sx : ∀ zs : List UInt8, zs.length < 1000000 → ∃ a b c d e f g i, St8 (wrF hs0 (zs ++ (padF zs.length ++ e8F (zs.length * 8)))).W a b c d e f g i ∧ keyN ((zs ++ (padF zs.length ++ e8F (zs.length * 8))).map UInt8.toNat) = a * 4294967296 + b := fun zs hz => by
    obtain ⟨n, hn⟩ := pad_len zs.length
    obtain ⟨a, b, c, d, e, f, g, i, h1, h2⟩ := absW_all n (zs ++ (padF zs.length ++ e8F (zs.length * 8))) hs0 (by rw [List.length_append, List.length_append, e8F_len]; exact hn) rfl st_sha0
    exact ⟨a, b, c, d, e, f, g, i, h1, h2 _⟩
  obtain ⟨a, b, c, d, e, f, g, i, h1, h2⟩ := sx xs hx
  obtain ⟨a', b', c', d', e', f', g', i', k1, k2⟩ := sx ys hy
  have hs : ∀ zs : List UInt8, zs.length < 1000000 → shaF zs = digF (wrF hs0 (zs ++ (padF zs.length ++ e8F (zs.length * 8)))).W := fun zs hz => by
    unfold shaF sumF
    rw [(tx zs hz).1, (tx zs hz).2, ← wrF_app]
  rw [hs xs hx, hs ys hy] at h
  obtain ⟨rfl, rfl⟩ := dig_inj h1 k1 h
  rw [h2, k2]
end Go.Proofs.YtjeclmmikjpinaaDoor
