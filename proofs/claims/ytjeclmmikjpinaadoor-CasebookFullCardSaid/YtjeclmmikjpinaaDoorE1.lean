/- SHA-256 in numbers, for the kernel to reckon: it is shaF. -/
import Derived.Test.YtjeclmmikjpinaaDoorC2
namespace Go.Proofs.YtjeclmmikjpinaaDoor
def seqN {α : Type} (n : Nat) (f : Nat → α) : α := match n with
  | 0 => f 0
  | Nat.succ k => f (Nat.succ k)
theorem seqN_eq {α : Type} (n : Nat) (f : Nat → α) : seqN n f = f n := by cases n <;> rfl
def rotN (n x : Nat) : Nat := x * 2 ^ (32 - n) % 4294967296 ||| x / 2 ^ n
def KL : List Nat := shaList.map Int.toNat
/-- The rounds, with a window of sixteen words. -/
def goR {α : Type} (k : Nat → Nat → Nat → Nat → Nat → Nat → Nat → Nat → α) : List Nat → (w0 w1 w2 w3 w4 w5 w6 w7 w8 w9 w10 w11 w12 w13 w14 w15 : Nat) → (a b c d e f g h : Nat) → α
  | [], _, _, _, _, _, _, _, _, _, _, _, _, _, _, _, _, a, b, c, d, e, f, g, h => k a b c d e f g h
  | K :: Ks, w0, w1, w2, w3, w4, w5, w6, w7, w8, w9, w10, w11, w12, w13, w14, w15, a, b, c, d, e, f, g, h =>
    seqN (h + (rotN 6 e ^^^ rotN 11 e ^^^ rotN 25 e) + ((e &&& f) ^^^ ((4294967295 ^^^ e) &&& g)) + K + w0) fun t1 =>
    seqN ((t1 + ((rotN 2 a ^^^ rotN 13 a ^^^ rotN 22 a) + ((a &&& b) ^^^ (a &&& c) ^^^ (b &&& c)))) % 4294967296) fun a' =>
    seqN ((d + t1) % 4294967296) fun e' =>
    seqN ((w0 + (rotN 7 w1 ^^^ rotN 18 w1 ^^^ w1 / 8) + w9 + (rotN 17 w14 ^^^ rotN 19 w14 ^^^ w14 / 1024)) % 4294967296) fun w16 =>
    goR k Ks w1 w2 w3 w4 w5 w6 w7 w8 w9 w10 w11 w12 w13 w14 w15 w16 a' a b c e' e f g
/-- The words of some bytes. -/
def toW : List Nat → List Nat
  | a :: b :: c :: d :: r => (((a * 16777216 % 4294967296) ||| (b * 65536 % 4294967296)) ||| (c * 256 % 4294967296) ||| d) :: toW r
  | _ => []
/-- Whole blocks. -/
def absW {α : Type} (k : Nat → Nat → Nat → Nat → Nat → Nat → Nat → Nat → α) : List Nat → (a b c d e f g h : Nat) → α
  | w0 :: w1 :: w2 :: w3 :: w4 :: w5 :: w6 :: w7 :: w8 :: w9 :: w10 :: w11 :: w12 :: w13 :: w14 :: w15 :: r, a, b, c, d, e, f, g, h =>
    goR (fun a' b' c' d' e' f' g' h' =>
      seqN ((a + a') % 4294967296) fun a => seqN ((b + b') % 4294967296) fun b => seqN ((c + c') % 4294967296) fun c => seqN ((d + d') % 4294967296) fun d =>
      seqN ((e + e') % 4294967296) fun e => seqN ((f + f') % 4294967296) fun f => seqN ((g + g') % 4294967296) fun g => seqN ((h + h') % 4294967296) fun h =>
      absW k r a b c d e f g h) KL w0 w1 w2 w3 w4 w5 w6 w7 w8 w9 w10 w11 w12 w13 w14 w15 a b c d e f g h
  | _, a, b, c, d, e, f, g, h => k a b c d e f g h
/-- The first eight bytes of the digest of whole blocks, as a number. -/
def keyN (bytes : List Nat) : Nat := absW (fun a b _ _ _ _ _ _ => a * 4294967296 + b) (toW bytes) 1779033703 3144134277 1013904242 2773480762 1359893119 2600822924 528734635 1541459225
/-! ### Numbers for words -/
theorem u32_and (a b : Nat) (ha : a < 4294967296) (hb : b < 4294967296) : bits .and .u32 (a : Int) (b : Int) = ((a &&& b : Nat) : Int) := by
  have hx : a &&& b < 2 ^ 32 := Nat.and_lt_two_pow _ (by omega)
  have h1 : (BitVec.ofInt 32 (a : Int)).toNat = a := by
    rw [BitVec.ofInt_natCast, BitVec.toNat_ofNat]; exact Nat.mod_eq_of_lt (by omega)
  have h2 : (BitVec.ofInt 32 (b : Int)).toNat = b := by
    rw [BitVec.ofInt_natCast, BitVec.toNat_ofNat]; exact Nat.mod_eq_of_lt (by omega)
  show IntKind.u32.wrap ((BitVec.ofInt 32 (a : Int) &&& BitVec.ofInt 32 (b : Int)).toNat : Int) = _
  rw [BitVec.toNat_and, h1, h2, IntKind.wrap_u32]
  omega
theorem u32_or (a b : Nat) (ha : a < 4294967296) (hb : b < 4294967296) : bits .or .u32 (a : Int) (b : Int) = ((a ||| b : Nat) : Int) := by
  have hx : a ||| b < 2 ^ 32 := Nat.or_lt_two_pow (by omega) (by omega)
  have h1 : (BitVec.ofInt 32 (a : Int)).toNat = a := by
    rw [BitVec.ofInt_natCast, BitVec.toNat_ofNat]; exact Nat.mod_eq_of_lt (by omega)
  have h2 : (BitVec.ofInt 32 (b : Int)).toNat = b := by
    rw [BitVec.ofInt_natCast, BitVec.toNat_ofNat]; exact Nat.mod_eq_of_lt (by omega)
  show IntKind.u32.wrap ((BitVec.ofInt 32 (a : Int) ||| BitVec.ofInt 32 (b : Int)).toNat : Int) = _
  rw [BitVec.toNat_or, h1, h2, IntKind.wrap_u32]
  omega
theorem u32_xor (a b : Nat) (ha : a < 4294967296) (hb : b < 4294967296) : bits .xor .u32 (a : Int) (b : Int) = ((a ^^^ b : Nat) : Int) := by
  have hx : a ^^^ b < 2 ^ 32 := Nat.xor_lt_two_pow (by omega) (by omega)
  have h1 : (BitVec.ofInt 32 (a : Int)).toNat = a := by
    rw [BitVec.ofInt_natCast, BitVec.toNat_ofNat]; exact Nat.mod_eq_of_lt (by omega)
  have h2 : (BitVec.ofInt 32 (b : Int)).toNat = b := by
    rw [BitVec.ofInt_natCast, BitVec.toNat_ofNat]; exact Nat.mod_eq_of_lt (by omega)
  show IntKind.u32.wrap ((BitVec.ofInt 32 (a : Int) ^^^ BitVec.ofInt 32 (b : Int)).toNat : Int) = _
  rw [BitVec.toNat_xor, h1, h2, IntKind.wrap_u32]
  omega
/-- x is the number n, a word. -/
def Wn (x : Int) (n : Nat) : Prop := x = (n : Int) ∧ n < 4294967296
theorem Wn.and {x y : Int} {a b : Nat} (h : Wn x a) (k : Wn y b) : Wn (bits .and .u32 x y) (a &&& b) := by
  obtain ⟨rfl, h⟩ := h
  obtain ⟨rfl, k⟩ := k
  exact ⟨u32_and a b h k, Nat.lt_of_le_of_lt Nat.and_le_left h⟩
theorem Wn.or {x y : Int} {a b : Nat} (h : Wn x a) (k : Wn y b) : Wn (bits .or .u32 x y) (a ||| b) := by
  obtain ⟨rfl, h⟩ := h
  obtain ⟨rfl, k⟩ := k
  exact ⟨u32_or a b h k, Nat.or_lt_two_pow (n := 32) h k⟩
theorem Wn.xor {x y : Int} {a b : Nat} (h : Wn x a) (k : Wn y b) : Wn (bits .xor .u32 x y) (a ^^^ b) := by
  obtain ⟨rfl, h⟩ := h
  obtain ⟨rfl, k⟩ := k
  exact ⟨u32_xor a b h k, Nat.xor_lt_two_pow (n := 32) h k⟩
theorem Wn.div {x : Int} {a : Nat} (h : Wn x a) (n : Nat) : Wn (x / (n : Int)) (a / n) := by
  obtain ⟨rfl, h⟩ := h
  exact ⟨by simp, Nat.lt_of_le_of_lt (Nat.div_le_self _ _) h⟩
theorem Wn.rot {x : Int} {a : Nat} (h : Wn x a) (n : Nat) : Wn (rotF n x) (rotN n a) := by
  have h2 : Wn (x / 2 ^ n) (a / 2 ^ n) := by
    have := h.div (2 ^ n)
    simpa using this
  have h1 : Wn (x * 2 ^ (32 - n) % 4294967296) (a * 2 ^ (32 - n) % 4294967296) := by
    obtain ⟨rfl, h⟩ := h
    exact ⟨by simp, Nat.mod_lt _ (by decide)⟩
  unfold rotF rotN
  exact h1.or h2
theorem Wn.mod (n : Nat) : Wn (((n : Nat) : Int) % 4294967296) (n % 4294967296) := ⟨by simp, Nat.mod_lt _ (by decide)⟩
theorem Wn.sch {f : Nat → Int} {t a b c d : Nat} (ha : Wn (f (t - 16)) a) (hb : Wn (f (t - 15)) b) (hc : Wn (f (t - 7)) c) (hd : Wn (f (t - 2)) d) :
    Wn (schF f t) ((a + (rotN 7 b ^^^ rotN 18 b ^^^ b / 8) + c + (rotN 17 d ^^^ rotN 19 d ^^^ d / 1024)) % 4294967296) := by
  unfold schF
  have h1 := ((hb.rot 7).xor (hb.rot 18)).xor (hb.div 8)
  have h2 := ((hd.rot 17).xor (hd.rot 19)).xor (hd.div 1024)
  have := Wn.mod (a + (rotN 7 b ^^^ rotN 18 b ^^^ b / 8) + c + (rotN 17 d ^^^ rotN 19 d ^^^ d / 1024))
  rw [Int.natCast_add, Int.natCast_add, Int.natCast_add] at this
  rw [show (f (t - 15) / 8) = f (t - 15) / ((8 : Nat) : Int) from rfl, show (f (t - 2) / 1024) = f (t - 2) / ((1024 : Nat) : Int) from rfl, ha.1, h1.1, hc.1, h2.1]
  exact this
/-- Eight words. -/
def St8 (s : Nat → Int) (a b c d e f g h : Nat) : Prop := Wn (s 0) a ∧ Wn (s 1) b ∧ Wn (s 2) c ∧ Wn (s 3) d ∧ Wn (s 4) e ∧ Wn (s 5) f ∧ Wn (s 6) g ∧ Wn (s 7) h
theorem St8.rnd {s : Nat → Int} {a b c d e f g h K w t1 : Nat} (hs : St8 s a b c d e f g h) {k x : Int} (hk : k = (K : Int)) (hx : Wn x w) (ht : t1 = h + (rotN 6 e ^^^ rotN 11 e ^^^ rotN 25 e) + ((e &&& f) ^^^ ((4294967295 ^^^ e) &&& g)) + K + w) :
    St8 (rndF s k x) ((t1 + ((rotN 2 a ^^^ rotN 13 a ^^^ rotN 22 a) + ((a &&& b) ^^^ (a &&& c) ^^^ (b &&& c)))) % 4294967296) a b c ((d + t1) % 4294967296) e f g := by
  obtain ⟨ha, hb, hc, hd, he, hf, hg, hh⟩ := hs
  have hM : Wn IntKind.u32.max 4294967295 := ⟨rfl, by decide⟩
  have s1 := ((he.rot 6).xor (he.rot 11)).xor (he.rot 25)
  have ch := (he.and hf).xor ((hM.xor he).and hg)
  have s0 := ((ha.rot 2).xor (ha.rot 13)).xor (ha.rot 22)
  have mj := ((ha.and hb).xor (ha.and hc)).xor (hb.and hc)
  have e1 : t1F s k x = (t1 : Int) % 4294967296 := by
    unfold t1F
    rw [hh.1, s1.1, ch.1, hk, hx.1, IntKind.wrap_u32, IntKind.wrap_u32, IntKind.wrap_u32, IntKind.wrap_u32, ht]
    omega
  have e2 : t2F (s 0) (s 1) (s 2) = (((rotN 2 a ^^^ rotN 13 a ^^^ rotN 22 a) + ((a &&& b) ^^^ (a &&& c) ^^^ (b &&& c)) : Nat) : Int) := by
    unfold t2F
    rw [s0.1, mj.1, Int.natCast_add]
  refine ⟨?_, ha, hb, hc, ?_, he, hf, hg⟩
  · rw [rnd0, e1, e2]
    exact ⟨by omega, Nat.mod_lt _ (by decide)⟩
  · rw [rnd4, e1, hd.1]
    exact ⟨by omega, Nat.mod_lt _ (by decide)⟩
end Go.Proofs.YtjeclmmikjpinaaDoor
