/-
  Plain words of SHA-256: whole texts. No program, no memory.
-/
import Derived.Test.YtkjgbldooflodaaSha2
import Derived.Lib.Strings
import Derived.Lib.IndexBytes
import Derived.Lib.Repeat
import Derived.Laws.BytesArg
namespace Go.Proofs.Ytkjgbldooflodaa.Sha
open Go
def bl (l : List UInt8) (i : Nat) : Int := ((l.getD i 0).toNat : Int)
/-- The number of four bytes from place 4 t on. -/
def word (l : List UInt8) (t : Nat) : Int :=
  Go.bits .or .u32 (Go.bits .or .u32 (Go.bits .or .u32 (bl l (4 * t) * 16777216) (bl l (4 * t + 1) * 65536)) (bl l (4 * t + 2) * 256)) (bl l (4 * t + 3))
theorem byteAt_bl (b : ByteArray) (i : Nat) (h : i < b.size) : byteAt b i = bl b.data.toList i := by
  unfold byteAt bl
  rw [dif_pos h]
  have h' : i < b.data.toList.length := by simpa using h
  rw [List.getD_eq_getElem?_getD, List.getElem?_eq_getElem h']
  rfl
theorem wgo_congr (f g : Nat → Int) (h : ∀ t, t < 16 → f t = g t) (n : Nat) : wgo f n = wgo g n := by
  induction n with
  | zero => rfl
  | succ n ih =>
    simp only [wgo, ih]
    by_cases hn : n < 16
    · rw [if_pos hn, if_pos hn, h n hn]
    · rw [if_neg hn, if_neg hn]
theorem compress_congr (f g : Nat → Int) (h : ∀ t, t < 16 → f t = g t) (v : List Int) : compress f v = compress g v := by
  unfold compress
  rw [wgo_congr f g h]
/-- The state behind the first k blocks of l. -/
def absorb (h : List Int) (l : List UInt8) : Nat → List Int
  | 0 => h
  | k + 1 => compress (word (l.drop (64 * k))) (absorb h l k)
theorem absorb_length (h : List Int) (l : List UInt8) (hh : h.length = 8) (k : Nat) : (absorb h l k).length = 8 := by
  cases k with
  | zero => exact hh
  | succ k => rfl
theorem absorb_add (h : List Int) (l : List UInt8) (a b : Nat) : absorb h l (a + b) = absorb (absorb h l a) (l.drop (64 * a)) b := by
  induction b with
  | zero => rfl
  | succ b ih =>
    show compress _ (absorb h l (a + b)) = compress _ _
    rw [ih, List.drop_drop, show 64 * Nat.add a b = 64 * a + 64 * b from Nat.mul_add 64 a b]
theorem bl_take (l l' : List UInt8) (n i : Nat) (hi : i < n) (h : l.take n = l'.take n) : bl l i = bl l' i := by
  have h1 : l[i]? = l'[i]? := by
    have := congrArg (fun x => x[i]?) h
    simpa [List.getElem?_take, hi] using this
  simp only [bl, List.getD_eq_getElem?_getD, h1]
theorem word_take (l l' : List UInt8) (t : Nat) (ht : t < 16) (h : l.take 64 = l'.take 64) : word l t = word l' t := by
  unfold word
  rw [bl_take l l' 64 _ (by omega) h, bl_take l l' 64 (4 * t + 1) (by omega) h, bl_take l l' 64 (4 * t + 2) (by omega) h, bl_take l l' 64 (4 * t + 3) (by omega) h]
theorem absorb_take (h : List Int) (l l' : List UInt8) (k : Nat) (hl : l.take (64 * k) = l'.take (64 * k)) : absorb h l k = absorb h l' k := by
  induction k with
  | zero => rfl
  | succ k ih =>
    have h1 : l.take (64 * k) = l'.take (64 * k) := by
      have := congrArg (List.take (64 * k)) hl
      simpa [List.take_take, Nat.min_eq_left (show 64 * k ≤ 64 * (k + 1) by omega)] using this
    have h2 : (l.drop (64 * k)).take 64 = (l'.drop (64 * k)).take 64 := by
      have := congrArg (List.drop (64 * k)) hl
      simp only [List.drop_take] at this
      rwa [show 64 * (k + 1) - 64 * k = 64 by omega] at this
    show compress _ _ = compress _ _
    rw [ih h1]
    exact compress_congr _ _ (fun t ht => word_take _ _ t ht h2) _
/-- A block that is handed over as a text of its own. -/
theorem compress_block (b : ByteArray) (l : List UInt8) (hb : b.size = 64) (h : b.data.toList = l.take 64) (v : List Int) : compress (fun t => be32 b (4 * t)) v = compress (word l) v := by
  refine compress_congr _ _ (fun t ht => ?_) v
  have e : b.data.toList.take 64 = l.take 64 := by rw [h, List.take_take]; rfl
  rw [← word_take b.data.toList l t ht e]
  unfold be32 word
  rw [byteAt_bl b _ (by omega), byteAt_bl b (4 * t + 1) (by omega), byteAt_bl b (4 * t + 2) (by omega), byteAt_bl b (4 * t + 3) (by omega)]
def h0 : List Int := [0x6a09e667, 0xbb67ae85, 0x3c6ef372, 0xa54ff53a, 0x510e527f, 0x9b05688c, 0x1f83d9ab, 0x5be0cd19]
/-- The first j bytes of the length in bits. -/
def len8 (n : Nat) : Nat → List UInt8
  | 0 => []
  | j + 1 => len8 n j ++ [UInt8.ofNat ((n * 8 / 2 ^ (56 - 8 * j)) % 256)]
theorem len8_length (n j : Nat) : (len8 n j).length = j := by
  induction j with
  | zero => rfl
  | succ j ih => simp [len8, ih]
/-- The bytes of the first j numbers of h. -/
def out4 (h : List Int) : Nat → List Int
  | 0 => []
  | j + 1 => out4 h j ++ [h.getD j 0 / 16777216 % 256, h.getD j 0 / 65536 % 256, h.getD j 0 / 256 % 256, h.getD j 0 % 256]
theorem out4_length (h : List Int) (j : Nat) : (out4 h j).length = 4 * j := by
  induction j with
  | zero => rfl
  | succ j ih => simp [out4, ih]; omega
theorem absorb_pad (h : List Int) (l tail : List UInt8) (k i : Nat) (hk : 64 * k ≤ l.length) : absorb (absorb h l k) (l.drop (64 * k) ++ tail) i = absorb h (l ++ tail) (k + i) := by
  rw [absorb_add, List.drop_append_of_le_length hk, absorb_take h (l ++ tail) l k (by rw [List.take_append_of_le_length hk])]
/-- What stands behind a text of n bytes. -/
def tail (n : Nat) : List UInt8 := [128] ++ List.replicate ((119 - n % 64) % 64) 0 ++ len8 n 8
/-- The fingerprint of a text, as bytes' numbers. -/
def digest (l : List UInt8) : List Int := out4 (absorb h0 (l ++ tail l.length) ((l.length + (tail l.length).length) / 64)) 8
def sha (s : ByteArray) : ByteArray := strOfNums (digest s.data.toList)
theorem repeat_zero (q : Nat) : Lib.repeatL [0] q = List.replicate q (0 : UInt8) := by
  induction q with
  | zero => rfl
  | succ q ih => simp [Lib.repeatL, ih, List.replicate_succ]
theorem tail_length (n : Nat) : (tail n).length = 1 + (119 - n % 64) % 64 + 8 := by simp [tail, len8_length]; omega
/-- The way of the program: first the whole blocks of the text, then what is left of it with its tail. -/
theorem digest_of (l : List UInt8) (k i q : Nat) (hk : 64 * k ≤ l.length) (hr : l.length - 64 * k < 64) (hq : (q : Int) = (119 - ((l.length - 64 * k : Nat) : Int)) % 64)
    (hi : 64 * i = l.length - 64 * k + (1 + q) + 8) :
    absorb (absorb h0 l k) (l.drop (64 * k) ++ ([128] ++ List.replicate q 0) ++ len8 l.length 8) i = absorb h0 (l ++ tail l.length) ((l.length + (tail l.length).length) / 64) := by
  have hm : l.length % 64 = l.length - 64 * k := by omega
  have hq' : (119 - l.length % 64) % 64 = q := by omega
  have ht : tail l.length = [128] ++ List.replicate q 0 ++ len8 l.length 8 := by unfold tail; rw [hq']
  rw [List.append_assoc, ← ht, absorb_pad _ _ _ _ _ hk]
  congr 1
  rw [tail_length, hq']
  omega
end Go.Proofs.Ytkjgbldooflodaa.Sha
