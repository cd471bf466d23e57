/-
  Plain words of SHA-256: the words of a block, the rounds, the compression. No program, no memory.
-/
import Derived.Test.YtkjgbldooflodaaSha0
namespace Go.Proofs.Ytkjgbldooflodaa.Sha
open Go
/-- The number of four bytes from place i on, as the walk spells it. -/
def byteAt (b : ByteArray) (i : Nat) : Int := if h : i < b.size then ((b[i]'h).toNat : Int) else 0
def be32 (b : ByteArray) (i : Nat) : Int :=
  Go.bits .or .u32 (Go.bits .or .u32 (Go.bits .or .u32 (byteAt b i * 16777216) (byteAt b (i + 1) * 65536)) (byteAt b (i + 2) * 256)) (byteAt b (i + 3))
/-- The word behind the words l. -/
def wstep (l : List Int) (t : Nat) : Int :=
  (l.getD (t - 16) 0 + sg0 (l.getD (t - 15) 0) + l.getD (t - 7) 0 + sg1 (l.getD (t - 2) 0)) % 4294967296
def zeros64 : List Int := List.replicate 64 0
theorem zeros64_length : zeros64.length = 64 := rfl
def wgo (f : Nat → Int) : Nat → List Int
  | 0 => []
  | t + 1 => wgo f t ++ [if t < 16 then f t else wstep (wgo f t) t]
theorem wgo_length (f : Nat → Int) (t : Nat) : (wgo f t).length = t := by
  induction t with
  | zero => rfl
  | succ t ih => simp [wgo, ih]
/-- An array in which the first t words are made. -/
def arr (f : Nat → Int) (old : List Int) (t : Nat) : List Int := wgo f t ++ old.drop t
theorem arr_length (f : Nat → Int) (old : List Int) (t : Nat) (h : t ≤ old.length) : (arr f old t).length = old.length := by
  simp [arr, wgo_length]; omega
theorem arr_get (f : Nat → Int) (old : List Int) (t j : Nat) (h : j < t) : (arr f old t).getD j 0 = (wgo f t).getD j 0 := by
  simp [arr, List.getD_eq_getElem?_getD, List.getElem?_append_left, wgo_length, h]
theorem arr_set (f : Nat → Int) (old : List Int) (t : Nat) (h : t < old.length) :
    (arr f old t).set t (if t < 16 then f t else wstep (wgo f t) t) = arr f old (t + 1) := by
  have e : old.drop t = old[t] :: old.drop (t + 1) := List.drop_eq_getElem_cons h
  simp only [arr, wgo]
  rw [List.set_append_right _ _ (by rw [wgo_length]; omega)]
  simp only [wgo_length, Nat.sub_self, List.append_assoc, List.singleton_append]
  rw [e]
  rfl
/-- A round over eight numbers: the sums that are not yet cut to 32 bits, and what becomes of the numbers. -/
def one (ws v : List Int) (t : Nat) : Int :=
  v.getD 7 0 + Go.bits .xor .u32 (Go.bits .xor .u32 (rotr (v.getD 4 0) 6) (rotr (v.getD 4 0) 11)) (rotr (v.getD 4 0) 25) +
    Go.bits .xor .u32 (Go.bits .and .u32 (v.getD 4 0) (v.getD 5 0)) (Go.bits .and .u32 (Go.bits .xor .u32 IntKind.u32.max (v.getD 4 0)) (v.getD 6 0)) + kst[t]?.getD 0 + ws.getD t 0
def two (v : List Int) : Int :=
  Go.bits .xor .u32 (Go.bits .xor .u32 (rotr (v.getD 0 0) 2) (rotr (v.getD 0 0) 13)) (rotr (v.getD 0 0) 22) +
    Go.bits .xor .u32 (Go.bits .xor .u32 (Go.bits .and .u32 (v.getD 0 0) (v.getD 1 0)) (Go.bits .and .u32 (v.getD 0 0) (v.getD 2 0))) (Go.bits .and .u32 (v.getD 1 0) (v.getD 2 0))
def rnd (ws v : List Int) (t : Nat) : List Int :=
  [(one ws v t + two v) % 4294967296, v.getD 0 0, v.getD 1 0, v.getD 2 0, (v.getD 3 0 + one ws v t) % 4294967296, v.getD 4 0, v.getD 5 0, v.getD 6 0]
theorem rnd_eq (ws : List Int) (v0 v1 v2 v3 v4 v5 v6 v7 : Int) (t : Nat) : rnd ws [v0, v1, v2, v3, v4, v5, v6, v7] t =
  [(v7 + Go.bits .xor .u32 (Go.bits .xor .u32 (rotr v4 6) (rotr v4 11)) (rotr v4 25) +
    Go.bits .xor .u32 (Go.bits .and .u32 v4 v5) (Go.bits .and .u32 (Go.bits .xor .u32 IntKind.u32.max v4) v6) + kst[t]?.getD 0 + ws.getD t 0 +
    (Go.bits .xor .u32 (Go.bits .xor .u32 (rotr v0 2) (rotr v0 13)) (rotr v0 22) +
    Go.bits .xor .u32 (Go.bits .xor .u32 (Go.bits .and .u32 v0 v1) (Go.bits .and .u32 v0 v2)) (Go.bits .and .u32 v1 v2))) % 4294967296, v0, v1, v2,
   (v3 + (v7 + Go.bits .xor .u32 (Go.bits .xor .u32 (rotr v4 6) (rotr v4 11)) (rotr v4 25) +
    Go.bits .xor .u32 (Go.bits .and .u32 v4 v5) (Go.bits .and .u32 (Go.bits .xor .u32 IntKind.u32.max v4) v6) + kst[t]?.getD 0 + ws.getD t 0)) % 4294967296, v4, v5, v6] := rfl
def rounds (ws : List Int) (v : List Int) : Nat → List Int
  | 0 => v
  | t + 1 => rnd ws (rounds ws v t) t
/-- The first t numbers of h with those of v added. -/
def add8 (h v : List Int) (t : Nat) : List Int := (List.range 8).map fun i => if i < t then (h.getD i 0 + v.getD i 0) % 4294967296 else h.getD i 0
theorem add8_zero (h0 h1 h2 h3 h4 h5 h6 h7 : Int) (v : List Int) : add8 [h0, h1, h2, h3, h4, h5, h6, h7] v 0 = [h0, h1, h2, h3, h4, h5, h6, h7] := rfl
theorem add8_set (h v : List Int) (t : Nat) (ht : t < 8) : (add8 h v t).set t ((h.getD t 0 + v.getD t 0) % 4294967296) = add8 h v (t + 1) := by
  match t, ht with
  | 0, _ => rfl
  | 1, _ => rfl
  | 2, _ => rfl
  | 3, _ => rfl
  | 4, _ => rfl
  | 5, _ => rfl
  | 6, _ => rfl
  | 7, _ => rfl
theorem add8_get (h v : List Int) (t : Nat) (ht : t < 8) : (add8 h v t).getD t 0 = h.getD t 0 := by
  match t, ht with
  | 0, _ => rfl
  | 1, _ => rfl
  | 2, _ => rfl
  | 3, _ => rfl
  | 4, _ => rfl
  | 5, _ => rfl
  | 6, _ => rfl
  | 7, _ => rfl
/-- The state behind a block whose first sixteen words are f's. -/
def compress (f : Nat → Int) (h : List Int) : List Int := add8 h (rounds (wgo f 64) h 64) 8
theorem rounds_length (ws v : List Int) (hv : v.length = 8) (t : Nat) : (rounds ws v t).length = 8 := by
  cases t with
  | zero => exact hv
  | succ t => rfl
theorem compress_length (f : Nat → Int) (h : List Int) : (compress f h).length = 8 := rfl
end Go.Proofs.Ytkjgbldooflodaa.Sha
