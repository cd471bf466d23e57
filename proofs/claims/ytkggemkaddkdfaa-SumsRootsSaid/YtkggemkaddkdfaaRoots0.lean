/-
  Plain words of the roots of primes: the first primes, numbers in parts of 16 bits, and roots bit by bit. No program, no memory.
-/
import Derived.WalkKit
namespace Go.Proofs.Ytkggemkaddkdfaa.Rt
/-- The primes below k. -/
def P : Nat → List Nat
  | 0 => []
  | k + 1 => if 2 ≤ k ∧ (P k).all (fun p => k % p != 0) = true then P k ++ [k] else P k
theorem P_prefix (k j : Nat) : ∃ r, P (k + j) = P k ++ r := by
  induction j with
  | zero => exact ⟨[], by simp⟩
  | succ j ih =>
    obtain ⟨r, hr⟩ := ih
    rw [← Nat.add_assoc]
    simp only [P]
    split
    · exact ⟨r ++ [k + j], by rw [hr, List.append_assoc]⟩
    · exact ⟨r, hr⟩
theorem P_all {k K : Nat} (h : k ≤ K) (hl : (P K).length ≤ (P k).length) : P k = P K := by
  obtain ⟨r, hr⟩ := P_prefix k (K - k)
  rw [show k + (K - k) = K by omega] at hr
  rw [hr, List.length_append] at hl
  obtain rfl : r = [] := List.eq_nil_of_length_eq_zero (by omega)
  rw [hr, List.append_nil]
theorem P_lt (k : Nat) : ∀ p ∈ P k, 2 ≤ p ∧ p < k := by
  induction k with
  | zero => intro p h; cases h
  | succ k ih =>
    intro p h
    simp only [P] at h
    split at h
    · rename_i hc
      rcases List.mem_append.1 h with h | h
      · have := ih p h; omega
      · have : p = k := by simpa using h
        omega
    · have := ih p h; omega
theorem P_len (k : Nat) : (P k).length ≤ k := by
  induction k with
  | zero => simp [P]
  | succ k ih =>
    simp only [P]
    split
    · rw [List.length_append]; simp; omega
    · omega
/-- The number of parts of 16 bits, the least one first. -/
def V : List Nat → Nat
  | [] => 0
  | a :: l => a + 65536 * V l
theorem V_append (l m : List Nat) : V (l ++ m) = V l + 65536 ^ l.length * V m := by
  induction l with
  | nil => simp [V]
  | cons a l ih =>
    simp only [List.cons_append, V, ih, List.length_cons, Nat.pow_succ]
    rw [Nat.mul_add, Nat.mul_comm (65536 ^ l.length) 65536, Nat.mul_assoc, Nat.add_assoc]
theorem V_lt (l : List Nat) (h : ∀ a ∈ l, a < 65536) : V l < 65536 ^ l.length := by
  induction l with
  | nil => simp [V]
  | cons a l ih =>
    have h1 := h a (by simp)
    have h2 := ih fun b hb => h b (by simp [hb])
    simp only [V, List.length_cons, Nat.pow_succ]
    omega
theorem V_replicate (n : Nat) : V (List.replicate n 0) = 0 := by
  induction n with
  | zero => rfl
  | succ n ih => simp [List.replicate_succ, V, ih]
theorem V_set (l : List Nat) : ∀ (k y : Nat), k < l.length → V (l.set k y) + l.getD k 0 * 65536 ^ k = V l + y * 65536 ^ k := by
  induction l with
  | nil => intro k y h; simp at h
  | cons a l ih =>
    intro k y h
    cases k with
    | zero => simp [V]; omega
    | succ k =>
      have := ih k y (by simpa using h)
      simp only [List.set_cons_succ, V, List.getD_cons_succ, Nat.pow_succ]
      have e1 : l.getD k 0 * (65536 ^ k * 65536) = 65536 * (l.getD k 0 * 65536 ^ k) := by rw [← Nat.mul_assoc, Nat.mul_comm]
      have e2 : y * (65536 ^ k * 65536) = 65536 * (y * 65536 ^ k) := by rw [← Nat.mul_assoc, Nat.mul_comm]
      rw [e1, e2]
      omega
theorem V_take (l : List Nat) (k : Nat) (h : k < l.length) : V (l.take (k + 1)) = V (l.take k) + l.getD k 0 * 65536 ^ k := by
  rw [List.take_succ_eq_append_getElem h, V_append, List.length_take, Nat.min_eq_left (by omega), List.getD_eq_getElem?_getD, List.getElem?_eq_getElem h]
  simp [V, Nat.mul_comm]
/-- One place of a product. -/
theorem mul_step {r l : List Nat} {X mi i j c : Nat} (hr : i + j < r.length) (hj : j < l.length) (h : V r + c * 65536 ^ (i + j) = X + mi * 65536 ^ i * V (l.take j)) :
    V (r.set (i + j) ((r.getD (i + j) 0 + mi * l.getD j 0 + c) % 65536)) + (r.getD (i + j) 0 + mi * l.getD j 0 + c) / 65536 * 65536 ^ (i + j + 1) = X + mi * 65536 ^ i * V (l.take (j + 1)) := by
  have h1 := V_set r (i + j) ((r.getD (i + j) 0 + mi * l.getD j 0 + c) % 65536) hr
  generalize hv : r.getD (i + j) 0 + mi * l.getD j 0 + c = v at h1 ⊢
  have h2 : v % 65536 * 65536 ^ (i + j) + v / 65536 * 65536 ^ (i + j + 1) = v * 65536 ^ (i + j) := by
    rw [Nat.pow_succ, Nat.mul_comm (65536 ^ (i + j)) 65536, ← Nat.mul_assoc, ← Nat.add_mul]
    congr 1
    omega
  have h3 : v * 65536 ^ (i + j) = r.getD (i + j) 0 * 65536 ^ (i + j) + mi * l.getD j 0 * 65536 ^ (i + j) + c * 65536 ^ (i + j) := by
    rw [← hv, Nat.add_mul, Nat.add_mul]
  have h4 : mi * 65536 ^ i * V (l.take (j + 1)) = mi * 65536 ^ i * V (l.take j) + mi * l.getD j 0 * 65536 ^ (i + j) := by
    rw [V_take l j hj, Nat.mul_add, Nat.pow_add]
    congr 1
    ac_rfl
  rw [h4]
  omega
theorem mul_bound {a m l c : Nat} (ha : a < 65536) (hm : m < 65536) (hl : l < 65536) (hc : c < 65536) : a + m * l + c < 4294967296 := by
  have : m * l ≤ 65535 * 65535 := Nat.mul_le_mul (by omega) (by omega)
  omega
/-- Is the power above p times 2 to 32 times the power? -/
def above (x power p : Nat) : Bool := decide (p * 65536 ^ (2 * power) < x ^ power)
theorem above_of {m : List Nat} {power p : Nat} (hm : ∀ a ∈ m, a < 65536) (hl : 2 * power ≤ m.length) :
    (decide (p < V (m.drop (2 * power))) || (decide (V (m.drop (2 * power)) = p) && (m.take (2 * power)).any fun a => decide (0 < a))) = decide (p * 65536 ^ (2 * power) < V m) := by
  have h0 : V m = V (m.take (2 * power)) + 65536 ^ (2 * power) * V (m.drop (2 * power)) := by
    conv => lhs; rw [← List.take_append_drop (2 * power) m]
    rw [V_append, List.length_take, Nat.min_eq_left hl]
  have h1 : V (m.take (2 * power)) < 65536 ^ (2 * power) := by
    have := V_lt (m.take (2 * power)) fun a ha => hm a (List.mem_of_mem_take ha)
    rwa [List.length_take, Nat.min_eq_left hl] at this
  have h2 : ((m.take (2 * power)).any fun a => decide (0 < a)) = decide (0 < V (m.take (2 * power))) := by
    generalize m.take (2 * power) = l
    induction l with
    | nil => rfl
    | cons a l ih =>
      simp only [List.any_cons, ih, V]
      rw [← Bool.decide_or]
      congr 1
      rw [eq_iff_iff]
      omega
  rw [h2, h0]
  generalize V (m.take (2 * power)) = lo at *
  generalize V (m.drop (2 * power)) = top at *
  generalize 65536 ^ (2 * power) = M at *
  rw [Bool.eq_iff_iff]
  simp only [Bool.or_eq_true, Bool.and_eq_true, decide_eq_true_eq]
  constructor
  · rintro (h | ⟨rfl, h⟩)
    · have : (p + 1) * M ≤ top * M := Nat.mul_le_mul_right _ h
      rw [Nat.add_mul] at this
      rw [Nat.mul_comm M top]
      omega
    · rw [Nat.mul_comm M top]; omega
  · intro h
    rcases Nat.lt_trichotomy p top with h3 | h3 | h3
    · exact .inl h3
    · subst h3
      rw [Nat.mul_comm M p] at h
      exact .inr ⟨rfl, by omega⟩
    · exfalso
      have : (top + 1) * M ≤ p * M := Nat.mul_le_mul_right _ h3
      rw [Nat.add_mul] at this
      rw [Nat.mul_comm M top] at h
      omega
/-- The root's first j bits. -/
def rt (power p : Nat) : Nat → Nat
  | 0 => 0
  | j + 1 => if above (rt power p j ||| 2 ^ (36 - j)) power p = true then rt power p j else rt power p j ||| 2 ^ (36 - j)
theorem rt_lt (power p j : Nat) : rt power p j < 2 ^ 37 := by
  induction j with
  | zero => simp [rt]
  | succ j ih =>
    simp only [rt]
    split
    · exact ih
    · exact Nat.or_lt_two_pow ih (Nat.pow_lt_pow_right (by omega) (by omega))
def roots (n power : Nat) : List Nat := (P n).map fun p => rt power p 37 % 4294967296
theorem roots_h : (roots 20 2).map (fun (n : Nat) => (n : Int)) = [0x6a09e667, 0xbb67ae85, 0x3c6ef372, 0xa54ff53a, 0x510e527f, 0x9b05688c, 0x1f83d9ab, 0x5be0cd19] := by decide +kernel
theorem P_20 : (P 20).length = 8 := by decide +kernel
theorem P_312 : (P 312).length = 64 := by decide +kernel
end Go.Proofs.Ytkggemkaddkdfaa.Rt
