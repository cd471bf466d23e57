/-
  Plain words of the check sum: bit by bit, four bits at a time, and that up to four bytes that are turned are seen. No program, no memory.
-/
import Derived.WalkKit
namespace Go.Proofs.YtkggemkaddkdfaaDoor.Crc
/-- One bit. -/
def step (v : BitVec 32) : BitVec 32 := (v >>> 1) ^^^ (if v.getLsbD 0 then 0xEDB88320#32 else 0#32)
def steps : Nat → BitVec 32 → BitVec 32
  | 0, v => v
  | n + 1, v => step (steps n v)
def ofByte (b : UInt8) : BitVec 32 := BitVec.ofNat 32 b.toNat
def byte (v : BitVec 32) (b : UInt8) : BitVec 32 := steps 8 (v ^^^ ofByte b)
def go (v : BitVec 32) (l : List UInt8) : BitVec 32 := l.foldl byte v
def crc (l : List UInt8) : BitVec 32 := ~~~ go (BitVec.allOnes 32) l
/-- What four bits make. -/
def tab (i : Nat) : BitVec 32 := steps 4 (BitVec.ofNat 32 i)
def nib (v : BitVec 32) : BitVec 32 := (v >>> 4) ^^^ tab (v.toNat % 16)
theorem step_xor (a b : BitVec 32) : step (a ^^^ b) = step a ^^^ step b := by
  unfold step
  rw [BitVec.ushiftRight_xor_distrib, BitVec.getLsbD_xor]
  cases a.getLsbD 0 <;> cases b.getLsbD 0 <;> simp [BitVec.xor_assoc]
  · rw [BitVec.xor_comm]
  · rw [BitVec.xor_comm (b >>> 1), ← BitVec.xor_assoc (0xEDB88320#32), BitVec.xor_self, BitVec.zero_xor]
theorem steps_xor (n : Nat) (a b : BitVec 32) : steps n (a ^^^ b) = steps n a ^^^ steps n b := by
  induction n with
  | zero => rfl
  | succ n ih => simp only [steps]; rw [ih, step_xor]
theorem steps_add (m n : Nat) (v : BitVec 32) : steps (m + n) v = steps m (steps n v) := by
  induction m with
  | zero => rw [Nat.zero_add]; rfl
  | succ m ih => rw [Nat.succ_add]; simp only [steps]; rw [ih]
theorem step_even (a : BitVec 32) (h : a.getLsbD 0 = false) : step a = a >>> 1 := by
  unfold step; rw [h]; simp
/-- k bits at the end that are none are shifted out. -/
theorem steps_shift (k : Nat) : ∀ a : BitVec 32, (∀ i, i < k → a.getLsbD i = false) → steps k a = a >>> k := by
  induction k with
  | zero => intro a _; simp [steps]
  | succ k ih =>
    intro a h
    simp only [steps]
    rw [ih a (fun i hi => h i (by omega)), step_even _ (by rw [BitVec.getLsbD_ushiftRight]; exact h _ (by omega)), ← BitVec.shiftRight_add]
theorem step_inj {a b : BitVec 32} (h : step a = step b) : a = b := by
  have hl : ∀ v : BitVec 32, (step v).getLsbD 31 = v.getLsbD 0 := fun v => by
    unfold step
    rw [BitVec.getLsbD_xor, BitVec.getLsbD_ushiftRight]
    cases v.getLsbD 0
    · simp
    · simp
  have h0 : a.getLsbD 0 = b.getLsbD 0 := by rw [← hl a, ← hl b, h]
  have h1 : a >>> 1 = b >>> 1 := by
    unfold step at h
    rw [h0] at h
    exact BitVec.xor_right_inj _ |>.1 (by rw [BitVec.xor_comm, h, BitVec.xor_comm])
  apply BitVec.eq_of_getLsbD_eq
  intro i hi
  cases i with
  | zero => exact h0
  | succ i =>
    have h2 := congrArg (fun v => BitVec.getLsbD v i) h1
    simp only [BitVec.getLsbD_ushiftRight] at h2
    rw [Nat.add_comm]
    exact h2
theorem steps_inj {n : Nat} {a b : BitVec 32} (h : steps n a = steps n b) : a = b := by
  induction n with
  | zero => exact h
  | succ n ih => exact ih (step_inj h)
theorem go_inj {l : List UInt8} : ∀ {a b : BitVec 32}, go a l = go b l → a = b := by
  induction l with
  | nil => intro a b h; exact h
  | cons x l ih =>
    intro a b h
    have h1 := steps_inj (ih (a := byte a x) (b := byte b x) h)
    exact BitVec.xor_left_inj _ |>.1 h1
theorem nib_eq (v : BitVec 32) : nib v = steps 4 v := by
  have hv : v = ((v >>> 4) <<< 4) ^^^ BitVec.ofNat 32 (v.toNat % 16) := by
    apply BitVec.eq_of_getLsbD_eq
    intro i hi
    rw [BitVec.getLsbD_xor, BitVec.getLsbD_shiftLeft, BitVec.getLsbD_ushiftRight, BitVec.getLsbD_ofNat, show (16 : Nat) = 2 ^ 4 from rfl, Nat.testBit_mod_two_pow]
    by_cases h4 : i < 4
    · simp [h4, hi, BitVec.getLsbD]
    · simp [h4, hi, show 4 + (i - 4) = i by omega]
  have h1 : steps 4 ((v >>> 4) <<< 4) = v >>> 4 := by
    rw [steps_shift 4 _ (fun i hi => by rw [BitVec.getLsbD_shiftLeft]; simp [hi])]
    apply BitVec.eq_of_getLsbD_eq
    intro i hi
    rw [BitVec.getLsbD_ushiftRight, BitVec.getLsbD_shiftLeft, BitVec.getLsbD_ushiftRight]
    by_cases h : 4 + i < 32
    · simp [h]
    · simp [h, BitVec.getLsbD_of_ge v (4 + i) (by omega)]
  conv => rhs; rw [hv]
  rw [steps_xor, h1]
  rfl
theorem byte_nibs (v : BitVec 32) (b : UInt8) : nib (nib (v ^^^ ofByte b)) = byte v b := by
  rw [nib_eq, nib_eq, ← steps_add]; rfl
/-- The word of up to four bytes. -/
def word : List UInt8 → Nat
  | [] => 0
  | b :: l => b.toNat + 256 * word l
theorem word_lt (l : List UInt8) : word l < 256 ^ l.length := by
  induction l with
  | nil => simp [word]
  | cons b l ih =>
    have := b.toNat_lt
    simp only [word, List.length_cons, Nat.pow_succ]
    omega
theorem word_inj : ∀ {l m : List UInt8}, l.length = m.length → word l = word m → l = m := by
  intro l
  induction l with
  | nil => intro m h _; exact (List.eq_nil_of_length_eq_zero h.symm).symm
  | cons a l ih =>
    intro m h hw
    cases m with
    | nil => simp at h
    | cons b m =>
      have ha := a.toNat_lt
      have hb := b.toNat_lt
      simp only [word] at hw
      have h1 : a.toNat = b.toNat := by omega
      have h2 := ih (by simpa using h) (by omega)
      rw [UInt8.toNat_inj.1 h1, h2]
theorem go_word : ∀ (l : List UInt8) (v : BitVec 32), l.length ≤ 4 → go v l = steps (8 * l.length) (v ^^^ BitVec.ofNat 32 (word l)) := by
  intro l
  induction l with
  | nil => intro v _; simp [go, word, steps]
  | cons b l ih =>
    intro v h
    simp only [List.length_cons] at h
    have hw := word_lt l
    have hp : 256 ^ l.length ≤ 256 ^ 3 := Nat.pow_le_pow_right (by omega) (by omega)
    have hb := b.toNat_lt
    have hx : BitVec.ofNat 32 (word (b :: l)) = ofByte b ^^^ (BitVec.ofNat 32 (word l) <<< 8) := by
      apply BitVec.eq_of_getLsbD_eq
      intro i hi
      rw [BitVec.getLsbD_xor, BitVec.getLsbD_shiftLeft, BitVec.getLsbD_ofNat]
      unfold ofByte
      rw [BitVec.getLsbD_ofNat]
      simp only [word]
      rw [show b.toNat + 256 * word l = 2 ^ 8 * word l + b.toNat by omega, Nat.testBit_two_pow_mul_add _ (by omega)]
      by_cases h8 : i < 8
      · simp [h8, hi]
      · have : b.toNat.testBit i = false := Nat.testBit_lt_two_pow (Nat.lt_of_lt_of_le (show b.toNat < 2 ^ 8 by omega) (Nat.pow_le_pow_right (by omega) (by omega)))
        simp [h8, hi, this, show i - 8 < 32 by omega]
        rw [← BitVec.getLsbD_eq_getElem, BitVec.getLsbD_ofNat]
        simp [show i - 8 < 32 by omega]
    have hs : steps 8 (BitVec.ofNat 32 (word l) <<< 8) = BitVec.ofNat 32 (word l) := by
      rw [steps_shift 8 _ (fun i hi => by rw [BitVec.getLsbD_shiftLeft]; simp [hi])]
      apply BitVec.eq_of_toNat_eq
      rw [BitVec.toNat_ushiftRight, BitVec.toNat_shiftLeft, BitVec.toNat_ofNat, Nat.shiftLeft_eq, Nat.shiftRight_eq_div_pow]
      omega
    rw [List.length_cons, hx, ← BitVec.xor_assoc, show 8 * (l.length + 1) = 8 * l.length + 8 by omega, steps_add, steps_xor 8, hs, ← ih _ (by omega)]
    rfl
/-- Up to four bytes that are turned turn the sum. -/
theorem crc_unlike (pre m m' suf : List UInt8) (hl : m.length = m'.length) (h4 : m.length ≤ 4) (h : crc (pre ++ m ++ suf) = crc (pre ++ m' ++ suf)) : m = m' := by
  unfold crc at h
  have h1 : go (BitVec.allOnes 32) (pre ++ m ++ suf) = go (BitVec.allOnes 32) (pre ++ m' ++ suf) := by
    have := congrArg (fun v => ~~~ v) h
    simpa using this
  unfold go at h1
  rw [List.foldl_append, List.foldl_append, List.foldl_append, List.foldl_append] at h1
  have h2 := go_inj h1
  have h3 : go (List.foldl byte (BitVec.allOnes 32) pre) m = go (List.foldl byte (BitVec.allOnes 32) pre) m' := h2
  rw [go_word _ _ h4, go_word _ _ (by omega), ← hl] at h3
  have h5 := BitVec.xor_right_inj _ |>.1 (steps_inj h3)
  have hw := word_lt m
  have hw' := word_lt m'
  have hp : 256 ^ m.length ≤ 256 ^ 4 := Nat.pow_le_pow_right (by omega) h4
  have hp' : 256 ^ m'.length ≤ 256 ^ 4 := Nat.pow_le_pow_right (by omega) (by omega)
  have h6 := congrArg BitVec.toNat h5
  rw [BitVec.toNat_ofNat, BitVec.toNat_ofNat, Nat.mod_eq_of_lt (by omega), Nat.mod_eq_of_lt (by omega)] at h6
  exact word_inj hl h6
end Go.Proofs.YtkggemkaddkdfaaDoor.Crc
