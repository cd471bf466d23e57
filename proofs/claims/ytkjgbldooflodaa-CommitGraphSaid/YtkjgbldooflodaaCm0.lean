/-
  Plain words for commits: which one is right, its bytes, and the commit of bytes. No program.
-/
import Derived.Test.YtkjgbldooflodaaChecked
import Derived.WalkKit
import Derived.Lib.Strings
import Derived.Lib.IndexBytes
namespace Go.Proofs.Ytkjgbldooflodaa
open Go.RowKit
set_option linter.unusedVariables false
set_option linter.unusedSimpArgs false
namespace Cm
/-- A commit. -/
structure C where
  root : ByteArray
  par : List ByteArray
  msg : ByteArray
/-- Two parents that are one? -/
def twice : List ByteArray → Bool
  | [p, q] => p.toList == q.toList
  | _ => false
def fine (l : List ByteArray) : Bool := l.all fun p => decide (p.size = 32)
/-- Is it a commit? -/
def right (c : C) : Bool := decide (c.par.length ≤ 2) && !twice c.par && decide (c.msg.size ≤ 1000) && (decide (c.root.size = 32) && fine c.par)
def by8 (b : ByteArray) (i : Nat) : UInt8 := b.data.toList.getD i 0
def joined (l : List ByteArray) : List UInt8 := l.flatMap fun p => p.data.toList
/-- Its bytes. -/
def writeB (c : C) : List UInt8 := 67 :: (c.root.data.toList ++ (UInt8.ofNat c.par.length :: (joined c.par ++ (UInt8.ofNat (c.msg.size / 256) :: UInt8.ofNat (c.msg.size % 256) :: c.msg.data.toList))))
/-- The parents that stand in bytes. -/
def pars (b : ByteArray) (n : Nat) : List ByteArray := (List.range n).map fun j => b.extract (34 + 32 * j) (66 + 32 * j)
/-- The commit that bytes tell, if they tell one. -/
def cut (b : ByteArray) : C := ⟨b.extract 1 33, pars b (by8 b 33).toNat, b.extract (36 + 32 * (by8 b 33).toNat) b.size⟩
def num (b : ByteArray) (k : Nat) : Nat := (by8 b k).toNat * 256 + (by8 b (k + 1)).toNat
def whole (b : ByteArray) : Bool := decide (34 ≤ b.size) && (by8 b 0 == 67) && decide ((by8 b 33).toNat ≤ 2) && decide (36 + 32 * (by8 b 33).toNat ≤ b.size)
def readC (b : ByteArray) : Option C := if whole b = true ∧ (cut b).msg.size = num b (34 + 32 * (by8 b 33).toNat) ∧ right (cut b) = true then some (cut b) else none
theorem list_ext {a b : ByteArray} (h : a.data.toList = b.data.toList) : a = b := ByteArray.ext (Array.ext' h)
theorem size_list (a : ByteArray) : a.data.toList.length = a.size := rfl
theorem extract_size (b : ByteArray) (i j : Nat) (h : j ≤ b.size) : (b.extract i j).size = j - i := by
  rw [← size_list, Lib.extract_data, List.length_take, List.length_drop, size_list]
  omega
theorem drop_cut (L : List UInt8) (a b : Nat) (h : a ≤ b) : L.drop a = (L.drop a).take (b - a) ++ L.drop b := by
  have : L.drop b = (L.drop a).drop (b - a) := by rw [List.drop_drop]; congr 1; omega
  rw [this, List.take_append_drop]
theorem drop_one (L : List UInt8) (a : Nat) (h : a < L.length) : L.drop a = L.getD a 0 :: L.drop (a + 1) := by
  rw [List.drop_eq_getElem_cons h]
  congr 1
  simp [h]
theorem by8_eq (b : ByteArray) (i : Nat) : by8 b i = b.data.toList.getD i 0 := rfl
theorem ofNat_back (x : UInt8) : UInt8.ofNat x.toNat = x := by simp
theorem joined_pars (b : ByteArray) (n : Nat) (h : 34 + 32 * n ≤ b.size) : joined (pars b n) = (b.data.toList.drop 34).take (32 * n) := by
  induction n with
  | zero => rfl
  | succ n ih =>
    have hs : pars b (n + 1) = pars b n ++ [b.extract (34 + 32 * n) (66 + 32 * n)] := by unfold pars; rw [List.range_succ, List.map_append]; rfl
    have h2 : joined (pars b (n + 1)) = joined (pars b n) ++ (b.extract (34 + 32 * n) (66 + 32 * n)).data.toList := by rw [hs]; unfold joined; simp
    rw [h2, ih (by omega), Lib.extract_data, show 32 * (n + 1) = 32 * n + 32 by omega, List.take_add, List.drop_drop, show 66 + 32 * n - (34 + 32 * n) = 32 by omega]
theorem pars_length (b : ByteArray) (n : Nat) : (pars b n).length = n := by unfold pars; simp
/-- Bytes that tell a commit are that commit's. -/
theorem write_read {b : ByteArray} {c : C} (h : readC b = some c) : right c = true ∧ (⟨(writeB c).toArray⟩ : ByteArray) = b := by
  unfold readC at h
  by_cases hc : whole b = true ∧ (cut b).msg.size = num b (34 + 32 * (by8 b 33).toNat) ∧ right (cut b) = true
  · rw [if_pos hc] at h
    cases h
    obtain ⟨hw, hm, hr⟩ := hc
    refine ⟨hr, list_ext ?_⟩
    unfold whole at hw
    simp only [Bool.and_eq_true, decide_eq_true_eq, beq_iff_eq] at hw
    obtain ⟨⟨⟨w1, w2⟩, w3⟩, w4⟩ := hw
    obtain ⟨n, hn⟩ : ∃ n, n = (by8 b 33).toNat := ⟨_, rfl⟩
    rw [← hn] at w3 w4 hm
    show writeB (cut b) = b.data.toList
    have hlen : b.data.toList.length = b.size := rfl
    have d0 : b.data.toList = 67 :: b.data.toList.drop 1 := by
      have h1 := drop_one b.data.toList 0 (by omega)
      rw [List.drop_zero] at h1
      rw [← w2]
      exact h1
    have d1 : b.data.toList.drop 1 = (b.extract 1 33).data.toList ++ b.data.toList.drop 33 := by rw [Lib.extract_data]; exact drop_cut _ _ _ (by decide)
    have d2 : b.data.toList.drop 33 = by8 b 33 :: b.data.toList.drop 34 := drop_one _ _ (by omega)
    have d3 : b.data.toList.drop 34 = joined (pars b n) ++ b.data.toList.drop (34 + 32 * n) := by
      rw [joined_pars b n (by omega)]
      have := drop_cut b.data.toList 34 (34 + 32 * n) (by omega)
      rwa [show 34 + 32 * n - 34 = 32 * n by omega] at this
    have d4 : b.data.toList.drop (34 + 32 * n) = by8 b (34 + 32 * n) :: b.data.toList.drop (35 + 32 * n) := by
      have := drop_one b.data.toList (34 + 32 * n) (by omega)
      rw [show 34 + 32 * n + 1 = 35 + 32 * n by omega] at this
      exact this
    have d5 : b.data.toList.drop (35 + 32 * n) = by8 b (35 + 32 * n) :: b.data.toList.drop (36 + 32 * n) := by
      have := drop_one b.data.toList (35 + 32 * n) (by omega)
      rw [show 35 + 32 * n + 1 = 36 + 32 * n by omega] at this
      exact this
    have d6 : (b.extract (36 + 32 * n) b.size).data.toList = b.data.toList.drop (36 + 32 * n) := by
      rw [Lib.extract_data, List.take_of_length_le]
      rw [List.length_drop, hlen]
      omega
    unfold num at hm
    rw [show 34 + 32 * n + 1 = 35 + 32 * n by omega] at hm
    have b1 := (by8 b (34 + 32 * n)).toNat_lt
    have b2 := (by8 b (35 + 32 * n)).toNat_lt
    have m1 : (cut b).msg.size / 256 = (by8 b (34 + 32 * n)).toNat := by omega
    have m2 : (cut b).msg.size % 256 = (by8 b (35 + 32 * n)).toNat := by omega
    unfold writeB
    rw [m1, m2, ofNat_back, ofNat_back]
    have hp : (cut b).par = pars b n := by unfold cut; rw [← hn]
    have hg : (cut b).msg = b.extract (36 + 32 * n) b.size := by unfold cut; rw [← hn]
    have hro : (cut b).root = b.extract 1 33 := rfl
    rw [hp, hg, hro, pars_length, d6, ← d5, ← d4, ← d3, hn, ofNat_back, ← d2, ← d1, ← d0]
  · rw [if_neg hc] at h
    cases h
theorem joined_length (l : List ByteArray) (h : fine l = true) : (joined l).length = 32 * l.length := by
  induction l with
  | nil => rfl
  | cons p l ih =>
    unfold fine at h
    rw [List.all_cons, Bool.and_eq_true] at h
    have h1 : p.size = 32 := by simpa using h.1
    have h2 := ih h.2
    unfold joined at h2 ⊢
    rw [List.flatMap_cons, List.length_append, h2, size_list, h1, List.length_cons]
    omega
theorem right_parts {c : C} (h : right c = true) : c.par.length ≤ 2 ∧ twice c.par = false ∧ c.msg.size ≤ 1000 ∧ c.root.size = 32 ∧ fine c.par = true := by
  unfold right at h
  simp only [Bool.and_eq_true, decide_eq_true_eq, Bool.not_eq_true'] at h
  exact ⟨h.1.1.1, h.1.1.2, h.1.2, h.2.1, h.2.2⟩
theorem getD_append_right (l m : List UInt8) (i n : Nat) (h : l.length = n) : (l ++ m).getD (n + i) 0 = m.getD i 0 := by
  subst h
  rw [List.getD_eq_getElem?_getD, List.getD_eq_getElem?_getD, List.getElem?_append_right (Nat.le_add_right _ _), Nat.add_sub_cancel_left]
theorem cut_par (l : List ByteArray) (hl : fine l = true) (A T : List UInt8) (hA : A.length = 34) : ∀ j, (_ : j < l.length) → ((A ++ (joined l ++ T)).drop (34 + 32 * j)).take 32 = l[j].data.toList := by
  intro j hj
  have hd : (A ++ (joined l ++ T)).drop (34 + 32 * j) = (joined l ++ T).drop (32 * j) := by
    rw [← hA, ← List.drop_drop, List.drop_left]
  rw [hd]
  clear hd hA
  induction l generalizing j with
  | nil => exact absurd hj (Nat.not_lt_zero _)
  | cons p l ih =>
    unfold fine at hl
    rw [List.all_cons, Bool.and_eq_true] at hl
    have h1 : p.size = 32 := by simpa using hl.1
    have e : joined (p :: l) = p.data.toList ++ joined l := by unfold joined; rw [List.flatMap_cons]
    rw [e, List.append_assoc]
    cases j with
    | zero =>
      rw [Nat.mul_zero, List.drop_zero, List.take_left' (by rw [size_list, h1])]
      rfl
    | succ j =>
      rw [show 32 * (j + 1) = 32 + 32 * j by omega, ← List.drop_drop, List.drop_left' (by rw [size_list, h1]), ih hl.2 j (by simpa using hj)]
      rfl
/-- A right commit's bytes tell it. -/
theorem read_write (c : C) (h : right c = true) : readC ⟨(writeB c).toArray⟩ = some c := by
  obtain ⟨r1, r2, r3, r4, r5⟩ := right_parts h
  have hjl := joined_length c.par r5
  have hrl : c.root.data.toList.length = 32 := r4
  obtain ⟨b, hb⟩ : ∃ b : ByteArray, b = ⟨(writeB c).toArray⟩ := ⟨_, rfl⟩
  have hL : b.data.toList = writeB c := by rw [hb]
  rw [← hb]
  obtain ⟨T, hT⟩ : ∃ T, T = UInt8.ofNat (c.msg.size / 256) :: UInt8.ofNat (c.msg.size % 256) :: c.msg.data.toList := ⟨_, rfl⟩
  obtain ⟨A, hA⟩ : ∃ A, A = 67 :: (c.root.data.toList ++ [UInt8.ofNat c.par.length]) := ⟨_, rfl⟩
  have hAl : A.length = 34 := by rw [hA]; simp [r4]
  have hL2 : b.data.toList = A ++ (joined c.par ++ T) := by rw [hL, hA, hT]; unfold writeB; simp
  have hTl : T.length = c.msg.size + 2 := by rw [hT]; simp
  have hsz : b.size = 36 + 32 * c.par.length + c.msg.size := by
    rw [← size_list, hL2, List.length_append, List.length_append, hjl, hAl, hTl]
    omega
  have e0 : by8 b 0 = 67 := by rw [by8_eq, hL]; rfl
  have e33 : by8 b 33 = UInt8.ofNat c.par.length := by
    rw [by8_eq, hL2, hA]
    have := getD_append_right (67 :: c.root.data.toList) ([UInt8.ofNat c.par.length] ++ (joined c.par ++ T)) 0 33 (by simp [r4])
    simpa using this
  have en : (by8 b 33).toNat = c.par.length := by
    rw [e33, UInt8.toNat_ofNat']
    omega
  have hAJ : (A ++ joined c.par).length = 34 + 32 * c.par.length := by rw [List.length_append, hAl, hjl]
  have g1 := getD_append_right (A ++ joined c.par) T 0 _ hAJ
  have g2 := getD_append_right (A ++ joined c.par) T 1 _ hAJ
  rw [List.append_assoc, ← hL2] at g1 g2
  have ek : by8 b (34 + 32 * c.par.length) = UInt8.ofNat (c.msg.size / 256) := by rw [by8_eq]; rw [Nat.add_zero] at g1; rw [g1, hT]; rfl
  have ek1 : by8 b (34 + 32 * c.par.length + 1) = UInt8.ofNat (c.msg.size % 256) := by rw [by8_eq, g2, hT]; rfl
  have ecut : cut b = c := by
    unfold cut
    rw [en]
    obtain ⟨root, par, msg⟩ := c
    dsimp only at *
    have f1 : b.extract 1 33 = root := by
      apply list_ext
      rw [Lib.extract_data, hL]
      unfold writeB
      rw [List.drop_one, List.tail_cons, List.take_left' hrl]
    have f2 : pars b par.length = par := by
      unfold pars
      apply List.ext_getElem
      · simp
      · intro j h1 h2
        rw [List.getElem_map, List.getElem_range]
        apply list_ext
        rw [Lib.extract_data, show 66 + 32 * j - (34 + 32 * j) = 32 by omega, hL2]
        exact cut_par par r5 A T hAl j h2
    have f3 : b.extract (36 + 32 * par.length) b.size = msg := by
      apply list_ext
      rw [Lib.extract_data, List.take_of_length_le (by rw [List.length_drop]; exact Nat.le_refl _), hL2, ← List.append_assoc, show 36 + 32 * par.length = (34 + 32 * par.length) + 2 by omega, ← hAJ, ← List.drop_drop, List.drop_left, hT]
      rfl
    rw [f1, f2, f3]
  unfold readC
  rw [ecut, en, if_pos]
  refine ⟨?_, ?_, h⟩
  · unfold whole
    rw [e0, en]
    simp
    omega
  · unfold num
    rw [ek, ek1, UInt8.toNat_ofNat', UInt8.toNat_ofNat']
    omega
end Cm
end Go.Proofs.Ytkjgbldooflodaa
