/-
  The order of tuples and that of their keys. Plain Lean.
-/
import Derived.Test.YtgfjfpghjjknlaaDoorCmp
import Derived.Test.YtgfjfpghjjknlaaDoorClN
namespace Go.Proofs.YtgfjfpghjjknlaaDoor
open Go.RowKit Cl
set_option maxRecDepth 100000
set_option linter.unusedVariables false
set_option linter.unusedSimpArgs false
namespace Od
theorem less_cons (a b : UInt8) (x y : List UInt8) : Op.bytesLess (a :: x) (b :: y) = (decide (a < b) || (a == b && Op.bytesLess x y)) := rfl
theorem less_lt {a b : UInt8} (h : a < b) (x y : List UInt8) : Op.bytesLess (a :: x) (b :: y) = true := by rw [less_cons, decide_eq_true h]; rfl
theorem less_same (a : UInt8) (x y : List UInt8) : Op.bytesLess (a :: x) (a :: y) = Op.bytesLess x y := by
  have h : ¬ a < a := UInt8.lt_irrefl a
  rw [less_cons, decide_eq_false h]
  simp
theorem less_irrefl (x : List UInt8) : Op.bytesLess x x = false := by
  induction x with
  | nil => rfl
  | cons a x ih => rw [less_same, ih]
theorem less_asymm (x : List UInt8) : ∀ y, Op.bytesLess x y = true → Op.bytesLess y x = false := by
  induction x with
  | nil => intro y _; cases y <;> rfl
  | cons a x ih =>
    intro y h
    cases y with
    | nil => cases h
    | cons b y =>
      by_cases hab : a = b
      · subst hab
        rw [less_same] at h ⊢
        exact ih y h
      · rw [less_cons] at h ⊢
        have h1 : (a == b) = false := by simpa using hab
        have h2 : (b == a) = false := by simpa using fun e : b = a => hab e.symm
        rw [h1] at h
        rw [h2]
        simp only [Bool.false_and, Bool.or_false, decide_eq_true_eq] at h
        simp only [Bool.false_and, Bool.or_false, decide_eq_false_iff_not]
        exact UInt8.lt_asymm h
theorem less_total (x : List UInt8) : ∀ y, Op.bytesLess x y = false → x ≠ y → Op.bytesLess y x = true := by
  induction x with
  | nil =>
    intro y h hn
    cases y with
    | nil => exact absurd rfl hn
    | cons b y => cases h
  | cons a x ih =>
    intro y h hn
    cases y with
    | nil => rfl
    | cons b y =>
      by_cases hab : a = b
      · subst hab
        rw [less_same] at h ⊢
        exact ih y h (fun e => hn (by rw [e]))
      · rw [less_cons] at h
        have h1 : (a == b) = false := by simpa using hab
        rw [h1] at h
        simp only [Bool.false_and, Bool.or_false, decide_eq_false_iff_not] at h
        refine less_lt ?_ _ _
        have h3 : a.toNat ≠ b.toNat := fun e => hab (UInt8.toNat_inj.1 e)
        rw [UInt8.lt_iff_toNat_lt] at h ⊢
        omega
theorem less_pre (p x y : List UInt8) : Op.bytesLess (p ++ x) (p ++ y) = Op.bytesLess x y := by
  induction p with
  | nil => rfl
  | cons a p ih => rw [List.cons_append, List.cons_append, less_same, ih]
/-- A number of bytes, the first one the greatest. -/
def val : List UInt8 → Nat
  | [] => 0
  | a :: l => a.toNat * 256 ^ l.length + val l
theorem val_lt (l : List UInt8) : val l < 256 ^ l.length := by
  induction l with
  | nil => decide
  | cons a l ih =>
    have := a.toNat_lt
    show a.toNat * 256 ^ l.length + val l < 256 ^ (l.length + 1)
    rw [Nat.pow_succ]
    have h : a.toNat * 256 ^ l.length ≤ 255 * 256 ^ l.length := Nat.mul_le_mul_right _ (by omega)
    omega
theorem less_val (p : List UInt8) : ∀ (q r s : List UInt8), p.length = q.length → val p < val q → Op.bytesLess (p ++ r) (q ++ s) = true := by
  induction p with
  | nil =>
    intro q r s hl h
    cases q with
    | nil => exact absurd h (by decide)
    | cons b q => cases hl
  | cons a p ih =>
    intro q r s hl h
    cases q with
    | nil => cases hl
    | cons b q =>
      have hl2 : p.length = q.length := by simpa using hl
      rw [List.cons_append, List.cons_append]
      by_cases hab : a = b
      · subst hab
        rw [less_same]
        refine ih q r s hl2 ?_
        unfold val at h
        rw [hl2] at h
        omega
      · refine less_lt ?_ _ _
        rw [UInt8.lt_iff_toNat_lt]
        have h3 : a.toNat ≠ b.toNat := fun e => hab (UInt8.toNat_inj.1 e)
        have hv := val_lt q
        by_cases hlt : a.toNat < b.toNat
        · exact hlt
        · exfalso
          unfold val at h
          rw [hl2] at h
          have h5 : (b.toNat + 1) * 256 ^ q.length ≤ a.toNat * 256 ^ q.length := Nat.mul_le_mul_right _ (by omega)
          rw [Nat.add_mul, Nat.one_mul] at h5
          omega
theorem val_num8 (l : List UInt8) (h : l.length = 8) : val l = num l := by
  match l, h with
  | [a, b, c, d, e, f, g, i], _ =>
    rw [num8]
    simp only [val, List.length_cons, List.length_nil]
    omega
theorem less_bytes8 (x y : Nat) (r s : List UInt8) (hx : x < 18446744073709551616) (hy : y < 18446744073709551616) (h : x < y) : Op.bytesLess (bytes8 x ++ r) (bytes8 y ++ s) = true := by
  refine less_val _ _ _ _ (by rw [bytes8_length, bytes8_length]) ?_
  rw [val_num8 _ (bytes8_length x), val_num8 _ (bytes8_length y), num_bytes8 x hx, num_bytes8 y hy]
  exact h
theorem zero_lt (b : UInt8) (h : b ≠ 0) : (0 : UInt8) < b := by
  rw [UInt8.lt_iff_toNat_lt]
  have h2 : b.toNat ≠ 0 := fun e => h (UInt8.toNat_inj.1 e)
  have : (0 : UInt8).toNat = 0 := rfl
  omega
theorem less_esc (s : List UInt8) : ∀ (t r q : List UInt8), Op.bytesLess s t = true → Op.bytesLess (Esc.esc s ++ 0 :: 0 :: r) (Esc.esc t ++ 0 :: 0 :: q) = true := by
  induction s with
  | nil =>
    intro t r q h
    cases t with
    | nil => cases h
    | cons b t =>
      rw [Esc.esc_cons]
      by_cases hb : b = 0
      · rw [if_pos hb]
        show Op.bytesLess (0 :: 0 :: r) (0 :: 255 :: _) = true
        rw [less_same]
        exact less_lt (by decide) _ _
      · rw [if_neg hb]
        exact less_lt (zero_lt b hb) _ _
  | cons a s ih =>
    intro t r q h
    cases t with
    | nil => cases h
    | cons b t =>
      by_cases hab : a = b
      · subst hab
        rw [less_same] at h
        rw [Esc.esc_cons, Esc.esc_cons, List.append_assoc, List.append_assoc, less_pre]
        exact ih t r q h
      · rw [less_cons] at h
        have h1 : (a == b) = false := by simpa using hab
        rw [h1] at h
        simp only [Bool.false_and, Bool.or_false, decide_eq_true_eq] at h
        rw [Esc.esc_cons, Esc.esc_cons]
        have hb : b ≠ 0 := by
          intro e
          rw [e, UInt8.lt_iff_toNat_lt] at h
          exact absurd h (Nat.not_lt_zero _)
        rw [if_neg hb]
        by_cases ha : a = 0
        · rw [if_pos ha]
          exact less_lt (zero_lt b hb) _ _
        · rw [if_neg ha]
          exact less_lt h _ _
/-- Two values. -/
theorem one_self (v : V) : one v v = 0 := by
  unfold one first3 cmpI cmpS
  simp [less_irrefl]
theorem cmpI_neg (a b : Int) : cmpI b a = -(cmpI a b) := by
  unfold cmpI
  by_cases h1 : a < b
  · rw [if_pos h1, if_neg (by omega), if_pos h1]; rfl
  · by_cases h2 : b < a
    · rw [if_pos h2, if_neg h1, if_pos h2]
    · rw [if_neg h2, if_neg h1, if_neg h1, if_neg h2]; rfl
theorem cmpI_zero {a b : Int} (h : cmpI a b = 0) : a = b := by
  unfold cmpI at h
  by_cases h1 : a < b
  · rw [if_pos h1] at h; cases h
  · by_cases h2 : b < a
    · rw [if_neg h1, if_pos h2] at h; cases h
    · omega
theorem cmpI_neg_iff {a b : Int} : cmpI a b < 0 ↔ a < b := by
  unfold cmpI
  by_cases h1 : a < b
  · rw [if_pos h1]; simp [h1]
  · by_cases h2 : b < a
    · rw [if_neg h1, if_pos h2]; simp [h1]
    · rw [if_neg h1, if_neg h2]; simp [h1]
theorem cmpS_neg (a b : ByteArray) : cmpS b a = -(cmpS a b) := by
  unfold cmpS
  cases h1 : Op.bytesLess a.toList b.toList with
  | true =>
    have h2 := less_asymm _ _ h1
    have hne : (b.toList == a.toList) = false := by
      rw [beq_eq_false_iff_ne]
      intro e
      rw [e, less_irrefl] at h1
      cases h1
    rw [h2, hne]; rfl
  | false =>
    by_cases he : a.toList = b.toList
    · rw [he, less_irrefl]; simp
    · have h2 := less_total _ _ h1 he
      have hne : (a.toList == b.toList) = false := by simpa using he
      rw [h2, hne]; rfl
theorem cmpS_zero {a b : ByteArray} (h : cmpS a b = 0) : a = b := by
  unfold cmpS at h
  cases h1 : Op.bytesLess a.toList b.toList with
  | true => rw [h1] at h; cases h
  | false =>
    rw [h1] at h
    by_cases he : a.toList = b.toList
    · rw [toList_data, toList_data] at he
      exact ByteArray.ext (Array.ext' he)
    · have hne : (a.toList == b.toList) = false := by simpa using he
      rw [hne] at h; cases h
theorem cmpS_neg_iff {a b : ByteArray} : cmpS a b < 0 ↔ Op.bytesLess a.data.toList b.data.toList = true := by
  rw [← toList_data, ← toList_data]
  unfold cmpS
  cases h1 : Op.bytesLess a.toList b.toList with
  | true => simp
  | false =>
    cases h2 : (a.toList == b.toList) with
    | true => simp
    | false => simp
theorem first3_neg (a b c a' b' c' : Int) (h1 : a' = -a) (h2 : b' = -b) (h3 : c' = -c) : first3 a' b' c' = -(first3 a b c) := by
  unfold first3
  subst h1 h2 h3
  by_cases ha : a = 0
  · subst ha
    by_cases hb : b = 0
    · subst hb; simp
    · simp [hb]
  · simp [ha]
theorem one_neg (v u : V) : one u v = -(one v u) := first3_neg _ _ _ _ _ _ (cmpI_neg _ _) (cmpI_neg _ _) (cmpS_neg _ _)
theorem one_zero {v u : V} (h : one v u = 0) : v = u := by
  unfold one first3 at h
  by_cases h1 : cmpI v.k u.k = 0
  · rw [if_neg (by simpa using h1)] at h
    by_cases h2 : cmpI v.n u.n = 0
    · rw [if_neg (by simpa using h2)] at h
      obtain ⟨k, n, s⟩ := v
      obtain ⟨k', n', s'⟩ := u
      have e1 := cmpI_zero h1
      have e2 := cmpI_zero h2
      have e3 := cmpS_zero h
      dsimp only at e1 e2 e3
      rw [e1, e2, e3]
    · rw [if_pos h2] at h; exact absurd h h2
  · rw [if_pos h1] at h; exact absurd h h1
theorem one_lt {v u : V} (h : one v u < 0) : v.k < u.k ∨ (v.k = u.k ∧ (v.n < u.n ∨ (v.n = u.n ∧ Op.bytesLess v.s.data.toList u.s.data.toList = true))) := by
  unfold one first3 at h
  by_cases h1 : cmpI v.k u.k = 0
  · rw [if_neg (by simpa using h1)] at h
    refine .inr ⟨cmpI_zero h1, ?_⟩
    by_cases h2 : cmpI v.n u.n = 0
    · rw [if_neg (by simpa using h2)] at h
      exact .inr ⟨cmpI_zero h2, cmpS_neg_iff.1 h⟩
    · rw [if_pos h2] at h
      exact .inl (cmpI_neg_iff.1 h)
  · rw [if_pos h1] at h
    exact .inl (cmpI_neg_iff.1 h)
theorem right_kind {v : V} (h : right v = true) : (v.k = 0 ∧ v.n = 0 ∧ v.s = ⟨#[]⟩) ∨ (v.k = 1 ∧ v.s = ⟨#[]⟩) ∨ (v.k = 2 ∧ (v.n = 0 ∨ v.n = 1) ∧ v.s = ⟨#[]⟩) ∨ ((v.k = 3 ∨ v.k = 4) ∧ v.n = 0) := by
  unfold right at h
  by_cases h0 : v.k = 0
  · rw [if_pos h0] at h
    simp only [Bool.and_eq_true, decide_eq_true_eq] at h
    exact .inl ⟨h0, h.1, str_nil h.2⟩
  · rw [if_neg h0] at h
    by_cases h1 : v.k = 1
    · rw [if_pos h1] at h
      exact .inr (.inl ⟨h1, str_nil h⟩)
    · rw [if_neg h1] at h
      by_cases h2 : v.k = 2
      · rw [if_pos h2] at h
        simp only [Bool.and_eq_true, Bool.or_eq_true, decide_eq_true_eq] at h
        exact .inr (.inr (.inl ⟨h2, h.1, str_nil h.2⟩))
      · rw [if_neg h2] at h
        by_cases h3 : v.k = 3 ∨ v.k = 4
        · rw [if_pos h3] at h
          simp only [Bool.and_eq_true, decide_eq_true_eq] at h
          exact .inr (.inr (.inr ⟨h3, h.1⟩))
        · rw [if_neg h3] at h; cases h
theorem kind_range {v : V} (h : right v = true) : 0 ≤ v.k ∧ v.k ≤ 4 := by
  rcases right_kind h with ⟨h, _⟩ | ⟨h, _⟩ | ⟨h, _⟩ | ⟨h, _⟩ <;> omega
abbrev kW := valW 1 9223372036854775808 W1
theorem one_key {v u : V} (hv : right v = true) (hu : right u = true) (nv : In64 v.n) (nu : In64 u.n) (h : one v u < 0) (r s : List UInt8) : Op.bytesLess (kW v ++ r) (kW u ++ s) = true := by
  have kv := kind_range hv
  have ku := kind_range hu
  have ek : ∀ x : V, 0 ≤ x.k ∧ x.k ≤ 4 → (UInt8.ofNat (x.k + 1).toNat).toNat = (x.k + 1).toNat := by
    intro x hx
    rw [ofNat_toNat]
    omega
  rcases one_lt h with h1 | ⟨h1, h2⟩
  · unfold kW valW
    rw [List.cons_append, List.cons_append]
    refine less_lt ?_ _ _
    rw [UInt8.lt_iff_toNat_lt, ek v kv, ek u ku]
    omega
  · unfold kW valW
    rw [List.cons_append, List.cons_append, h1, less_same]
    rcases right_kind hv with ⟨g, n0, s0⟩ | ⟨g, s0⟩ | ⟨g, n0, s0⟩ | ⟨g, n0⟩
    · exfalso
      rcases right_kind hu with ⟨g', n0', s0'⟩ | ⟨g', s0'⟩ | ⟨g', n0', s0'⟩ | ⟨g', n0'⟩
      · rcases h2 with h2 | ⟨_, h2⟩
        · omega
        · rw [s0, s0'] at h2; cases h2
      · omega
      · omega
      · omega
    · have g' : u.k = 1 := by omega
      rw [if_pos g', if_pos g']
      have s0' : u.s = ⟨#[]⟩ := by
        rcases right_kind hu with ⟨g', _⟩ | ⟨_, s0'⟩ | ⟨g', _⟩ | ⟨g', _⟩
        · omega
        · exact s0'
        · omega
        · omega
      rcases h2 with h2 | ⟨_, h2⟩
      · refine less_bytes8 _ _ _ _ (turned_lt _ _) (turned_lt _ _) ?_
        obtain ⟨a0, a1⟩ := nv
        obtain ⟨b0, b1⟩ := nu
        unfold turned Go.Proofs.YtgfjfpghjjknlaaDoor.u64
        omega
      · rw [s0, s0'] at h2; cases h2
    · have g' : u.k = 2 := by omega
      have m : (u.n = 0 ∨ u.n = 1) ∧ u.s = ⟨#[]⟩ := by
        rcases right_kind hu with ⟨g', _⟩ | ⟨g', _⟩ | ⟨_, n', s'⟩ | ⟨g', _⟩
        · omega
        · omega
        · exact ⟨n', s'⟩
        · omega
      rw [if_neg (by omega), if_pos g', if_neg (by omega), if_pos g']
      rcases h2 with h2 | ⟨_, h2⟩
      · have e1 : v.n = 0 := by omega
        have e2 : u.n = 1 := by omega
        rw [e1, e2]
        exact less_lt (by decide) _ _
      · rw [s0, m.2] at h2; cases h2
    · have g' : u.k = 3 ∨ u.k = 4 := by omega
      have m : u.n = 0 := by
        rcases right_kind hu with ⟨g', _⟩ | ⟨g', _⟩ | ⟨g', _⟩ | ⟨_, n'⟩
        · omega
        · omega
        · omega
        · exact n'
      rw [if_neg (by omega), if_neg (by omega), if_pos g', if_neg (by omega), if_neg (by omega), if_pos g']
      rcases h2 with h2 | ⟨_, h2⟩
      · omega
      · unfold W1
        rw [List.append_assoc, List.append_assoc]
        exact less_esc _ _ _ _ h2
/-- Two tuples. -/
def ord : List V → List V → Int
  | [], [] => 0
  | [], _ :: _ => -1
  | _ :: _, [] => 1
  | v :: l, u :: m => if one v u ≠ 0 then one v u else ord l m
theorem ord_neg (l : List V) : ∀ m, ord m l = -(ord l m) := by
  induction l with
  | nil => intro m; cases m <;> rfl
  | cons v l ih =>
    intro m
    cases m with
    | nil => rfl
    | cons u m =>
      unfold ord
      rw [one_neg v u, ih m]
      by_cases h : one v u = 0
      · rw [h]; simp
      · rw [if_pos h, if_pos (by omega)]
theorem ord_zero (l : List V) : ∀ m, ord l m = 0 ↔ l = m := by
  induction l with
  | nil => intro m; cases m <;> simp [ord]
  | cons v l ih =>
    intro m
    cases m with
    | nil => simp [ord]
    | cons u m =>
      unfold ord
      by_cases h : one v u = 0
      · rw [if_neg (by simpa using h), ih m, one_zero h]
        simp
      · rw [if_pos h]
        constructor
        · intro e; exact absurd e h
        · intro e
          injection e with e1 e2
          rw [e1] at h
          exact absurd (one_self u) h
theorem one_range (v u : V) : one v u = -1 ∨ one v u = 0 ∨ one v u = 1 := by
  have hI : ∀ a b : Int, cmpI a b = -1 ∨ cmpI a b = 0 ∨ cmpI a b = 1 := by
    intro a b
    unfold cmpI
    split
    · exact .inl rfl
    · split
      · exact .inr (.inr rfl)
      · exact .inr (.inl rfl)
  have hS : cmpS v.s u.s = -1 ∨ cmpS v.s u.s = 0 ∨ cmpS v.s u.s = 1 := by
    unfold cmpS
    cases Op.bytesLess v.s.toList u.s.toList with
    | true => exact .inl rfl
    | false =>
      cases (v.s.toList == u.s.toList) with
      | true => exact .inr (.inl rfl)
      | false => exact .inr (.inr rfl)
  unfold one first3
  split
  · exact hI _ _
  · split
    · exact hI _ _
    · exact hS
theorem ord_range (l : List V) : ∀ m, ord l m = -1 ∨ ord l m = 0 ∨ ord l m = 1 := by
  induction l with
  | nil => intro m; cases m <;> simp [ord]
  | cons v l ih =>
    intro m
    cases m with
    | nil => simp [ord]
    | cons u m =>
      unfold ord
      split
      · exact one_range v u
      · exact ih m
theorem ord_key (l : List V) : ∀ m, (∀ v ∈ l, right v = true ∧ In64 v.n) → (∀ v ∈ m, right v = true ∧ In64 v.n) → ord l m < 0 → Op.bytesLess (tupW 1 9223372036854775808 W1 l) (tupW 1 9223372036854775808 W1 m) = true := by
  induction l with
  | nil =>
    intro m _ _ h
    cases m with
    | nil => exact absurd h (by decide)
    | cons u m => rfl
  | cons v l ih =>
    intro m hl hm h
    cases m with
    | nil => exact absurd h (by show ¬ (1 : Int) < 0; decide)
    | cons u m =>
      have e : ∀ (x : V) (z : List V), tupW 1 9223372036854775808 W1 (x :: z) = kW x ++ tupW 1 9223372036854775808 W1 z := by intro x z; unfold tupW; rw [List.flatMap_cons]
      rw [e, e]
      unfold ord at h
      by_cases h0 : one v u = 0
      · rw [if_neg (by simpa using h0)] at h
        rw [one_zero h0, less_pre]
        exact ih m (fun x hx => hl x (List.mem_cons_of_mem _ hx)) (fun x hx => hm x (List.mem_cons_of_mem _ hx)) h
      · rw [if_pos h0] at h
        have a := hl v (List.mem_cons_self ..)
        have b := hm u (List.mem_cons_self ..)
        exact one_key a.1 b.1 a.2 b.2 h _ _
theorem key_order (l m : List V) (hl : tuple l = true) (hm : tuple m = true) (nl : ∀ v ∈ l, In64 v.n) (nm : ∀ v ∈ m, In64 v.n) : decide (ord l m < 0) = Op.bytesLess (keyB l) (keyB m) := by
  have rl : ∀ v ∈ l, right v = true ∧ In64 v.n := by
    unfold tuple at hl
    simp only [Bool.and_eq_true, decide_eq_true_eq, List.all_eq_true] at hl
    exact fun v hv => ⟨hl.2 v hv, nl v hv⟩
  have rm : ∀ v ∈ m, right v = true ∧ In64 v.n := by
    unfold tuple at hm
    simp only [Bool.and_eq_true, decide_eq_true_eq, List.all_eq_true] at hm
    exact fun v hv => ⟨hm.2 v hv, nm v hv⟩
  rcases ord_range l m with h | h | h
  · rw [decide_eq_true (by omega)]
    exact (ord_key l m rl rm (by omega)).symm
  · rw [decide_eq_false (by omega), (ord_zero l m).1 h, less_irrefl]
  · rw [decide_eq_false (by omega)]
    have h2 : ord m l < 0 := by rw [ord_neg l m]; omega
    exact (less_asymm _ _ (ord_key m l rm rl h2)).symm
theorem tup_inj {fk : Int} {turn : Nat} {W : List UInt8 → List UInt8} {R : List UInt8 → Option (List UInt8 × List UInt8)} (hF : Forth W R) (hf : fk = 0 ∨ fk = 1) (ht : turn = 0 ∨ turn = 9223372036854775808) (l m : List V) (hl : tuple l = true) (hm : tuple m = true) (nl : ∀ v ∈ l, In64 v.n) (nm : ∀ v ∈ m, In64 v.n) (h : tupW fk turn W l = tupW fk turn W m) : l = m := by
  have a := vals_tup hF hf ht l hl nl
  have b := vals_tup hF hf ht m hm nm
  rw [h, b] at a
  exact (Option.some.inj a).symm
theorem key_same (l m : List V) (hl : tuple l = true) (hm : tuple m = true) (nl : ∀ v ∈ l, In64 v.n) (nm : ∀ v ∈ m, In64 v.n) : ord l m = 0 ↔ keyB l = keyB m :=
  ⟨fun h => by rw [(ord_zero l m).1 h], fun h => (ord_zero l m).2 (tup_inj forth1 (.inr rfl) (.inr rfl) l m hl hm nl nm h)⟩
theorem write_same (l m : List V) (hl : tuple l = true) (hm : tuple m = true) (nl : ∀ v ∈ l, In64 v.n) (nm : ∀ v ∈ m, In64 v.n) : ord l m = 0 ↔ writeB l = writeB m :=
  ⟨fun h => by rw [(ord_zero l m).1 h], fun h => (ord_zero l m).2 (tup_inj forth0 (.inl rfl) (.inl rfl) l m hl hm nl nm h)⟩
end Od
end Go.Proofs.YtgfjfpghjjknlaaDoor
