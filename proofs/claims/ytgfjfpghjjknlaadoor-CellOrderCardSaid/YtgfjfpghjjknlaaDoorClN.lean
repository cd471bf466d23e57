/-
  Reading what was written, and writing what was read. Plain Lean.
-/
import Derived.Test.YtgfjfpghjjknlaaDoorClA
import Derived.Test.YtgfjfpghjjknlaaDoorClB
namespace Go.Proofs.YtgfjfpghjjknlaaDoor
open Go.RowKit Cl
set_option maxRecDepth 100000
set_option linter.unusedVariables false
set_option linter.unusedSimpArgs false
theorem num_step (x c : Nat) (b : UInt8) (h : x < 256 ^ c) (hc : c ≤ 7) : (x * 256 + b.toNat) % 18446744073709551616 = x * 256 + b.toNat := by
  have hb := b.toNat_lt
  have h7 : 256 ^ c ≤ 256 ^ 7 := Nat.pow_le_pow_right (by decide) hc
  have h8 : (256 : Nat) ^ 7 = 72057594037927936 := by decide
  omega
/-- Eight bytes' number, laid open. -/
theorem num8 (a b c d e f g h : UInt8) : num [a, b, c, d, e, f, g, h] = ((((((a.toNat * 256 + b.toNat) * 256 + c.toNat) * 256 + d.toNat) * 256 + e.toNat) * 256 + f.toNat) * 256 + g.toNat) * 256 + h.toNat := by
  have := a.toNat_lt; have := b.toNat_lt; have := c.toNat_lt; have := d.toNat_lt; have := e.toNat_lt; have := f.toNat_lt; have := g.toNat_lt; have := h.toNat_lt
  unfold num
  simp only [List.foldl_cons, List.foldl_nil]
  omega
theorem bytes8_eq (x : Nat) : bytes8 x = [UInt8.ofNat (x / 72057594037927936 % 256), UInt8.ofNat (x / 281474976710656 % 256), UInt8.ofNat (x / 1099511627776 % 256), UInt8.ofNat (x / 4294967296 % 256), UInt8.ofNat (x / 16777216 % 256), UInt8.ofNat (x / 65536 % 256), UInt8.ofNat (x / 256 % 256), UInt8.ofNat (x % 256)] := by
  unfold bytes8
  simp [List.range_succ, b8]
theorem ofNat_toNat (n : Nat) : (UInt8.ofNat n).toNat = n % 256 := by simp [UInt8.toNat_ofNat']
theorem num_bytes8 (x : Nat) (h : x < 18446744073709551616) : num (bytes8 x) = x := by
  rw [bytes8_eq, num8]
  simp only [ofNat_toNat, Nat.mod_mod]
  have e2 : x / 65536 = x / 256 / 256 := by rw [Nat.div_div_eq_div_mul]
  have e3 : x / 16777216 = x / 256 / 256 / 256 := by simp only [Nat.div_div_eq_div_mul]
  have e4 : x / 4294967296 = x / 256 / 256 / 256 / 256 := by simp only [Nat.div_div_eq_div_mul]
  have e5 : x / 1099511627776 = x / 256 / 256 / 256 / 256 / 256 := by simp only [Nat.div_div_eq_div_mul]
  have e6 : x / 281474976710656 = x / 256 / 256 / 256 / 256 / 256 / 256 := by simp only [Nat.div_div_eq_div_mul]
  have e7 : x / 72057594037927936 = x / 256 / 256 / 256 / 256 / 256 / 256 / 256 := by simp only [Nat.div_div_eq_div_mul]
  have h7 : x / 72057594037927936 < 256 := by omega
  rw [e7] at h7
  rw [e2, e3, e4, e5, e6, e7]
  have d1 := Nat.div_add_mod x 256
  generalize x / 256 = y1 at *
  have d2 := Nat.div_add_mod y1 256
  generalize y1 / 256 = y2 at *
  have d3 := Nat.div_add_mod y2 256
  generalize y2 / 256 = y3 at *
  have d4 := Nat.div_add_mod y3 256
  generalize y3 / 256 = y4 at *
  have d5 := Nat.div_add_mod y4 256
  generalize y4 / 256 = y5 at *
  have d6 := Nat.div_add_mod y5 256
  generalize y5 / 256 = y6 at *
  have d7 := Nat.div_add_mod y6 256
  generalize y6 / 256 = y7 at *
  rw [Nat.mod_eq_of_lt h7]
  clear e2 e3 e4 e5 e6 e7 h
  generalize x % 256 = m0 at *
  generalize y1 % 256 = m1 at *
  generalize y2 % 256 = m2 at *
  generalize y3 % 256 = m3 at *
  generalize y4 % 256 = m4 at *
  generalize y5 % 256 = m5 at *
  generalize y6 % 256 = m6 at *
  omega
theorem bytes8_num (l : List UInt8) (h : l.length = 8) : bytes8 (num l) = l := by
  match l, h with
  | [a, b, c, d, e, f, g, i], _ =>
    rw [num8, bytes8_eq]
    have := a.toNat_lt; have := b.toNat_lt; have := c.toNat_lt; have := d.toNat_lt; have := e.toNat_lt; have := f.toNat_lt; have := g.toNat_lt; have := i.toNat_lt
    have key : ∀ (m : Nat) (z : UInt8), m % 256 = z.toNat → UInt8.ofNat m = z := by
      intro m z hz
      refine UInt8.toNat_inj.1 ?_
      rw [ofNat_toNat]; exact hz
    congr 1
    · exact key _ _ (by omega)
    congr 1
    · exact key _ _ (by omega)
    congr 1
    · exact key _ _ (by omega)
    congr 1
    · exact key _ _ (by omega)
    congr 1
    · exact key _ _ (by omega)
    congr 1
    · exact key _ _ (by omega)
    congr 1
    · exact key _ _ (by omega)
    congr 1
    · exact key _ _ (by omega)
theorem num1 (b : UInt8) : num [b] = b.toNat := by
  have := b.toNat_lt
  unfold num
  simp only [List.foldl_cons, List.foldl_nil]
  omega
theorem num_two (a b : UInt8) : num [a, b] = a.toNat * 256 + b.toNat := by
  have := b.toNat_lt; have := a.toNat_lt
  unfold num
  simp only [List.foldl_cons, List.foldl_nil]
  omega
theorem turn_back (n : Int) (turn : Nat) (hn : In64 n) (ht : turn = 0 ∨ turn = 9223372036854775808) : IntKind.i64.wrap ((turned turn (turned turn (u64 n)) : Nat) : Int) = n := by
  obtain ⟨h0, h1⟩ := hn
  rw [IntKind.wrap_i64]
  unfold turned u64
  rcases ht with rfl | rfl <;> omega
theorem turn_forth (x turn : Nat) (hx : x < 18446744073709551616) (ht : turn = 0 ∨ turn = 9223372036854775808) : turned turn (u64 (IntKind.i64.wrap ((turned turn x : Nat) : Int))) = x := by
  rw [IntKind.wrap_i64]
  unfold turned u64
  rcases ht with rfl | rfl <;> omega
theorem turned_lt (turn x : Nat) : turned turn x < 18446744073709551616 := Nat.mod_lt _ (by decide)
/-- A form's reading is its writing's way back. -/
structure Forth (W : List UInt8 → List UInt8) (R : List UInt8 → Option (List UInt8 × List UInt8)) : Prop where
  read : ∀ t r : List UInt8, t.length ≤ 1000 → R (W t ++ r) = some (t, r)
  wrote : ∀ l t r : List UInt8, R l = some (t, r) → l = W t ++ r
theorem forth1 : Forth W1 Esc.unesc := by
  refine ⟨fun t r _ => ?_, ?_⟩
  · unfold W1
    rw [List.append_assoc]
    exact Esc.unesc_esc t r
  · intro l
    unfold W1
    induction l using Esc.unesc.induct with
    | case1 => intro t r h; cases h
    | case2 => intro t r h; cases h
    | case3 l =>
      intro t r h
      rw [Esc.unesc, if_pos rfl, if_pos rfl] at h
      cases h
      rfl
    | case4 l h0 ih =>
      intro t r h
      rw [Esc.unesc, if_pos rfl, if_neg h0, if_pos rfl] at h
      cases hu : Esc.unesc l with
      | none => rw [hu] at h; cases h
      | some p =>
        obtain ⟨t', r'⟩ := p
        rw [hu] at h
        cases h
        rw [Esc.esc_cons, if_pos rfl]
        have := ih t' r' hu
        rw [this]
        simp
    | case5 c l h0 h1 =>
      intro t r h
      rw [Esc.unesc, if_pos rfl, if_neg h0, if_neg h1] at h
      cases h
    | case6 b c l h0 ih =>
      intro t r h
      rw [Esc.unesc, if_neg h0] at h
      cases hu : Esc.unesc (c :: l) with
      | none => rw [hu] at h; cases h
      | some p =>
        obtain ⟨t', r'⟩ := p
        rw [hu] at h
        cases h
        rw [Esc.esc_cons, if_neg h0]
        have := ih t' r' hu
        rw [this]
        simp
theorem forth0 : Forth W0 plainU := by
  refine ⟨fun t r ht => ?_, fun l t r h => ?_⟩
  · have e : num ((W0 t ++ r).take 2) = t.length := by
      show num [UInt8.ofNat (t.length / 256), UInt8.ofNat (t.length % 256)] = _
      rw [num_two, ofNat_toNat, ofNat_toNat]
      omega
    unfold plainU
    rw [if_neg (by unfold W0; simp), e]
    have hd : (W0 t ++ r).drop 2 = t ++ r := rfl
    simp [hd, W0]
  · unfold plainU at h
    by_cases h2 : l.length < 2
    · rw [if_pos h2] at h; cases h
    · rw [if_neg h2] at h
      match l, h2 with
      | [], h2 => exact absurd (by simp) h2
      | [_], h2 => exact absurd (by simp) h2
      | a :: b :: l, _ =>
        simp only [List.take_succ_cons, List.take_zero, List.drop_succ_cons, List.drop_zero, num_two, List.length_cons] at h
        have := a.toNat_lt; have := b.toNat_lt
        split at h
        · cases h
        · rename_i hle
          cases h
          have hl : (l.take (a.toNat * 256 + b.toNat)).length = a.toNat * 256 + b.toNat := by rw [List.length_take]; omega
          unfold W0
          rw [hl]
          have ea : UInt8.ofNat ((a.toNat * 256 + b.toNat) / 256) = a := UInt8.toNat_inj.1 (by rw [ofNat_toNat]; omega)
          have eb : UInt8.ofNat ((a.toNat * 256 + b.toNat) % 256) = b := UInt8.toNat_inj.1 (by rw [ofNat_toNat]; omega)
          rw [ea, eb]
          simp
theorem kind_back (k fk : Int) (h0 : 0 ≤ k) (h4 : k ≤ 4) (hf : fk = 0 ∨ fk = 1) : ((UInt8.ofNat (k + fk).toNat).toNat : Int) - fk = k := by
  rw [ofNat_toNat]
  omega
theorem str_nil : ∀ {s : ByteArray}, s.toList.isEmpty = true → s = ⟨#[]⟩ := by
  intro s h
  rw [toList_data] at h
  refine ByteArray.ext (Array.ext' ?_)
  simpa using h
theorem dec_val {fk : Int} {turn : Nat} {W : List UInt8 → List UInt8} {R : List UInt8 → Option (List UInt8 × List UInt8)} (hF : Forth W R) (hf : fk = 0 ∨ fk = 1) (ht : turn = 0 ∨ turn = 9223372036854775808)
    (v : V) (r : List UInt8) (hv : right v = true) (hn : In64 v.n) : dec1 fk turn R (valW fk turn W v ++ r) = some (v, r) := by
  obtain ⟨k, n, s⟩ := v
  have hv0 := hv
  unfold right at hv
  dsimp only at hv hn
  have fin : ∀ (x : List UInt8), 0 ≤ k → k ≤ 4 → decV turn R k (x ++ r) = some (⟨k, n, s⟩, r) → dec1 fk turn R ((UInt8.ofNat (k + fk).toNat :: x) ++ r) = some (⟨k, n, s⟩, r) := by
    intro x h0 h4 h
    rw [List.cons_append]
    refine dec1_ok ?_ hv0
    rw [kind_back k fk h0 h4 hf]
    exact h
  unfold valW
  dsimp only
  by_cases h0 : k = 0
  · rw [if_pos h0] at hv
    simp only [Bool.and_eq_true, decide_eq_true_eq] at hv
    have hs := str_nil hv.2
    refine fin _ (by omega) (by omega) ?_
    rw [if_neg (by omega), if_neg (by omega), if_neg (by omega)]
    unfold decV
    rw [if_neg (by omega), if_neg (by omega), if_neg (by omega), hv.1, hs]
    rfl
  · rw [if_neg h0] at hv
    by_cases h1 : k = 1
    · rw [if_pos h1] at hv
      have hs := str_nil hv
      refine fin _ (by omega) (by omega) ?_
      rw [if_pos h1]
      unfold decV
      have hl := bytes8_length (turned turn (u64 n))
      rw [if_pos h1, if_neg (by rw [List.length_append, hl]; omega), List.take_left' hl, List.drop_left' hl, num_bytes8 _ (turned_lt _ _), turn_back n turn hn ht, hs, h1]
    · rw [if_neg h1] at hv
      by_cases h2 : k = 2
      · rw [if_pos h2] at hv
        simp only [Bool.and_eq_true, Bool.or_eq_true, decide_eq_true_eq] at hv
        have hs := str_nil hv.2
        refine fin _ (by omega) (by omega) ?_
        rw [if_neg h1, if_pos h2]
        unfold decV
        rw [if_neg h1, if_pos h2, if_neg (by simp)]
        show some ((⟨2, ((num [UInt8.ofNat n.toNat] : Nat) : Int), ⟨#[]⟩⟩ : V), r) = _
        rw [num1, ofNat_toNat, hs, h2]
        have : (((n.toNat % 256 : Nat)) : Int) = n := by omega
        rw [this]
      · rw [if_neg h2] at hv
        by_cases h3 : k = 3 ∨ k = 4
        · rw [if_pos h3] at hv
          simp only [Bool.and_eq_true, decide_eq_true_eq] at hv
          refine fin _ (by omega) (by omega) ?_
          rw [if_neg h1, if_neg h2, if_pos h3]
          unfold decV
          rw [if_neg h1, if_neg h2, if_pos h3, hF.read _ r hv.2, hv.1]
          rfl
        · rw [if_neg h3] at hv
          cases hv
theorem decF_mono (fk : Int) (turn : Nat) (R : List UInt8 → Option (List UInt8 × List UInt8)) : True := trivial
theorem valW_ne (fk : Int) (turn : Nat) (W : List UInt8 → List UInt8) (v : V) : ∃ b t, valW fk turn W v = b :: t := ⟨_, _, rfl⟩
theorem decF_tup {fk : Int} {turn : Nat} {W : List UInt8 → List UInt8} {R : List UInt8 → Option (List UInt8 × List UInt8)} (hF : Forth W R) (hf : fk = 0 ∨ fk = 1) (ht : turn = 0 ∨ turn = 9223372036854775808)
    (l : List V) (hl : ∀ v ∈ l, right v = true ∧ In64 v.n) : ∀ k, (tupW fk turn W l).length ≤ k → decF fk turn R k (tupW fk turn W l) = some l := by
  induction l with
  | nil => intro k _; cases k <;> rfl
  | cons v l ih =>
    intro k hk
    have e : tupW fk turn W (v :: l) = valW fk turn W v ++ tupW fk turn W l := by unfold tupW; rw [List.flatMap_cons]
    obtain ⟨b, t, hb⟩ := valW_ne fk turn W v
    have hd := dec_val hF hf ht v (tupW fk turn W l) (hl v (List.mem_cons_self ..)).1 (hl v (List.mem_cons_self ..)).2
    rw [← e] at hd
    rw [decF_step (by rw [e, hb]; simp) hk hd, ih (fun x hx => hl x (List.mem_cons_of_mem _ hx)) (k - 1) (by rw [e, hb] at hk; simp at hk; omega)]
    rfl
theorem vals_tup {fk : Int} {turn : Nat} {W : List UInt8 → List UInt8} {R : List UInt8 → Option (List UInt8 × List UInt8)} (hF : Forth W R) (hf : fk = 0 ∨ fk = 1) (ht : turn = 0 ∨ turn = 9223372036854775808)
    (l : List V) (h : tuple l = true) (hn : ∀ v ∈ l, In64 v.n) : vals fk turn R (tupW fk turn W l) = some l := by
  unfold tuple at h
  simp only [Bool.and_eq_true, decide_eq_true_eq, List.all_eq_true] at h
  unfold vals
  rw [decF_tup hF hf ht l (fun v hv => ⟨h.2 v hv, hn v hv⟩) _ (Nat.le_refl _)]
  dsimp only
  rw [if_pos h.1]
/-- What is read is right, and is written as just these bytes. -/
theorem val_dec {fk : Int} {turn : Nat} {W : List UInt8 → List UInt8} {R : List UInt8 → Option (List UInt8 × List UInt8)} (hF : Forth W R) (hf : fk = 0 ∨ fk = 1) (ht : turn = 0 ∨ turn = 9223372036854775808)
    (l : List UInt8) (v : V) (r : List UInt8) (h : dec1 fk turn R l = some (v, r)) : right v = true ∧ In64 v.n ∧ l = valW fk turn W v ++ r := by
  match l, h with
  | b :: l, h =>
    cases hd : decV turn R (b.toNat - fk) l with
    | none => rw [dec1_none hd] at h; cases h
    | some p =>
      obtain ⟨u, q⟩ := p
      cases hr : right u with
      | false => rw [dec1_bad hd hr] at h; cases h
      | true =>
        rw [dec1_ok hd hr] at h
        cases h
        refine ⟨hr, ?_⟩
        have hb := b.toNat_lt
        have hk : ∀ k : Int, k = b.toNat - fk → UInt8.ofNat (k + fk).toNat = b := by
          intro k hk
          refine UInt8.toNat_inj.1 ?_
          rw [ofNat_toNat]
          omega
        generalize hkk : (b.toNat : Int) - fk = k at hd
        have hkb := hk k hkk.symm
        unfold decV at hd
        by_cases h1 : k = 1
        · subst h1
          rw [if_pos rfl] at hd
          by_cases h8 : l.length < 8
          · rw [if_pos h8] at hd; cases hd
          · rw [if_neg h8] at hd
            cases hd
            have hx := num_lt (l.take 8)
            refine ⟨⟨?_, ?_⟩, ?_⟩
            · dsimp only; rw [IntKind.wrap_i64]; omega
            · dsimp only; rw [IntKind.wrap_i64]; omega
            · unfold valW
              dsimp only
              rw [hkb, if_pos rfl, turn_forth _ _ hx ht, bytes8_num _ (by rw [List.length_take]; omega)]
              simp
        · rw [if_neg h1] at hd
          by_cases h2 : k = 2
          · subst h2
            rw [if_pos rfl] at hd
            by_cases hl1 : l.length < 1
            · rw [if_pos hl1] at hd; cases hd
            · rw [if_neg hl1] at hd
              match l, hl1 with
              | c :: l, _ =>
                have hc := c.toNat_lt
                cases hd
                have e : num ((c :: l).take 1) = c.toNat := num1 c
                rw [e]
                refine ⟨⟨by show (-9223372036854775808 : Int) ≤ (c.toNat : Int); omega, by show (c.toNat : Int) ≤ 9223372036854775807; omega⟩, ?_⟩
                unfold valW
                dsimp only
                rw [hkb, if_neg (by decide), if_pos rfl]
                simp
          · rw [if_neg h2] at hd
            by_cases h3 : k = 3 ∨ k = 4
            · rw [if_pos h3] at hd
              cases hR : R l with
              | none => rw [hR] at hd; cases hd
              | some p =>
                obtain ⟨t, q⟩ := p
                rw [hR] at hd
                cases hd
                refine ⟨⟨by show (-9223372036854775808 : Int) ≤ 0; decide, by show (0 : Int) ≤ 9223372036854775807; decide⟩, ?_⟩
                unfold valW
                dsimp only
                rw [hkb, if_neg h1, if_neg h2, if_pos h3, List.cons_append]
                congr 1
                have := hF.wrote l t _ hR
                simpa using this
            · rw [if_neg h3] at hd
              cases hd
              refine ⟨⟨by show (-9223372036854775808 : Int) ≤ 0; decide, by show (0 : Int) ≤ 9223372036854775807; decide⟩, ?_⟩
              unfold valW
              dsimp only
              rw [hkb, if_neg h1, if_neg h2, if_neg h3]
              rfl
theorem tup_decF {fk : Int} {turn : Nat} {W : List UInt8 → List UInt8} {R : List UInt8 → Option (List UInt8 × List UInt8)} (hF : Forth W R) (hf : fk = 0 ∨ fk = 1) (ht : turn = 0 ∨ turn = 9223372036854775808) :
    ∀ (k : Nat) (l : List UInt8) (vs : List V), decF fk turn R k l = some vs → (∀ v ∈ vs, right v = true ∧ In64 v.n) ∧ tupW fk turn W vs = l := by
  intro k
  induction k with
  | zero =>
    intro l vs h
    match l, h with
    | [], h => cases h; exact ⟨fun v hv => by simp at hv, rfl⟩
    | b :: l, h => cases h
  | succ k ih =>
    intro l vs h
    match l, h with
    | [], h => cases h; exact ⟨fun v hv => by simp at hv, rfl⟩
    | b :: l, h =>
      change (match dec1 fk turn R (b :: l) with | some p => (decF fk turn R k p.2).map fun vs => p.1 :: vs | none => none) = _ at h
      cases hd : dec1 fk turn R (b :: l) with
      | none => rw [hd] at h; cases h
      | some p =>
        obtain ⟨v, r⟩ := p
        rw [hd] at h
        dsimp only at h
        cases hr : decF fk turn R k r with
        | none => rw [hr] at h; cases h
        | some ws =>
          rw [hr] at h
          cases h
          obtain ⟨h1, h2, h3⟩ := val_dec hF hf ht _ _ _ hd
          obtain ⟨h4, h5⟩ := ih r ws hr
          refine ⟨fun x hx => ?_, ?_⟩
          · rcases List.mem_cons.1 hx with rfl | hx
            · exact ⟨h1, h2⟩
            · exact h4 x hx
          · rw [h3, ← h5]
            unfold tupW
            rw [List.flatMap_cons]
theorem tup_vals {fk : Int} {turn : Nat} {W : List UInt8 → List UInt8} {R : List UInt8 → Option (List UInt8 × List UInt8)} (hF : Forth W R) (hf : fk = 0 ∨ fk = 1) (ht : turn = 0 ∨ turn = 9223372036854775808)
    (l : List UInt8) (vs : List V) (h : vals fk turn R l = some vs) : tuple vs = true ∧ (∀ v ∈ vs, In64 v.n) ∧ tupW fk turn W vs = l := by
  unfold vals at h
  cases hd : decF fk turn R l.length l with
  | none => rw [hd] at h; cases h
  | some ws =>
    rw [hd] at h
    dsimp only at h
    split at h
    · rename_i h64
      cases h
      obtain ⟨h1, h2⟩ := tup_decF hF hf ht _ _ _ hd
      refine ⟨?_, fun v hv => (h1 v hv).2, h2⟩
      unfold tuple
      simp only [Bool.and_eq_true, decide_eq_true_eq, List.all_eq_true]
      exact ⟨h64, fun v hv => (h1 v hv).1⟩
    · cases h
end Go.Proofs.YtgfjfpghjjknlaaDoor
