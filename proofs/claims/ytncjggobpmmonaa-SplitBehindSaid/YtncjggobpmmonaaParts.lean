/-
  Plain words for where a list is cut: a part, all parts, and that there is one answer only. No program.
-/
import Derived.Test.YtncjggobpmmonaaSha0
namespace Go.Proofs.Ytncjggobpmmonaa
/-- k is how many of n items the first part has (E i: item i ends a part). -/
structure IsPart (E : Nat → Bool) (n k : Nat) : Prop where
  pos : 1 ≤ k
  le : k ≤ n
  most : k ≤ 16
  two : 2 ≤ n → 2 ≤ k
  last : k = n ∨ k = 16 ∨ E (k - 1) = true
  none : ∀ j, 2 ≤ j → j < k → E (j - 1) = false
theorem IsPart.one {E : Nat → Bool} {n k k' : Nat} (h : IsPart E n k) (h' : IsPart E n k') : k = k' := by
  have h1 := h.pos; have h2 := h.le; have h3 := h.most; have h4 := h.two
  have h1' := h'.pos; have h2' := h'.le; have h3' := h'.most; have h4' := h'.two
  rcases Nat.lt_trichotomy k k' with hlt | rfl | hlt
  · rcases h.last with h5 | h5 | h5
    · omega
    · omega
    · have := h'.none k (by omega) hlt; rw [h5] at this; cases this
  · rfl
  · rcases h'.last with h5 | h5 | h5
    · omega
    · omega
    · have := h.none k' (by omega) hlt; rw [h5] at this; cases this
section
variable {α : Type} (f : α → Bool) (d : α)
/-- How many items each part has. -/
inductive IsCut : List α → List Nat → Prop
  | nil : IsCut [] []
  | cons {l : List α} {k : Nat} {ks : List Nat} : IsPart (fun i => f (l.getD i d)) l.length k → IsCut (l.drop k) ks → IsCut l (k :: ks)
variable {f d}
theorem IsCut.one {l : List α} {a : List Nat} (h : IsCut f d l a) : ∀ {b : List Nat}, IsCut f d l b → a = b := by
  induction h with
  | nil =>
    intro b h'
    cases h' with
    | nil => rfl
    | cons hp _ => have := hp.pos; have := hp.le; simp at this; omega
  | cons hp _ ih =>
    intro b h'
    cases h' with
    | nil => have := hp.pos; have := hp.le; simp at this; omega
    | cons hp' hc' =>
      have := hp.one hp'
      subst this
      rw [ih hc']
theorem IsCut.sum {l : List α} {a : List Nat} (h : IsCut f d l a) : a.sum = l.length := by
  induction h with
  | nil => rfl
  | cons hp _ ih => have := hp.le; simp [ih]; omega
theorem IsCut.length_le {l : List α} {a : List Nat} (h : IsCut f d l a) : a.length ≤ l.length := by
  induction h with
  | nil => simp
  | cons hp _ ih => have := hp.le; have := hp.pos; simp at ih ⊢; omega
/-- All parts have 1 to 16 items, all but the last one at least 2. -/
theorem IsCut.range {l : List α} {a : List Nat} (h : IsCut f d l a) : ∀ i, i < a.length → 1 ≤ a.getD i 0 ∧ a.getD i 0 ≤ 16 ∧ (i + 1 < a.length → 2 ≤ a.getD i 0) := by
  induction h with
  | nil => intro i hi; simp at hi
  | cons hp hc ih =>
    intro i hi
    cases i with
    | zero =>
      refine ⟨hp.pos, hp.most, fun h2 => ?_⟩
      apply hp.two
      have := hp.le
      have h3 := hc.length_le
      simp at h2 h3 ⊢
      have := hp.pos
      omega
    | succ i =>
      have := ih i (by simpa using hi)
      simpa using this
/-- What stands behind a list changes none of its parts but the last one. -/
theorem IsCut.behind {l : List α} {a : List Nat} (h : IsCut f d l a) : ∀ {m : List α} {b : List Nat}, IsCut f d (l ++ m) b → a ≠ [] → a.length ≤ b.length ∧ b.take (a.length - 1) = a.take (a.length - 1) ∧ a.getD (a.length - 1) 0 ≤ b.getD (a.length - 1) 0 := by
  induction h with
  | nil => intro m b _ hne; exact absurd rfl hne
  | @cons l k ks hp hc ih =>
    intro m b hb _
    have h1 := hp.pos
    have h2 := hp.le
    generalize hlm : l ++ m = lm at hb
    cases hb with
    | nil =>
      have h0 := congrArg List.length hlm
      simp only [List.length_append, List.length_nil] at h0
      exact absurd h0 (by omega)
    | @cons _ k' ks' hp' hc' =>
      subst hlm
      have hE : ∀ i, i < l.length → f ((l ++ m).getD i d) = f (l.getD i d) := fun i hi => by
        simp [List.getD_eq_getElem?_getD, List.getElem?_append_left hi]
      have hkk : k ≤ k' := by
        rcases Nat.lt_or_ge k' k with hlt | hge
        · exfalso
          have h3 := hp.most
          have h5 := hp'.two
          have h6 := hp'.pos
          simp only [List.length_append] at h5
          rcases hp'.last with h4 | h4 | h4
          · simp only [List.length_append] at h4; omega
          · omega
          · have h7 := hp.none k' (by omega) hlt
            rw [hE _ (by omega)] at h4
            rw [h4] at h7
            cases h7
        · exact hge
      cases ks with
      | nil => simpa using hkk
      | cons k2 ks2 =>
        have h8 : k < l.length := by
          have := hc.length_le
          simp at this
          omega
        have hk : k = k' := by
          rcases hp.last with h4 | h4 | h4
          · omega
          · have := hp'.most; omega
          · rcases Nat.lt_or_ge k k' with hlt | hge
            · exfalso
              have h7 := hp'.none k (hp.two (by omega)) hlt
              rw [hE _ (by omega), h4] at h7
              cases h7
            · omega
        subst hk
        rw [List.drop_append_of_le_length (by omega)] at hc'
        have := ih hc' (by simp)
        simpa using this
theorem IsCut.snoc_start {l r : List α} {ds : List Nat} (H : ∀ ks, IsCut f d r ks → IsCut f d l (ds ++ ks)) {k : Nat} (hp : IsPart (fun i => f (r.getD i d)) r.length k) : ∀ ks, IsCut f d (r.drop k) ks → IsCut f d l ((ds ++ [k]) ++ ks) := fun ks h => by
  have := H (k :: ks) (.cons hp h)
  simpa using this
end
end Go.Proofs.Ytncjggobpmmonaa
