/-
  What the base of two commits is, and what walking up from some of them gives: plain laws.
-/
import Derived.Test.YtkjgbldooflodaaCmG
import Derived.Lib.MinMaxS
namespace Go.Proofs.Ytkjgbldooflodaa
open Go.RowKit Cm
set_option maxRecDepth 100000
set_option linter.unusedVariables false
set_option linter.unusedSimpArgs false
namespace Cm
/-- Ahead of one of some, in one step or more. -/
inductive Up (S : ByteArray → Option ByteArray) (R : ByteArray → Prop) : ByteArray → Prop
  | one {k q : ByteArray} {l : List ByteArray} : R k → par S k = some l → q ∈ l → Up S R q
  | step {s q : ByteArray} {l : List ByteArray} : Up S R s → par S s = some l → q ∈ l → Up S R q
/-- Walking up, in the middle of a round: p's first i parents are told. -/
structure Ov (S : ByteArray → Option ByteArray) (R : ByteArray → Prop) (K vis td : List ByteArray) (p : ByteArray) (l : List ByteArray) (i : Nat) : Prop where
  nodup : vis.Nodup
  sub : ∀ s ∈ vis, s ∈ K
  up : ∀ s ∈ vis, Up S R s
  todo : ∀ s ∈ td, R s ∨ s ∈ vis
  here : R p ∨ p ∈ vis
  tells : par S p = some l
  all : ∀ s, R s ∨ s ∈ vis → s ∈ td ∨ (s = p ∧ ∀ j q, j < i → l[j]? = some q → q ∈ vis) ∨ ∀ k, par S s = some k → ∀ q ∈ k, q ∈ vis
/-- Between rounds. -/
structure Ob (S : ByteArray → Option ByteArray) (R : ByteArray → Prop) (K vis td : List ByteArray) : Prop where
  nodup : vis.Nodup
  sub : ∀ s ∈ vis, s ∈ K
  up : ∀ s ∈ vis, Up S R s
  todo : ∀ s ∈ td, R s ∨ s ∈ vis
  all : ∀ s, R s ∨ s ∈ vis → s ∈ td ∨ ∀ k, par S s = some k → ∀ q ∈ k, q ∈ vis
theorem Ob.start (S : ByteArray → Option ByteArray) (R : ByteArray → Prop) (K ks : List ByteArray) (hR : ∀ s, R s ↔ s ∈ ks) : Ob S R K [] ks :=
  ⟨List.nodup_nil, (fun s h => by cases h), (fun s h => by cases h), (fun s h => .inl ((hR s).2 h)), fun s h => by
    rcases h with h | h
    · exact .inl ((hR s).1 h)
    · cases h⟩
theorem Ob.open {S : ByteArray → Option ByteArray} {R : ByteArray → Prop} {K vis ts : List ByteArray} {p : ByteArray} {l : List ByteArray} (h : Ob S R K vis (ts ++ [p])) (hl : par S p = some l) : Ov S R K vis ts p l 0 :=
  ⟨h.nodup, h.sub, h.up, (fun s hs => h.todo s (List.mem_append_left _ hs)), h.todo p (by simp), hl, fun s hs => by
    rcases h.all s hs with h1 | h1
    · rw [List.mem_append, List.mem_singleton] at h1
      rcases h1 with h1 | rfl
      · exact .inl h1
      · exact .inr (.inl ⟨rfl, fun j q hj => absurd hj (Nat.not_lt_zero _)⟩)
    · exact .inr (.inr h1)⟩
theorem Ov.skip {S : ByteArray → Option ByteArray} {R : ByteArray → Prop} {K vis ts : List ByteArray} {p q : ByteArray} {l : List ByteArray} {i : Nat} (h : Ov S R K vis ts p l i) (hq : l[i]? = some q) (hv : q ∈ vis) : Ov S R K vis ts p l (i + 1) :=
  ⟨h.nodup, h.sub, h.up, h.todo, h.here, h.tells, fun s hs => by
    rcases h.all s hs with h1 | ⟨e, h1⟩ | h1
    · exact .inl h1
    · refine .inr (.inl ⟨e, fun j x hj hx => ?_⟩)
      by_cases hji : j = i
      · subst hji
        rw [hq] at hx
        cases hx
        exact hv
      · exact h1 j x (by omega) hx
    · exact .inr (.inr h1)⟩
theorem Ov.more {S : ByteArray → Option ByteArray} {R : ByteArray → Prop} {K vis ts : List ByteArray} {p q : ByteArray} {l : List ByteArray} {i : Nat} (h : Ov S R K vis ts p l i) (hq : l[i]? = some q) (hv : q ∉ vis) (hK : q ∈ K) : Ov S R K (q :: vis) (ts ++ [q]) p l (i + 1) := by
  have hql : q ∈ l := List.mem_of_getElem? hq
  refine ⟨List.nodup_cons.2 ⟨hv, h.nodup⟩, fun s hs => ?_, fun s hs => ?_, fun s hs => ?_, ?_, h.tells, fun s hs => ?_⟩
  · rcases List.mem_cons.1 hs with rfl | hs
    · exact hK
    · exact h.sub s hs
  · rcases List.mem_cons.1 hs with rfl | hs
    · rcases h.here with h1 | h1
      · exact .one h1 h.tells hql
      · exact .step (h.up p h1) h.tells hql
    · exact h.up s hs
  · rw [List.mem_append, List.mem_singleton] at hs
    rcases hs with hs | rfl
    · exact (h.todo s hs).imp id (List.mem_cons_of_mem _)
    · exact .inr (List.mem_cons_self ..)
  · exact h.here.imp id (List.mem_cons_of_mem _)
  · by_cases hsq : s = q
    · subst hsq
      exact .inl (by simp)
    · have hs' : R s ∨ s ∈ vis := hs.imp id (fun e => (List.mem_cons.1 e).resolve_left hsq)
      rcases h.all s hs' with h1 | ⟨e, h1⟩ | h1
      · exact .inl (List.mem_append_left _ h1)
      · refine .inr (.inl ⟨e, fun j x hj hx => ?_⟩)
        by_cases hji : j = i
        · subst hji
          rw [hq] at hx
          cases hx
          exact List.mem_cons_self ..
        · exact List.mem_cons_of_mem _ (h1 j x (by omega) hx)
      · exact .inr (.inr fun k hk x hx => List.mem_cons_of_mem _ (h1 k hk x hx))
theorem Ov.close {S : ByteArray → Option ByteArray} {R : ByteArray → Prop} {K vis ts : List ByteArray} {p : ByteArray} {l : List ByteArray} (h : Ov S R K vis ts p l l.length) : Ob S R K vis ts :=
  ⟨h.nodup, h.sub, h.up, h.todo, fun s hs => by
    rcases h.all s hs with h1 | ⟨rfl, h1⟩ | h1
    · exact .inl h1
    · refine .inr fun k hk q hq => ?_
      rw [h.tells] at hk
      cases hk
      obtain ⟨j, hj⟩ := List.getElem?_of_mem hq
      exact h1 j q (List.getElem?_eq_some_iff.1 hj).1 hj
    · exact .inr h1⟩
theorem Ob.done {S : ByteArray → Option ByteArray} {R : ByteArray → Prop} {K vis : List ByteArray} (h : Ob S R K vis []) (s : ByteArray) : s ∈ vis ↔ Up S R s := by
  refine ⟨h.up s, fun hs => ?_⟩
  induction hs with
  | one hk hl hq => 
    rcases h.all _ (.inl hk) with h1 | h1
    · cases h1
    · exact h1 _ hl _ hq
  | step hs hl hq ih =>
    rcases h.all _ (.inr ih) with h1 | h1
    · cases h1
    · exact h1 _ hl _ hq
theorem Ov.count {S : ByteArray → Option ByteArray} {R : ByteArray → Prop} {K vis ts : List ByteArray} {p : ByteArray} {l : List ByteArray} {i : Nat} (h : Ov S R K vis ts p l i) : vis.length ≤ K.length := len_sub vis K h.nodup h.sub
theorem Ob.count {S : ByteArray → Option ByteArray} {R : ByteArray → Prop} {K vis ts : List ByteArray} (h : Ob S R K vis ts) : vis.length ≤ K.length := len_sub vis K h.nodup h.sub
/-- Of both, and ahead of none of both. -/
def Bs (S : ByteArray → Option ByteArray) (a b p : ByteArray) : Prop := (Ahd S a p ∧ Ahd S b p) ∧ ¬ Up S (fun s => Ahd S a s ∧ Ahd S b s) p
theorem Bs.comm {S : ByteArray → Option ByteArray} {a b p : ByteArray} : Bs S a b p ↔ Bs S b a p := by
  unfold Bs
  rw [show (fun s => Ahd S a s ∧ Ahd S b s) = fun s => Ahd S b s ∧ Ahd S a s from funext fun s => propext And.comm, and_comm (a := Ahd S a p)]
def ltS (x y : ByteArray) : Prop := x.data.toList < y.data.toList
/-- What Base tells. -/
def BaseOut (S : ByteArray → Option ByteArray) (a b c : ByteArray) (ok : Bool) : Prop :=
  (ok = true ∧ Bs S a b c ∧ ∀ x, Bs S a b x → ¬ ltS x c) ∨ (ok = false ∧ c = ⟨#[]⟩ ∧ ∀ x, ¬ Bs S a b x)
theorem ltS_total {x y : ByteArray} (h1 : ¬ ltS x y) (h2 : ¬ ltS y x) : x = y := by
  unfold ltS at h1 h2
  have h3 : x.data.toList = y.data.toList := List.le_antisymm (List.not_lt.1 h2) (List.not_lt.1 h1)
  exact list_ext h3
theorem BaseOut.one {S : ByteArray → Option ByteArray} {a b c d : ByteArray} {ok yes : Bool} (h1 : BaseOut S a b c ok) (h2 : BaseOut S b a d yes) : c = d ∧ ok = yes := by
  rcases h1 with ⟨rfl, h1, h1'⟩ | ⟨rfl, rfl, h1⟩
  · rcases h2 with ⟨rfl, h2, h2'⟩ | ⟨rfl, rfl, h2⟩
    · exact ⟨ltS_total (h2' c (Bs.comm.1 h1)) (h1' d (Bs.comm.1 h2)), rfl⟩
    · exact absurd (Bs.comm.1 h1) (h2 c)
  · rcases h2 with ⟨rfl, h2, h2'⟩ | ⟨rfl, rfl, h2⟩
    · exact absurd (Bs.comm.1 h2) (h1 d)
    · exact ⟨rfl, rfl⟩
theorem minS_le (x y : ByteArray) : ¬ ltS x (Lib.minS x y) ∧ ¬ ltS y (Lib.minS x y) ∧ (Lib.minS x y = x ∨ Lib.minS x y = y) := by
  unfold Lib.minS ltS
  by_cases h : x.data.toList < y.data.toList ∨ x.data.toList = y.data.toList
  · rw [if_pos h]
    refine ⟨List.lt_irrefl _, ?_, .inl rfl⟩
    rcases h with h | h
    · exact fun h2 => List.lt_irrefl _ (List.lt_trans h h2)
    · rw [h]; exact List.lt_irrefl _
  · rw [if_neg h]
    exact ⟨fun h2 => h (.inl h2), List.lt_irrefl _, .inr rfl⟩
theorem fold_min : ∀ (zs : List ByteArray) (z : ByteArray), (zs.foldl Lib.minS z = z ∨ zs.foldl Lib.minS z ∈ zs) ∧ ¬ ltS z (zs.foldl Lib.minS z) ∧ ∀ x ∈ zs, ¬ ltS x (zs.foldl Lib.minS z)
  | [], z => ⟨.inl rfl, List.lt_irrefl _, fun x h => by cases h⟩
  | y :: r, z => by
    obtain ⟨h1, h2, h3⟩ := fold_min r (Lib.minS z y)
    obtain ⟨m1, m2, m3⟩ := minS_le z y
    have tr : ∀ u v : ByteArray, ¬ ltS u v → ¬ ltS v (r.foldl Lib.minS (Lib.minS z y)) → ¬ ltS u (r.foldl Lib.minS (Lib.minS z y)) := fun u v a b => by
      unfold ltS at a b ⊢
      exact List.not_lt.2 (List.le_trans (List.not_lt.1 b) (List.not_lt.1 a))
    refine ⟨?_, tr _ _ m1 h2, fun x hx => ?_⟩
    · rcases h1 with h1 | h1
      · rw [List.foldl_cons, h1]
        rcases m3 with m3 | m3
        · exact .inl m3
        · rw [m3]; exact .inr (List.mem_cons_self ..)
      · exact .inr (List.mem_cons_of_mem _ h1)
    · rcases List.mem_cons.1 hx with rfl | hx
      · exact tr _ _ m2 h2
      · exact h3 x hx
theorem minOfS_mem (zs : List ByteArray) (h : zs ≠ []) : Lib.minOfS zs ∈ zs ∧ ∀ x ∈ zs, ¬ ltS x (Lib.minOfS zs) := by
  obtain ⟨z, r, rfl⟩ := List.exists_cons_of_ne_nil h
  obtain ⟨h1, h2, h3⟩ := fold_min (z :: r) z
  exact ⟨h1.elim (fun e => by unfold Lib.minOfS; rw [show (z :: r).headD ByteArray.empty = z from rfl, e]; exact List.mem_cons_self ..) id, h3⟩
theorem base_out {S : ByteArray → Option ByteArray} {a b : ByteArray} {fs : List ByteArray} (hf : ∀ x, x ∈ fs ↔ Bs S a b x) (hn : fs ≠ []) : BaseOut S a b (Lib.minOfS fs) true := by
  obtain ⟨h1, h2⟩ := minOfS_mem fs hn
  exact .inl ⟨rfl, (hf _).1 h1, fun x hx => h2 x ((hf x).2 hx)⟩
theorem base_none {S : ByteArray → Option ByteArray} {a b : ByteArray} (hf : ∀ x, x ∈ ([] : List ByteArray) ↔ Bs S a b x) : BaseOut S a b ⟨#[]⟩ false := .inr ⟨rfl, rfl, fun x hx => by cases (hf x).2 hx⟩
end Cm
end Go.Proofs.Ytkjgbldooflodaa
