/-
  Graphs of commits in memory; the walk of graph.add: all that is ahead of a commit.
-/
import Derived.Test.YtkjgbldooflodaaCmI
import Derived.Deep.LoopGhost
import Derived.Maps.AppendAt
import Derived.WalkSmall
namespace Go.Proofs.Ytkjgbldooflodaa
open Go.RowKit Cm Mp
set_option maxRecDepth 100000
set_option linter.unusedVariables false
set_option linter.unusedSimpArgs false
namespace Cm
/-- The parents of a print's commit. -/
def par (S : ByteArray → Option ByteArray) (p : ByteArray) : Option (List ByteArray) := (getC S p).map (·.par)
/-- Ahead of a commit, or that itself. -/
inductive Ahd (S : ByteArray → Option ByteArray) (p : ByteArray) : ByteArray → Prop
  | refl : Ahd S p p
  | step {s q : ByteArray} {l : List ByteArray} : Ahd S p s → par S s = some l → q ∈ l → Ahd S p q
theorem len_sub (v : List ByteArray) : ∀ K : List ByteArray, v.Nodup → (∀ s ∈ v, s ∈ K) → v.length ≤ K.length := by
  induction v with
  | nil => intro K _ _; exact Nat.zero_le _
  | cons x v ih =>
    intro K hn hs
    obtain ⟨hx, hv⟩ := List.nodup_cons.1 hn
    obtain ⟨A, B, hAB⟩ := List.append_of_mem (hs x (List.mem_cons_self ..))
    have := ih (A ++ B) hv (fun s h => by
      have h1 := hs s (List.mem_cons_of_mem _ h)
      rw [hAB, List.mem_append, List.mem_cons] at h1
      rw [List.mem_append]
      rcases h1 with h1 | rfl | h1
      · exact .inl h1
      · exact absurd h hx
      · exact .inr h1)
    rw [hAB]
    simp only [List.length_append, List.length_cons] at this ⊢
    omega
/-- A graph tells just what is ahead of a commit, with the parents. -/
structure Full (S : ByteArray → Option ByteArray) (p : ByteArray) (g : ByteArray → Option (List ByteArray)) : Prop where
  dom : ∀ s, (g s).isSome ↔ Ahd S p s
  tells : ∀ s l, g s = some l → par S s = some l
/-- A graph under way: some are told, others are still to be told. -/
structure Under (S : ByteArray → Option ByteArray) (K : List ByteArray) (p : ByteArray) (g : ByteArray → Option (List ByteArray)) (vis td : List ByteArray) : Prop where
  nodup : vis.Nodup
  sub : ∀ s ∈ vis, s ∈ K
  dom : ∀ s, (g s).isSome ↔ s ∈ vis
  tells : ∀ s l, g s = some l → par S s = some l ∧ ∀ q ∈ l, q ∈ vis ∨ q ∈ td
  first : p ∈ vis ∨ p ∈ td
  reach : ∀ s, s ∈ vis ∨ s ∈ td → Ahd S p s
theorem Under.start (S : ByteArray → Option ByteArray) (K : List ByteArray) (p : ByteArray) : Under S K p (fun _ => none) [] [p] :=
  ⟨List.nodup_nil, (fun s h => by cases h), (fun s => by simp), (fun s l h => by cases h), .inr (by simp), (fun s h => by
    rcases h with h | h
    · cases h
    · rw [List.mem_singleton] at h
      rw [h]
      exact .refl)⟩
theorem Under.done {S : ByteArray → Option ByteArray} {K : List ByteArray} {p : ByteArray} {g : ByteArray → Option (List ByteArray)} {vis : List ByteArray} (h : Under S K p g vis []) : Full S p g := by
  have hp : p ∈ vis := by
    rcases h.first with h | h
    · exact h
    · cases h
  refine ⟨fun s => ⟨fun hs => h.reach s (.inl ((h.dom s).1 hs)), fun hs => ?_⟩, fun s l hl => (h.tells s l hl).1⟩
  rw [h.dom]
  induction hs with
  | refl => exact hp
  | step hs hl hq ih =>
    rename_i s q l
    have h1 := (h.dom s).2 ih
    cases hg : g s with
    | none => rw [hg] at h1; cases h1
    | some l' =>
      obtain ⟨h2, h3⟩ := h.tells s l' hg
      rw [hl] at h2
      cases h2
      rcases h3 q hq with h4 | h4
      · exact h4
      · cases h4
theorem Under.skip {S : ByteArray → Option ByteArray} {K : List ByteArray} {p x : ByteArray} {g : ByteArray → Option (List ByteArray)} {vis ts : List ByteArray} (h : Under S K p g vis (ts ++ [x])) (hx : (g x).isSome) : Under S K p g vis ts := by
  have hv := (h.dom x).1 hx
  have hm : ∀ s, s ∈ vis ∨ s ∈ ts ++ [x] → s ∈ vis ∨ s ∈ ts := fun s hs => by
    rcases hs with hs | hs
    · exact .inl hs
    · rw [List.mem_append, List.mem_singleton] at hs
      rcases hs with hs | rfl
      · exact .inr hs
      · exact .inl hv
  exact ⟨h.nodup, h.sub, h.dom, fun s l hl => ⟨(h.tells s l hl).1, fun q hq => hm q ((h.tells s l hl).2 q hq)⟩, hm p h.first, fun s hs => h.reach s (by
    rcases hs with hs | hs
    · exact .inl hs
    · exact .inr (List.mem_append_left _ hs))⟩
theorem Under.more {S : ByteArray → Option ByteArray} {K : List ByteArray} {p x : ByteArray} {g : ByteArray → Option (List ByteArray)} {vis ts l : List ByteArray} (h : Under S K p g vis (ts ++ [x])) (hx : g x = none) (hl : par S x = some l) (hK : x ∈ K) :
    Under S K p (fun s => if s = x then some l else g s) (x :: vis) (ts ++ l) := by
  have hxv : x ∉ vis := fun e => by have := (h.dom x).2 e; rw [hx] at this; cases this
  have hrx : Ahd S p x := h.reach x (.inr (by simp))
  refine ⟨List.nodup_cons.2 ⟨hxv, h.nodup⟩, fun s hs => ?_, fun s => ?_, fun s k hk => ?_, ?_, fun s hs => ?_⟩
  · rcases List.mem_cons.1 hs with rfl | hs
    · exact hK
    · exact h.sub s hs
  · by_cases hs : s = x
    · simp [hs]
    · show (if s = x then some l else g s).isSome = true ↔ _
      rw [if_neg hs, h.dom, List.mem_cons]
      exact ⟨.inr, fun e => e.elim (fun e => absurd e hs) id⟩
  · by_cases hs : s = x
    · subst hs
      simp only [if_true] at hk
      cases hk
      exact ⟨hl, fun q hq => .inr (List.mem_append_right _ hq)⟩
    · simp only [if_neg hs] at hk
      refine ⟨(h.tells s k hk).1, fun q hq => ?_⟩
      rcases (h.tells s k hk).2 q hq with h1 | h1
      · exact .inl (List.mem_cons_of_mem _ h1)
      · rw [List.mem_append, List.mem_singleton] at h1
        rcases h1 with h1 | rfl
        · exact .inr (List.mem_append_left _ h1)
        · exact .inl (List.mem_cons_self ..)
  · rcases h.first with h1 | h1
    · exact .inl (List.mem_cons_of_mem _ h1)
    · rw [List.mem_append, List.mem_singleton] at h1
      rcases h1 with h1 | rfl
      · exact .inr (List.mem_append_left _ h1)
      · exact .inl (List.mem_cons_self ..)
  · rcases hs with hs | hs
    · rcases List.mem_cons.1 hs with rfl | hs
      · exact hrx
      · exact h.reach s (.inl hs)
    · rw [List.mem_append] at hs
      rcases hs with hs | hs
      · exact h.reach s (.inr (List.mem_append_left _ hs))
      · exact .step hrx hl hs
theorem Under.count {S : ByteArray → Option ByteArray} {K : List ByteArray} {p : ByteArray} {g : ByteArray → Option (List ByteArray)} {vis td : List ByteArray} (h : Under S K p g vis td) : vis.length ≤ K.length := by
  exact len_sub vis K h.nodup h.sub
end Cm
end Go.Proofs.Ytkjgbldooflodaa
