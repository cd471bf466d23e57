/-
  The heap of prints, and the walk of commit.Ahead at whatever graphs.
-/
import Derived.Test.YtkjgbldooflodaaCn0
import Derived.Test.YtkjgbldooflodaaCmR
import Derived.Test.YtkjgbldooflodaaCn1
import Derived.BigRegion
import Derived.BigQuiet
import Derived.Test.YtkjgbldooflodaaCmG
import Derived.Deep.AppendLies
import Derived.Test.YtkjgbldooflodaaCn3
import Derived.Test.YtkjgbldooflodaaCm4
namespace Go.Proofs.Ytkjgbldooflodaa
namespace Hq
section
variable {α : Type}
def sw (l : List α) (d : α) (i j : Nat) : List α := (l.set i (l.getD j d)).set j (l.getD i d)
theorem sw_length (l : List α) (d : α) (i j : Nat) : (sw l d i j).length = l.length := by simp [sw]
theorem sw_at {l : List α} {d : α} {i j : Nat} (hi : i < l.length) (hj : j < l.length) (k : Nat) : (sw l d i j).getD k d = if k = j then l.getD i d else if k = i then l.getD j d else l.getD k d := by
  unfold sw
  by_cases hkj : k = j
  · subst hkj
    rw [if_pos rfl]
    simp [List.getD_eq_getElem?_getD, hj]
  · rw [if_neg hkj]
    by_cases hki : k = i
    · subst hki
      rw [if_pos rfl]
      have : ¬ j = k := fun e => hkj e.symm
      simp [List.getD_eq_getElem?_getD, hi, this]
    · rw [if_neg hki]
      have h1 : ¬ j = k := fun e => hkj e.symm
      have h2 : ¬ i = k := fun e => hki e.symm
      simp [List.getD_eq_getElem?_getD, h1, h2]
/-- An order in which 'not less' goes on. -/
structure Ord (lt : α → α → Prop) : Prop where
  asymm : ∀ a b, lt a b → ¬ lt b a
  neg : ∀ a b c, ¬ lt a b → ¬ lt b c → ¬ lt a c
variable {lt : α → α → Prop}
def par (k : Nat) : Nat := (k - 1) / 2
/-- A heap, of the first n. -/
def Hp (lt : α → α → Prop) (d : α) (l : List α) (n : Nat) : Prop := ∀ k, 0 < k → k < n → ¬ lt (l.getD k d) (l.getD (par k) d)
/-- A heap but for what is to go up at j. -/
def Hup (lt : α → α → Prop) (d : α) (l : List α) (n j : Nat) : Prop := (∀ k, 0 < k → k < n → k ≠ j → ¬ lt (l.getD k d) (l.getD (par k) d)) ∧ (0 < j → ∀ k, 0 < k → k < n → par k = j → ¬ lt (l.getD k d) (l.getD (par j) d))
/-- A heap but for what is to go down at i. -/
def Hdn (lt : α → α → Prop) (d : α) (l : List α) (n i : Nat) : Prop := (∀ k, 0 < k → k < n → par k ≠ i → ¬ lt (l.getD k d) (l.getD (par k) d)) ∧ (0 < i → ∀ k, 0 < k → k < n → par k = i → ¬ lt (l.getD k d) (l.getD (par i) d))
theorem par_lt {k : Nat} (h : 0 < k) : par k < k := by unfold par; omega
theorem Hup.stop {d : α} {l : List α} {n j : Nat} (h : Hup lt d l n j) (h0 : j = 0 ∨ ¬ lt (l.getD j d) (l.getD (par j) d)) : Hp lt d l n := by
  intro k hk hn
  by_cases hkj : k = j
  · subst hkj
    rcases h0 with h0 | h0
    · omega
    · exact h0
  · exact h.1 k hk hn hkj
theorem Hup.go (O : Ord lt) {d : α} {l : List α} {n j : Nat} (h : Hup lt d l n j) (hj0 : 0 < j) (hjn : j < n) (hnl : n ≤ l.length) (hl : lt (l.getD j d) (l.getD (par j) d)) : Hup lt d (sw l d (par j) j) n (par j) := by
  have hp := par_lt hj0
  have hpl : par j < l.length := by omega
  have hjl : j < l.length := by omega
  have at_ : ∀ k, (sw l d (par j) j).getD k d = if k = j then l.getD (par j) d else if k = par j then l.getD j d else l.getD k d := sw_at hpl hjl
  refine ⟨fun k hk hkn hkp => ?_, fun hp0 k hk hkn hkp => ?_⟩
  · have hkk := par_lt hk
    by_cases hkj : k = j
    · subst hkj
      rw [at_ k, if_pos rfl, at_ (par k), if_neg (by omega), if_pos rfl]
      exact O.asymm _ _ hl
    · rw [at_ k, if_neg hkj, if_neg hkp, at_ (par k)]
      by_cases h1 : par k = j
      · rw [if_pos h1]
        exact h.2 hj0 k hk hkn h1
      · rw [if_neg h1]
        by_cases h2 : par k = par j
        · rw [if_pos h2]
          have h3 := h.1 k hk hkn hkj
          rw [h2] at h3
          exact O.neg _ _ _ h3 (O.asymm _ _ hl)
        · rw [if_neg h2]
          exact h.1 k hk hkn hkj
  · have hpp := par_lt hp0
    rw [at_ (par (par j)), if_neg (by omega), if_neg (by omega), at_ k]
    have h5 := h.1 (par j) hp0 (by omega) (by omega)
    by_cases hkj : k = j
    · rw [if_pos hkj]
      exact h5
    · have hkk := par_lt hk
      rw [if_neg hkj, if_neg (by omega)]
      have h3 := h.1 k hk hkn hkj
      rw [hkp] at h3
      exact O.neg _ _ _ h3 h5
theorem Hdn.stop {d : α} {l : List α} {n i : Nat} (h : Hdn lt d l n i) (h0 : ∀ k, 0 < k → k < n → par k = i → ¬ lt (l.getD k d) (l.getD i d)) : Hp lt d l n := by
  intro k hk hn
  by_cases hki : par k = i
  · rw [hki]
    exact h0 k hk hn hki
  · exact h.1 k hk hn hki
theorem Hdn.go (O : Ord lt) {d : α} {l : List α} {n i j : Nat} (h : Hdn lt d l n i) (hj0 : 0 < j) (hjn : j < n) (hji : par j = i) (hnl : n ≤ l.length) (hl : lt (l.getD j d) (l.getD i d)) (hs : ∀ k, 0 < k → k < n → par k = i → ¬ lt (l.getD k d) (l.getD j d)) : Hdn lt d (sw l d i j) n j := by
  have hp := par_lt hj0
  have hpl : i < l.length := by omega
  have hjl : j < l.length := by omega
  have at_ : ∀ k, (sw l d i j).getD k d = if k = j then l.getD i d else if k = i then l.getD j d else l.getD k d := sw_at hpl hjl
  refine ⟨fun k hk hkn hkp => ?_, fun _ k hk hkn hkp => ?_⟩
  · have hkk := par_lt hk
    rw [at_ k, at_ (par k), if_neg hkp]
    by_cases hkj : k = j
    · rw [if_pos hkj, if_pos (by rw [hkj]; exact hji)]
      exact O.asymm _ _ hl
    · rw [if_neg hkj]
      by_cases hki : k = i
      · rw [if_pos hki, if_neg (by omega)]
        have := h.2 (by omega) j hj0 hjn hji
        rw [hki]
        exact this
      · rw [if_neg hki]
        by_cases h1 : par k = i
        · rw [if_pos h1]
          exact hs k hk hkn h1
        · rw [if_neg h1]
          exact h.1 k hk hkn h1
  · have hkk := par_lt hk
    rw [at_ k, if_neg (by omega), if_neg (by omega), hji, at_ i, if_neg (by omega), if_pos rfl]
    have := h.1 k hk hkn (by omega)
    rw [hkp] at this
    exact this
/-- The first one is the least one. -/
theorem Hp.least (O : Ord lt) {d : α} {l : List α} {n : Nat} (h : Hp lt d l n) (h0 : ∀ a, ¬ lt a a) : ∀ k, k < n → ¬ lt (l.getD k d) (l.getD 0 d) := by
  intro k
  induction k using Nat.strongRecOn with
  | _ k ih =>
    intro hk
    by_cases hk0 : k = 0
    · subst hk0; exact h0 _
    · exact O.neg _ _ _ (h k (by omega) hk) (ih (par k) (par_lt (by omega)) (by have := par_lt (k := k) (by omega); omega))
/-- The first and the last one have changed places. -/
theorem Hdn.first {d : α} {l : List α} {m : Nat} (h : Hp lt d l (m + 1)) (hl : l.length = m + 1) : Hdn lt d (sw l d 0 m) m 0 := by
  have at_ : ∀ k, (sw l d 0 m).getD k d = if k = m then l.getD 0 d else if k = 0 then l.getD m d else l.getD k d := sw_at (by omega) (by omega)
  refine ⟨fun k hk hkm hkp => ?_, fun h0 => absurd h0 (Nat.lt_irrefl _)⟩
  have hpp := par_lt hk
  rw [at_ k, if_neg (by omega), if_neg (by omega), at_ (par k), if_neg (by omega), if_neg hkp]
  exact h k hk (by omega)
theorem Hp.prefix {d : α} {l r : List α} (h : Hp lt d (l ++ r) l.length) : Hp lt d l l.length := by
  intro k hk hkl
  have := h k hk hkl
  have hpp := par_lt hk
  rw [List.getD_eq_getElem?_getD, List.getD_eq_getElem?_getD, List.getElem?_append_left hkl, List.getElem?_append_left (by omega), ← List.getD_eq_getElem?_getD, ← List.getD_eq_getElem?_getD] at this
  exact this
theorem Hup.last {d : α} {l : List α} {x : α} (h : Hp lt d l l.length) : Hup lt d (l ++ [x]) (l.length + 1) l.length := by
  refine ⟨fun k hk hkn hkl => ?_, fun _ k hk hkn hkp => ?_⟩
  · have hpp := par_lt hk
    rw [List.getD_eq_getElem?_getD, List.getD_eq_getElem?_getD, List.getElem?_append_left (by omega), List.getElem?_append_left (by omega), ← List.getD_eq_getElem?_getD, ← List.getD_eq_getElem?_getD]
    exact h k hk (by omega)
  · have := par_lt hk
    omega
end
end Hq
open Cm
theorem ordS : Hq.Ord ltS := ⟨fun a b h1 h2 => List.lt_irrefl _ (List.lt_trans h1 h2), fun a b c h1 h2 => by
  unfold ltS at h1 h2 ⊢
  exact List.not_lt.2 (List.le_trans (List.not_lt.1 h2) (List.not_lt.1 h1))⟩
theorem irrS (a : ByteArray) : ¬ ltS a a := List.lt_irrefl _
end Go.Proofs.Ytkjgbldooflodaa
namespace Go.Proofs.Ytkjgbldooflodaa
open Go.RowKit Cm Mp
set_option maxRecDepth 100000
set_option linter.unusedVariables false
set_option linter.unusedSimpArgs false
/-- Two places' texts, changed for one another. -/
def swapL (l : List ByteArray) (i j : Nat) : List ByteArray := (l.set i (l.getD j ⟨#[]⟩)).set j (l.getD i ⟨#[]⟩)
theorem swapL_length (l : List ByteArray) (i j : Nat) : (swapL l i j).length = l.length := by simp [swapL]
theorem swapL_perm (l : List ByteArray) (i j : Nat) (hi : i < l.length) (hj : j < l.length) : (swapL l i j).Perm l := by
  have h := Array.swap_perm (xs := l.toArray) (i := i) (j := j) (by simpa using hi) (by simpa using hj)
  have h2 := Array.perm_iff_toList_perm.1 h
  unfold swapL
  rw [List.getD_eq_getElem?_getD, List.getD_eq_getElem?_getD, List.getElem?_eq_getElem hi, List.getElem?_eq_getElem hj]
  rw [Array.swap_def] at h2
  simpa using h2
theorem rowS_set {w : World} {B g n c i : Nat} {l : List ByteArray} (h : w.ownsRow B 9 1 (.slice (some ⟨g, 0, none⟩) n c) n (l.map Value.string)) (hi : i < n) (x : ByteArray) :
    (w.setCell ⟨g, i, none⟩ (.string x)).ownsRow B 9 1 (.slice (some ⟨g, 0, none⟩) n c) n ((l.set i x).map Value.string) := by
  rcases h.2 with ⟨e1, _⟩ | ⟨g', cap, cur, e1, hb, hg, hn, hm, hs, ht⟩
  · cases e1
  · injection e1 with e1 _ e3
    injection e1 with e1
    injection e1 with e1 _ _
    subst e1 e3
    refine ⟨by have := h.1; simpa using this, .inr ⟨g, c, cur.setIfInBounds i (.string x), rfl, hb, block_set hg _, hn, hm, by simpa using hs, ?_⟩⟩
    rw [Array.toList_setIfInBounds, List.map_set]
    rw [show n * 1 = n from Nat.mul_one n] at ht ⊢
    rw [List.take_set, ht]
theorem row_at {w : World} {B g n c i : Nat} {l : List ByteArray} {x : ByteArray} (h : w.ownsRow B 9 1 (.slice (some ⟨g, 0, none⟩) n c) n (l.map Value.string)) (hx : l[i]? = some x) : w.cell? ⟨g, i, none⟩ = some (.string x) := by
  have := h.cells rfl i (.string x) (by rw [List.getElem?_map, hx]; rfl)
  rwa [addr_add0] at this
theorem row_thaw {w : World} {B g n c i : Nat} {xs : List Value} (h : w.ownsRow B 9 1 (.slice (some ⟨g, 0, none⟩) n c) n xs) : w.frozen? ⟨g, i, none⟩ = false := by
  rcases h.2 with ⟨e1, _⟩ | ⟨g', cap, cur, e1, hb, hg, _⟩
  · cases e1
  · injection e1 with e1 _ e3
    injection e1 with e1
    injection e1 with e1 _ _
    subst e1
    simp [World.frozen?, hg]
theorem less_any (B rb c n : Nat) (l : List ByteArray) (i j : Nat) (w : World) (h : w.ownsRow B 9 1 (.slice (some ⟨rb, 0, none⟩) n c) n (l.map Value.string)) (hl : n = l.length) (hi : i < n) (hj : j < n) (hn : n ≤ 1000000) :
    Calls Try.prog 88 #[.slice (some ⟨rb, 0, none⟩) n c, .int .i64 i, .int .i64 j] w fun e w' => ∃ bo, e = .returned (.bool bo) ∧ (bo = true ↔ ltS (l.getD i ⟨#[]⟩) (l.getD j ⟨#[]⟩)) ∧ Below w.heap.size w w' := by
  obtain ⟨a, ha⟩ : ∃ a, l[i]? = some a := ⟨l[i]'(by omega), List.getElem?_eq_getElem (by omega)⟩
  obtain ⟨b, hb⟩ : ∃ b, l[j]? = some b := ⟨l[j]'(by omega), List.getElem?_eq_getElem (by omega)⟩
  have ca := row_at h ha
  have cb := row_at h hb
  have i1 : (i : Int) < n := by omega
  have j1 : (j : Int) < n := by omega
  obtain ⟨bo, hbo⟩ : ∃ bo, Op.bytesLess a.toList b.toList = bo := ⟨_, rfl⟩
  have hiff : bo = true ↔ ltS (l.getD i ⟨#[]⟩) (l.getD j ⟨#[]⟩) := by
    rw [List.getD_eq_getElem?_getD, List.getD_eq_getElem?_getD, ha, hb, ← hbo, Go.Proofs.bytesLess_eq, ByteArray.toList_eq, ByteArray.toList_eq]
    simp [ltS]
  have HI := Lib.hid hiff
  clear ha hb hl hiff
  go_enter Try.func88, Try.ntmps88
  go_wp2
  go_quiet (fail)
  all_goals (
    go_wp2
    go_ret
    exact ⟨bo, by first | rfl | (rw [hbo]; done), HI.out, by first | exact (Below.refl _ _).drew | exact below_drewN (Below.refl _ _) _⟩)
theorem swap_any (B rb c n : Nat) (l : List ByteArray) (i j : Nat) (w : World) (h : w.ownsRow B 9 1 (.slice (some ⟨rb, 0, none⟩) n c) n (l.map Value.string)) (hl : n = l.length) (hi : i < n) (hj : j < n) (hn : n ≤ 1000000) :
    Calls Try.prog 91 #[.slice (some ⟨rb, 0, none⟩) n c, .int .i64 i, .int .i64 j] w fun e w' => e = .returned (.tuple #[]) ∧ w'.ownsRow B 9 1 (.slice (some ⟨rb, 0, none⟩) n c) n ((swapL l i j).map Value.string) ∧ w.grownBy w' (some rb) := by
  obtain ⟨a, ha⟩ : ∃ a, l[i]? = some a := ⟨l[i]'(by omega), List.getElem?_eq_getElem (by omega)⟩
  obtain ⟨b, hb⟩ : ∃ b, l[j]? = some b := ⟨l[j]'(by omega), List.getElem?_eq_getElem (by omega)⟩
  have ca := row_at h ha
  have cb := row_at h hb
  have fa : w.frozen? ⟨rb, i, none⟩ = false := row_thaw h
  have hsw : swapL l i j = (l.set i b).set j a := by
    unfold swapL
    rw [List.getD_eq_getElem?_getD, List.getD_eq_getElem?_getD, ha, hb]
    rfl
  have h1 := rowS_set h hi b
  have h2 := rowS_set h1 hj a
  have hgb : (l.set i b)[j]? = some b := by
    rw [List.getElem?_set]
    by_cases hij : i = j
    · rw [if_pos hij, if_pos (by omega)]
    · rw [if_neg hij]; exact hb
  have cb1 := row_at h1 hgb
  have fb1 : (w.setCell ⟨rb, i, none⟩ (.string b)).frozen? ⟨rb, j, none⟩ = false := row_thaw h1
  have i1 : (i : Int) < n := by omega
  have j1 : (j : Int) < n := by omega
  rw [hsw]
  have hG : w.grownBy ((w.setCell ⟨rb, i, none⟩ (.string b)).setCell ⟨rb, j, none⟩ (.string a)) (some rb) := (gb_set w ⟨rb, i, none⟩ _).trans (gb_set _ ⟨rb, j, none⟩ _)
  have HH := Lib.hid (And.intro h2 hG)
  clear ha hb hl hsw h1 h2 hgb h hG
  go_enter Try.func91, Try.ntmps91
  go_wp2
  go_region
  all_goals (
    go_wp2
    exact ⟨rfl, .tuple #[], by simp [results, Try.results91, go_sem], rfl, HH.out.1.drew, HH.out.2.trans (gb_of_below ((Below.refl _ _).drew) _)⟩)
theorem But.of_grown {fb rb : Nat} {w w' : World} (h : w.grownBy w' (some rb)) : But fb rb w w' := ⟨h.os, h.tape, h.output, h.size, fun k hk _ h2 => h.block k hk (by simpa using h2)⟩
theorem mLess {ad : Addr} {w : World} {v : Value} (h : w.cell? ad = some v) : (Go.method 246 81 (.pointer (some ad)) "Less").run Try.prog w = .ok (88, v) w := mVal "Less" _ h (by kernel_rfl)
theorem Bx.cell {w : World} {B fb rb c : Nat} {l : List ByteArray} (h : Bx w B fb rb c l) : w.cell? ⟨fb, 0, none⟩ = some (.slice (some ⟨rb, 0, none⟩) l.length c) := by rw [Lib.cell_of_heap h.box]; rfl
theorem Bx.swapped {w w' : World} {B fb rb c : Nat} {l l' : List ByteArray} (h : Bx w B fb rb c l) (hl : l'.length = l.length) (hg : w.grownBy w' (some rb)) (hr : w'.ownsRow B 9 1 (.slice (some ⟨rb, 0, none⟩) l.length c) l.length (l'.map Value.string)) : Bx w' B fb rb c l' := by
  refine ⟨?_, by rw [hl]; exact hr⟩
  rw [hl]
  exact (hg.block fb (Array.getElem?_eq_some_iff.1 h.box).1 (by have := h.ne; simpa using this)).trans h.box
set_option maxHeartbeats 2000000 in
/-- heap.up: the texts are the same ones. -/
theorem up_gen (B fb rb c : Nat) (l : List ByteArray) (j : Nat) (w : World) (h : Bx w B fb rb c l) (hj : j < l.length) (hn : l.length ≤ 1000000) :
    Calls Try.prog 53 #[lp fb, .int .i64 j] w fun e w' => e = .returned (.tuple #[]) ∧ ∃ l', Bx w' B fb rb c l' ∧ l'.Perm l ∧ (Hq.Hup ltS ⟨#[]⟩ l l.length j → Hq.Hp ltS ⟨#[]⟩ l' l'.length) ∧ But fb rb w w' := by
  unfold lp
  go_enter Try.func53, Try.ntmps53
  go_wp2
  go_loopw [1] (fun v wr => ∃ (k : Nat) (l1 : List ByteArray), v = .int .i64 k ∧ k < l.length ∧ Bx wr B fb rb c l1 ∧ Hid (l1.Perm l ∧ (Hq.Hup ltS ⟨#[]⟩ l l.length j → Hq.Hup ltS ⟨#[]⟩ l1 l1.length k)) ∧ But fb rb w wr) (fun v _ => (intOf v).toNat)
  case atStart => exact ⟨j, l, by first | rfl | trivial, hj, h, Lib.hid ⟨List.Perm.refl _, id⟩, But.of_below (Below.refl _ _)⟩
  case round =>
    obtain ⟨k, l1, rfl, hk, hb, HP, hbut⟩ := hrel
    have hk1 : k < l1.length := by rw [HP.out.1.length_eq]; exact hk
    have hn1 : l1.length ≤ 1000000 := by rw [HP.out.1.length_eq]; exact hn
    by_cases hk0 : k = 0
    · subst hk0
      go_wp2
      exact ⟨rfl, .tuple #[], by simp [results, Try.results53, go_sem], rfl, l1, hb, HP.out.1, fun hu => (HP.out.2 hu).stop (.inl rfl), hbut⟩
    · obtain ⟨p, hp, hpk, hpp⟩ : ∃ p : Nat, ((k : Int) - 1).tdiv 2 = p ∧ p < k ∧ p = Hq.par k := ⟨(k - 1) / 2, by
        rw [show (k : Int) - 1 = ((k - 1 : Nat) : Int) by omega, Int.tdiv_eq_ediv_of_nonneg (by omega)]
        omega, by omega, rfl⟩
      have HPP := Lib.hid hpp
      clear hpp
      have d1 : IntKind.i64.wrap ((k : Int) - 1) = (k : Int) - 1 := wrap_fit _ (by omega) (by omega)
      have d3 : IntKind.i64.wrap (p : Int) = p := wrap_fit _ (by omega) (by omega)
      have d4 : ((p : Int) == k) = false := beq_eq_false_iff_ne.2 (by omega)
      have m1 := mLess hb.cell
      have q1 := less_any B rb c l1.length l1 k p wr hb.row rfl (by omega) (by omega) (by omega)
      go_wp2_with (fail)
      go_at_call 88
      with_reducible refine q1.mono ?_
      rintro e w4 ⟨bo, rfl, hbi, hb4⟩
      have hx4 := hb.below hb4
      have hbut4 := hbut.trans (But.of_below hb4)
      have HBI := Lib.hid hbi
      clear hbi
      cases bo
      · clear hb m1 q1 hbut
        go_wp2
        exact ⟨rfl, .tuple #[], by simp [results, Try.results53, go_sem], rfl, l1, hx4, HP.out.1, fun hu => (HP.out.2 hu).stop (.inr (by rw [← HPP.out]; exact fun e => by have := HBI.out.2 e; cases this)), hbut4⟩
      · have m2 := mSwap hx4.cell
        have q2 := swap_any B rb c l1.length l1 p k w4 hx4.row rfl (by omega) (by omega) (by omega)
        clear hb m1 q1 hbut
        go_wp2_with (fail)
        go_at_call 91
        with_reducible refine q2.mono ?_
        rintro e w5 ⟨rfl, hr5, hg5⟩
        have hx5 := hx4.swapped (swapL_length l1 p k) hg5 hr5
        have hbut5 := hbut4.trans (But.of_grown hg5)
        have HP5 := Lib.hid (And.intro ((swapL_perm l1 p k (by omega) (by omega)).trans HP.out.1) (show Hq.Hup ltS ⟨#[]⟩ l l.length j → Hq.Hup ltS ⟨#[]⟩ (swapL l1 p k) (swapL l1 p k).length p from fun hu => by
          have h1 := (HP.out.2 hu).go ordS (by omega) hk1 (Nat.le_refl _) (by rw [← HPP.out]; exact HBI.out.1 (by first | rfl | trivial))
          rw [← HPP.out] at h1
          rw [swapL_length]
          exact h1))
        clear hx4 hbut4 m2 q2 hr5 hg5
        go_wp2
        go_roundw
        case rel => exact ⟨p, _, by first | rfl | trivial, by omega, hx5, HP5, hbut5⟩
        case measure => simp [intOf]; omega
end Go.Proofs.Ytkjgbldooflodaa
namespace Go.Proofs.Ytkjgbldooflodaa
namespace Kn
section
variable {α : Type}
theorem split_nodup {V : List α} {p : α} (hn : V.Nodup) (hp : p ∈ V) : ∃ A B, V = A ++ p :: B ∧ p ∉ A ∧ p ∉ B := by
  obtain ⟨A, B, rfl⟩ := List.append_of_mem hp
  rw [List.nodup_append] at hn
  obtain ⟨_, h2, h3⟩ := hn
  exact ⟨A, B, rfl, fun h => h3 p h p (List.mem_cons_self ..) rfl, (List.nodup_cons.1 h2).1⟩
theorem drop_cons {l : List α} {i : Nat} {q : α} (h : l[i]? = some q) : l.drop i = q :: l.drop (i + 1) := by
  obtain ⟨h1, h2⟩ := List.getElem?_eq_some_iff.1 h
  rw [List.drop_eq_getElem_cons h1, h2]
theorem len_filter {V : List α} {f g : α → Bool} {p : α} (hn : V.Nodup) (hp : p ∈ V) (h : ∀ s ∈ V, s ≠ p → f s = g s) (hg : g p = false) : (V.filter f).length = (V.filter g).length + (if f p then 1 else 0) := by
  obtain ⟨A, B, rfl, hA, hB⟩ := split_nodup hn hp
  have eA : A.filter f = A.filter g := List.filter_congr fun s hs => h s (List.mem_append_left _ hs) (fun e => hA (e ▸ hs))
  have eB : B.filter f = B.filter g := List.filter_congr fun s hs => h s (List.mem_append_right _ (List.mem_cons_of_mem _ hs)) (fun e => hB (e ▸ hs))
  rw [List.filter_append, List.filter_append, List.filter_cons, List.filter_cons, eA, eB, hg]
  cases hf : f p <;> simp <;> omega
theorem filter_le {f g : α → Bool} (h : ∀ x, f x = true → g x = true) : ∀ V : List α, (V.filter f).length ≤ (V.filter g).length
  | [] => Nat.le_refl _
  | x :: V => by
    have ih := filter_le h V
    rw [List.filter_cons, List.filter_cons]
    cases hf : f x with
    | false =>
      cases hg : g x <;> simp <;> omega
    | true =>
      rw [h x hf]
      simp
      omega
end
section
variable {α : Type} [DecidableEq α]
/-- How many of V, not told yet, have q for a parent. -/
def cnt (V : List α) (pl : α → List α) (out : List α) (q : α) : Nat := (V.filter fun s => decide (s ∉ out) && decide (q ∈ pl s)).length
def cntL (V : List α) (pl : α → List α) (left : α → Bool) (q : α) : Nat := (V.filter fun s => !left s && decide (q ∈ pl s)).length
def one (b : Prop) [Decidable b] : Nat := if b then 1 else 0
/-- 1 where it is among them. -/
def has1 (l : List α) (q : α) : Nat := one (q ∈ l)
theorem has1_le (l : List α) (q : α) : has1 l q ≤ 1 := by unfold has1 one; split <;> omega
theorem has1_nil (q : α) : has1 ([] : List α) q = 0 := by simp [has1, one]
theorem has1_take {l : List α} {k : Nat} {q x : α} (hn : l.Nodup) (hq : l[k]? = some q) : has1 (l.take (k + 1)) x = has1 (l.take k) x + if x = q then 1 else 0 := by
  have e : l.take (k + 1) = l.take k ++ [q] := by rw [List.take_add_one, hq]; rfl
  have hqn : q ∉ l.take k := fun h => by
    obtain ⟨j, hj⟩ := List.getElem?_of_mem h
    rw [List.getElem?_take] at hj
    by_cases hjk : j < k
    · rw [if_pos hjk] at hj
      obtain ⟨h1, h2⟩ := List.getElem?_eq_some_iff.1 hj
      obtain ⟨h3, h4⟩ := List.getElem?_eq_some_iff.1 hq
      have := (List.getElem_inj hn).1 (h2.trans h4.symm)
      omega
    · rw [if_neg hjk] at hj; cases hj
  unfold has1 one
  rw [e]
  by_cases hx : x = q
  · subst hx
    simp [hqn]
  · simp [hx]
structure Kh (V : List α) (pl : α → List α) (out free : List α) (beh : α → Int) : Prop where
  on : out.Nodup
  fn : free.Nodup
  dis : ∀ x ∈ free, x ∉ out
  so : ∀ x ∈ out, x ∈ V
  sf : ∀ x ∈ free, x ∈ V
  cn : ∀ q, beh q = (cnt V pl out q : Int)
  rdy : ∀ q ∈ V, (q ∈ free ∨ q ∈ out) ↔ ∀ s ∈ V, q ∈ pl s → s ∈ out
  ord : ∀ (i j : Nat) s q, out[i]? = some s → q ∈ pl s → out[j]? = some q → i < j
structure Km (V : List α) (pl : α → List α) (out free : List α) (beh : α → Int) (l : List α) (i : Nat) : Prop where
  on : out.Nodup
  fn : free.Nodup
  dis : ∀ x ∈ free, x ∉ out
  so : ∀ x ∈ out, x ∈ V
  sf : ∀ x ∈ free, x ∈ V
  ln : l.Nodup
  lv : ∀ q ∈ l, q ∈ V
  cn : ∀ q, beh q = (cnt V pl out q : Int) + (one (q ∈ l.drop i) : Int)
  rdy : ∀ q ∈ V, (q ∈ free ∨ q ∈ out) ↔ (∀ s ∈ V, q ∈ pl s → s ∈ out) ∧ q ∉ l.drop i
  ord : ∀ (i j : Nat) s q, out[i]? = some s → q ∈ pl s → out[j]? = some q → i < j
theorem cnt_pop {V : List α} {pl : α → List α} {out : List α} {p : α} (hn : V.Nodup) (hp : p ∈ V) (ho : p ∉ out) (q : α) : cnt V pl out q = cnt V pl (out ++ [p]) q + one (q ∈ pl p) := by
  unfold cnt one
  rw [len_filter (p := p) (g := fun s => decide (s ∉ out ++ [p]) && decide (q ∈ pl s)) hn hp]
  · congr 1
    by_cases h : q ∈ pl p <;> simp [h, ho]
  · intro s hs hsp
    have : (s ∉ out ++ [p]) ↔ s ∉ out := by simp [hsp]
    simp only [this]
  · simp
theorem cntL_step {V : List α} {pl : α → List α} {left : α → Bool} {s : α} (hn : V.Nodup) (hs : s ∈ V) (hl : left s = true) (q : α) : cntL V pl (fun x => left x && !decide (x = s)) q = cntL V pl left q + one (q ∈ pl s) := by
  unfold cntL one
  rw [len_filter (p := s) (g := fun x => !left x && decide (q ∈ pl x)) hn hs]
  · congr 1
    by_cases h : q ∈ pl s <;> simp [h]
  · intro x hx hxs
    simp [hxs]
  · simp [hl]
theorem cntL_done {V : List α} {pl : α → List α} {left : α → Bool} (h : ∀ s, left s = false) (q : α) : cntL V pl left q = cnt V pl [] q := by
  unfold cntL cnt
  congr 1
  refine List.filter_congr fun s _ => ?_
  simp [h s]
theorem cntL_start {V : List α} {pl : α → List α} {left : α → Bool} (h : ∀ s ∈ V, left s = true) (q : α) : cntL V pl left q = 0 := by
  unfold cntL
  rw [List.length_eq_zero_iff, List.filter_eq_nil_iff]
  intro s hs
  simp [h s hs]
theorem cntL_le (V : List α) (pl : α → List α) (left : α → Bool) (q : α) : cntL V pl left q ≤ V.length := List.length_filter_le _ _
theorem cnt_zero {V : List α} {pl : α → List α} {out : List α} {q : α} : cnt V pl out q = 0 ↔ ∀ s ∈ V, q ∈ pl s → s ∈ out := by
  unfold cnt
  rw [List.length_eq_zero_iff, List.filter_eq_nil_iff]
  constructor
  · intro h s hs hq
    have := h s hs
    simp [hq] at this
    exact this
  · intro h s hs
    have := h s hs
    simp
    intro h1 h2
    exact h1 (this h2)
theorem Kh.perm {V : List α} {pl : α → List α} {out free free' : List α} {beh : α → Int} (h : Kh V pl out free beh) (hp : free'.Perm free) : Kh V pl out free' beh :=
  ⟨h.on, hp.nodup_iff.2 h.fn, fun x hx => h.dis x (hp.mem_iff.1 hx), h.so, fun x hx => h.sf x (hp.mem_iff.1 hx), h.cn, fun q hq => by rw [hp.mem_iff]; exact h.rdy q hq, h.ord⟩
theorem Km.perm {V : List α} {pl : α → List α} {out free free' : List α} {beh : α → Int} {l : List α} {i : Nat} (h : Km V pl out free beh l i) (hp : free'.Perm free) : Km V pl out free' beh l i :=
  ⟨h.on, hp.nodup_iff.2 h.fn, fun x hx => h.dis x (hp.mem_iff.1 hx), h.so, fun x hx => h.sf x (hp.mem_iff.1 hx), h.ln, h.lv, h.cn, fun q hq => by rw [hp.mem_iff]; exact h.rdy q hq, h.ord⟩
theorem Kh.pop {V : List α} {pl : α → List α} {out free : List α} {beh : α → Int} {p : α} (h : Kh V pl out (p :: free) beh) (hn : V.Nodup) (hln : (pl p).Nodup) (hlv : ∀ q ∈ pl p, q ∈ V) : Km V pl (out ++ [p]) free beh (pl p) 0 := by
  have hpo : p ∉ out := h.dis p (List.mem_cons_self ..)
  have hpV : p ∈ V := h.sf p (List.mem_cons_self ..)
  obtain ⟨hpf, hfn⟩ := List.nodup_cons.1 h.fn
  have hrp := (h.rdy p hpV).1 (.inl (List.mem_cons_self ..))
  have hpp : p ∉ pl p := fun e => hpo (hrp p hpV e)
  refine ⟨?_, hfn, fun x hx => ?_, fun x hx => ?_, fun x hx => h.sf x (List.mem_cons_of_mem _ hx), hln, hlv, fun q => ?_, fun q hq => ?_, fun i j s q hi hq hj => ?_⟩
  · rw [List.nodup_append]
    exact ⟨h.on, by simp, fun x hx y hy => by rw [List.mem_singleton] at hy; rw [hy]; intro e; exact hpo (e ▸ hx)⟩
  · rw [List.mem_append, List.mem_singleton]
    rintro (h1 | rfl)
    · exact h.dis x (List.mem_cons_of_mem _ hx) h1
    · exact hpf hx
  · rw [List.mem_append, List.mem_singleton] at hx
    rcases hx with hx | rfl
    · exact h.so x hx
    · exact hpV
  · rw [h.cn q, cnt_pop hn hpV hpo q, List.drop_zero]
    omega
  · rw [List.drop_zero]
    have h1 := h.rdy q hq
    have e1 : (q ∈ free ∨ q ∈ out ++ [p]) ↔ (q ∈ p :: free ∨ q ∈ out) := by
      rw [List.mem_append, List.mem_singleton, List.mem_cons]
      constructor
      · rintro (h | h | h)
        · exact .inl (.inr h)
        · exact .inr h
        · exact .inl (.inl h)
      · rintro ((h | h) | h)
        · exact .inr (.inr h)
        · exact .inl h
        · exact .inr (.inl h)
    rw [e1, h1]
    constructor
    · intro h2
      exact ⟨fun s hs hqs => List.mem_append_left _ (h2 s hs hqs), fun h3 => hpo (h2 p hpV h3)⟩
    · rintro ⟨h2, h3⟩ s hs hqs
      have := h2 s hs hqs
      rw [List.mem_append, List.mem_singleton] at this
      rcases this with h4 | rfl
      · exact h4
      · exact absurd hqs h3
  · have hlt : ∀ {k : Nat} {x : α}, (out ++ [p])[k]? = some x → k < out.length ∧ out[k]? = some x ∨ k = out.length ∧ x = p := fun {k x} hk => by
      by_cases hkl : k < out.length
      · rw [List.getElem?_append_left hkl] at hk
        exact .inl ⟨hkl, hk⟩
      · rw [List.getElem?_append_right (by omega)] at hk
        have := (List.getElem?_eq_some_iff.1 hk).1
        have hk0 : k - out.length = 0 := by simpa using this
        rw [hk0] at hk
        exact .inr ⟨by omega, by simpa using hk.symm⟩
    rcases hlt hi with ⟨h1, h2⟩ | ⟨h1, rfl⟩
    · rcases hlt hj with ⟨h3, h4⟩ | ⟨h3, h4⟩
      · exact h.ord i j s q h2 hq h4
      · omega
    · rcases hlt hj with ⟨h3, h4⟩ | ⟨h3, rfl⟩
      · have hqo := List.mem_of_getElem? h4
        exact absurd ((h.rdy q (h.so q hqo)).1 (.inr hqo) s hpV hq) hpo
      · exact absurd hq hpp
theorem Km.step_beh {V : List α} {pl : α → List α} {out free : List α} {beh : α → Int} {l : List α} {i : Nat} {q : α} (h : Km V pl out free beh l i) (hq : l[i]? = some q) :
    (beh q - 1 = cnt V pl out q) ∧ q ∉ l.drop (i + 1) ∧ ∀ x, (if x = q then beh q - 1 else beh x) = (cnt V pl out x : Int) + (one (x ∈ l.drop (i + 1)) : Int) := by
  have hd := drop_cons hq
  have hqn : q ∉ l.drop (i + 1) := by
    have : (l.drop i).Nodup := h.ln.sublist (List.drop_sublist _ _)
    rw [hd] at this
    exact (List.nodup_cons.1 this).1
  have h1 := h.cn q
  have e1 : one (q ∈ l.drop i) = 1 := if_pos (by rw [hd]; exact List.mem_cons_self ..)
  rw [e1] at h1
  refine ⟨by omega, hqn, fun x => ?_⟩
  by_cases hx : x = q
  · subst hx
    have e2 : one (x ∈ l.drop (i + 1)) = 0 := if_neg hqn
    rw [if_pos rfl, e2]
    omega
  · rw [if_neg hx, h.cn x]
    congr 2
    unfold one
    have : (x ∈ l.drop i) ↔ x ∈ l.drop (i + 1) := by rw [hd, List.mem_cons]; exact ⟨fun e => e.resolve_left hx, .inr⟩
    simp only [this]
theorem Km.push {V : List α} {pl : α → List α} {out free : List α} {beh : α → Int} {l : List α} {i : Nat} {q : α} (h : Km V pl out free beh l i) (hq : l[i]? = some q) (h0 : beh q - 1 = 0) :
    Km V pl out (q :: free) (fun x => if x = q then beh q - 1 else beh x) l (i + 1) := by
  obtain ⟨h1, hqn, hcn⟩ := h.step_beh hq
  have hd := drop_cons hq
  have hqV := h.lv q (List.mem_of_getElem? hq)
  have hno : ¬ (q ∈ free ∨ q ∈ out) := fun e => ((h.rdy q hqV).1 e).2 (by rw [hd]; exact List.mem_cons_self ..)
  refine ⟨h.on, List.nodup_cons.2 ⟨fun e => hno (.inl e), h.fn⟩, fun x hx => ?_, h.so, fun x hx => ?_, h.ln, h.lv, hcn, fun x hx => ?_, h.ord⟩
  · rcases List.mem_cons.1 hx with rfl | hx
    · exact fun e => hno (.inr e)
    · exact h.dis x hx
  · rcases List.mem_cons.1 hx with rfl | hx
    · exact hqV
    · exact h.sf x hx
  · by_cases hxq : x = q
    · subst hxq
      have hz : cnt V pl out x = 0 := by omega
      exact ⟨fun _ => ⟨cnt_zero.1 hz, hqn⟩, fun _ => .inl (List.mem_cons_self ..)⟩
    · have h2 := h.rdy x hx
      rw [hd, List.mem_cons] at h2
      rw [List.mem_cons]
      simp only [hxq, false_or] at h2 ⊢
      exact h2
theorem Km.pass {V : List α} {pl : α → List α} {out free : List α} {beh : α → Int} {l : List α} {i : Nat} {q : α} (h : Km V pl out free beh l i) (hq : l[i]? = some q) (h0 : beh q - 1 ≠ 0) :
    Km V pl out free (fun x => if x = q then beh q - 1 else beh x) l (i + 1) := by
  obtain ⟨h1, hqn, hcn⟩ := h.step_beh hq
  have hd := drop_cons hq
  have hqV := h.lv q (List.mem_of_getElem? hq)
  have hno : ¬ (q ∈ free ∨ q ∈ out) := fun e => ((h.rdy q hqV).1 e).2 (by rw [hd]; exact List.mem_cons_self ..)
  refine ⟨h.on, h.fn, h.dis, h.so, h.sf, h.ln, h.lv, hcn, fun x hx => ?_, h.ord⟩
  by_cases hxq : x = q
  · subst hxq
    exact ⟨fun e => absurd e hno, fun ⟨e, _⟩ => absurd (cnt_zero.2 e) (by omega)⟩
  · have h2 := h.rdy x hx
    rw [hd, List.mem_cons] at h2
    simp only [hxq, false_or] at h2
    exact h2
theorem Km.close {V : List α} {pl : α → List α} {out free : List α} {beh : α → Int} {l : List α} (h : Km V pl out free beh l l.length) : Kh V pl out free beh := by
  refine ⟨h.on, h.fn, h.dis, h.so, h.sf, fun q => ?_, fun q hq => ?_, h.ord⟩
  · rw [h.cn q, List.drop_length]
    simp [one]
  · rw [h.rdy q hq, List.drop_length]
    simp
theorem Kh.start {V : List α} {pl : α → List α} {beh : α → Int} {a : α} (ha : a ∈ V) (h1 : ∀ s ∈ V, a ∉ pl s) (h2 : ∀ y ∈ V, y ≠ a → ∃ s ∈ V, y ∈ pl s) (hb : ∀ q, beh q = (cnt V pl [] q : Int)) : Kh V pl [] [a] beh := by
  refine ⟨List.nodup_nil, by simp, fun x _ => by simp, (fun x hx => by cases hx), (fun x hx => by rw [List.mem_singleton] at hx; rw [hx]; exact ha), hb, fun q hq => ?_, fun i j s q hi => by simp at hi⟩
  constructor
  · rintro (h | h)
    · rw [List.mem_singleton] at h
      subst h
      exact fun s hs e => absurd e (h1 s hs)
    · cases h
  · intro h
    by_cases hqa : q = a
    · exact .inl (by rw [hqa]; exact List.mem_singleton.2 rfl)
    · obtain ⟨s, hs, hqs⟩ := h2 q hq hqa
      have := h s hs hqs
      cases this
theorem Kh.all {V : List α} {pl : α → List α} {out : List α} {beh : α → Int} (h : Kh V pl out [] beh) (rk : α → Nat) (M : Nat) (hM : ∀ s ∈ V, rk s ≤ M) (hr : ∀ s ∈ V, ∀ q ∈ pl s, rk q < rk s) : ∀ q ∈ V, q ∈ out := by
  have key : ∀ n, ∀ q ∈ V, M - rk q ≤ n → q ∈ out := by
    intro n
    induction n with
    | zero =>
      intro q hq hn
      have := (h.rdy q hq).2 (fun s hs hqs => by
        have h1 := hr s hs q hqs
        have h2 := hM s hs
        omega)
      exact this.resolve_left (by simp)
    | succ n ih =>
      intro q hq hn
      have := (h.rdy q hq).2 (fun s hs hqs => ih s hs (by
        have h1 := hr s hs q hqs
        have h2 := hM s hs
        omega))
      exact this.resolve_left (by simp)
  exact fun q hq => key _ q hq (Nat.le_refl _)
theorem Kh.first {V : List α} {pl : α → List α} {out free : List α} {beh : α → Int} {a y : α} (h : Kh V pl out free beh) (h2 : ∀ y ∈ V, y ≠ a → ∃ s ∈ V, y ∈ pl s) (hy : out[0]? = some y) : y = a := by
  have hyo := List.mem_of_getElem? hy
  have hyV := h.so y hyo
  refine Classical.byContradiction fun hne => ?_
  obtain ⟨s, hs, hys⟩ := h2 y hyV hne
  have hso := (h.rdy y hyV).1 (.inr hyo) s hs hys
  obtain ⟨i, hi⟩ := List.getElem?_of_mem hso
  have := h.ord i 0 s y hi hys hy
  omega
/-- How many are still counted. -/
def live (V : List α) (beh : α → Int) : Nat := (V.filter fun q => decide (0 < beh q)).length
theorem live_push {V : List α} {beh : α → Int} {q : α} (hn : V.Nodup) (hq : q ∈ V) (h0 : beh q - 1 = 0) : live V (fun x => if x = q then beh q - 1 else beh x) + 1 = live V beh := by
  unfold live
  rw [len_filter (f := fun q => decide (0 < beh q)) (g := fun x => decide (0 < (if x = q then beh q - 1 else beh x))) (p := q) hn hq]
  · rw [if_pos (by simp; omega)]
  · intro s hs hsq
    simp [hsq]
  · simp; omega
theorem live_pass {V : List α} {beh : α → Int} {q : α} : live V (fun x => if x = q then beh q - 1 else beh x) ≤ live V beh := by
  unfold live
  refine filter_le (fun x hx => ?_) V
  have h1 := of_decide_eq_true hx
  dsimp only at h1
  by_cases hxq : x = q
  · subst hxq
    rw [if_pos rfl] at h1
    exact decide_eq_true (by omega)
  · rw [if_neg hxq] at h1
    exact decide_eq_true h1
end
end Kn
end Go.Proofs.Ytkjgbldooflodaa
namespace Go.Proofs.Ytkjgbldooflodaa
open Go.RowKit Cm Mp
set_option maxRecDepth 100000
set_option linter.unusedVariables false
set_option linter.unusedSimpArgs false
set_option maxHeartbeats 2000000 in
theorem down_gen (B fb rb c n : Nat) (l : List ByteArray) (w : World) (h : Bx w B fb rb c l) (hn : n ≤ l.length) (hl : l.length ≤ 1000000) :
    Calls Try.prog 52 #[lp fb, .int .i64 0, .int .i64 n] w fun e w' => ∃ bo, e = .returned (.bool bo) ∧ ∃ l', Bx w' B fb rb c l' ∧ l'.Perm l ∧ (∀ k, n ≤ k → l'.getD k ⟨#[]⟩ = l.getD k ⟨#[]⟩) ∧ (Hq.Hdn ltS ⟨#[]⟩ l n 0 → Hq.Hp ltS ⟨#[]⟩ l' n) ∧ But fb rb w w' := by
  unfold lp
  go_enter Try.func52, Try.ntmps52
  go_wp2
  go_loopw [7] (fun v wr => ∃ (i : Nat) (l1 : List ByteArray), v = .int .i64 i ∧ i ≤ n ∧ Bx wr B fb rb c l1 ∧ Hid (l1.Perm l ∧ (∀ k, n ≤ k → l1.getD k ⟨#[]⟩ = l.getD k ⟨#[]⟩) ∧ (Hq.Hdn ltS ⟨#[]⟩ l n 0 → Hq.Hdn ltS ⟨#[]⟩ l1 n i)) ∧ But fb rb w wr) (fun v _ => n - (intOf v).toNat)
  case atStart => exact ⟨0, l, by first | rfl | trivial, Nat.zero_le _, h, Lib.hid ⟨List.Perm.refl _, fun _ _ => rfl, id⟩, But.of_below (Below.refl _ _)⟩
  case round =>
    obtain ⟨i, l1, rfl, hi, hb, HP, hbut⟩ := hrel
    have hn1 : n ≤ l1.length := by rw [HP.out.1.length_eq]; exact hn
    have hl1 : l1.length ≤ 1000000 := by rw [HP.out.1.length_eq]; exact hl
    have w1 : IntKind.i64.wrap (2 * (i : Int)) = 2 * (i : Int) := wrap_fit _ (by omega) (by omega)
    have w2 : IntKind.i64.wrap (2 * (i : Int) + 1) = 2 * (i : Int) + 1 := wrap_fit _ (by omega) (by omega)
    have w3 : IntKind.i64.wrap (2 * (i : Int) + 1 + 1) = 2 * (i : Int) + 1 + 1 := wrap_fit _ (by omega) (by omega)
    by_cases c1 : n ≤ 2 * i + 1
    · have f1 : decide ((n : Int) ≤ 2 * (i : Int) + 1) = true := decide_eq_true (by omega)
      go_wp2
      go_ret
      exact ⟨_, rfl, l1, hb, HP.out.1, HP.out.2.1, fun hd => (HP.out.2.2 hd).stop (fun k hk hkn hkp => by unfold Hq.par at hkp; omega), hbut⟩
    · have f1 : decide ((n : Int) ≤ 2 * (i : Int) + 1) = false := decide_eq_false (by omega)
      have f2 : decide (2 * (i : Int) + 1 < 0) = false := decide_eq_false (by omega)
      have LESS : ∀ (wx : World), Bx wx B fb rb c l1 → ∀ (x y : Int) (a b : Nat), x = a → y = b → a < n → b < n → Calls Try.prog 88 #[.slice (some ⟨rb, 0, none⟩) l1.length c, .int .i64 x, .int .i64 y] wx fun e w' => ∃ bo, e = .returned (.bool bo) ∧ (bo = true ↔ ltS (l1.getD a ⟨#[]⟩) (l1.getD b ⟨#[]⟩)) ∧ Below wx.heap.size wx w' := fun wx hx x y a b hxa hyb ha hb => by
        subst hxa hyb
        exact less_any B rb c l1.length l1 a b wx hx.row rfl (by omega) (by omega) hl1
      have SWAP : ∀ (wx : World), Bx wx B fb rb c l1 → ∀ (x y : Int) (a b : Nat), x = a → y = b → a < n → b < n → Calls Try.prog 91 #[.slice (some ⟨rb, 0, none⟩) l1.length c, .int .i64 x, .int .i64 y] wx fun e w' => e = .returned (.tuple #[]) ∧ w'.ownsRow B 9 1 (.slice (some ⟨rb, 0, none⟩) l1.length c) l1.length ((swapL l1 a b).map Value.string) ∧ wx.grownBy w' (some rb) := fun wx hx x y a b hxa hyb ha hb => by
        subst hxa hyb
        exact swap_any B rb c l1.length l1 a b wx hx.row rfl (by omega) (by omega) hl1
      by_cases c2 : 2 * i + 2 < n
      · have f3 : decide (2 * (i : Int) + 1 + 1 < (n : Int)) = true := decide_eq_true (by omega)
        have m0 := mLess hb.cell
        have q0 := LESS wr hb (2 * (i : Int) + 1 + 1) (2 * (i : Int) + 1) (2 * i + 2) (2 * i + 1) (by omega) (by omega) (by omega) (by omega)
        go_wp2_with (fail)
        go_at_call 88
        with_reducible refine q0.mono ?_
        rintro e w4 ⟨b1, rfl, hbi1, hb4⟩
        have HB1 := Lib.hid hbi1
        clear hbi1
        have hx4 := hb.below hb4
        have hbut4 := hbut.trans (But.of_below hb4)
        clear m0 q0
        cases b1
        · have HSM := Lib.hid (show ∀ k, 0 < k → k < n → Hq.par k = i → ¬ ltS (l1.getD k ⟨#[]⟩) (l1.getD (2 * i + 1) ⟨#[]⟩) from fun k hk hkn hkp => by
            have h2 : k = 2 * i + 1 ∨ k = 2 * i + 2 := by unfold Hq.par at hkp; omega
            rcases h2 with rfl | rfl
            · exact irrS _
            · exact fun e => by have := HB1.out.2 e; cases this)
          have m1 := mLess (hx4).cell
          have q1 := LESS w4 hx4 (2 * (i : Int) + 1) i (2 * i + 1) i (by omega) (by omega) (by omega) (by omega)
          go_wp2_with (fail)
          go_at_call 88
          with_reducible refine q1.mono ?_
          rintro e w5 ⟨b2, rfl, hbi2, hb5⟩
          have HB2 := Lib.hid hbi2
          clear hbi2
          have hx5 := hx4.below hb5
          have hbut5 := hbut4.trans (But.of_below hb5)
          clear m1 q1
          cases b2
          · go_wp2
            go_ret
            exact ⟨_, rfl, l1, hx5, HP.out.1, HP.out.2.1, fun hd => (HP.out.2.2 hd).stop (fun k hk hkn hkp => ordS.neg _ _ _ (HSM.out k hk hkn hkp) (fun e => by have := HB2.out.2 e; cases this)), hbut5⟩
          · have m2 := mSwap hx5.cell
            have q2 := SWAP w5 hx5 i (2 * (i : Int) + 1) i (2 * i + 1) (by omega) (by omega) (by omega) (by omega)
            go_wp2_with (fail)
            go_at_call 91
            with_reducible refine q2.mono ?_
            rintro e w6 ⟨rfl, hr6, hg6⟩
            have hx6 := hx5.swapped (swapL_length l1 i (2 * i + 1)) hg6 hr6
            have hbut6 := hbut5.trans (But.of_grown hg6)
            have HP6 := Lib.hid (And.intro ((swapL_perm l1 i (2 * i + 1) (by omega) (by omega)).trans HP.out.1) (And.intro (show ∀ k, n ≤ k → (swapL l1 i (2 * i + 1)).getD k ⟨#[]⟩ = l.getD k ⟨#[]⟩ from fun k hk => by have h1 := Hq.sw_at (l := l1) (d := ⟨#[]⟩) (i := i) (j := 2 * i + 1) (by omega) (by omega) k; rw [if_neg (by omega), if_neg (by omega)] at h1; exact h1.trans (HP.out.2.1 k hk)) (show Hq.Hdn ltS ⟨#[]⟩ l n 0 → Hq.Hdn ltS ⟨#[]⟩ (swapL l1 i (2 * i + 1)) n (2 * i + 1) from fun hd => (HP.out.2.2 hd).go ordS (by omega) (by omega) (by unfold Hq.par; omega) hn1 (HB2.out.1 (by first | rfl | trivial)) HSM.out)))
            clear m2 q2 hr6 hg6
            go_wp2
            go_roundw
            case rel => exact ⟨(2 * i + 1), _, by go_num, by omega, hx6, HP6, hbut6⟩
            case measure => simp [intOf]; omega
        · have HSM := Lib.hid (show ∀ k, 0 < k → k < n → Hq.par k = i → ¬ ltS (l1.getD k ⟨#[]⟩) (l1.getD (2 * i + 2) ⟨#[]⟩) from fun k hk hkn hkp => by
            have h2 : k = 2 * i + 1 ∨ k = 2 * i + 2 := by unfold Hq.par at hkp; omega
            rcases h2 with rfl | rfl
            · exact ordS.asymm _ _ (HB1.out.1 (by first | rfl | trivial))
            · exact irrS _)
          have m1 := mLess (hx4).cell
          have q1 := LESS w4 hx4 (2 * (i : Int) + 1 + 1) i (2 * i + 2) i (by omega) (by omega) (by omega) (by omega)
          go_wp2_with (fail)
          go_at_call 88
          with_reducible refine q1.mono ?_
          rintro e w5 ⟨b2, rfl, hbi2, hb5⟩
          have HB2 := Lib.hid hbi2
          clear hbi2
          have hx5 := hx4.below hb5
          have hbut5 := hbut4.trans (But.of_below hb5)
          clear m1 q1
          cases b2
          · go_wp2
            go_ret
            exact ⟨_, rfl, l1, hx5, HP.out.1, HP.out.2.1, fun hd => (HP.out.2.2 hd).stop (fun k hk hkn hkp => ordS.neg _ _ _ (HSM.out k hk hkn hkp) (fun e => by have := HB2.out.2 e; cases this)), hbut5⟩
          · have m2 := mSwap hx5.cell
            have q2 := SWAP w5 hx5 i (2 * (i : Int) + 1 + 1) i (2 * i + 2) (by omega) (by omega) (by omega) (by omega)
            go_wp2_with (fail)
            go_at_call 91
            with_reducible refine q2.mono ?_
            rintro e w6 ⟨rfl, hr6, hg6⟩
            have hx6 := hx5.swapped (swapL_length l1 i (2 * i + 2)) hg6 hr6
            have hbut6 := hbut5.trans (But.of_grown hg6)
            have HP6 := Lib.hid (And.intro ((swapL_perm l1 i (2 * i + 2) (by omega) (by omega)).trans HP.out.1) (And.intro (show ∀ k, n ≤ k → (swapL l1 i (2 * i + 2)).getD k ⟨#[]⟩ = l.getD k ⟨#[]⟩ from fun k hk => by have h1 := Hq.sw_at (l := l1) (d := ⟨#[]⟩) (i := i) (j := 2 * i + 2) (by omega) (by omega) k; rw [if_neg (by omega), if_neg (by omega)] at h1; exact h1.trans (HP.out.2.1 k hk)) (show Hq.Hdn ltS ⟨#[]⟩ l n 0 → Hq.Hdn ltS ⟨#[]⟩ (swapL l1 i (2 * i + 2)) n (2 * i + 2) from fun hd => (HP.out.2.2 hd).go ordS (by omega) (by omega) (by unfold Hq.par; omega) hn1 (HB2.out.1 (by first | rfl | trivial)) HSM.out)))
            clear m2 q2 hr6 hg6
            go_wp2
            go_roundw
            case rel => exact ⟨(2 * i + 2), _, by go_num, by omega, hx6, HP6, hbut6⟩
            case measure => simp [intOf]; omega
      · have f3 : decide (2 * (i : Int) + 1 + 1 < (n : Int)) = false := decide_eq_false (by omega)
        have HSM := Lib.hid (show ∀ k, 0 < k → k < n → Hq.par k = i → ¬ ltS (l1.getD k ⟨#[]⟩) (l1.getD (2 * i + 1) ⟨#[]⟩) from fun k hk hkn hkp => by
          have h2 : k = 2 * i + 1 := by unfold Hq.par at hkp; omega
          rw [h2]
          exact irrS _)
        have m1 := mLess (hb).cell
        have q1 := LESS wr hb (2 * (i : Int) + 1) i (2 * i + 1) i (by omega) (by omega) (by omega) (by omega)
        go_wp2_with (fail)
        go_at_call 88
        with_reducible refine q1.mono ?_
        rintro e w5 ⟨b2, rfl, hbi2, hb5⟩
        have HB2 := Lib.hid hbi2
        clear hbi2
        have hx5 := hb.below hb5
        have hbut5 := hbut.trans (But.of_below hb5)
        clear m1 q1
        cases b2
        · go_wp2
          go_ret
          exact ⟨_, rfl, l1, hx5, HP.out.1, HP.out.2.1, fun hd => (HP.out.2.2 hd).stop (fun k hk hkn hkp => ordS.neg _ _ _ (HSM.out k hk hkn hkp) (fun e => by have := HB2.out.2 e; cases this)), hbut5⟩
        · have m2 := mSwap hx5.cell
          have q2 := SWAP w5 hx5 i (2 * (i : Int) + 1) i (2 * i + 1) (by omega) (by omega) (by omega) (by omega)
          go_wp2_with (fail)
          go_at_call 91
          with_reducible refine q2.mono ?_
          rintro e w6 ⟨rfl, hr6, hg6⟩
          have hx6 := hx5.swapped (swapL_length l1 i (2 * i + 1)) hg6 hr6
          have hbut6 := hbut5.trans (But.of_grown hg6)
          have HP6 := Lib.hid (And.intro ((swapL_perm l1 i (2 * i + 1) (by omega) (by omega)).trans HP.out.1) (And.intro (show ∀ k, n ≤ k → (swapL l1 i (2 * i + 1)).getD k ⟨#[]⟩ = l.getD k ⟨#[]⟩ from fun k hk => by have h1 := Hq.sw_at (l := l1) (d := ⟨#[]⟩) (i := i) (j := 2 * i + 1) (by omega) (by omega) k; rw [if_neg (by omega), if_neg (by omega)] at h1; exact h1.trans (HP.out.2.1 k hk)) (show Hq.Hdn ltS ⟨#[]⟩ l n 0 → Hq.Hdn ltS ⟨#[]⟩ (swapL l1 i (2 * i + 1)) n (2 * i + 1) from fun hd => (HP.out.2.2 hd).go ordS (by omega) (by omega) (by unfold Hq.par; omega) hn1 (HB2.out.1 (by first | rfl | trivial)) HSM.out)))
          clear m2 q2 hr6 hg6
          go_wp2
          go_roundw
          case rel => exact ⟨(2 * i + 1), _, by go_num, by omega, hx6, HP6, hbut6⟩
          case measure => simp [intOf]; omega
end Go.Proofs.Ytkjgbldooflodaa
namespace Go.Proofs.Ytkjgbldooflodaa
open Go.RowKit Cm Mp
set_option maxRecDepth 100000
set_option linter.unusedVariables false
set_option linter.unusedSimpArgs false
theorem Bx.cap {w : World} {B fb rb c : Nat} {l : List ByteArray} (h : Bx w B fb rb c l) : l.length ≤ c := by
  rcases h.row.2 with ⟨e1, _⟩ | ⟨g, cap, cur, e1, _, hb, hcap, _⟩
  · cases e1
  · injection e1 with _ _ e1
    subst e1
    exact hcap
theorem pop_gen (B fb rb c : Nat) (ts : List ByteArray) (x : ByteArray) (w : World) (h : Bx w B fb rb c (ts ++ [x])) (hl : ts.length ≤ 1000000) :
    Calls Try.prog 89 #[.pointer (some ⟨fb, 0, none⟩)] w fun e w' => e = .returned (.iface 9 (.string x)) ∧ Bx w' B fb rb c ts ∧ But fb rb w w' := by
  have hc := h.cap
  have k0 := h.cell
  have hbox := h.box
  have hrow := h.row
  have hne := h.ne
  obtain ⟨N, hN⟩ : ∃ N, N = ts.length := ⟨_, rfl⟩
  have hlen : (ts ++ [x]).length = N + 1 := by rw [List.length_append, hN]; rfl
  rw [hlen] at hc k0 hbox hrow
  have k1 : w.cell? ⟨rb, N, none⟩ = some (.string x) := row_at hrow (by rw [hN, List.getElem?_append_right (Nat.le_refl _), Nat.sub_self]; rfl)
  have f0 : w.frozen? ⟨fb, 0, none⟩ = false := by simp [World.frozen?, hbox]
  have d1 : IntKind.i64.wrap (N : Int) = N := wrap_fit _ (by omega) (by omega)
  have d2 : IntKind.i64.wrap ((N : Int) + 1) = (N : Int) + 1 := wrap_fit _ (by omega) (by omega)
  have d3 : (N : Int) < (N : Int) + 1 := by omega
  have d4 : (N : Int) ≤ c := by omega
  have hfin : Bx (w.setCell ⟨fb, 0, none⟩ (.slice (some ⟨rb, 0, none⟩) N c)) B fb rb c ts ∧ But fb rb w (w.setCell ⟨fb, 0, none⟩ (.slice (some ⟨rb, 0, none⟩) N c)) := by
    refine ⟨⟨by rw [← hN]; exact block_set hbox (i := 0) _, ?_⟩, (But.of_below (Below.refl _ _)).set 0 _⟩
    rw [← hN]
    refine World.ownsRow.kept (w := w) (row := some fb) ?_ (gb_set w ⟨fb, 0, none⟩ _) (.inr ?_)
    · exact ownsRow_pop (n := N) (size := 1) (xs := ts.map Value.string) (last := [.string x]) (by rw [List.length_map, hN, Nat.mul_one]) (by simpa using hrow)
    · simp [Value.ownBlock]
      omega
  have HF := Lib.hid hfin
  clear h hbox hrow hfin hN hlen
  go_enter Try.func89, Try.ntmps89
  go_wp2
  go_ret
  exact ⟨rfl, HF.out.1, HF.out.2⟩
set_option maxHeartbeats 2000000 in
theorem push_gen (B fb rb c : Nat) (l : List ByteArray) (x : ByteArray) (w : World) (h : Bx w B fb rb c l) (hl : l.length ≤ 1000000) (hB : B ≤ w.heap.size) :
    Calls Try.prog 90 #[.pointer (some ⟨fb, 0, none⟩), .iface 9 (.string x)] w fun e w' => e = .returned (.tuple #[]) ∧ ∃ rb' c', Bx w' B fb rb' c' (l ++ [x]) ∧ But fb rb w w' ∧ (rb' = rb ∨ w.heap.size ≤ rb') := by
  obtain ⟨i0, hi0, hz0, hz1, hz2⟩ := info_parts (P := Try.prog) (e := 9) (z := .string ⟨#[]⟩) (size := 1) (bytes := 16) (by kernel_rfl)
  have k0 := h.cell
  have f0 : w.frozen? ⟨fb, 0, none⟩ = false := by simp [World.frozen?, h.box]
  have hbox := h.box
  have hrow := h.row
  have hlt := hrow.lt rb rfl
  have hne := h.ne
  have hfl := (Array.getElem?_eq_some_iff.1 h.box).1
  have hta := ta_str x
  have hlx : (l ++ [x]).length = l.length + 1 := by simp
  have HLX := Lib.hid hlx
  clear hlx
  obtain ⟨N, hN⟩ : ∃ N, N = l.length := ⟨_, rfl⟩
  rw [← hN] at k0 hbox hrow hl
  have HN := Lib.hid hN
  clear hN
  have HX : ∀ w1, ((w.alloc (.cells #[.string x] 9)).drew).grownBy w1 ((Value.slice (some ⟨rb, 0, none⟩) N c).ownBlock) → w1.heap[fb]? = some (.cells #[.slice (some ⟨rb, 0, none⟩) N c] 82 (0, 0)) ∧ w1.cell? ⟨fb, 0, none⟩ = some (.slice (some ⟨rb, 0, none⟩) N c) ∧ w1.frozen? ⟨fb, 0, none⟩ = false ∧ But fb rb w w1 := fun w1 hgrow => by
    have hsz : (w.alloc (.cells #[.string x] 9)).drew.heap.size = w.heap.size + 1 := by show (w.alloc _).heap.size = _; simp
    have hbx := (hgrow.block fb (by rw [hsz]; omega) (by simp only [Value.ownBlock, ne_eq, Option.some.injEq]; exact hne)).trans ((Lib.alloc_old w _ fb hfl).trans hbox)
    refine ⟨hbx, by rw [Lib.cell_of_heap hbx]; rfl, by simp [World.frozen?, hbx], hgrow.os, hgrow.tape, hgrow.output, Nat.le_trans (by rw [hsz]; omega) hgrow.size, fun k hk h1 h2 => (hgrow.block k (by rw [hsz]; omega) (by simp only [Value.ownBlock, ne_eq, Option.some.injEq]; exact h2)).trans (Lib.alloc_old w _ k hk)⟩
  have hld := ldB_eq
  clear h hbox
  go_enter Try.func90, Try.ntmps90
  simp only [← ldB_eq]
  go_region_held3 (fun _ => True) (exact trivial)
    (go_loud (refine step_append_lies _ (by rfl) _ _ _ (by rfl) B 9 i0 _ 1 16 Try.underlying82 hi0 hz0 hz1 hz2 rfl (by omega) (.slice (some ⟨rb, 0, none⟩) N c) N _ (by rfl) ((hrow.alloc _).drew) ⟨w.heap.size, 0, none⟩ 1 1 [.string x] (by rfl) (by rfl) (World.news_of_block (cs := #[.string x]) (t := 9) (fr := (0, 0)) (heap_alloc_new w _)) (by simp [Value.oneCell']) (by omega) (by unfold maxLen; omega) (by omega) (by simp; omega) (w.heap.size + 1) (by simp) ?_; intro gg cap w1 hown1 hgrow hat hlt1; obtain ⟨hbx, k5, k6, hbut⟩ := HX _ hgrow))
  all_goals (
    go_wp2
    have hat2 : gg = rb ∨ w.heap.size ≤ gg := by
      rcases hat with hat | hat
      · simp [Value.ownBlock] at hat
        exact .inl (by omega)
      · exact .inr (by omega)
    have hlx : (l ++ [x]).length = N + 1 := by rw [HLX.out, HN.out]
    refine ⟨rfl, .tuple #[], by simp [results, Try.results90, go_sem], rfl, gg, cap, ⟨by rw [hlx]; exact block_set hbx (i := 0) (.slice (some ⟨gg, 0, none⟩) (N + 1) cap), ?_⟩, ?_, hat2⟩
    · rw [hlx]
      refine World.ownsRow.kept (w := w1) (row := some fb) (by rw [List.map_append]; exact hown1) (gb_set w1 ⟨fb, 0, none⟩ _) (.inr ?_)
      have hgf : gg ≠ fb := by
        rcases hat2 with hat | hat
        · omega
        · omega
      simp [Value.ownBlock]
      exact hgf
    · exact hbut.set 0 _)
set_option maxHeartbeats 2000000 in
theorem hpop_gen (B fb rb c : Nat) (l : List ByteArray) (w : World) (h : Bx w B fb rb c l) (h0 : 0 < l.length) (hl : l.length ≤ 1000000) :
    Calls Try.prog 38 #[lp fb] w fun e w' => ∃ x l', e = .returned (.iface 9 (.string x)) ∧ Bx w' B fb rb c l' ∧ (x :: l').Perm l ∧ (Hq.Hp ltS ⟨#[]⟩ l l.length → (∀ y ∈ l, ¬ ltS y x) ∧ Hq.Hp ltS ⟨#[]⟩ l' l'.length) ∧ But fb rb w w' := by
  obtain ⟨N, hN⟩ : ∃ N, l.length = N + 1 := ⟨l.length - 1, by omega⟩
  have k0 := h.cell
  rw [hN] at k0
  have m1 := mLen k0
  have m2 := mSwap k0
  have m3 := mPop
  have d1 : IntKind.i64.wrap (N : Int) = N := wrap_fit _ (by omega) (by omega)
  have hsw : Calls Try.prog 91 #[.slice (some ⟨rb, 0, none⟩) (N + 1) c, .int .i64 0, .int .i64 N] w fun e w' => ∃ l1, e = .returned (.tuple #[]) ∧ l1.length = N + 1 ∧ Bx w' B fb rb c l1 ∧ (l1.Perm l ∧ l1 = swapL l 0 N) ∧ But fb rb w w' := by
    have q := swap_any B rb c l.length l 0 N w h.row rfl (by omega) (by omega) (by omega)
    rw [hN] at q
    refine q.mono ?_
    rintro e w' ⟨rfl, hr, hg⟩
    exact ⟨_, rfl, by rw [swapL_length]; exact hN, h.swapped (swapL_length l 0 N) hg (by rw [hN]; exact hr), ⟨swapL_perm l 0 N (by omega) (by omega), rfl⟩, But.of_grown hg⟩
  have hbut0 : But fb rb w w := But.of_below (Below.refl _ _)
  have HL := Lib.hid (And.intro hN hl)
  clear h h0 hN hl
  unfold lp
  go_enter Try.func38, Try.ntmps38
  go_wp2_with (fail)
  go_at_call 37
  refine (len_any _ _ _ _).mono ?_
  rintro e w1 ⟨rfl, rfl⟩
  go_wp2_with (fail)
  go_at_call 91
  with_reducible refine hsw.mono ?_
  rintro e w2 ⟨l1, rfl, hl1, hb2, hp2, hbut2⟩
  have q3 := down_gen B fb rb c N l1 w2 hb2 (by omega) (by have := HL.out; omega)
  have HP2 := Lib.hid (And.intro hp2 hl1)
  unfold lp at q3
  clear hsw m1 m2 hl1 hp2
  go_wp2_with (fail)
  go_at_call 52
  with_reducible refine q3.mono ?_
  rintro e w3 ⟨bo, rfl, l3, hb3, hp3, hun3, hhp3, hbut3⟩
  obtain ⟨ts, x, hts⟩ := concat_of (l := l3) (by rw [hp3.length_eq, HP2.out.2]; omega)
  subst hts
  have q4 := pop_gen B fb rb c ts x w3 hb3 (by have := hp3.length_eq; rw [HP2.out.2, List.length_append, List.length_singleton] at this; have := HL.out; omega)
  have hbut4 := hbut2.trans hbut3
  have htl : ts.length = N := by have := hp3.length_eq; rw [HP2.out.2, List.length_append, List.length_singleton] at this; omega
  have hmin : Hq.Hp ltS ⟨#[]⟩ l l.length → (∀ y ∈ l, ¬ ltS y x) ∧ Hq.Hp ltS ⟨#[]⟩ ts ts.length := fun hh => by
    have hN := HL.out.1
    have h1 : Hq.Hdn ltS ⟨#[]⟩ l1 N 0 := by
      rw [HP2.out.1.2]
      exact Hq.Hdn.first (by rw [← hN]; exact hh) hN
    have h3 := hhp3 h1
    rw [← htl] at h3
    have hx : x = l.getD 0 ⟨#[]⟩ := by
      have h4 := hun3 N (Nat.le_refl _)
      rw [HP2.out.1.2] at h4
      have h5 := Hq.sw_at (l := l) (d := ⟨#[]⟩) (i := 0) (j := N) (by omega) (by omega) N
      rw [if_pos rfl] at h5
      have h6 : (ts ++ [x]).getD N ⟨#[]⟩ = x := by rw [List.getD_eq_getElem?_getD, ← htl, List.getElem?_append_right (Nat.le_refl _), Nat.sub_self]; rfl
      exact h6.symm.trans (h4.trans h5)
    refine ⟨fun y hy => ?_, h3.prefix⟩
    obtain ⟨k, hk⟩ := List.getElem?_of_mem hy
    have h7 := hh.least ordS irrS k (List.getElem?_eq_some_iff.1 hk).1
    rw [List.getD_eq_getElem?_getD, hk] at h7
    rw [hx]
    exact h7
  have HMIN := Lib.hid hmin
  have HP3 := Lib.hid (hp3.trans HP2.out.1.1)
  clear hmin htl hun3 hhp3
  clear q3 hb2 hbut2 hbut3 hp3 hb3
  go_wp2_with (fail)
  go_at_call 89
  with_reducible refine q4.mono ?_
  rintro e w4 ⟨rfl, hb4, hbut5⟩
  go_wp2
  go_ret
  exact ⟨x, ts, rfl, hb4, (List.perm_append_comm (l₁ := [x]) (l₂ := ts)).trans HP3.out, HMIN.out, hbut4.trans hbut5⟩
set_option maxHeartbeats 2000000 in
theorem hpush_gen (B fb rb c : Nat) (l : List ByteArray) (x : ByteArray) (w : World) (h : Bx w B fb rb c l) (hl : l.length ≤ 900000) (hB : B ≤ w.heap.size) :
    Calls Try.prog 39 #[lp fb, .iface 9 (.string x)] w fun e w' => e = .returned (.tuple #[]) ∧ ∃ rb' c' l', Bx w' B fb rb' c' l' ∧ (l'.Perm (x :: l) ∧ (Hq.Hp ltS ⟨#[]⟩ l l.length → Hq.Hp ltS ⟨#[]⟩ l' l'.length)) ∧ (∀ k, k < w.heap.size → k ≠ fb → k ≠ rb → w'.heap[k]? = w.heap[k]?) ∧ w'.os = w.os ∧ w'.tape = w.tape ∧ w'.output = w.output ∧ w.heap.size ≤ w'.heap.size ∧ (rb' = rb ∨ w.heap.size ≤ rb') := by
  have m3 := mPush
  have q1 := push_gen B fb rb c l x w h (by omega) hB
  unfold lp
  go_enter Try.func39, Try.ntmps39
  go_wp2_with (fail)
  go_at_call 90
  with_reducible refine q1.mono ?_
  rintro e w1 ⟨rfl, rb', c', hb1, hbut1, hloc⟩
  have hlx : (l ++ [x]).length = l.length + 1 := by simp
  have k1 := hb1.cell
  rw [hlx] at k1
  have m1 := mLen k1
  have d1 : IntKind.i64.wrap (l.length : Int) = l.length := wrap_fit _ (by omega) (by omega)
  have q2 := up_gen B fb rb' c' (l ++ [x]) l.length w1 hb1 (by omega) (by omega)
  unfold lp at q2
  have HH := Lib.hid (And.intro hbut1 hloc)
  clear hlx q1 hbut1 hloc h
  go_wp2_with (fail)
  go_at_call 37
  refine (len_any _ _ _ _).mono ?_
  rintro e w2 ⟨rfl, rfl⟩
  go_wp2_with (fail)
  go_at_call 53
  with_reducible refine q2.mono ?_
  rintro e w3 ⟨rfl, l3, hb3, hp3, hup3, hbut3⟩
  have HUP := Lib.hid hup3
  clear hup3
  go_wp2
  obtain ⟨hbut1, hloc⟩ := HH.out
  refine ⟨rfl, .tuple #[], by simp [results, Try.results39, go_sem], rfl, rb', c', l3, hb3, ⟨hp3.trans (List.perm_append_comm (l₁ := l) (l₂ := [x])), fun hh => HUP.out (by rw [List.length_append, List.length_singleton]; exact Hq.Hup.last hh)⟩, fun k hk h1 h2 => ?_, hbut3.1.trans hbut1.1, hbut3.2.1.trans hbut1.2.1, hbut3.2.2.1.trans hbut1.2.2.1, Nat.le_trans hbut1.2.2.2.1 hbut3.2.2.2.1, hloc⟩
  have hk3 : k ≠ rb' := by
    rcases hloc with e | e
    · omega
    · omega
  exact (hbut3.2.2.2.2 k (Nat.lt_of_lt_of_le hk hbut1.2.2.2.1) h1 hk3).trans (hbut1.2.2.2.2 k hk h1 h2)
end Go.Proofs.Ytkjgbldooflodaa
namespace Go.Proofs.Ytkjgbldooflodaa
open Go.RowKit Cm Mp
set_option maxRecDepth 100000
set_option linter.unusedVariables false
set_option linter.unusedSimpArgs false
def pls (S : ByteArray → Option ByteArray) (s : ByteArray) : List ByteArray := (par S s).getD []
theorem nodup_two {l : List ByteArray} (h1 : l.length ≤ 2) (h2 : twice l = false) : l.Nodup := by
  rcases l with _ | ⟨a, _ | ⟨b, _ | ⟨c, r⟩⟩⟩
  · exact List.nodup_nil
  · simp
  · have hab : a ≠ b := fun e => by
      rw [e] at h2
      unfold twice at h2
      simp at h2
    simp [hab]
  · simp at h1
theorem par_nodup {S : ByteArray → Option ByteArray} {x : ByteArray} {l : List ByteArray} (h : par S x = some l) : l.Nodup := by
  have h2 := (par_two h).1
  unfold par at h
  cases hc : getC S x with
  | none => rw [hc] at h; cases h
  | some c =>
    rw [hc] at h
    injection h with h
    subst h
    have hro : right c = true := by
      unfold getC at hc
      cases hs : S x with
      | none => rw [hs] at hc; cases hc
      | some t => rw [hs] at hc; exact (write_read hc).1
    obtain ⟨_, htw, _, _, _⟩ := right_parts hro
    exact nodup_two h2 htw
/-- Nothing is ahead of itself: each is of a lower rank than those it is ahead of. -/
def Acy (S : ByteArray → Option ByteArray) (p : ByteArray) : Prop := ∃ (rk : ByteArray → Nat) (M : Nat), (∀ s, Ahd S p s → rk s ≤ M) ∧ ∀ s, Ahd S p s → ∀ l, par S s = some l → ∀ q ∈ l, rk q < rk s
/-- All that is ahead, each behind all it is ahead of. -/
structure Told (S : ByteArray → Option ByteArray) (p : ByteArray) (out : List ByteArray) : Prop where
  nodup : out.Nodup
  all : ∀ q, Ahd S p q → q ∈ out
  first : out[0]? = some p
  ord : ∀ (i j : Nat) s q, out[i]? = some s → q ∈ pls S s → out[j]? = some q → i < j
  rdy : ∀ (i : Nat) x, out[i]? = some x → ∀ s, Ahd S p s → x ∈ pls S s → s ∈ out.take i
  least : ∀ (i : Nat) x, out[i]? = some x → ∀ y, Ahd S p y → y ∉ out.take i → (∀ s, Ahd S p s → y ∈ pls S s → s ∈ out.take i) → ¬ ltS y x
/-- Each one is the least one of those that could be told. -/
def Lst (S : ByteArray → Option ByteArray) (V out : List ByteArray) : Prop := ∀ (i : Nat) x, out[i]? = some x → ∀ y ∈ V, y ∉ out.take i → (∀ s ∈ V, y ∈ pls S s → s ∈ out.take i) → ¬ ltS y x
theorem Lst.step {S : ByteArray → Option ByteArray} {V out : List ByteArray} {x : ByteArray} (h : Lst S V out) (hx : ∀ y ∈ V, y ∉ out → (∀ s ∈ V, y ∈ pls S s → s ∈ out) → ¬ ltS y x) : Lst S V (out ++ [x]) := by
  intro i z hz y hy hn hr
  by_cases hi : i < out.length
  · rw [List.getElem?_append_left hi] at hz
    rw [List.take_append_of_le_length (Nat.le_of_lt hi)] at hn hr
    exact h i z hz y hy hn hr
  · rw [List.getElem?_append_right (by omega)] at hz
    have h1 := (List.getElem?_eq_some_iff.1 hz).1
    have h2 : i = out.length := by simp at h1; omega
    subst h2
    rw [Nat.sub_self] at hz
    obtain rfl : x = z := by simpa using hz
    rw [List.take_left] at hn hr
    exact hx y hy hn hr
def imap (f : ByteArray → Option Int) : ByteArray → Option Value := fun s => (f s).map (Value.int .i64)
def beh (f : ByteArray → Option Int) (q : ByteArray) : Int := (f q).getD 0
def upd (f : ByteArray → Option Int) (q : ByteArray) (y : Int) : ByteArray → Option Int := fun x => if x = q then some y else f x
theorem imap_upd (f : ByteArray → Option Int) (q : ByteArray) (y : Int) : (fun x => if x = q then some (Value.int .i64 y) else imap f x) = imap (upd f q y) := by
  funext x
  unfold imap upd
  by_cases h : x = q
  · rw [if_pos h, if_pos h]; rfl
  · rw [if_neg h, if_neg h]
theorem beh_upd (f : ByteArray → Option Int) (q : ByteArray) (y : Int) : beh (upd f q y) = fun x => if x = q then y else beh f x := by
  funext x
  unfold beh upd
  by_cases h : x = q
  · rw [if_pos h, if_pos h]; rfl
  · rw [if_neg h, if_neg h]
theorem imap_get (f : ByteArray → Option Int) (q : ByteArray) : (imap f q).getD (.int .i64 0) = .int .i64 (beh f q) := by
  unfold imap beh
  cases f q <;> rfl
theorem own_butv {w w' : World} {B fb rb n : Nat} {e : TypeId} {v : Value} {xs : List Value} (h : w.ownsRow B e 1 v n xs) (hb : But fb rb w w') (h1 : ∀ k, v.ownBlock = some k → k ≠ fb ∧ k ≠ rb) : w'.ownsRow B e 1 v n xs := by
  refine ⟨h.1, ?_⟩
  rcases h.2 with h2 | ⟨g, cap, cur, e1, e2, hbk, e3⟩
  · exact .inl h2
  · obtain ⟨n1, n2⟩ := h1 g (by rw [e1]; rfl)
    exact .inr ⟨g, cap, cur, e1, e2, (hb.2.2.2.2 g (Array.getElem?_eq_some_iff.1 hbk).1 n1 n2).trans hbk, e3⟩
theorem own_lt' {w : World} {base n : Nat} {e : TypeId} {v : Value} {xs : List Value} (h : w.ownsRow base e 1 v n xs) : ∀ k, v.ownBlock = some k → base ≤ k ∧ k < w.heap.size := fun k hk => by
  rcases h.2 with ⟨e1, _⟩ | ⟨gg, cap, cur, e1, hb, hbk, _⟩
  · rw [e1] at hk; cases hk
  · rw [e1] at hk
    simp [Value.ownBlock] at hk
    subst hk
    exact ⟨hb, (Array.getElem?_eq_some_iff.1 hbk).1⟩
theorem acy_first {S : ByteArray → Option ByteArray} {p : ByteArray} (h : Acy S p) : ∀ s, Ahd S p s → p ∉ pls S s := by
  obtain ⟨rk, M, h1, h2⟩ := h
  have hle : ∀ s, Ahd S p s → rk s ≤ rk p := by
    intro s hs
    induction hs with
    | refl => exact Nat.le_refl _
    | step hs hl hq ih => have := h2 _ hs _ hl _ hq; omega
  intro s hs hp
  unfold pls at hp
  cases hl : par S s with
  | none => rw [hl] at hp; cases hp
  | some l =>
    rw [hl] at hp
    have := h2 s hs l hl p hp
    have := hle s hs
    omega
theorem ahd_from {S : ByteArray → Option ByteArray} {p y : ByteArray} (h : Ahd S p y) (hy : y ≠ p) : ∃ s, Ahd S p s ∧ y ∈ pls S s := by
  cases h with
  | refl => exact absurd rfl hy
  | step hs hl hq => exact ⟨_, hs, by unfold pls; rw [hl]; exact hq⟩
/-- What Ahead hands back. -/
def ATold (S : ByteArray → Option ByteArray) (p : ByteArray) (w : World) (e : Ending) (w' : World) : Prop :=
  ∃ (out : List ByteArray) (o : Option Addr) (c : Nat), e = .returned (.tuple #[.slice o out.length c, .int .i64 0]) ∧ Ss w' o out ∧ (∀ x ∈ out, Ahd S p x) ∧ out.length ≤ 1000000 ∧ (Acy S p → Told S p out) ∧ Below w.heap.size w w'
set_option maxHeartbeats 8000000 in
theorem ahead_any (S : ByteArray → Option ByteArray) (K : List ByteArray) (hb mb ns : Nat) (a : ByteArray) (w : World) (hS : Src w hb mb ns S) (hK : ∀ s, S s ≠ none → s ∈ K) (hKl : K.length ≤ 10000) (hz : ∀ s t, S s = some t → t.size ≤ 1000000) (hK32 : ∀ s ∈ K, s.size ≤ maxLen)
    (hfa : ∀ s, Ahd S a s → par S s ≠ none) (ha32 : a.size ≤ maxLen) :
    Calls Try.prog 20 #[hp hb, .string a] w fun e w' => ATold S a w e w' := by
  obtain ⟨i0, hi0, hz0, hz1, hz2⟩ := info_parts (P := Try.prog) (e := 9) (z := .string ⟨#[]⟩) (size := 1) (bytes := 16) (by kernel_rfl)
  obtain ⟨l1, l2⟩ := hS.lt
  have hb1 : Below w.heap.size w (w.alloc (.map #[] 0)) := (Below.refl _ _).alloc (Nat.le_refl _) _
  have hadd2 : Calls Try.prog 36 #[.map (some w.heap.size), hp hb, .string a] (w.alloc (.map #[] 0)) fun e w' => e = .returned (.int .i64 0) ∧ ∃ n g V F, MF w' w.heap.size n F ∧ (∀ s, Tells w' none (F s) (g s)) ∧ Full S a g ∧ Under S K a g V [] ∧ Below w.heap.size w w' := by
    refine (add_any S K hb mb ns w.heap.size a (w.alloc (.map #[] 0)) (hS.below hb1 l1 l2) hK (by omega) hz (GR.made w none) (by omega) (by omega) ha32).mono ?_
    rintro e w' ⟨hg, ⟨rfl, g, n, vis, hgr, hf, _, hu⟩ | ⟨_, s, hs, hn⟩⟩
    · obtain ⟨F, hF, hT⟩ := hgr
      exact ⟨rfl, n, g, vis, F, hF, hT, hf, hu, hg.os, hg.tape, hg.output, Nat.le_trans (by simp) hg.size, fun k hk => (hg.block k (by simp; omega) (by simp; omega)).trans (Lib.alloc_old w _ k hk)⟩
    · exact absurd hn (hfa s hs)
  have hmm := @run_makeMap Try.prog
  have HKK := Lib.hid (And.intro hKl hK32)
  clear hS hK hKl hz hK32 hfa
  go_enter Try.func20, Try.ntmps20
  go_wp2_with (go_at_call 36; with_reducible refine hadd2.mono ?_; rintro e w2 ⟨rfl, n, g, V, F, hF, hT, hfu, hun, hB2⟩; have hG0 := hF.lt; have hF' := MF.block hF (Lib.alloc_old w2 (.map #[] 0) w.heap.size hG0); obtain ⟨w3, cnt0, hrng, hRF, hg3, hsz3⟩ := hF'.range 79 22 Try.underlying79)
  have hr : (w2.alloc (.map #[] 0)).heap.size = w2.heap.size + 1 := by simp
  rw [hr] at hRF
  have hB3 : Below w2.heap.size w2 w3 := ⟨hg3.os, hg3.tape, hg3.output, Nat.le_trans (by simp) hg3.size, fun k hk => (hg3.block k (by simp; omega) (by simp)).trans (Lib.alloc_old w2 _ k hk)⟩
  have hM3 : MF w3 w2.heap.size 0 (imap fun _ => none) := (MF.made w2).grown hg3 (by simp)
  have hw2l := hB2.size
  have hw3l : w2.heap.size + 2 ≤ w3.heap.size := by omega
  -- facts on the graph, laid aside
  have hV : ∀ s, s ∈ V ↔ Ahd S a s := fun s => (hun.dom s).symm.trans (hfu.dom s)
  have hVl : V.length ≤ 10000 := by have := hun.count; have := HKK.out.1; omega
  have hV32 : ∀ s ∈ V, s.size ≤ maxLen := fun s hs => HKK.out.2 s (hun.sub s hs)
  have hlist : ∀ s ∈ V, ∃ o l cp, F s = some (.slice o l.length cp) ∧ Ss w2 o l ∧ par S s = some l ∧ l.Nodup ∧ l.length ≤ 2 ∧ (∀ q ∈ l, q ∈ V) ∧ pls S s = l := fun s hs => by
    have h1 := (hun.dom s).2 hs
    cases hg : g s with
    | none => rw [hg] at h1; cases h1
    | some l =>
      obtain ⟨h2, h3⟩ := hun.tells s l hg
      have h4 := hT s
      unfold Tells at h4
      rw [hg] at h4
      obtain ⟨o, cp, e1, e2, _, _⟩ := h4
      exact ⟨o, l, cp, e1, e2, h2, par_nodup h2, (par_two h2).1, fun q hq => (h3 q hq).resolve_right (by simp), by unfold pls; rw [h2]; rfl⟩
  have hFV : ∀ s v, F s = some v → s ∈ V := fun s v hv => (hun.dom s).1 (by
    have h4 := hT s
    unfold Tells at h4
    cases hg : g s with
    | none => rw [hg] at h4; dsimp only at h4; rw [hv] at h4; cases h4
    | some l => rfl)
  have HG := Lib.hid (And.intro (And.intro hV hun.nodup) (And.intro (And.intro hVl hV32) (And.intro hlist hFV)))
  have hleft0 : ∀ s ∈ V, (fun s => (F s).isSome) s = true := fun s hs => by
    obtain ⟨o, l, cp, h, _⟩ := hlist s hs
    dsimp only
    rw [h]
    rfl
  have hA0 : (∀ q, beh (fun _ => none) q = (Kn.cntL V (pls S) (fun s => (F s).isSome) q : Int)) ∧ 0 ≤ 2 * (V.filter fun s => !(fun s => (F s).isSome) s).length := ⟨fun q => by rw [Kn.cntL_start hleft0]; rfl, Nat.zero_le _⟩
  have HA0 := Lib.hid hA0
  clear hr hg3 hsz3 hrng hF' hT hfu hun hV hVl hV32 hlist hFV hleft0 hA0
  go_loopw [10] (fun _ wr => ∃ left cnt nb bO, RF wr w.heap.size (w2.heap.size + 1) n F left cnt ∧ Below w2.heap.size w2 wr ∧ w2.heap.size + 2 ≤ wr.heap.size ∧ MF wr w2.heap.size nb (imap bO) ∧ Hid ((∀ q, beh bO q = (Kn.cntL V (pls S) left q : Int)) ∧ nb ≤ 2 * (V.filter fun s => !left s).length))
    (fun _ wr => wr.rangeLeft w.heap.size (w2.heap.size + 1))
  case atStart => exact ⟨_, _, _, _, hRF, hB3, hw3l, hM3, HA0⟩
  case round =>
    clear hRF hB3 hM3 hw3l HA0
    obtain ⟨left, cnt, nb, bO, hRF, hB, hwl, hM, HU⟩ := hrel
    rcases hRF.next 0 with ⟨hc0, hl0, hrun⟩ | ⟨s, v, wn, cnt', hsz, hls, hfs, hrun, hRF', hlt, hgn, hszn, hent⟩
    · obtain ⟨⟨hV, hVn⟩, ⟨hVl, hV32⟩, hlist, hFV⟩ := HG.out
      have haV : a ∈ V := (hV a).2 .refl
      have hcnt : ∀ q, beh bO q = (Kn.cnt V (pls S) [] q : Int) := fun q => by rw [HU.out.1 q, Kn.cntL_done hl0]
      have hnb : nb ≤ 2 * V.length := by have h1 := HU.out.2; have h2 := List.length_filter_le (fun s => !left s) V; omega
      have hkh : Acy S a → Kn.Kh V (pls S) [] [a] (beh bO) := fun hA => Kn.Kh.start haV (fun s hs => acy_first hA s ((hV s).1 hs)) (fun y hy hya => by
        obtain ⟨s, h1, h2⟩ := ahd_from ((hV y).1 hy) hya
        exact ⟨s, (hV s).2 h1, h2⟩) hcnt
      have hbd : ∀ q, 0 ≤ beh bO q ∧ beh bO q ≤ V.length := fun q => by
        rw [hcnt q]
        exact ⟨Int.natCast_nonneg _, Int.ofNat_le.2 (List.length_filter_le _ _)⟩
      have hlv : Kn.live V (beh bO) ≤ V.length := List.length_filter_le _ _
      obtain ⟨wo, rfl⟩ : ∃ wo : World, wo = wr := ⟨_, rfl⟩
      have HS0 := Lib.hid (And.intro (And.intro haV hnb) (And.intro hkh (And.intro hbd hlv)))
      clear hRF hc0 hl0 hV hVn hVl hV32 hlist hFV haV hcnt hnb hkh hbd hlv
      go_wp2
      go_loopg [13] (1 + Kn.live V (beh bO)) (fun k v wx => ∃ (out : List ByteArray) (oo : Option Addr) (co rb cb : Nat) (fr : List ByteArray) (nb : Nat) (bO : ByteArray → Option Int), v = .slice oo out.length co ∧ wx.ownsRow (w2.heap.size + 1) 9 1 (.slice oo out.length co) out.length (out.map Value.string) ∧
        Bx wx (w2.heap.size + 1) (wo.heap.size + 1) rb cb fr ∧ MF wx w2.heap.size nb (imap bO) ∧ Below w2.heap.size w2 wx ∧ wo.heap.size + 2 ≤ wx.heap.size ∧
        Hid ((∀ x ∈ out, x ∈ V) ∧ (∀ x ∈ fr, x ∈ V) ∧ fr.length + Kn.live V (beh bO) ≤ k ∧ out.length + k ≤ V.length + 1 ∧ (∀ q, -(2 * (out.length : Int)) ≤ beh bO q ∧ beh bO q ≤ V.length) ∧ nb ≤ 2 * V.length + 2 * out.length ∧ (∀ j, (Value.slice oo out.length co).ownBlock = some j → j ≠ wo.heap.size + 1 ∧ j ≠ rb)) ∧
        Hid ((Acy S a → Kn.Kh V (pls S) out fr (beh bO) ∧ Lst S V out) ∧ Hq.Hp ltS ⟨#[]⟩ fr fr.length))
      case atStart =>
        obtain ⟨⟨haV, hnb⟩, hkh, hbd, hlv⟩ := HS0.out
        have hrow := World.ownsRow_lit (base := w2.heap.size + 1) (e := 9) (size := 1) wo #[.string a] 1 (by omega) (by unfold maxLen; omega) rfl
        have hbx := heap_alloc_new (wo.alloc (.cells #[.string a] 9)) (.cells #[.slice (some ⟨wo.heap.size, 0, none⟩) 1 1] 82)
        have hsz : (wo.alloc (.cells #[.string a] 9)).heap.size = wo.heap.size + 1 := by simp
        rw [hsz] at hbx
        refine ⟨[], none, 0, wo.heap.size, 1, [a], nb, bO, rfl, World.ownsRow_nil _ _ _ _, ⟨hbx, hrow.alloc _⟩, ?_, (hB.alloc (by omega) _).alloc (by rw [hsz]; omega) _, by simp, Lib.hid ⟨(fun x hx => by cases hx), (fun x hx => by rw [List.mem_singleton] at hx; rw [hx]; exact haV), by simp, by simp; omega, (fun q => by have := hbd q; simp; omega), by simp; omega, fun j hj => by cases hj⟩, Lib.hid ⟨fun hA => ⟨hkh hA, fun i x h => by simp at h⟩, fun k hk hk1 => by simp at hk1; omega⟩⟩
        exact (hM.block (Lib.alloc_old _ _ _ hM.lt)).block (Lib.alloc_old _ _ _ (by rw [hsz]; have := hM.lt; omega))
      case round =>
        clear hM hB HU HS0
        obtain ⟨out, oo, co, rb, cb, fr, nb, bO, rfl, hown, hbx, hM, hBx, hwx, HI, HK⟩ := hrel
        obtain ⟨⟨hV, hVn⟩, ⟨hVl, hV32⟩, hlist, hFV⟩ := HG.out
        obtain ⟨hi1, hi2, hi3, hi4, hi5, hi6, hi7⟩ := HI.out
        have k0 := hbx.cell
        by_cases hfr : fr = []
        · subst hfr
          rw [List.length_nil] at k0
          have hss : Ss wr oo out := by
            obtain ⟨o', c', e1, h, _⟩ := own_ss hown rfl
            injection e1 with e1
            rw [e1]
            exact h
          have hBf := hB2.trans (hBx.mono hw2l)
          have HE := Lib.hid (And.intro (And.intro hss hBf) (And.intro (And.intro hV hi1) (And.intro hVl hi4)))
          clear hss hBf hV hVn hVl hV32 hlist hFV hi1 hi2 hi3 hi4 hi5 hi6 hi7 hown hbx hM
          go_wp2_with (go_at_call 37; refine (len_any _ _ _ _).mono ?_; rintro e w4 ⟨rfl, rfl⟩)
          obtain ⟨⟨hss, hBf⟩, ⟨hV, hi1⟩, hVl, hi4⟩ := HE.out
          refine bodyPost_ret (v := .tuple #[.slice oo out.length co, .int .i64 0]) (by simp [results, Try.results20, go_sem]) rfl ⟨out, oo, co, rfl, hss, fun x hx => (hV x).1 (hi1 x hx), by omega, fun hA => ?_, hBf⟩
          obtain ⟨hk, hls⟩ := HK.out.1 hA
          obtain ⟨rk, M, hm1, hm2⟩ := hA
          have hall : ∀ q ∈ V, q ∈ out := hk.all rk M (fun s hs => hm1 s ((hV s).1 hs)) (fun s hs q hq => by
            unfold pls at hq
            cases hl : par S s with
            | none => rw [hl] at hq; cases hq
            | some l => rw [hl] at hq; exact hm2 s ((hV s).1 hs) l hl q hq)
          have hao := hall a ((hV a).2 .refl)
          obtain ⟨y, r, hyr⟩ := List.exists_cons_of_ne_nil (l := out) (by intro e; rw [e] at hao; cases hao)
          have h0 : out[0]? = some y := by rw [hyr]; rfl
          have hya := hk.first (a := a) (fun y hy hya => by
            obtain ⟨s, h1, h2⟩ := ahd_from ((hV y).1 hy) hya
            exact ⟨s, (hV s).2 h1, h2⟩) h0
          refine ⟨hk.on, fun q hq => hall q ((hV q).2 hq), by rw [h0, hya], hk.ord, fun i x hx s hs hxs => ?_, fun i x hx y hy hn hr => hls i x hx y ((hV y).2 hy) hn (fun s hs h => hr s ((hV s).1 hs) h)⟩
          have hxo := List.mem_of_getElem? hx
          have hso := (hk.rdy x (hk.so x hxo)).1 (.inr hxo) s ((hV s).2 hs) hxs
          obtain ⟨k, hks⟩ := List.getElem?_of_mem hso
          have hki := hk.ord k i s x hks hxs hx
          exact List.mem_of_getElem? (i := k) (by rw [List.getElem?_take, if_pos hki]; exact hks)
        · have hfl : 0 < fr.length := List.length_pos_iff.2 hfr
          have hflb : fr.length ≤ 100000 := by omega
          have hpop := hpop_gen (w2.heap.size + 1) (wo.heap.size + 1) rb cb fr wr hbx hfl (by omega)
          unfold lp at hpop
          have f2 : decide ((0 : Int) < fr.length) = true := decide_eq_true (by omega)
          obtain ⟨nb1, nb2⟩ := hM.ne_box hbx
          have hrbl := hbx.row.lt rb rfl
          have hta := ta_str
          have HV := Lib.hid (And.intro (And.intro (And.intro hV hVn) (And.intro hVl hV32)) (And.intro (And.intro hlist hFV) (And.intro (And.intro (And.intro hi1 hi2) (And.intro hi3 hi4)) (And.intro (And.intro hi5 hi6) hi7))))
          have HW := Lib.hid (And.intro (And.intro hown hM) (And.intro hBx (And.intro hwx hfl)))
          have hol : out.length ≤ 20001 := by omega
          have hgk : 0 < gk := by omega
          clear hV hVn hVl hV32 hlist hFV hi1 hi2 hi3 hi4 hi5 hi6 hi7 hown hbx hM hBx hfr
          go_wp2_with (fail)
          go_at_call 37
          refine (len_any _ _ _ _).mono ?_
          rintro e w4 ⟨rfl, rfl⟩
          go_wp2_with (fail)
          go_at_call 38
          with_reducible refine hpop.mono ?_
          rintro e w4 ⟨x, fr4, rfl, hbx4, hperm, hmin4, hbut4⟩
          obtain ⟨⟨⟨hV, hVn⟩, hVl, hV32⟩, ⟨hlist, hFV⟩, ⟨⟨hi1, hi2⟩, hi3, hi4⟩, ⟨hi5, hi6⟩, hi7⟩ := HV.out
          obtain ⟨⟨hown, hM⟩, hBx, hwx, hfl⟩ := HW.out
          have hxV : x ∈ V := hi2 x (hperm.mem_iff.1 (List.mem_cons_self ..))
          have hx32 := hV32 x hxV
          obtain ⟨ol, l, cp, hFx, hssl, hpar, hln, hl2, hlV, hpl⟩ := hlist x hxV
          have hown4 := own_butv hown hbut4 hi7
          have hM4 := hM.but hbut4 nb1 nb2
          have hB4 : Below w2.heap.size w2 w4 := below_but hBx hbut4 hBx.size (by omega) (by omega)
          have hw4 := hbut4.2.2.2.1
          have hown4a : (w4.alloc (.cells #[.string x] 9)).ownsRow (w2.heap.size + 1) 9 1 (.slice oo out.length co) out.length (out.map Value.string) := hown4.kept (World.grownBy_alloc _ _ none) (Classical.em _)
          have hm1 : out.length + 1 ≤ maxLen := by unfold maxLen; omega
          have hm2 : (out.length + 1) * 16 ≤ 140737488355328 := by omega
          have hm3 : w2.heap.size + 1 ≤ (w4.alloc (.cells #[.string x] 9)).heap.size := by simp; omega
          have hkm : Acy S a → Kn.Km V (pls S) (out ++ [x]) fr4 (beh bO) l 0 := fun hA => by
            have h1 := ((HK.out.1 hA).1.perm hperm).pop hVn (by rw [hpl]; exact hln) (by rw [hpl]; exact hlV)
            rw [hpl] at h1
            exact h1
          have hlst : Acy S a → Lst S V (out ++ [x]) := fun hA => (HK.out.1 hA).2.step (fun y hy hyo hr => by
            have h1 := ((HK.out.1 hA).1.rdy y hy).2 hr
            rcases h1 with h1 | h1
            · exact (hmin4 HK.out.2).1 y h1
            · exact absurd h1 hyo)
          have HLS := Lib.hid (And.intro hlst (hmin4 HK.out.2).2)
          clear hlst hmin4
          have hf4 : fr4.length + 1 = fr.length := by have := hperm.length_eq; simpa using this
          have HX := Lib.hid (And.intro (And.intro (And.intro hown hown4) (And.intro hM4 hB4)) (And.intro (And.intro hxV hFx) (And.intro (And.intro hssl hln) (And.intro (And.intro hlV hkm) (And.intro hf4 hbx4)))))
          have HP4 := Lib.hid hperm
          clear hown hM hown4 hM4 hB4 hxV hFx hssl hln hlV hkm hf4 hbx4 hperm hbut4 hpar hpl hBx hfl hV hVn hVl hV32 hlist hFV hi1 hi2 hi3 hi4 hi5 hi6 hi7 hpop
          go_wp2_with (at_builtin; go_loud (refine wpList_appAt rfl (.tmp 56) (.tmp 58) 22 rfl (w2.heap.size + 1) 9 i0 (.string ⟨#[]⟩) 16 Try.underlying22 hi0 hz0 hz1 hz2 rfl (.slice oo out.length co) out.length _ rfl hown4a (some ⟨w4.heap.size, 0, none⟩) [x] 1 rfl 1 rfl (fun e => by cases e) (ss_new w4 x _) hm1 hm2 hm3 ?_))
          intro v5 w5 hown5 hg5 hloc5
          replace hown5 : w5.ownsRow (w2.heap.size + 1) 9 1 v5 (out.length + 1) ((out ++ [x]).map Value.string) := by rw [List.map_append]; exact hown5
          have hlen : (out ++ [x]).length = out.length + 1 := by simp
          obtain ⟨o5, c5, hv5, _⟩ := own_ss hown5 hlen.symm
          rw [hlen] at hv5
          subst hv5
          obtain ⟨⟨⟨hown, hown4⟩, hM4, hB4⟩, ⟨hxV, hFx⟩, ⟨hssl, hln⟩, ⟨hlV, hkm⟩, hf4, hbx4⟩ := HX.out
          obtain ⟨⟨⟨hV, hVn⟩, hVl, hV32⟩, ⟨hlist, hFV⟩, ⟨⟨hi1, hi2⟩, hi3, hi4⟩, ⟨hi5, hi6⟩, hi7⟩ := HV.out
          have hsa : (w4.alloc (.cells #[.string x] 9)).heap.size = w4.heap.size + 1 := by simp
          have hrb4 := hbx4.row.lt rb rfl
          have hfb4 := (Array.getElem?_eq_some_iff.1 hbx4.box).1
          have hdis5 : ∀ j, (Value.slice o5 (out.length + 1) c5).ownBlock = some j → j ≠ wo.heap.size + 1 ∧ j ≠ rb := fun j hj => by
            rcases hloc5 with h | h
            · exact hi7 j (h ▸ hj)
            · have h2 := Option.some.inj (hj.symm.trans h)
              omega
          have hoo : ∀ j, (Value.slice oo out.length co).ownBlock = some j → w2.heap.size + 1 ≤ j := fun j hj => (own_lt' hown j hj).1
          have hga : w4.grownBy (w4.alloc (.cells #[.string x] 9)) none := World.grownBy_alloc _ _ none
          have hbx5 := (hbx4.far hga (by simp) (by simp)).far hg5 (fun e => (hi7 _ e.symm).1 rfl) (fun e => (hi7 _ e.symm).2 rfl)
          have hM5 := (hM4.grown hga (by simp)).grown hg5 (fun e => by have := hoo _ e.symm; omega)
          have hB4a := hB4.trans (below_of_grown hga (fun k hk => by cases hk) hB4.size)
          have hB5 := hB4a.trans (below_of_grown hg5 (fun k hk => by have := hoo k hk; omega) hB4a.size)
          have hg5s := hg5.size
          have hlg := (hF.below hB5 hF.lt).get 79 22 Try.underlying79 (by kernel_rfl : (zeroValue 22).run Try.prog w5 = .ok (.slice none 0 0) w5) x hx32 false
          rw [hFx] at hlg
          replace hlg : (Instr.lookup 79 (.map (some w.heap.size)) (.string x) false).run Try.prog w5 = .ok (.slice ol l.length cp) w5 := hlg
          have hw5 : wo.heap.size + 2 ≤ w5.heap.size := by omega
          have HZ := Lib.hid (And.intro (And.intro hown5 hbx5) (And.intro (And.intro hM5 hB5) (And.intro (And.intro hdis5 hw5) (And.intro (And.intro hkm hf4) (And.intro hlen hxV)))))
          have HL := Lib.hid (And.intro (And.intro hssl hln) hlV)
          clear hown hown4 hM4 hB4 hxV hFx hssl hln hlV hkm hf4 hbx4 hV hVn hVl hV32 hlist hFV hi1 hi2 hi3 hi4 hi5 hi6 hi7 hsa hrb4 hfb4 hdis5 hoo hga hbx5 hM5 hB4a hB5 hg5s hw5 hg5 hloc5 hown5 hlen hrbl hwx hw4 hown4a hm3
          go_wp2
          go_loopw [64] (fun z wx => ∃ (j rb cb : Nat) (fr : List ByteArray) (nb : Nat) (bO : ByteArray → Option Int), z = .int .i64 j ∧ j ≤ l.length ∧ wx.ownsRow (w2.heap.size + 1) 9 1 (.slice o5 (out.length + 1) c5) (out.length + 1) ((out ++ [x]).map Value.string) ∧
            Bx wx (w2.heap.size + 1) (wo.heap.size + 1) rb cb fr ∧ MF wx w2.heap.size nb (imap bO) ∧ Below w2.heap.size w2 wx ∧ wo.heap.size + 2 ≤ wx.heap.size ∧
            Hid ((∀ y ∈ fr, y ∈ V) ∧ fr.length + Kn.live V (beh bO) ≤ gk - 1 ∧ (∀ q, -(2 * (out.length : Int) + j) ≤ beh bO q ∧ beh bO q ≤ V.length) ∧ nb ≤ 2 * V.length + 2 * out.length + j ∧ (∀ i, (Value.slice o5 (out.length + 1) c5).ownBlock = some i → i ≠ wo.heap.size + 1 ∧ i ≠ rb)) ∧
            Hid ((Acy S a → Kn.Km V (pls S) (out ++ [x]) fr (beh bO) l j) ∧ Hq.Hp ltS ⟨#[]⟩ fr fr.length)) (fun z _ => l.length - (intOf z).toNat)
          case atStart =>
            obtain ⟨⟨hown5, hbx5⟩, ⟨hM5, hB5⟩, ⟨hdis5, hw5⟩, ⟨hkm, hf4⟩, hlen, hxV⟩ := HZ.out
            obtain ⟨⟨⟨hV, hVn⟩, hVl, hV32⟩, ⟨hlist, hFV⟩, ⟨⟨hi1, hi2⟩, hi3, hi4⟩, ⟨hi5, hi6⟩, hi7⟩ := HV.out
            exact ⟨0, rb, cb, fr4, nb, bO, by first | rfl | trivial, Nat.zero_le _, hown5, hbx5, hM5, hB5, hw5, Lib.hid ⟨fun y hy => hi2 y (HP4.out.mem_iff.1 (List.mem_cons_of_mem _ hy)), by omega, fun q => by have := hi5 q; omega, by omega, hdis5⟩, Lib.hid ⟨hkm, HLS.out.2⟩⟩
          case round =>
            clear HZ hlg
            obtain ⟨j, rb, cb, fr, nb, bO, rfl, hj, hown, hbx, hM, hBx, hwx, HI2, HK2⟩ := hrel
            obtain ⟨⟨⟨hV, hVn⟩, hVl, hV32⟩, _, ⟨⟨hi1, _⟩, hi3, hi4⟩, _, _⟩ := HV.out
            obtain ⟨⟨hssl, hln⟩, hlV⟩ := HL.out
            obtain ⟨hj1, hj2, hj3, hj4, hj5⟩ := HI2.out
            by_cases hjl : j < l.length
            · obtain ⟨ad, rfl⟩ := ss_some hssl hjl
              obtain ⟨q, hq⟩ : ∃ q, l[j]? = some q := ⟨l[j], List.getElem?_eq_getElem hjl⟩
              have cq := (hssl.below hBx).at hq
              have hqV := hlV q (List.mem_of_getElem? hq)
              have hq32 := hV32 q hqV
              have hlk := hM.get 54 3 Try.underlying54 (zeroI wr) q hq32 false
              rw [show (if false = true then Value.tuple #[(imap bO q).getD (.int .i64 0), .bool (imap bO q).isSome] else (imap bO q).getD (.int .i64 0)) = .int .i64 (beh bO q) from imap_get bO q] at hlk
              have hXb := hj3 q
              obtain ⟨X, hXe⟩ : ∃ X, X = beh bO q := ⟨_, rfl⟩
              rw [← hXe] at hlk hXb
              obtain ⟨Y, hY⟩ : ∃ Y, X - 1 = Y := ⟨_, rfl⟩
              have d1 : IntKind.i64.wrap (X - 1) = Y := by rw [wrap_fit _ (by omega) (by omega)]; exact hY
              have i16 : (j : Int) < l.length := by omega
              have i17 : IntKind.i64.wrap ((j : Int) + 1) = (j : Int) + 1 := wrap_fit _ (by omega) (by omega)
              obtain ⟨w6, hup, hM6, hg6⟩ := hM.put 54 3 Try.underlying54 (by unfold maxLen; omega) q hq32 (.int .i64 Y)
              rw [imap_upd] at hM6
              have hlk6 := hM6.get 54 3 Try.underlying54 (zeroI w6) q hq32 false
              rw [show (if false = true then Value.tuple #[(imap (upd bO q Y) q).getD (.int .i64 0), .bool (imap (upd bO q Y) q).isSome] else (imap (upd bO q Y) q).getD (.int .i64 0)) = .int .i64 Y from (imap_get _ q).trans (by rw [beh_upd]; simp)] at hlk6
              obtain ⟨nb1, nb2⟩ := hM.ne_box hbx
              have hbx6 := hbx.far hg6 (by simp; omega) (by simp; omega)
              have hB6 := hBx.trans (below_of_grown hg6 (fun k hk => by cases hk; exact Nat.le_refl _) hBx.size)
              have hob := own_lt' hown
              have hown6 := hown.kept hg6 (.inr (fun e => by have := (hob _ e).1; omega))
              have hw6 := hg6.size
              have hbeh : beh (upd bO q Y) = fun x => if x = q then beh bO q - 1 else beh bO x := by rw [beh_upd, ← hY, hXe]
              have hrbl := hbx.row.lt rb rfl
              have hbd : ∀ x, -(2 * (out.length : Int) + (j + 1 : Nat)) ≤ beh (upd bO q Y) x ∧ beh (upd bO q Y) x ≤ V.length := fun x => by
                rw [hbeh]
                dsimp only
                have h1 := hj3 x
                have h2 := hj3 q
                by_cases hx : x = q
                · rw [if_pos hx]; omega
                · rw [if_neg hx]; omega
              by_cases hY0 : Y = 0
              · subst hY0
                have h0 : beh bO q - 1 = 0 := by rw [← hXe]; exact hY
                have hpush := hpush_gen (w2.heap.size + 1) (wo.heap.size + 1) rb cb fr q w6 hbx6 (by omega) (by omega)
                unfold lp at hpush
                have hlp := Kn.live_push hVn hqV h0
                rw [← hbeh] at hlp
                have HR := Lib.hid (And.intro (And.intro (And.intro hq h0) (And.intro hown6 hM6)) (And.intro (And.intro hB6 hw6) (And.intro (And.intro hob hbeh) (And.intro (And.intro hbd hlp) (And.intro hqV hVl)))))
                clear hq h0 hown6 hM6 hB6 hw6 hob hbeh hbd hlp hqV hVl hV hVn hV32 hi1 hi3 hi4 hssl hln hlV hj1 hj2 hj3 hj4 hj5 hown hbx hM hBx hXe hY hXb hg6 hbx6
                go_wp2_with (fail)
                go_at_call 39
                with_reducible refine hpush.mono ?_
                rintro e w7 ⟨rfl, rb7, c7, fr7, hbx7, ⟨hperm7, hhp7⟩, hkeep, hos, htape, hout, hsz7, hloc7⟩
                have HHP := Lib.hid hhp7
                clear hhp7
                have H7 := Lib.hid (And.intro (And.intro hbx7 hperm7) (And.intro (And.intro hkeep hos) (And.intro (And.intro htape hout) (And.intro hsz7 hloc7))))
                clear hbx7 hperm7 hkeep hos htape hout hsz7 hloc7 hpush
                go_wp2
                obtain ⟨⟨hbx7, hperm7⟩, ⟨hkeep, hos⟩, ⟨htape, hout⟩, hsz7, hloc7⟩ := H7.out
                obtain ⟨⟨⟨hq, h0⟩, hown6, hM6⟩, ⟨hB6, hw6⟩, ⟨hob, hbeh⟩, ⟨hbd, hlp⟩, hqV, hVl⟩ := HR.out
                obtain ⟨hj1, hj2, hj3, hj4, hj5⟩ := HI2.out
                have hbut7 : But (wo.heap.size + 1) rb w6 w7 := ⟨hos, htape, hout, hsz7, hkeep⟩
                have hown7 := own_butv hown6 hbut7 hj5
                have hM7 := hM6.but hbut7 nb1 nb2
                have hB7 : Below w2.heap.size w2 w7 := below_but hB6 hbut7 (by omega) (by omega) (by omega)
                go_roundw
                case rel =>
                  refine ⟨j + 1, rb7, c7, fr7, nb + 1, upd bO q 0, by go_num, hjl, hown7, hbx7, hM7, hB7, by omega, Lib.hid ⟨fun y hy => ?_, ?_, hbd, by omega, fun i hi => ?_⟩, Lib.hid ⟨fun hA => ?_, HHP.out HK2.out.2⟩⟩
                  · rcases List.mem_cons.1 (hperm7.mem_iff.1 hy) with rfl | h
                    · exact hqV
                    · exact hj1 y h
                  · have := hperm7.length_eq
                    rw [List.length_cons] at this
                    omega
                  · obtain ⟨n1, n2⟩ := hj5 i hi
                    refine ⟨n1, ?_⟩
                    rcases hloc7 with e | e
                    · rw [e]; exact n2
                    · have := (hob i hi).2
                      omega
                  · rw [hbeh]
                    exact ((HK2.out.1 hA).push hq h0).perm hperm7
                case measure => simp [intOf]; omega
              · have h0 : beh bO q - 1 ≠ 0 := by rw [← hXe, hY]; exact hY0
                have e0 : (Y == 0) = false := beq_eq_false_iff_ne.2 hY0
                have hlp := Kn.live_pass (V := V) (beh := beh bO) (q := q)
                rw [← hbeh] at hlp
                have HR := Lib.hid (And.intro (And.intro (And.intro hq h0) (And.intro hown6 hM6)) (And.intro (And.intro hB6 hw6) (And.intro (And.intro hbx6 hbeh) (And.intro (And.intro hbd hlp) (And.intro hqV hVl)))))
                clear hq h0 hown6 hM6 hB6 hw6 hob hbeh hbd hlp hqV hVl hV hVn hV32 hi1 hi3 hi4 hssl hln hlV hj1 hj2 hj3 hj4 hj5 hown hbx hM hBx hXe hY hXb hg6 hbx6
                go_wp2
                obtain ⟨⟨⟨hq, h0⟩, hown6, hM6⟩, ⟨hB6, hw6⟩, ⟨hbx6, hbeh⟩, ⟨hbd, hlp⟩, hqV, hVl⟩ := HR.out
                obtain ⟨hj1, hj2, hj3, hj4, hj5⟩ := HI2.out
                go_roundw
                case rel => exact ⟨j + 1, rb, cb, fr, nb + 1, upd bO q Y, by go_num, hjl, hown6, hbx6, hM6, hB6, by omega, Lib.hid ⟨hj1, by omega, hbd, by omega, hj5⟩, Lib.hid ⟨fun hA => by rw [hbeh]; exact (HK2.out.1 hA).pass hq h0, HK2.out.2⟩⟩
                case measure => simp [intOf]; omega
            · obtain rfl : j = l.length := by omega
              have HR := Lib.hid (And.intro (And.intro hown hbx) (And.intro hM hBx))
              have HVi := Lib.hid hi1
              clear hown hbx hM hBx hV hVn hV32 hi1 hssl hln hlV hj1 hj2 hj3 hj4 hj5
              go_wp2
              obtain ⟨⟨hown, hbx⟩, hM, hBx⟩ := HR.out
              obtain ⟨hj1, hj2, hj3, hj4, hj5⟩ := HI2.out
              have hlen : (out ++ [x]).length = out.length + 1 := by simp
              go_roundg (gk - 1)
              case measure => omega
              case rel =>
                refine ⟨out ++ [x], o5, c5, rb, cb, fr, nb, bO, by rw [hlen], by rw [hlen]; exact hown, hbx, hM, hBx, hwx, Lib.hid ⟨fun y hy => ?_, hj1, hj2, by rw [hlen]; omega, fun q => ?_, by rw [hlen]; omega, by rw [hlen]; exact hj5⟩, Lib.hid ⟨fun hA => ⟨(HK2.out.1 hA).close, HLS.out.1 hA⟩, HK2.out.2⟩⟩
                · rw [List.mem_append, List.mem_singleton] at hy
                  rcases hy with h | rfl
                  · exact HVi.out y h
                  · exact HX.out.2.1.1
                · rw [hlen]
                  have := hj3 q
                  omega
    · obtain ⟨⟨hV, hVn⟩, ⟨hVl, hV32⟩, hlist, hFV⟩ := HG.out
      have hsV := hFV s v hfs
      obtain ⟨ol, l, cp, hFs, hss, hpar, hln, hl2, hlV, hpl⟩ := hlist s hsV
      rw [hfs] at hFs
      injection hFs with hFs
      subst hFs
      have hBn : Below w2.heap.size w2 wn := hB.trans (below_of_grown hgn (fun k hk => by cases hk; omega) hB.size)
      have hMn := hM.grown hgn (by simp)
      have HS := Lib.hid (And.intro (And.intro hss hln) (And.intro (And.intro hlV hsV) (And.intro hls hpl)))
      have hmes : ∀ wx, RF wx w.heap.size (w2.heap.size + 1) n F (fun x => left x && !decide (x = s)) cnt' → wx.rangeLeft w.heap.size (w2.heap.size + 1) < wr.rangeLeft w.heap.size (w2.heap.size + 1) := fun wx hx => by rw [hx.left_eq, hRF.left_eq]; exact hlt
      have hwn : w2.heap.size + 2 ≤ wn.heap.size := by omega
      obtain ⟨wo, rfl⟩ : ∃ wo : World, wo = wr := ⟨_, rfl⟩
      clear hM hRF hB hgn hszn hlt hfs hls hss hln hlV hsV hpl hpar hV hVn hV32 hlist hFV hVl
      go_wp2
      go_loopw [35] (fun x wx => ∃ k nb' bO', x = .int .i64 (k : Nat) ∧ k ≤ l.length ∧ RF wx w.heap.size (w2.heap.size + 1) n F (fun x => left x && !decide (x = s)) cnt' ∧ Below w2.heap.size w2 wx ∧ w2.heap.size + 2 ≤ wx.heap.size ∧ MF wx w2.heap.size nb' (imap bO') ∧
          Hid ((∀ q, beh bO' q = (Kn.cntL V (pls S) left q + Kn.has1 (l.take k) q : Nat)) ∧ nb' ≤ nb + k)) (fun x _ => l.length - (intOf x).toNat)
      case atStart =>
        refine ⟨0, nb, bO, by first | rfl | trivial, Nat.zero_le _, hRF', hBn, hwn, hMn, Lib.hid ⟨fun q => ?_, Nat.le_refl _⟩⟩
        rw [HU.out.1 q, List.take_zero]
        rw [Kn.has1_nil]
        rfl
      case round =>
        clear hRF' hBn hMn hwn
        obtain ⟨k, nb', bO', rfl, hk, hRx, hBx, hwx, hMx, HI⟩ := hrel
        obtain ⟨⟨hss, hln⟩, ⟨hlV, hsV⟩, hls, hpl⟩ := HS.out
        obtain ⟨⟨hV, hVn⟩, ⟨hVl, hV32⟩, _, _⟩ := HG.out
        by_cases hkl : k < l.length
        · obtain ⟨ad, rfl⟩ := ss_some hss hkl
          obtain ⟨q, hq⟩ : ∃ q, l[k]? = some q := ⟨l[k], List.getElem?_eq_getElem hkl⟩
          have cq := (hss.below hBx).at hq
          have hqV := hlV q (List.mem_of_getElem? hq)
          have hq32 := hV32 q hqV
          have hlk := hMx.get 54 3 Try.underlying54 (zeroI wr) q hq32 false
          rw [show (if false = true then Value.tuple #[(imap bO' q).getD (.int .i64 0), .bool (imap bO' q).isSome] else (imap bO' q).getD (.int .i64 0)) = .int .i64 (beh bO' q) from imap_get bO' q] at hlk
          have hX := HI.out.1 q
          have hXl := Kn.cntL_le V (pls S) left q
          have hone := Kn.has1_le (l.take k) q
          obtain ⟨X, hXe⟩ : ∃ X, X = beh bO' q := ⟨_, rfl⟩
          rw [← hXe] at hlk hX
          have d1 : IntKind.i64.wrap (X + 1) = X + 1 := wrap_fit _ (by omega) (by omega)
          have i16 : (k : Int) < l.length := by omega
          have i17 : IntKind.i64.wrap ((k : Int) + 1) = (k : Int) + 1 := wrap_fit _ (by omega) (by omega)
          have hfl := List.length_filter_le (fun s => !left s) V
          obtain ⟨w5, hup, hM5, hg5⟩ := hMx.put 54 3 Try.underlying54 (by have := HI.out.2; have := HU.out.2; unfold maxLen; omega) q hq32 (.int .i64 (X + 1))
          rw [imap_upd] at hM5
          have hR5 := hRx.kept hg5 (by simp; omega) (by simp)
          have hB5 := hBx.trans (below_of_grown hg5 (fun k hk => by cases hk; exact Nat.le_refl _) hBx.size)
          have hw5 := hg5.size
          have HH := Lib.hid (And.intro (And.intro hq hXe) (And.intro hR5 (And.intro hB5 (And.intro hM5 hw5))))
          clear hq hXe hX hXl hone hM5 hR5 hB5 hg5 hss hln hlV hpl hls hV hVn hV32 hMx hRx hBx hfl hw5
          go_wp2
          obtain ⟨⟨hq, hXe⟩, hR5, hB5, hM5, hw5⟩ := HH.out
          go_roundw
          case rel =>
            refine ⟨k + 1, nb' + 1, _, by go_num, hkl, hR5, hB5, by omega, hM5, Lib.hid ⟨fun x => ?_, by have := HI.out.2; omega⟩⟩
            have h1 := HI.out.1 x
            have h2 := Kn.has1_take (x := x) HS.out.1.2 hq
            rw [beh_upd, h2]
            dsimp only
            by_cases hx : x = q
            · rw [if_pos hx, if_pos hx, hXe, ← hx, h1]
              push_cast
              omega
            · rw [if_neg hx, if_neg hx, h1]
              push_cast
              omega
          case measure => simp [intOf]; omega
        · obtain rfl : k = l.length := by omega
          have hfin : (∀ q, beh bO' q = (Kn.cntL V (pls S) (fun x => left x && !decide (x = s)) q : Int)) ∧ nb' ≤ 2 * (V.filter fun x => !(fun x => left x && !decide (x = s)) x).length := by
            refine ⟨fun q => ?_, ?_⟩
            · rw [HI.out.1 q, Kn.cntL_step hVn hsV hls, List.take_length, hpl]
              rfl
            · have h1 := Kn.len_filter (f := fun x => !(fun x => left x && !decide (x = s)) x) (g := fun x => !left x) hVn hsV (fun x _ hx => by simp [hx]) (by simp [hls])
              have h2 : (!(left s && !decide (s = s))) = true := by simp
              dsimp only at h1
              rw [if_pos h2] at h1
              have h3 := HI.out.2
              have h4 := HU.out.2
              dsimp only
              omega
          have HF := Lib.hid hfin
          have HR := Lib.hid (And.intro hRx (And.intro hBx (And.intro hwx hMx)))
          clear hfin hRx hBx hwx hMx hss hln hlV hsV hls hpl hV hVn hV32
          go_wp2
          obtain ⟨hRx, hBx, hwx, hMx⟩ := HR.out
          go_roundw
          case rel => exact ⟨_, _, nb', bO', hRx, hBx, hwx, hMx, HF⟩
          case measure => exact hmes _ hRx
end Go.Proofs.Ytkjgbldooflodaa
