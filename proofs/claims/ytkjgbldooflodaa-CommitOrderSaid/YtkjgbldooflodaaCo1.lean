/-
  Telling all that is ahead of a commit, behind all it is ahead of: the plain law (counts of those behind that are not told yet).
-/
import Derived.Test.YtkjgbldooflodaaCmG
namespace Go.Proofs.Ytkjgbldooflodaa
namespace Kn
section
variable {α : Type}
theorem split_nodup {V : List α} {p : α} (hn : V.Nodup) (hp : p ∈ V) : ∃ A B, V = A ++ p :: B ∧ p ∉ A ∧ p ∉ B := by
  obtain ⟨A, B, rfl⟩ := List.append_of_mem hp
  rw [List.nodup_append] at hn
  obtain ⟨_, h2, h3⟩ := hn
  exact ⟨A, B, rfl, fun h => h3 p h p (List.mem_cons_self ..) rfl, (List.nodup_cons.1 h2).1⟩
theorem drop_cons {l : List α} {i : Nat} {q : α} (h : l[i]? = some q) : l.drop i = q :: l.drop (i + 1) := by
  obtain ⟨h1, h2⟩ := List.getElem?_eq_some_iff.1 h
  rw [List.drop_eq_getElem_cons h1, h2]
theorem len_filter {V : List α} {f g : α → Bool} {p : α} (hn : V.Nodup) (hp : p ∈ V) (h : ∀ s ∈ V, s ≠ p → f s = g s) (hg : g p = false) : (V.filter f).length = (V.filter g).length + (if f p then 1 else 0) := by
  obtain ⟨A, B, rfl, hA, hB⟩ := split_nodup hn hp
  have eA : A.filter f = A.filter g := List.filter_congr fun s hs => h s (List.mem_append_left _ hs) (fun e => hA (e ▸ hs))
  have eB : B.filter f = B.filter g := List.filter_congr fun s hs => h s (List.mem_append_right _ (List.mem_cons_of_mem _ hs)) (fun e => hB (e ▸ hs))
  rw [List.filter_append, List.filter_append, List.filter_cons, List.filter_cons, eA, eB, hg]
  cases hf : f p <;> simp <;> omega
theorem filter_le {f g : α → Bool} (h : ∀ x, f x = true → g x = true) : ∀ V : List α, (V.filter f).length ≤ (V.filter g).length
  | [] => Nat.le_refl _
  | x :: V => by
    have ih := filter_le h V
    rw [List.filter_cons, List.filter_cons]
    cases hf : f x with
    | false =>
      cases hg : g x <;> simp <;> omega
    | true =>
      rw [h x hf]
      simp
      omega
end
section
variable {α : Type} [DecidableEq α]
/-- How many of V, not told yet, have q for a parent. -/
def cnt (V : List α) (pl : α → List α) (out : List α) (q : α) : Nat := (V.filter fun s => decide (s ∉ out) && decide (q ∈ pl s)).length
def cntL (V : List α) (pl : α → List α) (left : α → Bool) (q : α) : Nat := (V.filter fun s => !left s && decide (q ∈ pl s)).length
def one (b : Prop) [Decidable b] : Nat := if b then 1 else 0
/-- 1 where it is among them. -/
def has1 (l : List α) (q : α) : Nat := one (q ∈ l)
theorem has1_le (l : List α) (q : α) : has1 l q ≤ 1 := by unfold has1 one; split <;> omega
theorem has1_nil (q : α) : has1 ([] : List α) q = 0 := by simp [has1, one]
theorem has1_take {l : List α} {k : Nat} {q x : α} (hn : l.Nodup) (hq : l[k]? = some q) : has1 (l.take (k + 1)) x = has1 (l.take k) x + if x = q then 1 else 0 := by
  have e : l.take (k + 1) = l.take k ++ [q] := by rw [List.take_add_one, hq]; rfl
  have hqn : q ∉ l.take k := fun h => by
    obtain ⟨j, hj⟩ := List.getElem?_of_mem h
    rw [List.getElem?_take] at hj
    by_cases hjk : j < k
    · rw [if_pos hjk] at hj
      obtain ⟨h1, h2⟩ := List.getElem?_eq_some_iff.1 hj
      obtain ⟨h3, h4⟩ := List.getElem?_eq_some_iff.1 hq
      have := (List.getElem_inj hn).1 (h2.trans h4.symm)
      omega
    · rw [if_neg hjk] at hj; cases hj
  unfold has1 one
  rw [e]
  by_cases hx : x = q
  · subst hx
    simp [hqn]
  · simp [hx]
structure Kh (V : List α) (pl : α → List α) (out free : List α) (beh : α → Int) : Prop where
  on : out.Nodup
  fn : free.Nodup
  dis : ∀ x ∈ free, x ∉ out
  so : ∀ x ∈ out, x ∈ V
  sf : ∀ x ∈ free, x ∈ V
  cn : ∀ q, beh q = (cnt V pl out q : Int)
  rdy : ∀ q ∈ V, (q ∈ free ∨ q ∈ out) ↔ ∀ s ∈ V, q ∈ pl s → s ∈ out
  ord : ∀ (i j : Nat) s q, out[i]? = some s → q ∈ pl s → out[j]? = some q → i < j
structure Km (V : List α) (pl : α → List α) (out free : List α) (beh : α → Int) (l : List α) (i : Nat) : Prop where
  on : out.Nodup
  fn : free.Nodup
  dis : ∀ x ∈ free, x ∉ out
  so : ∀ x ∈ out, x ∈ V
  sf : ∀ x ∈ free, x ∈ V
  ln : l.Nodup
  lv : ∀ q ∈ l, q ∈ V
  cn : ∀ q, beh q = (cnt V pl out q : Int) + (one (q ∈ l.drop i) : Int)
  rdy : ∀ q ∈ V, (q ∈ free ∨ q ∈ out) ↔ (∀ s ∈ V, q ∈ pl s → s ∈ out) ∧ q ∉ l.drop i
  ord : ∀ (i j : Nat) s q, out[i]? = some s → q ∈ pl s → out[j]? = some q → i < j
theorem cnt_pop {V : List α} {pl : α → List α} {out : List α} {p : α} (hn : V.Nodup) (hp : p ∈ V) (ho : p ∉ out) (q : α) : cnt V pl out q = cnt V pl (out ++ [p]) q + one (q ∈ pl p) := by
  unfold cnt one
  rw [len_filter (p := p) (g := fun s => decide (s ∉ out ++ [p]) && decide (q ∈ pl s)) hn hp]
  · congr 1
    by_cases h : q ∈ pl p <;> simp [h, ho]
  · intro s hs hsp
    have : (s ∉ out ++ [p]) ↔ s ∉ out := by simp [hsp]
    simp only [this]
  · simp
theorem cntL_step {V : List α} {pl : α → List α} {left : α → Bool} {s : α} (hn : V.Nodup) (hs : s ∈ V) (hl : left s = true) (q : α) : cntL V pl (fun x => left x && !decide (x = s)) q = cntL V pl left q + one (q ∈ pl s) := by
  unfold cntL one
  rw [len_filter (p := s) (g := fun x => !left x && decide (q ∈ pl x)) hn hs]
  · congr 1
    by_cases h : q ∈ pl s <;> simp [h]
  · intro x hx hxs
    simp [hxs]
  · simp [hl]
theorem cntL_done {V : List α} {pl : α → List α} {left : α → Bool} (h : ∀ s, left s = false) (q : α) : cntL V pl left q = cnt V pl [] q := by
  unfold cntL cnt
  congr 1
  refine List.filter_congr fun s _ => ?_
  simp [h s]
theorem cntL_start {V : List α} {pl : α → List α} {left : α → Bool} (h : ∀ s ∈ V, left s = true) (q : α) : cntL V pl left q = 0 := by
  unfold cntL
  rw [List.length_eq_zero_iff, List.filter_eq_nil_iff]
  intro s hs
  simp [h s hs]
theorem cntL_le (V : List α) (pl : α → List α) (left : α → Bool) (q : α) : cntL V pl left q ≤ V.length := List.length_filter_le _ _
theorem cnt_zero {V : List α} {pl : α → List α} {out : List α} {q : α} : cnt V pl out q = 0 ↔ ∀ s ∈ V, q ∈ pl s → s ∈ out := by
  unfold cnt
  rw [List.length_eq_zero_iff, List.filter_eq_nil_iff]
  constructor
  · intro h s hs hq
    have := h s hs
    simp [hq] at this
    exact this
  · intro h s hs
    have := h s hs
    simp
    intro h1 h2
    exact h1 (this h2)
theorem Kh.perm {V : List α} {pl : α → List α} {out free free' : List α} {beh : α → Int} (h : Kh V pl out free beh) (hp : free'.Perm free) : Kh V pl out free' beh :=
  ⟨h.on, hp.nodup_iff.2 h.fn, fun x hx => h.dis x (hp.mem_iff.1 hx), h.so, fun x hx => h.sf x (hp.mem_iff.1 hx), h.cn, fun q hq => by rw [hp.mem_iff]; exact h.rdy q hq, h.ord⟩
theorem Km.perm {V : List α} {pl : α → List α} {out free free' : List α} {beh : α → Int} {l : List α} {i : Nat} (h : Km V pl out free beh l i) (hp : free'.Perm free) : Km V pl out free' beh l i :=
  ⟨h.on, hp.nodup_iff.2 h.fn, fun x hx => h.dis x (hp.mem_iff.1 hx), h.so, fun x hx => h.sf x (hp.mem_iff.1 hx), h.ln, h.lv, h.cn, fun q hq => by rw [hp.mem_iff]; exact h.rdy q hq, h.ord⟩
theorem Kh.pop {V : List α} {pl : α → List α} {out free : List α} {beh : α → Int} {p : α} (h : Kh V pl out (p :: free) beh) (hn : V.Nodup) (hln : (pl p).Nodup) (hlv : ∀ q ∈ pl p, q ∈ V) : Km V pl (out ++ [p]) free beh (pl p) 0 := by
  have hpo : p ∉ out := h.dis p (List.mem_cons_self ..)
  have hpV : p ∈ V := h.sf p (List.mem_cons_self ..)
  obtain ⟨hpf, hfn⟩ := List.nodup_cons.1 h.fn
  have hrp := (h.rdy p hpV).1 (.inl (List.mem_cons_self ..))
  have hpp : p ∉ pl p := fun e => hpo (hrp p hpV e)
  refine ⟨?_, hfn, fun x hx => ?_, fun x hx => ?_, fun x hx => h.sf x (List.mem_cons_of_mem _ hx), hln, hlv, fun q => ?_, fun q hq => ?_, fun i j s q hi hq hj => ?_⟩
  · rw [List.nodup_append]
    exact ⟨h.on, by simp, fun x hx y hy => by rw [List.mem_singleton] at hy; rw [hy]; intro e; exact hpo (e ▸ hx)⟩
  · rw [List.mem_append, List.mem_singleton]
    rintro (h1 | rfl)
    · exact h.dis x (List.mem_cons_of_mem _ hx) h1
    · exact hpf hx
  · rw [List.mem_append, List.mem_singleton] at hx
    rcases hx with hx | rfl
    · exact h.so x hx
    · exact hpV
  · rw [h.cn q, cnt_pop hn hpV hpo q, List.drop_zero]
    omega
  · rw [List.drop_zero]
    have h1 := h.rdy q hq
    have e1 : (q ∈ free ∨ q ∈ out ++ [p]) ↔ (q ∈ p :: free ∨ q ∈ out) := by
      rw [List.mem_append, List.mem_singleton, List.mem_cons]
      constructor
      · rintro (h | h | h)
        · exact .inl (.inr h)
        · exact .inr h
        · exact .inl (.inl h)
      · rintro ((h | h) | h)
        · exact .inr (.inr h)
        · exact .inl h
        · exact .inr (.inl h)
    rw [e1, h1]
    constructor
    · intro h2
      exact ⟨fun s hs hqs => List.mem_append_left _ (h2 s hs hqs), fun h3 => hpo (h2 p hpV h3)⟩
    · rintro ⟨h2, h3⟩ s hs hqs
      have := h2 s hs hqs
      rw [List.mem_append, List.mem_singleton] at this
      rcases this with h4 | rfl
      · exact h4
      · exact absurd hqs h3
  · have hlt : ∀ {k : Nat} {x : α}, (out ++ [p])[k]? = some x → k < out.length ∧ out[k]? = some x ∨ k = out.length ∧ x = p := fun {k x} hk => by
      by_cases hkl : k < out.length
      · rw [List.getElem?_append_left hkl] at hk
        exact .inl ⟨hkl, hk⟩
      · rw [List.getElem?_append_right (by omega)] at hk
        have := (List.getElem?_eq_some_iff.1 hk).1
        have hk0 : k - out.length = 0 := by simpa using this
        rw [hk0] at hk
        exact .inr ⟨by omega, by simpa using hk.symm⟩
    rcases hlt hi with ⟨h1, h2⟩ | ⟨h1, rfl⟩
    · rcases hlt hj with ⟨h3, h4⟩ | ⟨h3, h4⟩
      · exact h.ord i j s q h2 hq h4
      · omega
    · rcases hlt hj with ⟨h3, h4⟩ | ⟨h3, rfl⟩
      · have hqo := List.mem_of_getElem? h4
        exact absurd ((h.rdy q (h.so q hqo)).1 (.inr hqo) s hpV hq) hpo
      · exact absurd hq hpp
theorem Km.step_beh {V : List α} {pl : α → List α} {out free : List α} {beh : α → Int} {l : List α} {i : Nat} {q : α} (h : Km V pl out free beh l i) (hq : l[i]? = some q) :
    (beh q - 1 = cnt V pl out q) ∧ q ∉ l.drop (i + 1) ∧ ∀ x, (if x = q then beh q - 1 else beh x) = (cnt V pl out x : Int) + (one (x ∈ l.drop (i + 1)) : Int) := by
  have hd := drop_cons hq
  have hqn : q ∉ l.drop (i + 1) := by
    have : (l.drop i).Nodup := h.ln.sublist (List.drop_sublist _ _)
    rw [hd] at this
    exact (List.nodup_cons.1 this).1
  have h1 := h.cn q
  have e1 : one (q ∈ l.drop i) = 1 := if_pos (by rw [hd]; exact List.mem_cons_self ..)
  rw [e1] at h1
  refine ⟨by omega, hqn, fun x => ?_⟩
  by_cases hx : x = q
  · subst hx
    have e2 : one (x ∈ l.drop (i + 1)) = 0 := if_neg hqn
    rw [if_pos rfl, e2]
    omega
  · rw [if_neg hx, h.cn x]
    congr 2
    unfold one
    have : (x ∈ l.drop i) ↔ x ∈ l.drop (i + 1) := by rw [hd, List.mem_cons]; exact ⟨fun e => e.resolve_left hx, .inr⟩
    simp only [this]
theorem Km.push {V : List α} {pl : α → List α} {out free : List α} {beh : α → Int} {l : List α} {i : Nat} {q : α} (h : Km V pl out free beh l i) (hq : l[i]? = some q) (h0 : beh q - 1 = 0) :
    Km V pl out (q :: free) (fun x => if x = q then beh q - 1 else beh x) l (i + 1) := by
  obtain ⟨h1, hqn, hcn⟩ := h.step_beh hq
  have hd := drop_cons hq
  have hqV := h.lv q (List.mem_of_getElem? hq)
  have hno : ¬ (q ∈ free ∨ q ∈ out) := fun e => ((h.rdy q hqV).1 e).2 (by rw [hd]; exact List.mem_cons_self ..)
  refine ⟨h.on, List.nodup_cons.2 ⟨fun e => hno (.inl e), h.fn⟩, fun x hx => ?_, h.so, fun x hx => ?_, h.ln, h.lv, hcn, fun x hx => ?_, h.ord⟩
  · rcases List.mem_cons.1 hx with rfl | hx
    · exact fun e => hno (.inr e)
    · exact h.dis x hx
  · rcases List.mem_cons.1 hx with rfl | hx
    · exact hqV
    · exact h.sf x hx
  · by_cases hxq : x = q
    · subst hxq
      have hz : cnt V pl out x = 0 := by omega
      exact ⟨fun _ => ⟨cnt_zero.1 hz, hqn⟩, fun _ => .inl (List.mem_cons_self ..)⟩
    · have h2 := h.rdy x hx
      rw [hd, List.mem_cons] at h2
      rw [List.mem_cons]
      simp only [hxq, false_or] at h2 ⊢
      exact h2
theorem Km.pass {V : List α} {pl : α → List α} {out free : List α} {beh : α → Int} {l : List α} {i : Nat} {q : α} (h : Km V pl out free beh l i) (hq : l[i]? = some q) (h0 : beh q - 1 ≠ 0) :
    Km V pl out free (fun x => if x = q then beh q - 1 else beh x) l (i + 1) := by
  obtain ⟨h1, hqn, hcn⟩ := h.step_beh hq
  have hd := drop_cons hq
  have hqV := h.lv q (List.mem_of_getElem? hq)
  have hno : ¬ (q ∈ free ∨ q ∈ out) := fun e => ((h.rdy q hqV).1 e).2 (by rw [hd]; exact List.mem_cons_self ..)
  refine ⟨h.on, h.fn, h.dis, h.so, h.sf, h.ln, h.lv, hcn, fun x hx => ?_, h.ord⟩
  by_cases hxq : x = q
  · subst hxq
    exact ⟨fun e => absurd e hno, fun ⟨e, _⟩ => absurd (cnt_zero.2 e) (by omega)⟩
  · have h2 := h.rdy x hx
    rw [hd, List.mem_cons] at h2
    simp only [hxq, false_or] at h2
    exact h2
theorem Km.close {V : List α} {pl : α → List α} {out free : List α} {beh : α → Int} {l : List α} (h : Km V pl out free beh l l.length) : Kh V pl out free beh := by
  refine ⟨h.on, h.fn, h.dis, h.so, h.sf, fun q => ?_, fun q hq => ?_, h.ord⟩
  · rw [h.cn q, List.drop_length]
    simp [one]
  · rw [h.rdy q hq, List.drop_length]
    simp
theorem Kh.start {V : List α} {pl : α → List α} {beh : α → Int} {a : α} (ha : a ∈ V) (h1 : ∀ s ∈ V, a ∉ pl s) (h2 : ∀ y ∈ V, y ≠ a → ∃ s ∈ V, y ∈ pl s) (hb : ∀ q, beh q = (cnt V pl [] q : Int)) : Kh V pl [] [a] beh := by
  refine ⟨List.nodup_nil, by simp, fun x _ => by simp, (fun x hx => by cases hx), (fun x hx => by rw [List.mem_singleton] at hx; rw [hx]; exact ha), hb, fun q hq => ?_, fun i j s q hi => by simp at hi⟩
  constructor
  · rintro (h | h)
    · rw [List.mem_singleton] at h
      subst h
      exact fun s hs e => absurd e (h1 s hs)
    · cases h
  · intro h
    by_cases hqa : q = a
    · exact .inl (by rw [hqa]; exact List.mem_singleton.2 rfl)
    · obtain ⟨s, hs, hqs⟩ := h2 q hq hqa
      have := h s hs hqs
      cases this
theorem Kh.all {V : List α} {pl : α → List α} {out : List α} {beh : α → Int} (h : Kh V pl out [] beh) (rk : α → Nat) (M : Nat) (hM : ∀ s ∈ V, rk s ≤ M) (hr : ∀ s ∈ V, ∀ q ∈ pl s, rk q < rk s) : ∀ q ∈ V, q ∈ out := by
  have key : ∀ n, ∀ q ∈ V, M - rk q ≤ n → q ∈ out := by
    intro n
    induction n with
    | zero =>
      intro q hq hn
      have := (h.rdy q hq).2 (fun s hs hqs => by
        have h1 := hr s hs q hqs
        have h2 := hM s hs
        omega)
      exact this.resolve_left (by simp)
    | succ n ih =>
      intro q hq hn
      have := (h.rdy q hq).2 (fun s hs hqs => ih s hs (by
        have h1 := hr s hs q hqs
        have h2 := hM s hs
        omega))
      exact this.resolve_left (by simp)
  exact fun q hq => key _ q hq (Nat.le_refl _)
theorem Kh.first {V : List α} {pl : α → List α} {out free : List α} {beh : α → Int} {a y : α} (h : Kh V pl out free beh) (h2 : ∀ y ∈ V, y ≠ a → ∃ s ∈ V, y ∈ pl s) (hy : out[0]? = some y) : y = a := by
  have hyo := List.mem_of_getElem? hy
  have hyV := h.so y hyo
  refine Classical.byContradiction fun hne => ?_
  obtain ⟨s, hs, hys⟩ := h2 y hyV hne
  have hso := (h.rdy y hyV).1 (.inr hyo) s hs hys
  obtain ⟨i, hi⟩ := List.getElem?_of_mem hso
  have := h.ord i 0 s y hi hys hy
  omega
/-- How many are still counted. -/
def live (V : List α) (beh : α → Int) : Nat := (V.filter fun q => decide (0 < beh q)).length
theorem live_push {V : List α} {beh : α → Int} {q : α} (hn : V.Nodup) (hq : q ∈ V) (h0 : beh q - 1 = 0) : live V (fun x => if x = q then beh q - 1 else beh x) + 1 = live V beh := by
  unfold live
  rw [len_filter (f := fun q => decide (0 < beh q)) (g := fun x => decide (0 < (if x = q then beh q - 1 else beh x))) (p := q) hn hq]
  · rw [if_pos (by simp; omega)]
  · intro s hs hsq
    simp [hsq]
  · simp; omega
theorem live_pass {V : List α} {beh : α → Int} {q : α} : live V (fun x => if x = q then beh q - 1 else beh x) ≤ live V beh := by
  unfold live
  refine filter_le (fun x hx => ?_) V
  have h1 := of_decide_eq_true hx
  dsimp only at h1
  by_cases hxq : x = q
  · subst hxq
    rw [if_pos rfl] at h1
    exact decide_eq_true (by omega)
  · rw [if_neg hxq] at h1
    exact decide_eq_true h1
end
end Kn
end Go.Proofs.Ytkjgbldooflodaa
