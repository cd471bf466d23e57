/-
  Graphs of commits in memory; the walk of graph.add.
-/
import Derived.Test.YtkjgbldooflodaaCmG
namespace Go.Proofs.Ytkjgbldooflodaa
open Go.RowKit Cm Mp
set_option maxRecDepth 100000
set_option linter.unusedVariables false
set_option linter.unusedSimpArgs false
/-- An append onto a row of the call's own of a slice that reads as a list of texts; it may be nil; with where the new slice lies. -/
theorem wpList_appAt {P : Program} {w : World} {ops : Array Oper} {rest : List Oper} {o : Oper} {a : Act} {Q : Exit → Act → World → Prop} (hgd : o.guard = none) (s x : Operand) (t : TypeId)
    (ho : o.op = .call { callee := .builtin .append, args := #[s, x], argTypes := #[t, t] })
    (base : Nat) (e : TypeId) (i : TypeInfo) (z : Value) (bytes : Nat) (ht : P.underlying t = some (.slice e)) (hi : P.info? e = some i) (hz : i.zero = some z)
    (hsize : i.size = 1) (hby : i.bytes = bytes) (hzs : z.cells.size = 1) (v : Value) (n : Nat) (xs : List Value) (hs : a.eval s = v) (hown : w.ownsRow base e 1 v n xs)
    (oa : Option Addr) (l : List ByteArray) (m : Nat) (hm : m = l.length) (c : Nat) (hx : a.eval x = .slice oa m c) (hn : oa = none → c = 0) (hvs : Ss w oa l)
    (h63 : n + l.length ≤ maxLen) (hbytes : (n + l.length) * bytes ≤ 140737488355328) (hbase : base ≤ w.heap.size)
    (h : ∀ v' w', w'.ownsRow base e 1 v' (n + l.length) (xs ++ l.map Value.string) → w.grownBy w' v.ownBlock → (v'.ownBlock = v.ownBlock ∨ v'.ownBlock = some w.heap.size) → wpList P ops Q rest (a.put o.dst v') w') : wpList P ops Q (o :: rest) a w := by
  subst hm
  cases oa with
  | none =>
    have hy : l = [] := by
      cases l with
      | nil => rfl
      | cons y r => obtain ⟨ad, h⟩ := hvs.1 (by simp); cases h
    subst hy
    obtain rfl := hn rfl
    exact wpList_append_own_none hgd s x t ho base e i 1 ht hi v n xs hs hown hx (h v w (by simpa using hown) (World.grownBy.refl w _) (.inl rfl))
  | some ad =>
    exact wpList_append_own_at w hgd s x t ho base e i z 1 bytes ht hi hz hsize hby hzs (by decide) v n xs hs hown ad l.length c (l.map Value.string) hx (by simp) (fun j u hu => by
      rw [List.getElem?_map] at hu
      cases hj : l[j]? with
      | none => rw [hj] at hu; cases hu
      | some y =>
        rw [hj] at hu
        cases hu
        have := (hvs.2 ad rfl).2 j y hj
        simpa using this) (by
      intro u hu
      simp only [List.mem_map] at hu
      obtain ⟨y, _, rfl⟩ := hu
      rfl) h63 hbytes hbase (fun v' w' a b _ d => h v' w' a b d)
theorem Ss.grown {w w' : World} {o : Option Addr} {l : List ByteArray} {row : Option Nat} (h : Ss w o l) (hg : w.grownBy w' row) (hne : ∀ x, o = some x → l ≠ [] → some x.block ≠ row) : Ss w' o l :=
  ⟨h.1, fun a ha => ⟨fun hn => Nat.lt_of_lt_of_le ((h.2 a ha).1 hn) hg.size, fun i x hx => by
    have hn : l ≠ [] := by intro e; rw [e] at hx; simp at hx
    exact (World.cell?_of_block (by rw [addr_add_block]; exact hg.block a.block ((h.2 a ha).1 hn) (hne a ha hn))).trans ((h.2 a ha).2 i x hx)⟩⟩
theorem Ss.notMap {w : World} {o : Option Addr} {l : List ByteArray} {b n : Nat} {f : ByteArray → Option Value} (h : Ss w o l) (hm : MF w b n f) : ∀ x, o = some x → l ≠ [] → some x.block ≠ some b := by
  intro x hx hn he
  obtain ⟨y, r, rfl⟩ := List.exists_cons_of_ne_nil hn
  have h1 := (h.2 x hx).2 0 y rfl
  obtain ⟨D, ⟨es, clock, hb, _⟩, _⟩ := hm
  injection he with he
  unfold World.cell? at h1
  rw [addr_add_block, he, hb] at h1
  cases h1
/-- What a map's element is where a graph tells a list of parents. -/
def Tells (w : World) (row : Option Nat) (fv : Option Value) (gl : Option (List ByteArray)) : Prop :=
  match gl with
  | none => fv = none
  | some l => ∃ o cp, fv = some (.slice o l.length cp) ∧ Ss w o l ∧ (o = none → cp = 0) ∧ (∀ x, o = some x → l ≠ [] → some x.block ≠ row)
/-- Block gb is a graph that tells what g tells; no list of parents lies in block row. -/
def GR (w : World) (gb n : Nat) (row : Option Nat) (g : ByteArray → Option (List ByteArray)) : Prop := ∃ F, MF w gb n F ∧ ∀ s, Tells w row (F s) (g s)
theorem GR.made (w : World) (row : Option Nat) : GR (w.alloc (.map #[] 0)) w.heap.size 0 row (fun _ => none) := ⟨_, MF.made w, fun s => rfl⟩
theorem GR.lt {w : World} {gb n : Nat} {row : Option Nat} {g : ByteArray → Option (List ByteArray)} (h : GR w gb n row g) : gb < w.heap.size := by
  obtain ⟨F, h, _⟩ := h
  exact h.lt
theorem GR.mono {w : World} {gb n n' : Nat} {row : Option Nat} {g : ByteArray → Option (List ByteArray)} (h : GR w gb n row g) (hn : n ≤ n') : GR w gb n' row g := by
  obtain ⟨F, h, h2⟩ := h
  exact ⟨F, h.mono hn, h2⟩
theorem GR.newrow {w : World} {gb n : Nat} {row row' : Option Nat} {g : ByteArray → Option (List ByteArray)} (h : GR w gb n row g) (hr : row' = row ∨ ∀ k, row' = some k → w.heap.size ≤ k) : GR w gb n row' g := by
  obtain ⟨F, h, h2⟩ := h
  refine ⟨F, h, fun s => ?_⟩
  have h3 := h2 s
  unfold Tells at h3 ⊢
  cases hg : g s with
  | none => rw [hg] at h3; exact h3
  | some l =>
    rw [hg] at h3
    obtain ⟨o, cp, e1, e2, e3, e4⟩ := h3
    refine ⟨o, cp, e1, e2, e3, fun x hx hn he => ?_⟩
    rcases hr with hr | hr
    · exact e4 x hx hn (by rw [he, hr])
    · have h5 := hr x.block he.symm
      have h6 := (e2.2 x hx).1 hn
      omega
theorem GR.grown {w w' : World} {gb n : Nat} {row r2 : Option Nat} {g : ByteArray → Option (List ByteArray)} (h : GR w gb n row g) (hg : w.grownBy w' r2) (hgb : some gb ≠ r2) (hr : r2 = row ∨ r2 = none) : GR w' gb n row g := by
  obtain ⟨F, h, h2⟩ := h
  refine ⟨F, h.grown hg hgb, fun s => ?_⟩
  have h3 := h2 s
  unfold Tells at h3 ⊢
  cases hgs : g s with
  | none => rw [hgs] at h3; exact h3
  | some l =>
    rw [hgs] at h3
    obtain ⟨o, cp, e1, e2, e3, e4⟩ := h3
    refine ⟨o, cp, e1, e2.grown hg (fun x hx hn => ?_), e3, e4⟩
    rcases hr with rfl | rfl
    · exact e4 x hx hn
    · simp
theorem GR.below {w w' : World} {gb n : Nat} {row : Option Nat} {g : ByteArray → Option (List ByteArray)} (h : GR w gb n row g) (hb : Below w.heap.size w w') : GR w' gb n row g :=
  h.grown (r2 := none) ⟨hb.os, hb.tape, hb.output, hb.size, fun k hk _ => hb.block k hk⟩ (by simp) (.inr rfl)
theorem GR.get {w : World} {gb n : Nat} {row : Option Nat} {g : ByteArray → Option (List ByteArray)} (h : GR w gb n row g) (t : TypeId) (ht : Try.prog.underlying t = some (.map 9 22)) (s : ByteArray) (hs : s.size ≤ maxLen) (c : Bool) :
    ∃ o k cp, (Instr.lookup t (.map (some gb)) (.string s) c).run Try.prog w = .ok (if c then .tuple #[.slice o k cp, .bool (g s).isSome] else .slice o k cp) w ∧ k = ((g s).getD []).length ∧ Ss w o ((g s).getD []) ∧ (o = none → cp = 0) ∧ (∀ x, o = some x → (g s).getD [] ≠ [] → some x.block ≠ row) := by
  obtain ⟨F, h, h2⟩ := h
  have hz : (zeroValue 22).run Try.prog w = .ok (.slice none 0 0) w := by kernel_rfl
  have hrun := h.get t 22 ht hz s hs c
  have h3 := h2 s
  unfold Tells at h3
  cases hg : g s with
  | none =>
    rw [hg] at h3
    rw [h3] at hrun
    exact ⟨none, 0, 0, hrun, rfl, Ss.nil, fun _ => rfl, fun x hx => by cases hx⟩
  | some l =>
    rw [hg] at h3
    obtain ⟨o, cp, e1, e2, e3, e4⟩ := h3
    rw [e1] at hrun
    exact ⟨o, l.length, cp, hrun, rfl, e2, e3, e4⟩
theorem GR.put {w : World} {gb n : Nat} {row : Option Nat} {g : ByteArray → Option (List ByteArray)} (h : GR w gb n row g) (t : TypeId) (ht : Try.prog.underlying t = some (.map 9 22)) (hn : n < maxLen) (s : ByteArray) (hs : s.size ≤ maxLen)
    (o : Option Addr) (l : List ByteArray) (cp : Nat) (hss : Ss w o l) (hcp : o = none → cp = 0) (hne : ∀ x, o = some x → l ≠ [] → some x.block ≠ row) :
    ∃ w', (Instr.mapUpdate t (.map (some gb)) (.string s) (.slice o l.length cp)).run Try.prog w = .ok () w' ∧ GR w' gb (n + 1) row (fun x => if x = s then some l else g x) ∧ w.grownBy w' (some gb) := by
  obtain ⟨F, h, h2⟩ := h
  obtain ⟨w', h3, h4, h5⟩ := h.put t 22 ht hn s hs (.slice o l.length cp)
  refine ⟨w', h3, ⟨_, h4, fun x => ?_⟩, h5⟩
  unfold Tells
  by_cases hx : x = s
  · simp only [if_pos hx]
    exact ⟨o, cp, rfl, hss.grown h5 (hss.notMap h), hcp, hne⟩
  · simp only [if_neg hx]
    have h6 := h2 x
    unfold Tells at h6
    cases hg : g x with
    | none => rw [hg] at h6; exact h6
    | some l' =>
      rw [hg] at h6
      obtain ⟨o', cp', e1, e2, e3, e4⟩ := h6
      exact ⟨o', cp', e1, e2.grown h5 (e2.notMap h), e3, e4⟩
theorem cget_some (hb mb n : Nat) (S : ByteArray → Option ByteArray) (p : ByteArray) (c : C) (w : World) (h : Src w hb mb n S) (hp32 : p.size ≤ maxLen) (hz : ∀ t, S p = some t → t.size ≤ 1000000) (hc : getC S p = some c) :
    Calls Try.prog 18 #[hp hb, .string p] w fun e w' => ∃ o cp, e = .returned (.tuple #[.agg #[.string c.root, .slice o c.par.length cp, .string c.msg], .int .i64 0]) ∧ Ss w' o c.par ∧ (o = none → cp = 0) ∧ c.par.length ≤ cp ∧ (∀ x, o = some x → w.heap.size ≤ x.block) ∧ Below w.heap.size w w' := by
  have := cget_any hb mb n S p w h hp32 hz
  rw [hc] at this
  refine this.mono ?_
  rintro e w' ⟨c', o, cp, rfl, h1, h2, h3, h4, h5, h6⟩
  obtain rfl := h6 c rfl
  exact ⟨o, cp, rfl, h1, h2, h3, h4, h5⟩
theorem cget_none (hb mb n : Nat) (S : ByteArray → Option ByteArray) (p : ByteArray) (w : World) (h : Src w hb mb n S) (hp32 : p.size ≤ maxLen) (hz : ∀ t, S p = some t → t.size ≤ 1000000) (hc : getC S p = none) :
    Calls Try.prog 18 #[hp hb, .string p] w fun e w' => (∃ (c : C) (o : Option Addr) (cp : Nat), e = .returned (.tuple #[.agg #[.string c.root, .slice o c.par.length cp, .string c.msg], .int .i64 6])) ∧ Below w.heap.size w w' := by
  have := cget_any hb mb n S p w h hp32 hz
  rw [hc] at this
  refine this.mono ?_
  rintro e w' ⟨c', o, cp, rfl, h1, h2, h3, h4, h5, h6⟩
  exact ⟨⟨c', o, cp, rfl⟩, h5⟩
end Go.Proofs.Ytkjgbldooflodaa
