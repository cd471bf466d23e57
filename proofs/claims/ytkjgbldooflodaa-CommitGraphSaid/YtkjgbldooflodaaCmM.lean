/-
  Maps by texts, whatever they hold: what a block's map tells at a text; laws at the operations.
-/
import Derived.Test.YtkjgbldooflodaaCm1
import Derived.Maps.RangeWalk
import Derived.Maps.Ext
import Derived.StringKeys
namespace Go.Proofs.Ytkjgbldooflodaa
open Go.RowKit Cm
set_option maxRecDepth 100000
set_option linter.unusedVariables false
set_option linter.unusedSimpArgs false
namespace Mp
open Go.Maps (Keyed)
/-- An element is read as itself. -/
def hv (v : Value) : Option (DataW Value × List MemPlace) := some (.held v, [])
def kl (s : ByteArray) : Lit := .string s.data.toList
def enc (f : ByteArray → Option Value) (s : ByteArray) : DataW Value := match f s with | some v => .held v | none => .nil
/-- A datum tells at each text what f tells. -/
def Rep (D : DataW Value) (f : ByteArray → Option Value) : Prop := ∀ s : ByteArray, D.atKey (kl s) .nil = enc f s
/-- Block b is a map by texts, of at most n entries, that tells what f tells. -/
def MF (w : World) (b n : Nat) (f : ByteArray → Option Value) : Prop := ∃ D, w.ownsMap Try.prog 9 hv b n D ∧ Rep D f
/-- A range over it is under way: 'left' tells which entries are still to come. -/
def RF (w : World) (b r n : Nat) (f : ByteArray → Option Value) (left : ByteArray → Bool) (cnt : Nat) : Prop :=
  ∃ D L, w.ranges Try.prog 9 hv b r n D L cnt ∧ Rep D f ∧ ∀ s, L (kl s) = left s
theorem law : Keyed Try.prog 9 := Go.Maps.string_keyed Try.underlying9
theorem kl_inj {s t : ByteArray} (h : kl s = kl t) : s = t := by
  unfold kl at h
  injection h with h
  exact list_ext h
theorem hkey (s : ByteArray) (hs : s.size ≤ maxLen) : keyOf Try.prog 9 (.string s) = some (kl s) := Go.WideMaps.keyOf_string_mk Try.underlying9 hs
theorem isKey (s : ByteArray) (hs : s.size ≤ maxLen) : WideAt.IsKeyLit (kl s) := law.key (hkey s hs)
theorem MF.made (w : World) : MF (w.alloc (.map #[] 0)) w.heap.size 0 (fun _ => none) :=
  ⟨_, World.ownsMap_made w Try.prog 9 hv, fun s => rfl⟩
theorem MF.lt {w : World} {b n : Nat} {f : ByteArray → Option Value} (h : MF w b n f) : b < w.heap.size := by
  obtain ⟨D, h, _⟩ := h
  exact h.lt
theorem MF.mono {w : World} {b n n' : Nat} {f : ByteArray → Option Value} (h : MF w b n f) (hn : n ≤ n') : MF w b n' f := by
  obtain ⟨D, h, hr⟩ := h
  exact ⟨D, h.mono hn, hr⟩
theorem MF.block {w w' : World} {b n : Nat} {f : ByteArray → Option Value} (h : MF w b n f) (hb : w'.heap[b]? = w.heap[b]?) : MF w' b n f := by
  obtain ⟨D, ⟨es, clock, h1, h2⟩, hr⟩ := h
  exact ⟨D, ⟨es, clock, hb.trans h1, h2⟩, hr⟩
theorem MF.below {w w' : World} {b n B : Nat} {f : ByteArray → Option Value} (h : MF w b n f) (hb : Below B w w') (hB : b < B) : MF w' b n f := h.block (hb.block b hB)
theorem MF.grown {w w' : World} {b n : Nat} {f : ByteArray → Option Value} {row : Option Nat} (h : MF w b n f) (hb : w.grownBy w' row) (hB : some b ≠ row) : MF w' b n f := h.block (hb.block b h.lt hB)
theorem MF.set {w : World} {b n : Nat} {f : ByteArray → Option Value} (h : MF w b n f) {a : Addr} (ha : b ≠ a.block) (u : Value) : MF (w.setCell a u) b n f := h.block (Below.heap_setCell _ _ _ _ ha)
/-- 'm[s]', with 'ok' or without. -/
theorem MF.get {w : World} {b n : Nat} {f : ByteArray → Option Value} (h : MF w b n f) (t e : TypeId) (ht : Try.prog.underlying t = some (.map 9 e)) {z : Value} (hz : (zeroValue e).run Try.prog w = .ok z w) (s : ByteArray) (hs : s.size ≤ maxLen) (c : Bool) :
    (Instr.lookup t (.map (some b)) (.string s) c).run Try.prog w = .ok (if c then .tuple #[(f s).getD z, .bool (f s).isSome] else (f s).getD z) w := by
  obtain ⟨D, ⟨es, clock, hb, F, _, rfl⟩, hr⟩ := h
  have hrs := hr s
  unfold enc at hrs
  rcases Go.Maps.fit_look c law ht hz hb F (hkey s hs) with ⟨hrun, _, hat⟩ | ⟨e0, y, _, _, hrun, hRv, hat, _⟩
  · rw [hat] at hrs
    cases hf : f s with
    | none => exact hrun
    | some v => rw [hf] at hrs; cases hrs
  · rw [hat] at hrs
    unfold hv at hRv
    cases hRv
    cases hf : f s with
    | none => rw [hf] at hrs; cases hrs
    | some v =>
      rw [hf] at hrs
      injection hrs with hrs
      subst hrs
      exact hrun
/-- 'm[s] = v'. -/
theorem MF.put {w : World} {b n : Nat} {f : ByteArray → Option Value} (h : MF w b n f) (t e : TypeId) (ht : Try.prog.underlying t = some (.map 9 e)) (hn : n < maxLen) (s : ByteArray) (hs : s.size ≤ maxLen) (v : Value) :
    ∃ w', (Instr.mapUpdate t (.map (some b)) (.string s) v).run Try.prog w = .ok () w' ∧ MF w' b (n + 1) (fun x => if x = s then some v else f x) ∧ w.grownBy w' (some b) := by
  obtain ⟨D, h, hr⟩ := h
  obtain ⟨w', h1, h2, h3⟩ := h.store law ht hn (hkey s hs) (show hv v = some (.held v, []) from rfl)
  refine ⟨w', h1, ⟨_, h2, fun x => ?_⟩, h3.grown⟩
  unfold enc
  by_cases hx : x = s
  · subst hx
    simp only [if_true]
    rw [Go.Maps.atKey_put_same h.isMap (isKey x hs)]
  · simp only [if_neg hx]
    rw [Go.Maps.atKey_put_other (fun e => hx (kl_inj e))]
    exact hr x
/-- 'len(m)' is nothing that is asked here. 'range m'. -/
theorem MF.range {w : World} {b n : Nat} {f : ByteArray → Option Value} (h : MF w b n f) (t e : TypeId) (ht : Try.prog.underlying t = some (.map 9 e)) :
    ∃ w' cnt, (Instr.range t (.map (some b))).run Try.prog w = .ok (.pointer (some ⟨w.heap.size, 0, none⟩)) w' ∧ RF w' b w.heap.size n f (fun s => (f s).isSome) cnt ∧ w.grownBy w' none ∧ w'.heap.size = w.heap.size + 1 := by
  obtain ⟨D, h, hr⟩ := h
  obtain ⟨w', h1, h2, h3, h4⟩ := h.range law ht
  refine ⟨w', _, h1, ⟨D, _, h2, hr, fun s => ?_⟩, h3, h4⟩
  have hrs := hr s
  unfold enc at hrs
  obtain ⟨es, he, _, hk⟩ := h.entries law
  cases hf : f s with
  | none =>
    rw [hf] at hrs
    cases hh : Go.Maps.has D (kl s) with
    | false => simp [hf]
    | true =>
      exfalso
      obtain ⟨es', clock, hb, F, _, hD⟩ := h
      subst he
      injection hD with hD
      obtain ⟨p, hp, hps⟩ := List.any_eq_true.1 hh
      simp only [DataW.atKey] at hrs
      cases hfi : es.find? (fun p => p.1.sameKey (kl s)) with
      | none =>
        have := List.find?_eq_none.1 hfi p hp
        exact this hps
      | some q =>
        rw [hfi] at hrs
        have hq := List.mem_of_find?_eq_some hfi
        rw [hD] at hq
        obtain ⟨x, hx, rfl⟩ := List.mem_map.1 (mem_sorted.1 hq)
        obtain ⟨y, hy⟩ := F.reads x hx
        obtain ⟨z, hz, hzd⟩ := Go.WideElems.rd_val hy
        rw [Go.WideElems.rg_of hy] at hrs
        unfold hv at hz
        cases hz
        dsimp only at hrs
        rw [hzd] at hrs
        cases hrs
  | some v =>
    rw [hf] at hrs
    cases hh : Go.Maps.has D (kl s) with
    | true => simp [hf]
    | false =>
      rw [Go.Maps.atKey_of_not_has hh] at hrs
      cases hrs
theorem RF.left_eq {w : World} {b r n cnt : Nat} {f : ByteArray → Option Value} {left : ByteArray → Bool} (h : RF w b r n f left cnt) : w.rangeLeft b r = cnt := by
  obtain ⟨D, L, h, _⟩ := h
  exact h.left_eq
theorem RF.mf {w : World} {b r n cnt : Nat} {f : ByteArray → Option Value} {left : ByteArray → Bool} (h : RF w b r n f left cnt) : MF w b n f := by
  obtain ⟨D, L, h, hr, _⟩ := h
  exact ⟨D, h.owns, hr⟩
theorem RF.lt {w : World} {b r n cnt : Nat} {f : ByteArray → Option Value} {left : ByteArray → Bool} (h : RF w b r n f left cnt) : r < w.heap.size := by
  obtain ⟨D, L, h, _⟩ := h
  exact h.lt
theorem RF.kept {w w' : World} {b r n cnt : Nat} {f : ByteArray → Option Value} {left : ByteArray → Bool} {row : Option Nat} (h : RF w b r n f left cnt) (hg : w.grownBy w' row) (hb : some b ≠ row) (hr : some r ≠ row) : RF w' b r n f left cnt := by
  obtain ⟨D, L, h, h2⟩ := h
  exact ⟨D, L, h.kept hg hb hr, h2⟩
/-- The step. -/
theorem RF.next {w : World} {b r n cnt : Nat} {f : ByteArray → Option Value} {left : ByteArray → Bool} (h : RF w b r n f left cnt) (ty : TypeId) :
    (cnt = 0 ∧ (∀ s, left s = false) ∧ (Instr.next (.pointer (some ⟨r, 0, none⟩)) false ty).run Try.prog w = .ok (.tuple #[.bool false]) w) ∨
    ∃ s v w' cnt', s.size ≤ maxLen ∧ left s = true ∧ f s = some v ∧ (Instr.next (.pointer (some ⟨r, 0, none⟩)) false ty).run Try.prog w = .ok (.tuple #[.bool true, .string s, v]) w' ∧
      RF w' b r n f (fun x => left x && !decide (x = s)) cnt' ∧ cnt' < cnt ∧ w.grownBy w' (some r) ∧ w'.heap.size = w.heap.size ∧ (Instr.entry (.pointer (some ⟨r, 0, none⟩))).run Try.prog w' = .ok (.tuple #[.string s, v]) w' := by
  obtain ⟨D, L, h, hr, hL⟩ := h
  rcases h.next law ty with ⟨h1, h2, h3⟩ | ⟨key, v, k, y, w', cnt', h1, h2, h3, h4, h5, h6, h7, h8, h9, h10⟩
  · exact .inl ⟨h1, fun s => by rw [← hL]; exact h2 _, h3⟩
  · obtain ⟨s, rfl, hk, hsz⟩ := Go.WideMaps.string_of_keyOf Try.underlying9 h1
    have hsk : kl s = k := hk.symm
    unfold hv at h3
    cases h3
    have hfs : f s = some v := by
      have := hr s
      rw [hsk, h4] at this
      unfold enc at this
      cases hf : f s with
      | none => rw [hf] at this; cases this
      | some u => rw [hf] at this; injection this with this; rw [this]
    refine .inr ⟨s, v, w', cnt', hsz, by rw [← hL, hsk]; exact h2, hfs, h5, ⟨D, _, h6, hr, fun t => ?_⟩, h7, h8, h9, h10⟩
    rw [hL]
    congr 2
    rw [← hsk]
    by_cases ht : t = s
    · rw [decide_eq_true ht, ht]
      exact WideAt.sameKey_self (isKey s hsz)
    · rw [decide_eq_false ht]
      exact Go.Maps.sameKey_ne (fun e => ht (kl_inj e))
end Mp
end Go.Proofs.Ytkjgbldooflodaa
