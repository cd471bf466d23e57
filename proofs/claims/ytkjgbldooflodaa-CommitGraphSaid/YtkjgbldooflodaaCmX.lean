/-
  The walk of the law CommitReads.
-/
import Derived.Test.YtkjgbldooflodaaCmW
import Derived.Test.YtkjgbldooflodaaCm6
import Derived.Test.YtkjgbldooflodaaCm7
namespace Go.Proofs.Ytkjgbldooflodaa
open Go.RowKit Cm Mp
set_option maxRecDepth 100000
set_option linter.unusedVariables false
set_option linter.unusedSimpArgs false
theorem cut_out {a : Option C} {w w' : World} {e : Ending} (h : CmtOut a w e w') : ∃ (c : C) (o : Option Addr) (cp : Nat), e = .returned (.tuple #[.agg #[.string c.root, .slice o c.par.length cp, .string c.msg], .bool a.isSome]) ∧ Ss w' o c.par ∧ (o = none → cp = 0) ∧ c.par.length ≤ cp ∧ Below w.heap.size w w' ∧ (∀ x, a = some x → c = x) ∧ (a = none → c = none3) := by
  obtain ⟨c, o, cp, ok, rfl, h1, h2, h3, h4, h5, h6, h7⟩ := h
  cases ok with
  | true =>
    have := h6 rfl
    subst this
    exact ⟨c, o, cp, rfl, h1, h2, h3, h5, (fun x hx => by cases hx; rfl), (fun hx => by cases hx)⟩
  | false =>
    obtain ⟨rfl, rfl⟩ := h7 rfl
    exact ⟨none3, o, cp, rfl, h1, h2, h3, h5, (fun x hx => by cases hx), fun _ => rfl⟩
set_option maxHeartbeats 2000000 in
theorem commitReads_walk (b : ByteArray) (w : World) (hb : b.size ≤ 140737488351232) :
    Calls Try.prog 4 #[.string b] w fun e w' => e = .returned (.bool true) ∧ Below w.heap.size w w' := by
  by_cases h2000 : b.size ≤ 2000
  · have g1 : decide ((b.size : Int) > 2000) = false := decide_eq_false (by omega)
    have k1 := fun w => (read_any b w (by omega)).mono fun e w' h => cut_out h
    have k2 := fun w => (rread_any b w (by omega)).mono fun e w' h => cut_out h
    have hwr : ∀ c, readC b = some c → right c = true ∧ (⟨(writeB c).toArray⟩ : ByteArray) = b := fun c h => write_read h
    obtain ⟨ans, hans⟩ : ∃ a, a = readC b := ⟨_, rfl⟩
    rw [← hans] at k1 k2 hwr
    clear hans
    -- one commit for both
    obtain ⟨c0, hc0⟩ : ∃ c0, c0 = ans.getD none3 := ⟨_, rfl⟩
    have hone : ∀ c, ((∀ x, ans = some x → c = x) ∧ (ans = none → c = none3)) → c = c0 := fun c h => by
      cases ans with
      | none => rw [hc0]; exact h.2 rfl
      | some x => rw [hc0]; exact h.1 x rfl
    have hpl : c0.par.length ≤ 2 ∧ c0.msg.size ≤ 1000 := by
      cases ans with
      | none => rw [hc0]; exact ⟨by decide, by decide⟩
      | some x =>
        rw [hc0]
        obtain ⟨r1, r2, r3, r4, r5⟩ := right_parts (hwr x rfl).1
        exact ⟨r1, r3⟩
    obtain ⟨ok, hok⟩ : ∃ ok, ok = ans.isSome := ⟨_, rfl⟩
    rw [← hok] at k1 k2
    have hw0 : ok = true → right c0 = true ∧ (⟨(writeB c0).toArray⟩ : ByteArray) = b := fun h => by
      cases ans with
      | none => rw [hok] at h; cases h
      | some x => rw [hc0]; exact hwr x rfl
    have k1' : ∀ w, Calls Try.prog 14 #[.string b] w fun e w' => ∃ (o : Option Addr) (cp : Nat), e = .returned (.tuple #[.agg #[.string c0.root, .slice o c0.par.length cp, .string c0.msg], .bool ok]) ∧ Ss w' o c0.par ∧ (o = none → cp = 0) ∧ c0.par.length ≤ cp ∧ Below w.heap.size w w' := fun w => (k1 w).mono fun e w' ⟨c, o, cp, h1, h2, h3, h4, h5, h6, h7⟩ => by
      have := hone c ⟨h6, h7⟩
      subst this
      exact ⟨o, cp, h1, h2, h3, h4, h5⟩
    have k2' : ∀ w, Calls Try.prog 16 #[.string b] w fun e w' => ∃ (o : Option Addr) (cp : Nat), e = .returned (.tuple #[.agg #[.string c0.root, .slice o c0.par.length cp, .string c0.msg], .bool ok]) ∧ Ss w' o c0.par ∧ (o = none → cp = 0) ∧ c0.par.length ≤ cp ∧ Below w.heap.size w w' := fun w => (k2 w).mono fun e w' ⟨c, o, cp, h1, h2, h3, h4, h5, h6, h7⟩ => by
      have := hone c ⟨h6, h7⟩
      subst this
      exact ⟨o, cp, h1, h2, h3, h4, h5⟩
    clear k1 k2 hone hwr hok hc0
    obtain ⟨r, l, m⟩ := c0
    dsimp only at k1' k2' hpl hw0
    have HW0 := Lib.hid hw0
    clear hw0 h2000
    go_enter Try.func4, Try.ntmps4
    go_wp2_with (fail)
    go_at_call 9
    refine (awake_any w).mono ?_
    rintro e w1 ⟨rfl, hb1⟩
    go_wp2_with (fail)
    go_at_call 14
    refine (k1' w1).mono ?_
    rintro e w2 ⟨o1, c1, rfl, hs2, hn2, hc2, hb2⟩
    have hB2 := hb1.trans (hb2.mono hb1.size)
    have hbl2 := (Below.refl w2.heap.size w2).alloc (Nat.le_refl _) (.cells #[.string r, .slice o1 l.length c1, .string m] 24)
    have hs2' := hs2.below hbl2
    have hblk2 := heap_alloc_new w2 (.cells #[.string r, .slice o1 l.length c1, .string m] 24)
    have hB2' := hB2.trans (hbl2.mono hB2.size)
    clear hs2 hb2
    go_wp2_with (fail)
    go_at_call 16
    refine (k2' _).mono ?_
    rintro e w3 ⟨o2, c2, rfl, hs3, hn3, hc3, hb3⟩
    have hB3 := hB2'.trans (hb3.mono hB2'.size)
    have hs2'' := hs2'.below hb3
    have hblk3 := (hb3.block w2.heap.size (by simp)).trans hblk2
    have hlt3 : w2.heap.size < w3.heap.size := (Array.getElem?_eq_some_iff.1 hblk3).1
    have t0 : w3.cell? ⟨w2.heap.size, 0, none⟩ = some (.string r) := by rw [Lib.cell_of_heap hblk3]; rfl
    have t1 : w3.cell? ⟨w2.heap.size, 1, none⟩ = some (.slice o1 l.length c1) := by rw [Lib.cell_of_heap hblk3]; rfl
    have t2 : w3.cell? ⟨w2.heap.size, 2, none⟩ = some (.string m) := by rw [Lib.cell_of_heap hblk3]; rfl
    have hbl3 := (Below.refl w3.heap.size w3).alloc (Nat.le_refl _) (.cells #[.string r, .slice o2 l.length c2, .string m] 24)
    have hsame := rsame_any r l m o1 o2 c1 c2 _ (hs2''.below hbl3) (hs3.below hbl3) (by omega)
    have hB3' := hB3.trans (hbl3.mono hB3.size)
    have hblk3' := (hbl3.block w2.heap.size hlt3).trans hblk3
    have hs4 := hs2''.below hbl3
    clear hs2' hs2'' hs3 hblk2 hb3 hbl2 hB2'
    go_wp2_with (fail)
    go_at_call 15
    refine hsame.mono ?_
    rintro e w4 ⟨rfl, hb4⟩
    have hB4 := hB3'.trans (hb4.mono hB3'.size)
    cases ok
    · go_wp2
      go_ret
      exact ⟨rfl, hB4⟩
    · obtain ⟨hr0, hwb⟩ := HW0.out rfl
      have hs5 := hs4.below hb4
      have hblk4 := (hb4.block w2.heap.size (by simp; omega)).trans hblk3'
      have q0 : w4.cell? ⟨w2.heap.size, 0, none⟩ = some (.string r) := by rw [Lib.cell_of_heap hblk4]; rfl
      have q1 : w4.cell? ⟨w2.heap.size, 1, none⟩ = some (.slice o1 l.length c1) := by rw [Lib.cell_of_heap hblk4]; rfl
      have q2 : w4.cell? ⟨w2.heap.size, 2, none⟩ = some (.string m) := by rw [Lib.cell_of_heap hblk4]; rfl
      have hwr := write_any r l m o1 c1 w4 hs5 hn2 hc2 (by omega) (by omega)
      rw [hr0, if_pos rfl, hwb] at hwr
      clear hr0 hwb hs5 hs4 hblk4 hblk3 hblk3' hsame
      go_wp2_with (fail)
      go_at_call 10
      refine hwr.mono ?_
      rintro e w5 ⟨rfl, hb5⟩
      have hB5 := hB4.trans (hb5.mono hB4.size)
      go_wp2
      go_ret
      exact ⟨by first | rfl | (simp; done), hB5⟩
  · have g1 : decide ((b.size : Int) > 2000) = true := decide_eq_true (by omega)
    go_enter Try.func4, Try.ntmps4
    go_wp2_with (go_at_call 9; refine (awake_any w).mono ?_; rintro e w1 ⟨rfl, hb1⟩)
    go_ret
    exact ⟨rfl, hb1⟩
end Go.Proofs.Ytkjgbldooflodaa
