/-
  Lists of values in memory; the walks of tuple and of what it calls.
-/
import Derived.Test.YtgfjfpghjjknlaaDoorCl1
import Derived.Test.YtgfjfpghjjknlaaDoorCl2
namespace Go.Proofs.YtgfjfpghjjknlaaDoor
open Go.RowKit Cl
set_option maxRecDepth 100000
set_option linter.unusedVariables false
set_option linter.unusedSimpArgs false
/-- A list of values lies from a place on. -/
def Vr (w : World) (a : Addr) (l : List V) : Prop := (l ≠ [] → a.block < w.heap.size) ∧ ∀ (i : Nat) (x : V), l[i]? = some x → w.cell? (a.add (i * 3)) = some (.int .i64 x.k) ∧ w.cell? ⟨(a.add (i * 3)).block, (a.add (i * 3)).off + 1, none⟩ = some (.int .i64 x.n) ∧ w.cell? ⟨(a.add (i * 3)).block, (a.add (i * 3)).off + 2, none⟩ = some (.string x.s)
/-- A slice reads as a list of values. -/
def Sl (w : World) (o : Option Addr) (l : List V) : Prop := (l ≠ [] → ∃ a, o = some a) ∧ ∀ a, o = some a → Vr w a l
theorem addr_add_block (a : Addr) (n : Nat) : (a.add n).block = a.block := by unfold Addr.add; split <;> rfl
theorem Vr.below {w w' : World} {a : Addr} {l : List V} {B : Nat} (h : Vr w a l) (hb : Below B w w') (hB : l ≠ [] → a.block < B) : Vr w' a l := by
  refine ⟨fun hn => Nat.lt_of_lt_of_le (h.1 hn) hb.size, fun i x hx => ?_⟩
  have hn : l ≠ [] := by intro e; rw [e] at hx; simp at hx
  have hBn := hB hn
  obtain ⟨h0, h1, h2⟩ := h.2 i x hx
  exact ⟨(hb.cell (by rw [addr_add_block]; exact hBn)).trans h0, (hb.cell (by show (a.add (i * 3)).block < B; rw [addr_add_block]; exact hBn)).trans h1, (hb.cell (by show (a.add (i * 3)).block < B; rw [addr_add_block]; exact hBn)).trans h2⟩
theorem Sl.below {w w' : World} {o : Option Addr} {l : List V} (h : Sl w o l) (hb : Below w.heap.size w w') : Sl w' o l := ⟨h.1, fun a ha => (h.2 a ha).below hb (h.2 a ha).1⟩
theorem notright_any (v : V) (w : World) : Calls Tryd.prog 84 #[.agg #[.int .i64 v.k, .int .i64 v.n, .string v.s]] w fun e w' => e = .returned (.bool (!right v)) ∧ Below w.heap.size w w' := by
  have hb := (Below.refl w.heap.size w).alloc (Nat.le_refl _) (.cells #[.int .i64 v.k, .int .i64 v.n, .string v.s] 23)
  go_enter Tryd.func84, Tryd.ntmps84
  go_wp2_with (fail)
  go_at_call 10
  refine (right_any v _).mono ?_
  rintro e w1 ⟨rfl, hb1⟩
  go_wp2
  go_ret
  exact ⟨rfl, hb.trans (hb1.mono hb.size)⟩
/-- Where the first wrong one stands, or -1. -/
def firstBad (l : List V) : Int := match l.findIdx? (fun v => !right v) with | some i => i | none => -1
theorem index_none (l : List V) (c : Nat) (o : Option Addr) (w : World) (h : Sl w o l) (hl : l.length ≤ 140737488351232) :
    Calls Tryd.prog 98 #[.slice o l.length c, .func (.func 84) #[] #[]] w fun e w' => (∃ r : Int, e = .returned (.int .i64 r) ∧ (0 ≤ r ↔ l.all right = false)) ∧ Below w.heap.size w w' := by
  go_enter Tryd.func98, Tryd.ntmps98
  go_wp2
  go_loopw [8] (fun v wr => ∃ i : Nat, i ≤ l.length ∧ v = .int .i64 i ∧ Hid ((l.take i).all right = true) ∧ Below w.heap.size w wr)
    (fun v _ => l.length - (intOf v).toNat)
  case atStart => exact ⟨0, by omega, rfl, Lib.hid rfl, Below.refl _ _⟩
  case round =>
    obtain ⟨i, hi, rfl, HA, hB⟩ := hrel
    by_cases hil : i < l.length
    · obtain ⟨a, rfl⟩ := h.1 (by intro e; rw [e] at hil; exact absurd hil (by simp))
      obtain ⟨x, hx⟩ : ∃ x, l[i]? = some x := ⟨l[i], List.getElem?_eq_getElem hil⟩
      obtain ⟨c0, c1, c2⟩ := ((h.2 a rfl).below hB (h.2 a rfl).1).2 i x hx
      have i16 : (i : Int) < l.length := by omega
      have HX := Lib.hid hx
      clear hx
      go_wp2_with (fail)
      refine (notright_any x wr).mono ?_
      rintro e w1 ⟨rfl, hb1⟩
      have hB1 := hB.trans (hb1.mono hB.size)
      cases hr : right x
      · go_wp2
        go_ret
        refine ⟨⟨i, rfl, ⟨fun _ => ?_, fun _ => by omega⟩⟩, hB1⟩
        rw [List.all_eq_false]
        exact ⟨x, List.mem_of_getElem? HX.out, by rw [hr]; simp⟩
      · go_wp2
        go_roundw
        case rel =>
          refine ⟨i + 1, hil, by go_num, Lib.hid ?_, hB1⟩
          obtain ⟨hi2, hx2⟩ := List.getElem?_eq_some_iff.1 HX.out
          rw [List.take_succ_eq_append_getElem hi2, List.all_append, HA.out, hx2]
          simp [hr]
        case measure => simp [intOf]; omega
    · obtain rfl : i = l.length := by omega
      go_wp2
      go_ret
      refine ⟨⟨-1, rfl, ?_⟩, hB⟩
      have := HA.out
      rw [List.take_length] at this
      simp [this]
theorem containsBad (l : List V) (c : Nat) (o : Option Addr) (w : World) (h : Sl w o l) (hl : l.length ≤ 140737488351232) :
    Calls Tryd.prog 83 #[.slice o l.length c, .func (.func 84) #[] #[]] w fun e w' => e = .returned (.bool (!l.all right)) ∧ Below w.heap.size w w' := by
  have hi := index_none l c o w h hl
  cases ha : l.all right
  all_goals
    rw [ha] at hi
    clear ha
    go_enter Tryd.func83, Tryd.ntmps83
    go_wp2_with (fail)
    go_at_call 98
    refine hi.mono ?_
    rintro e w1 ⟨⟨r, rfl, hr⟩, hb⟩
    obtain ⟨d, hd⟩ : ∃ d : Bool, d = decide (0 ≤ r) := ⟨_, rfl⟩
    have hd2 : d = !true ∨ d = !false := by cases d <;> simp
    first
      | (have h0 : 0 ≤ r := hr.2 (by trivial)
         have hd3 : d = true := by rw [hd]; exact decide_eq_true h0
         have HD := Lib.hid (And.intro hd hd3)
         clear hr h0 hd hd2 hd3
         go_wp2
         go_ret
         exact ⟨by show Ending.returned (.bool (decide (0 ≤ r))) = _; rw [← HD.out.1, HD.out.2]; rfl, hb⟩)
      | (have h0 : r < 0 := by
           rcases Int.lt_or_le r 0 with h | h
           · exact h
           · exact absurd (hr.1 h) (by simp)
         have hd3 : d = false := by rw [hd]; exact decide_eq_false (by omega)
         have HD := Lib.hid (And.intro hd hd3)
         clear hr h0 hd hd2 hd3
         go_wp2
         go_ret
         exact ⟨by show Ending.returned (.bool (decide (0 ≤ r))) = _; rw [← HD.out.1, HD.out.2]; rfl, hb⟩)
theorem tuple_any (l : List V) (c : Nat) (o : Option Addr) (w : World) (h : Sl w o l) (hl : l.length ≤ 140737488351232) :
    Calls Tryd.prog 59 #[.slice o l.length c] w fun e w' => e = .returned (.bool (tuple l)) ∧ Below w.heap.size w w' := by
  unfold tuple
  by_cases h64 : l.length ≤ 64
  · have h2 : (l.length : Int) ≤ 64 := by omega
    go_enter Tryd.func59, Tryd.ntmps59
    go_wp2_with (fail)
    go_at_call 83
    refine (containsBad l c o w h hl).mono ?_
    rintro e w1 ⟨rfl, hb⟩
    go_wp2
    go_ret
    exact ⟨by simp [h64], hb⟩
  · have h2 : ¬ (l.length : Int) ≤ 64 := by omega
    go_enter Tryd.func59, Tryd.ntmps59
    go_wp2
    go_ret
    exact ⟨by simp [h64], Below.refl _ _⟩
end Go.Proofs.YtgfjfpghjjknlaaDoor
