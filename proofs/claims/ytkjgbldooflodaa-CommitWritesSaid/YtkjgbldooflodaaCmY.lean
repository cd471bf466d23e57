/-
  The walk of the law CommitWrites.
-/
import Derived.Test.YtkjgbldooflodaaCmX
import Derived.Test.YtkjgbldooflodaaCm5
import Derived.Deep.RegionHeld3
namespace Go.Proofs.Ytkjgbldooflodaa
open Go.RowKit Cm Mp
set_option maxRecDepth 100000
set_option linter.unusedVariables false
set_option linter.unusedSimpArgs false
theorem write_size {r : ByteArray} {l : List ByteArray} {m : ByteArray} (h : right ⟨r, l, m⟩ = true) : (⟨(writeB ⟨r, l, m⟩).toArray⟩ : ByteArray).size ≤ 1000000 := by
  obtain ⟨r1, r2, r3, r4, r5⟩ := right_parts h
  dsimp only at r1 r3 r4 r5
  have := joined_length l r5
  show (writeB ⟨r, l, m⟩).toArray.size ≤ _
  rw [List.size_toArray]
  unfold writeB
  simp only [List.length_cons, List.length_append, this, size_list, r4]
  omega
set_option maxHeartbeats 4000000 in
theorem commitWrites_walk (r : ByteArray) (l : List ByteArray) (m : ByteArray) (o : Option Addr) (c : Nat) (w : World) (h : Ss w o l) (hn : o = none → c = 0) (hc : l.length ≤ c) (hl : l.length ≤ 140737488351232) (hm : m.size ≤ 140737488351232) :
    Calls Try.prog 3 #[.agg #[.string r, .slice o l.length c, .string m]] w fun e w' => e = .returned (.bool true) ∧ Below w.heap.size w w' := by
  have hb1 : Below w.heap.size w (w.alloc (.cells #[.string r, .slice o l.length c, .string m] 24)) := (Below.refl _ _).alloc (Nat.le_refl _) _
  have hblk := heap_alloc_new w (.cells #[.string r, .slice o l.length c, .string m] 24)
  have CELLS : ∀ w' : World, w'.heap[w.heap.size]? = some (.cells #[.string r, .slice o l.length c, .string m] 24 (0, 0)) → w'.cell? ⟨w.heap.size, 0, none⟩ = some (.string r) ∧ w'.cell? ⟨w.heap.size, 1, none⟩ = some (.slice o l.length c) ∧ w'.cell? ⟨w.heap.size, 2, none⟩ = some (.string m) := fun w' hk => ⟨by rw [Lib.cell_of_heap hk]; rfl, by rw [Lib.cell_of_heap hk]; rfl, by rw [Lib.cell_of_heap hk]; rfl⟩
  have HCELLS := Lib.hid CELLS
  clear CELLS
  go_enter Try.func3, Try.ntmps3
  go_wp2_with (fail)
  go_at_call 9
  refine (awake_any _).mono ?_
  rintro e w2 ⟨rfl, hb2⟩
  have hblk2 := (hb2.block w.heap.size (by simp)).trans hblk
  have hlt2 : w.heap.size < w2.heap.size := (Array.getElem?_eq_some_iff.1 hblk2).1
  have hB2 := hb1.trans (hb2.mono hb1.size)
  obtain ⟨k0, k1, k2⟩ := HCELLS.out w2 hblk2
  clear hb2 hb1 hblk
  by_cases h1 : r.size ≤ 100
  · have g1 : decide ((r.size : Int) > 100) = false := decide_eq_false (by omega)
    by_cases h2 : l.length ≤ 5
    · have g2 : decide ((l.length : Int) > 5) = false := decide_eq_false (by omega)
      by_cases h3 : m.size ≤ 1100
      · have g3 : decide ((m.size : Int) > 1100) = false := decide_eq_false (by omega)
        clear h1 h3
        go_wp2
        go_loopw [34] (fun v wr => ∃ i : Nat, i ≤ l.length ∧ v = .int .i64 i ∧ wr = w2) (fun v _ => l.length - (intOf v).toNat)
        case atStart => exact ⟨0, by omega, by first | rfl | trivial, by first | rfl | trivial⟩
        case round =>
          obtain ⟨i, hi, rfl, rfl⟩ := hrel
          by_cases hil : i < l.length
          · obtain ⟨ad, rfl⟩ := ss_some h hil
            obtain ⟨x, hx⟩ : ∃ x, l[i]? = some x := ⟨l[i], List.getElem?_eq_getElem hil⟩
            have i16 : (i : Int) < l.length := by omega
            have cx := (h.below hB2).at hx
            clear hx
            by_cases hz : x.size ≤ 100
            · have g5 : decide ((x.size : Int) > 100) = false := decide_eq_false (by omega)
              go_wp2
              go_roundw
              case rel => exact ⟨i + 1, hil, by go_num, by first | rfl | trivial⟩
              case measure => simp [intOf]; omega
            · have g5 : decide ((x.size : Int) > 100) = true := decide_eq_true (by omega)
              go_wp2
              go_ret
              exact ⟨rfl, hB2⟩
          · obtain rfl : i = l.length := by omega
            have hs2 := h.below hB2
            have q1 := fun w h => write_any r l m o c w h hn hc (by omega) hm
            have q2 := fun w h => rwrite_any r l m o c w h (by omega) hm
            obtain ⟨rt, hrt⟩ : ∃ b, b = right ⟨r, l, m⟩ := ⟨_, rfl⟩
            rw [← hrt] at q1 q2
            cases rt
            · rw [if_neg (by decide)] at q1 q2
              have q3 := fun hb w h => cputno_any hb r l m o c w h hn hc (by omega) hm hrt.symm
              unfold hp at q3
              clear hrt
              go_wp2_with (fail)
              go_at_call 10
              refine (q1 _ hs2).mono ?_
              rintro e w3 ⟨rfl, hb3⟩
              have hblk3 := (hb3.block w.heap.size hlt2).trans hblk2
              obtain ⟨n0, n1, n2⟩ := HCELLS.out w3 hblk3
              have hs3 := hs2.below hb3
              have hB3 := hB2.trans (hb3.mono hB2.size)
              go_wp2_with (fail)
              go_at_call 11
              refine (q2 _ hs3).mono ?_
              rintro e w4 ⟨rfl, hb4⟩
              have hlt3 := (Array.getElem?_eq_some_iff.1 hblk3).1
              have hblk4 := (hb4.block w.heap.size hlt3).trans hblk3
              obtain ⟨m0, m1, m2⟩ := HCELLS.out w4 hblk4
              have hs4 := hs3.below hb4
              have hB4 := hB3.trans (hb4.mono hB3.size)
              have hlt4 := (Array.getElem?_eq_some_iff.1 hblk4).1
              have FAR : ∀ w5, Below w4.drew.heap.size w4.drew w5 → (w5.cell? ⟨w.heap.size, 0, none⟩ = some (.string r) ∧ w5.cell? ⟨w.heap.size, 1, none⟩ = some (.slice o l.length c) ∧ w5.cell? ⟨w.heap.size, 2, none⟩ = some (.string m)) ∧ Ss w5 o l ∧ (Below w.heap.size w w5 ∧ w.heap.size < w5.heap.size) := fun w5 hC5 => by
                have hb5 : Below w4.heap.size w4 w5 := (Below.refl w4.heap.size w4).drew.trans hC5
                have hblk5 := (hb5.block w.heap.size hlt4).trans hblk4
                exact ⟨HCELLS.out w5 hblk5, hs4.below hb5, hB4.trans (hb5.mono hB4.size), (Array.getElem?_eq_some_iff.1 hblk5).1⟩
              have FAR2 : ∀ w5 w6, (Below w.heap.size w w5 ∧ w.heap.size < w5.heap.size) → (w5.cell? ⟨w.heap.size, 0, none⟩ = some (.string r) ∧ w5.cell? ⟨w.heap.size, 1, none⟩ = some (.slice o l.length c) ∧ w5.cell? ⟨w.heap.size, 2, none⟩ = some (.string m)) → Below w5.heap.size w5 w6 → (w6.cell? ⟨w.heap.size, 0, none⟩ = some (.string r) ∧ w6.cell? ⟨w.heap.size, 1, none⟩ = some (.slice o l.length c) ∧ w6.cell? ⟨w.heap.size, 2, none⟩ = some (.string m)) ∧ Below w.heap.size w w6 := fun w5 w6 hB5 k5 hC6 => by
                obtain ⟨j0, j1, j2⟩ := k5
                exact ⟨⟨(hC6.cell hB5.2).trans j0, (hC6.cell hB5.2).trans j1, (hC6.cell hB5.2).trans j2⟩, hB5.1.trans (hC6.mono hB5.1.size)⟩
              clear n0 n1 n2 k0 k1 k2 hs2 hs3 q1 q2 hb3 hb4 hblk3 hB3
              go_wp2
              go_region_held3 (fun w' => w'.cell? ⟨w.heap.size, 0, none⟩ = some (.string r) ∧ w'.cell? ⟨w.heap.size, 1, none⟩ = some (.slice o l.length c) ∧ w'.cell? ⟨w.heap.size, 2, none⟩ = some (.string m)) (first | exact ⟨m0, m1, m2⟩ | exact k5 | exact k6 | go_keep) ((first | (go_at_call 13; go_loud (with_reducible refine (newheap_nil _).mono ?_; rintro e w5 ⟨hb, mb, rfl, hh1, hm1, hS5, hC5⟩; obtain ⟨k5, hs5, hB5⟩ := FAR _ hC5)) | (go_at_call 12; go_loud (with_reducible refine (q3 hb _ hs5).mono ?_; rintro e w6 ⟨rfl, hC6⟩; obtain ⟨k6, hB6⟩ := FAR2 _ _ hB5 k5 hC6))))
              all_goals (
                go_wp2
                go_ret
                exact ⟨by first | rfl | (simp; done), hB6⟩)
            · rw [if_pos rfl] at q1 q2
              have q4 := read_any ⟨(writeB ⟨r, l, m⟩).toArray⟩
              have hz := write_size hrt.symm
              have hrw := read_write ⟨r, l, m⟩ hrt.symm
              clear hrt
              have q5 : ∀ w, Calls Try.prog 14 #[.string ⟨(writeB ⟨r, l, m⟩).toArray⟩] w fun e w' => ∃ (o : Option Addr) (cp : Nat), e = .returned (.tuple #[.agg #[.string r, .slice o l.length cp, .string m], .bool true]) ∧ Ss w' o l ∧ Below w.heap.size w w' := fun w => (q4 w hz).mono fun e w' h => by
                rw [hrw] at h
                obtain ⟨c, o, cp, h1, h2, h3, h4, h5, h6, h7⟩ := cut_out h
                have := h6 _ rfl
                subst this
                exact ⟨o, cp, h1, h2, h5⟩
              clear q4 hz hrw
              generalize (⟨(writeB ⟨r, l, m⟩).toArray⟩ : ByteArray) = bs at q1 q2 q5
              go_wp2_with (fail)
              go_at_call 10
              refine (q1 _ hs2).mono ?_
              rintro e w3 ⟨rfl, hb3⟩
              have hblk3 := (hb3.block w.heap.size hlt2).trans hblk2
              obtain ⟨n0, n1, n2⟩ := HCELLS.out w3 hblk3
              have hs3 := hs2.below hb3
              have hB3 := hB2.trans (hb3.mono hB2.size)
              go_wp2_with (fail)
              go_at_call 11
              refine (q2 _ hs3).mono ?_
              rintro e w4 ⟨rfl, hb4⟩
              have hlt3 := (Array.getElem?_eq_some_iff.1 hblk3).1
              have hblk4 := (hb4.block w.heap.size hlt3).trans hblk3
              have hs4 := hs3.below hb4
              have hB4 := hB3.trans (hb4.mono hB3.size)
              have hlt4 := (Array.getElem?_eq_some_iff.1 hblk4).1
              clear n0 n1 n2 k0 k1 k2 hs2 hs3 q1 q2 hb3 hb4 hblk3 hB3
              go_wp2_with (fail)
              go_at_call 14
              refine (q5 _).mono ?_
              rintro e w5 ⟨o5, c5, rfl, hs5, hb5⟩
              have hblk5 := (hb5.block w.heap.size hlt4).trans hblk4
              obtain ⟨n0, n1, n2⟩ := HCELLS.out w5 hblk5
              have hlt5 := (Array.getElem?_eq_some_iff.1 hblk5).1
              have hB5 := hB4.trans (hb5.mono hB4.size)
              have hbl5 := (Below.refl w5.heap.size w5).alloc (Nat.le_refl _) (.cells #[.string r, .slice o5 l.length c5, .string m] 24)
              have hB6 := hB5.trans (hbl5.mono hB5.size)
              have hsame := rsame_any r l m o5 o c5 c _ (hs5.below hbl5) ((hs4.below hb5).below hbl5) (by omega)
              clear hs4 hs5 hblk4 hblk5 hb5 hbl5 hB4 hB5 q5
              go_wp2_with (fail)
              go_at_call 15
              refine hsame.mono ?_
              rintro e w6 ⟨rfl, hb6⟩
              go_wp2
              go_ret
              exact ⟨rfl, hB6.trans (hb6.mono hB6.size)⟩
      · have g3 : decide ((m.size : Int) > 1100) = true := decide_eq_true (by omega)
        go_wp2
        go_ret
        exact ⟨rfl, hB2⟩
    · have g2 : decide ((l.length : Int) > 5) = true := decide_eq_true (by omega)
      go_wp2
      go_ret
      exact ⟨rfl, hB2⟩
  · have g1 : decide ((r.size : Int) > 100) = true := decide_eq_true (by omega)
    go_wp2
    go_ret
    exact ⟨rfl, hB2⟩
end Go.Proofs.Ytkjgbldooflodaa
