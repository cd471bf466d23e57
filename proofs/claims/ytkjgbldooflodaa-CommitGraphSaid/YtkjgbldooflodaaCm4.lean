/-
  The walks of the reference's Right and Same (commits).
-/
import Derived.Test.YtkjgbldooflodaaCm3
namespace Go.Proofs.Ytkjgbldooflodaa
open Go.RowKit Cm
set_option maxRecDepth 100000
set_option linter.unusedVariables false
set_option linter.unusedSimpArgs false
theorem ss_some {w : World} {o : Option Addr} {l : List ByteArray} (h : Ss w o l) {i : Nat} (hi : i < l.length) : ∃ a, o = some a := h.1 (by intro e; rw [e] at hi; exact absurd hi (by simp))
set_option maxHeartbeats 8000000 in
theorem rright_any (r : ByteArray) (l : List ByteArray) (m : ByteArray) (o : Option Addr) (c : Nat) (w : World) (h : Ss w o l) (hl : l.length ≤ 1000) (hm : m.size ≤ 140737488351232) :
    Calls Try.prog 31 #[.agg #[.string r, .slice o l.length c, .string m]] w fun e w' => e = .returned (.bool (right ⟨r, l, m⟩)) ∧ Below w.heap.size w w' := by
  obtain ⟨res, hres⟩ : ∃ b : Bool, b = right ⟨r, l, m⟩ := ⟨_, rfl⟩
  rw [← hres]
  have hR : res = (decide (l.length ≤ 2) && !twice l && decide (m.size ≤ 1000) && (decide (r.size = 32) && fine l)) := by rw [hres]; rfl
  clear hres
  have hb1 : Below w.heap.size w (w.alloc (.cells #[.string r, .slice o l.length c, .string m] 24)) := (Below.refl _ _).alloc (Nat.le_refl _) _
  have fin : ∀ n, Below w.heap.size w ((w.alloc (.cells #[.string r, .slice o l.length c, .string m] 24)).drewN n) := fun n => below_drewN hb1 n
  by_cases h1 : r.size = 32
  · have f1 : ((r.size : Int) != 32) = false := by rw [bne_eq_false_iff_eq]; omega
    by_cases h2 : l.length ≤ 2
    · have f2 : decide ((l.length : Int) > 2) = false := decide_eq_false (by omega)
      by_cases h3 : m.size ≤ 1000
      · have f3 : decide ((m.size : Int) > 1000) = false := decide_eq_false (by omega)
        rw [decide_eq_true h1, decide_eq_true h2, decide_eq_true h3] at hR
        simp only [Bool.true_and, Bool.and_true] at hR
        clear h1 h3
        by_cases h4 : l.length = 2
        · obtain ⟨p, q, hpq⟩ : ∃ p q, l = [p, q] := by
            match l, h4 with
            | [p, q], _ => exact ⟨p, q, rfl⟩
          obtain ⟨a, rfl⟩ := h.1 (by rw [hpq]; simp)
          have hs1 := h.below hb1
          have ca : (w.alloc (.cells #[.string r, .slice (some a) l.length c, .string m] 24)).cell? a = some (.string p) := hs1.at (i := 0) (x := p) (by rw [hpq]; rfl)
          have cb : (w.alloc (.cells #[.string r, .slice (some a) l.length c, .string m] 24)).cell? ⟨a.block, a.off + 1, none⟩ = some (.string q) := hs1.at (i := 1) (x := q) (by rw [hpq]; rfl)
          have htw2 : twice l = (p.toList == q.toList) := by rw [hpq]; rfl
          have e2 : ((l.length : Int) == 2) = true := by rw [beq_iff_eq]; omega
          have e4 : (0 : Int) < l.length := by omega
          have e5 : (1 : Int) < l.length := by omega
          have e6 : 0 < l.length := by omega
          have e7 : l ≠ [] := by intro e; rw [e] at e6; exact absurd e6 (by simp)
          have e8 : 1 < l.length := by omega
          rw [htw2] at hR
          cases htw : (p.toList == q.toList)
          · rw [htw] at hR
            simp only [Bool.not_false, Bool.true_and] at hR
            have HR := Lib.hid hR
            clear hR h4 hpq htw2 h2
            go_enter Try.func31, Try.ntmps31
            go_wp2
            go_quiet (fail)
            all_goals (
              go_wp2
              go_loopw [3] (fun v wr => ∃ i : Nat, i ≤ l.length ∧ v = .int .i64 i ∧ Hid ((l.take i).all (fun p => decide (p.size = 32)) = true) ∧ Below (w.heap.size + 1) (w.alloc (.cells #[.string r, .slice (some a) l.length c, .string m] 24)) wr)
                (fun v _ => l.length - (intOf v).toNat)
              (case atStart => exact ⟨0, by omega, rfl, Lib.hid rfl, by first | exact below_drewN (by simpa using Below.refl _ _) _ | exact (below_drewN (Below.refl _ _) _).mono (by simp)⟩)
              (case round =>
                obtain ⟨i, hi, rfl, HA, hB⟩ := hrel
                have hblk := (hB.block w.heap.size (by omega)).trans (heap_alloc_new w (.cells #[.string r, .slice (some a) l.length c, .string m] 24))
                have k1 : wr.cell? ⟨w.heap.size, 1, none⟩ = some (.slice (some a) l.length c) := (by (rw [Lib.cell_of_heap hblk]; rfl))
                have hB2 : Below w.heap.size w wr := hb1.trans (hB.mono (by simp))
                by_cases hil : i < l.length
                · obtain ⟨ad, had⟩ := ss_some h hil
                  first | cases had | (obtain rfl := had)
                  obtain ⟨x, hx⟩ : ∃ x, l[i]? = some x := ⟨l[i], List.getElem?_eq_getElem hil⟩
                  have cx := (h.below hB2).at hx
                  have j16 : (i : Int) < l.length := (by omega)
                  have HX := Lib.hid hx
                  clear hx hblk
                  by_cases hz : x.size = 32
                  · have f5 : ((x.size : Int) != 32) = false := (by rw [bne_eq_false_iff_eq]; omega)
                    have Hz := Lib.hid hz
                    clear hz
                    go_wp2
                    go_roundw
                    (case rel =>
                      refine ⟨i + 1, hil, by go_num, Lib.hid ?_, hB⟩
                      obtain ⟨hi2, hx2⟩ := List.getElem?_eq_some_iff.1 HX.out
                      rw [List.take_succ_eq_append_getElem hi2, List.all_append, HA.out, hx2]
                      simp [Hz.out])
                    (case measure => simp [intOf]; omega)
                  · have f5 : ((x.size : Int) != 32) = true := bne_iff_ne.2 (by omega)
                    have hf : res = false := (by
                      rw [HR.out]
                      unfold fine
                      rw [List.all_eq_false]
                      exact ⟨x, List.mem_of_getElem? HX.out, by simpa using hz⟩)
                    clear hz
                    go_wp2
                    go_ret
                    exact ⟨by rw [hf]; rfl, hB2⟩
                · have e1 : i = l.length := (by omega)
                  have hf : res = true := (by
                    have := HA.out
                    rw [e1, List.take_length] at this
                    rw [HR.out]
                    exact this)
                  have j16 : decide ((i : Int) < l.length) = false := decide_eq_false (by omega)
                  go_wp2
                  go_ret
                  exact ⟨by rw [hf]; rfl, hB2⟩))
          · have hR2 : res = false := by rw [hR, htw]; rfl
            subst hR2
            clear hR h4 hpq htw2 h2
            go_enter Try.func31, Try.ntmps31
            go_wp2
            go_quiet (fail)
            all_goals (
              go_wp2
              go_ret
              exact ⟨rfl, fin _⟩)
        · have e2 : ((l.length : Int) == 2) = false := by rw [beq_eq_false_iff_ne]; omega
          rw [twice_of h4] at hR
          simp only [Bool.not_false, Bool.true_and] at hR
          have HR := Lib.hid hR
          clear hR h4 h2
          go_enter Try.func31, Try.ntmps31
          go_wp2
          go_quiet (fail)
          all_goals (
            go_wp2
            go_loopw [3] (fun v wr => ∃ i : Nat, i ≤ l.length ∧ v = .int .i64 i ∧ Hid ((l.take i).all (fun p => decide (p.size = 32)) = true) ∧ Below (w.heap.size + 1) (w.alloc (.cells #[.string r, .slice o l.length c, .string m] 24)) wr)
              (fun v _ => l.length - (intOf v).toNat)
            (case atStart => exact ⟨0, by omega, rfl, Lib.hid rfl, by first | exact below_drewN (by simpa using Below.refl _ _) _ | exact (below_drewN (Below.refl _ _) _).mono (by simp)⟩)
            (case round =>
              obtain ⟨i, hi, rfl, HA, hB⟩ := hrel
              have hblk := (hB.block w.heap.size (by omega)).trans (heap_alloc_new w (.cells #[.string r, .slice o l.length c, .string m] 24))
              have k1 : wr.cell? ⟨w.heap.size, 1, none⟩ = some (.slice o l.length c) := (by (rw [Lib.cell_of_heap hblk]; rfl))
              have hB2 : Below w.heap.size w wr := hb1.trans (hB.mono (by simp))
              by_cases hil : i < l.length
              · obtain ⟨ad, had⟩ := ss_some h hil
                first | cases had | (obtain rfl := had)
                obtain ⟨x, hx⟩ : ∃ x, l[i]? = some x := ⟨l[i], List.getElem?_eq_getElem hil⟩
                have cx := (h.below hB2).at hx
                have j16 : (i : Int) < l.length := (by omega)
                have HX := Lib.hid hx
                clear hx hblk
                by_cases hz : x.size = 32
                · have f5 : ((x.size : Int) != 32) = false := (by rw [bne_eq_false_iff_eq]; omega)
                  have Hz := Lib.hid hz
                  clear hz
                  go_wp2
                  go_roundw
                  (case rel =>
                    refine ⟨i + 1, hil, by go_num, Lib.hid ?_, hB⟩
                    obtain ⟨hi2, hx2⟩ := List.getElem?_eq_some_iff.1 HX.out
                    rw [List.take_succ_eq_append_getElem hi2, List.all_append, HA.out, hx2]
                    simp [Hz.out])
                  (case measure => simp [intOf]; omega)
                · have f5 : ((x.size : Int) != 32) = true := bne_iff_ne.2 (by omega)
                  have hf : res = false := (by
                    rw [HR.out]
                    unfold fine
                    rw [List.all_eq_false]
                    exact ⟨x, List.mem_of_getElem? HX.out, by simpa using hz⟩)
                  clear hz
                  go_wp2
                  go_ret
                  exact ⟨by rw [hf]; rfl, hB2⟩
              · have e1 : i = l.length := (by omega)
                have hf : res = true := (by
                  have := HA.out
                  rw [e1, List.take_length] at this
                  rw [HR.out]
                  exact this)
                have j16 : decide ((i : Int) < l.length) = false := decide_eq_false (by omega)
                go_wp2
                go_ret
                exact ⟨by rw [hf]; rfl, hB2⟩))
      · have f3 : decide ((m.size : Int) > 1000) = true := decide_eq_true (by omega)
        have hR2 : res = false := by rw [hR, decide_eq_false h3]; simp
        subst hR2
        clear hR h1 h2 h3
        go_enter Try.func31, Try.ntmps31
        go_wp2
        go_quiet (fail)
        all_goals (
          go_wp2
          go_ret
          exact ⟨rfl, fin _⟩)
    · have f2 : decide ((l.length : Int) > 2) = true := decide_eq_true (by omega)
      have hR2 : res = false := by rw [hR, decide_eq_false h2]; simp
      subst hR2
      clear hR h1 h2
      go_enter Try.func31, Try.ntmps31
      go_wp2
      go_quiet (fail)
      all_goals (
        go_wp2
        go_ret
        exact ⟨rfl, fin _⟩)
  · have f1 : ((r.size : Int) != 32) = true := bne_iff_ne.2 (by omega)
    have hR2 : res = false := by rw [hR, decide_eq_false h1]; simp
    subst hR2
    clear hR h1
    go_enter Try.func31, Try.ntmps31
    go_wp2
    go_quiet (fail)
    all_goals (
      go_wp2
      go_ret
      exact ⟨rfl, fin _⟩)
end Go.Proofs.Ytkjgbldooflodaa
