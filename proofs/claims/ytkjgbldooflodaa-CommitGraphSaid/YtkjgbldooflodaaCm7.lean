/-
  The walk of the reference's Read (commits).
-/
import Derived.Test.YtkjgbldooflodaaCm4
namespace Go.Proofs.Ytkjgbldooflodaa
open Go.RowKit Cm
set_option maxRecDepth 100000
set_option linter.unusedVariables false
set_option linter.unusedSimpArgs false
theorem rright_len (n : Nat) (r : ByteArray) (l : List ByteArray) (m : ByteArray) (o : Option Addr) (c : Nat) (w : World) (hnl : n = l.length) (h : Ss w o l) (hl : l.length ≤ 1000) (hm : m.size ≤ 140737488351232) :
    Calls Try.prog 31 #[.agg #[.string r, .slice o n c, .string m]] w fun e w' => e = .returned (.bool (right ⟨r, l, m⟩)) ∧ Below w.heap.size w w' := by
  subst hnl
  exact rright_any r l m o c w h hl hm
set_option maxHeartbeats 8000000 in
theorem rread_any (b : ByteArray) (w : World) (hb : b.size ≤ 1000000) : Calls Try.prog 16 #[.string b] w fun e w' => CmtOut (readC b) w e w' := by
  obtain ⟨i0, hi0, hz0, hz1, hz2⟩ := info_parts (P := Try.prog) (e := 9) (z := .string ⟨#[]⟩) (size := 1) (bytes := 16) (by kernel_rfl)
  obtain ⟨ans, hans⟩ : ∃ x, x = readC b := ⟨_, rfl⟩
  rw [← hans]
  by_cases h34 : b.size < 34
  · have e0 : ans = none := by rw [hans]; unfold readC whole; rw [decide_eq_false (by omega)]; simp
    have e1 : (b.size : Int) < 34 := by omega
    subst e0
    clear hans h34
    go_enter Try.func16, Try.ntmps16
    go_wp2
    exact bodyPost_ret (v := .tuple #[.agg #[.string ⟨#[]⟩, .slice none 0 0, .string ⟨#[]⟩], .bool false]) (by simp [results, Try.results16, go_sem]) rfl (CmtOut.none rfl ((Below.refl _ _).alloc (Nat.le_refl _) _))
  · have e1 : ¬ (b.size : Int) < 34 := by omega
    have ix0 := fun w => run_index_by8 (P := Try.prog) (t := 9) Try.underlying9 b 0 0 rfl (by omega) w
    have ix33 := fun w => run_index_by8 (P := Try.prog) (t := 9) Try.underlying9 b 33 33 rfl (by omega) w
    by_cases h67 : by8 b 0 = 67
    · have e2 : (((by8 b 0).toNat : Int) != 67) = false := by rw [h67]; rfl
      obtain ⟨z, hz⟩ : ∃ z : Int, z = (by8 b 0).toNat := ⟨_, rfl⟩
      obtain ⟨N, hN⟩ : ∃ N : Nat, N = (by8 b 33).toNat := ⟨_, rfl⟩
      rw [← hz] at ix0 e2
      rw [← hN] at ix33
      have hN256 : N < 256 := by rw [hN]; exact (by8 b 33).toNat_lt
      obtain ⟨R, hR⟩ : ∃ R, R = b.extract 1 33 := ⟨_, rfl⟩
      obtain ⟨q0, hq0⟩ : ∃ q, q = rest b 0 := ⟨_, rfl⟩
      have sl1 : ∀ w : World, (Instr.slice 9 (.string b) (some (.int .i64 1)) (some (.int .i64 33)) none).run Try.prog w = .ok (.string R) w := fun w => by
        have h := run_slice_string (P := Try.prog) w 9 b .i64 .i64 1 33 Try.underlying9 (by omega) (by omega) (by omega)
        rw [h, hR]
        rfl
      have sl2 : ∀ w : World, (Instr.slice 9 (.string b) (some (.int .i64 34)) none none).run Try.prog w = .ok (.string q0) w := fun w => by
        have h := run_slice_string_l (P := Try.prog) (w := w) (t := 9) b Try.underlying9 .i64 34 (by omega) (by omega)
        rw [h, hq0]
        rfl
      have wr0 : IntKind.i64.wrap (N : Int) = N := wrap_fit _ (by omega) (by omega)
      by_cases hn2 : 2 < N
      · have e3 : decide ((N : Int) > 2) = true := decide_eq_true (by omega)
        have e0 : ans = none := by rw [hans]; unfold readC whole; rw [← hN, decide_eq_false (show ¬ N ≤ 2 by omega)]; simp
        subst e0
        clear hans h34 hz hN hR hq0
        go_enter Try.func16, Try.ntmps16
        go_wp2
        exact bodyPost_ret (v := .tuple #[.agg #[.string ⟨#[]⟩, .slice none 0 0, .string ⟨#[]⟩], .bool false]) (by simp [results, Try.results16, go_sem]) rfl (CmtOut.none rfl ((Below.refl _ _).alloc (Nat.le_refl _) _))
      · have e3 : decide ((N : Int) > 2) = false := decide_eq_false (by omega)
        have hwh : 36 + 32 * N ≤ b.size → whole b = true := by
          intro hl
          unfold whole
          rw [← hN, h67]
          simp
          omega
        have hno : b.size < 36 + 32 * N → ans = none := by
          intro hl
          rw [hans]
          unfold readC whole
          rw [← hN, decide_eq_false (show ¬ 36 + 32 * N ≤ b.size by omega)]
          simp
        have HC := Lib.hid (And.intro (And.intro hans (And.intro hwh hno)) (And.intro hN hR))
        have HQ0 := Lib.hid hq0
        have h34' : 34 ≤ b.size := by omega
        clear hans hwh hno hN hR hz h67 hq0
        go_enter Try.func16, Try.ntmps16
        go_wp2
        go_loopw [5, 6] (fun v x wr => ∃ (i : Nat) (o : Option Addr) (cp : Nat), i ≤ N ∧ 34 + 32 * i ≤ b.size ∧ v = .string (rest b i) ∧ x = .int .i64 i ∧
            wr.heap[w.heap.size]? = some (.cells #[.string ⟨#[]⟩, .slice none 0 0, .string ⟨#[]⟩] 24 (0, 0)) ∧
            wr.heap[w.heap.size + 1]? = some (.cells #[.string R, .slice o i cp, .string ⟨#[]⟩] 24 (0, 0)) ∧
            wr.ownsRow (w.heap.size + 2) 9 1 (.slice o i cp) i ((pars b i).map Value.string) ∧ Below w.heap.size w wr)
          (fun _ x _ => N - (intOf x).toNat)
        case atStart =>
          refine ⟨0, none, 0, Nat.zero_le _, by omega, by rw [HQ0.out], rfl, ?_, ?_, World.ownsRow_nil _ _ _ _, (((Below.refl _ _).alloc (Nat.le_refl _) _).alloc (by simp) _)⟩
          · rw [Lib.alloc_old _ _ _ (by simp)]
            exact heap_alloc_new w _
          · have := heap_alloc_new (w.alloc (.cells #[.string ⟨#[]⟩, .slice none 0 0, .string ⟨#[]⟩] 24)) (.cells #[.string R, .slice none 0 0, .string ⟨#[]⟩] 24)
            simpa using this
        case round =>
          obtain ⟨i, o, cp, hi, hib, rfl, rfl, hh0, hh1, hown, hB⟩ := hrel
          have hsz : w.heap.size + 1 < wr.heap.size := (Array.getElem?_eq_some_iff.1 hh1).1
          have k0 : wr.cell? ⟨w.heap.size + 1, 0, none⟩ = some (.string R) := by rw [Lib.cell_of_heap hh1]; rfl
          have k1 : wr.cell? ⟨w.heap.size + 1, 1, none⟩ = some (.slice o i cp) := by rw [Lib.cell_of_heap hh1]; rfl
          have r0 : wr.cell? ⟨w.heap.size, 0, none⟩ = some (.string ⟨#[]⟩) := by rw [Lib.cell_of_heap hh0]; rfl
          have r1 : wr.cell? ⟨w.heap.size, 1, none⟩ = some (.slice none 0 0) := by rw [Lib.cell_of_heap hh0]; rfl
          have r2 : wr.cell? ⟨w.heap.size, 2, none⟩ = some (.string ⟨#[]⟩) := by rw [Lib.cell_of_heap hh0]; rfl
          have g0 : wr.frozen? ⟨w.heap.size, 0, none⟩ = false := by simp [World.frozen?, hh0]
          have g1 : wr.frozen? ⟨w.heap.size, 1, none⟩ = false := by simp [World.frozen?, hh0]
          have g2 : wr.frozen? ⟨w.heap.size, 2, none⟩ = false := by simp [World.frozen?, hh0]
          have hqz := rest_size b i hib
          by_cases hiN : i < N
          · have i16 : (i : Int) < N := by omega
            by_cases hbz : 66 + 32 * i ≤ b.size
            · obtain ⟨Q, hQ⟩ : ∃ Q, Q = rest b i := ⟨_, rfl⟩
              obtain ⟨Q', hQ'⟩ : ∃ Q', Q' = rest b (i + 1) := ⟨_, rfl⟩
              obtain ⟨Pi, hPi⟩ : ∃ Pi, Pi = b.extract (34 + 32 * i) (66 + 32 * i) := ⟨_, rfl⟩
              rw [← hQ] at hqz
              have hQz : 32 ≤ Q.size := by omega
              have e5 : ¬ (Q.size : Int) < 32 := by omega
              have sl3 : ∀ w : World, (Instr.slice 9 (.string Q) none (some (.int .i64 32)) none).run Try.prog w = .ok (.string Pi) w := fun w => by
                have h := run_slice_string_h (P := Try.prog) (w := w) (t := 9) Q Try.underlying9 .i64 32 (by omega) (by omega)
                rw [h, hPi, ← rest_cut b i hbz, ← hQ]
                rfl
              have sl4 : ∀ w : World, (Instr.slice 9 (.string Q) (some (.int .i64 32)) none none).run Try.prog w = .ok (.string Q') w := fun w => by
                have h := run_slice_string_l (P := Try.prog) (w := w) (t := 9) Q Try.underlying9 .i64 32 (by omega) (by omega)
                rw [h, hQ', ← rest_next b i hbz, ← hQ]
                rfl
              rw [← hQ]
              have HP := Lib.hid (And.intro hPi hQ')
              clear hPi hQ' hQ hqz r0 r1 r2 g0 g1 g2
              go_wp2
              have hld := ldB_eq
              simp only [show ∀ x : Operand, Op.load 22 x = ldB 22 x from fun _ => rfl]
              go_region_held3 (fun _ => True) (exact trivial)
                (go_loud (refine step_append_lies _ (by rfl) _ _ _ (by rfl) (w.heap.size + 2) 9 i0 _ 1 16 Try.underlying22 hi0 hz0 hz1 hz2 rfl (by omega) (.slice o i cp) i _ (by rfl) ((hown.alloc _).drew) ⟨wr.heap.size, 0, none⟩ 1 1 [.string Pi] (by rfl) (by rfl) (World.news_of_block (cs := #[.string Pi]) (t := 9) (fr := (0, 0)) (heap_alloc_new wr _)) (by simp [Value.oneCell']) (by omega) (by unfold maxLen; omega) (by omega) (by simp; omega) (wr.heap.size + 1) (by simp) ?_; intro gg cap w1 hown1 hgrow hat hlt; have hBl : Below (w.heap.size + 2) wr w1 := ((Below.refl _ _).alloc (by omega) _).drew.grown hgrow (by simp; omega) (fun j hj => (hown.lt j hj).1); have hk1 := (hBl.block (w.heap.size + 1) (by omega)).trans hh1; have k5 : w1.cell? ⟨w.heap.size + 1, 1, none⟩ = some (.slice o i cp) := (by (rw [Lib.cell_of_heap hk1]; rfl)); have k6 : w1.frozen? ⟨w.heap.size + 1, 1, none⟩ = false := (by simp [World.frozen?, hk1])))
              all_goals (
                go_wp2
                go_roundw
                (case rel =>
                  have hbs := block_set hk1 (i := 1) (.slice (some ⟨gg, 0, none⟩) (i + 1) cap)
                  refine ⟨i + 1, some ⟨gg, 0, none⟩, cap, hiN, by omega, by rw [HP.out.2], by go_num, ?_, hbs, ?_, ?_⟩
                  · rw [Below.heap_setCell _ _ _ _ (show w.heap.size ≠ w.heap.size + 1 by omega)]
                    exact (hBl.block w.heap.size (by omega)).trans hh0
                  · rw [pars_succ, List.map_append, ← HP.out.1]
                    exact ownsRow_setCell_below hown1 (show w.heap.size + 1 < w.heap.size + 2 by omega) _
                  · exact (hB.trans (hBl.mono (by omega))).setCell (by show w.heap.size ≤ w.heap.size + 1; omega) _)
                (case measure => simp [intOf]; omega))
            · have e5 : ((rest b i).size : Int) < 32 := by omega
              have e0 := HC.out.1.2.2 (by omega)
              have hfin := block_set3 (x := .string ⟨#[]⟩) (y := .slice none 0 0) (z := .string ⟨#[]⟩) hh0
              have d0 := Lib.cell_of_heap hfin 0
              have d1 := Lib.cell_of_heap hfin 1
              have d2 := Lib.cell_of_heap hfin 2
              subst e0
              clear hfin hh0 hh1 hown hqz
              go_wp2
              exact bodyPost_ret (v := .tuple #[.agg #[.string ⟨#[]⟩, .slice none 0 0, .string ⟨#[]⟩], .bool false]) (by simp [results, Try.results16, go_sem, d0, d1, d2]) rfl (CmtOut.none rfl (((hB.setCell (Nat.le_refl _) _).setCell (Nat.le_refl _) _).setCell (Nat.le_refl _) _))
          · obtain rfl : i = N := by omega
            obtain ⟨Q, hQ⟩ : ∃ Q, Q = rest b i := ⟨_, rfl⟩
            rw [← hQ] at hqz
            rw [← hQ]
            have hq : ∀ n, Below w.heap.size w (wr.drewN n) ∧ (wr.drewN n).heap[w.heap.size]? = some (.cells #[.string ⟨#[]⟩, .slice none 0 0, .string ⟨#[]⟩] 24 (0, 0)) ∧ (wr.drewN n).heap[w.heap.size + 1]? = some (.cells #[.string R, .slice o i cp, .string ⟨#[]⟩] 24 (0, 0)) ∧ (wr.drewN n).ownsRow (w.heap.size + 2) 9 1 (.slice o i cp) i ((pars b i).map Value.string) := fun n => by
              refine ⟨below_drewN hB n, ((below_drewN (Below.refl wr.heap.size wr) n).block _ (by omega)).trans hh0, ((below_drewN (Below.refl wr.heap.size wr) n).block _ (by omega)).trans hh1, ?_⟩
              induction n with
              | zero => exact hown
              | succ n ih => exact ih.drew
            have HQN := Lib.hid hq
            clear hq r0 r1 r2 g0 g1 g2 k0 k1
            by_cases hq2 : Q.size < 2
            · have e5 : decide ((Q.size : Int) < 2) = true := decide_eq_true (by omega)
              have e0 := HC.out.1.2.2 (by omega)
              subst e0
              clear hh0 hh1 hown hQ hqz hq2
              go_wp2
              go_quiet (fail)
              all_goals (
                obtain ⟨hBq, q0h, q1h, hownq⟩ := HQN.out nq
                obtain ⟨wq, hwq⟩ : ∃ wq, wq = wr.drewN nq := ⟨_, rfl⟩
                rw [← hwq] at hBq q0h q1h hownq ⊢
                clear hwq
                have r0 : wq.cell? ⟨w.heap.size, 0, none⟩ = some (.string ⟨#[]⟩) := by rw [Lib.cell_of_heap q0h]; rfl
                have r1 : wq.cell? ⟨w.heap.size, 1, none⟩ = some (.slice none 0 0) := by rw [Lib.cell_of_heap q0h]; rfl
                have r2 : wq.cell? ⟨w.heap.size, 2, none⟩ = some (.string ⟨#[]⟩) := by rw [Lib.cell_of_heap q0h]; rfl
                have g0 : wq.frozen? ⟨w.heap.size, 0, none⟩ = false := by simp [World.frozen?, q0h]
                have g1 : wq.frozen? ⟨w.heap.size, 1, none⟩ = false := by simp [World.frozen?, q0h]
                have g2 : wq.frozen? ⟨w.heap.size, 2, none⟩ = false := by simp [World.frozen?, q0h]
                have hfin := block_set3 (x := .string ⟨#[]⟩) (y := .slice none 0 0) (z := .string ⟨#[]⟩) q0h
                have d0 := Lib.cell_of_heap hfin 0
                have d1 := Lib.cell_of_heap hfin 1
                have d2 := Lib.cell_of_heap hfin 2
                clear hfin q0h q1h hownq
                go_wp2
                exact bodyPost_ret (v := .tuple #[.agg #[.string ⟨#[]⟩, .slice none 0 0, .string ⟨#[]⟩], .bool false]) (by simp [results, Try.results16, go_sem, d0, d1, d2]) rfl (CmtOut.none rfl (((hBq.setCell (Nat.le_refl _) _).setCell (Nat.le_refl _) _).setCell (Nat.le_refl _) _)))
            · have e5 : decide ((Q.size : Int) < 2) = false := decide_eq_false (by omega)
              have hwh := HC.out.1.2.1 (by omega)
              obtain ⟨M, hM⟩ : ∃ M, M = b.extract (36 + 32 * i) b.size := ⟨_, rfl⟩
              have ia := fun w => run_index_by8 (P := Try.prog) (t := 9) Try.underlying9 Q 0 0 rfl (by omega) w
              have ib := fun w => run_index_by8 (P := Try.prog) (t := 9) Try.underlying9 Q 1 1 rfl (by omega) w
              obtain ⟨x, hx⟩ : ∃ x : Nat, x = (by8 Q 0).toNat := ⟨_, rfl⟩
              obtain ⟨y, hy⟩ : ∃ y : Nat, y = (by8 Q 1).toNat := ⟨_, rfl⟩
              have hx8 : x < 256 := by rw [hx]; exact (by8 Q 0).toNat_lt
              have hy8 : y < 256 := by rw [hy]; exact (by8 Q 1).toNat_lt
              rw [← hx] at ia
              rw [← hy] at ib
              have sl5 : ∀ w : World, (Instr.slice 9 (.string Q) (some (.int .i64 2)) none none).run Try.prog w = .ok (.string M) w := fun w => by
                have h := run_slice_string_l (P := Try.prog) (w := w) (t := 9) Q Try.underlying9 .i64 2 (by omega) (by omega)
                rw [h, hM, show 36 + 32 * i = 34 + 32 * i + 2 by omega, ← rest_tail b i 2 (by omega), ← hQ]
                rfl
              have hMz : M.size + 2 = Q.size := by rw [hM, extract_size _ _ _ (Nat.le_refl _)]; omega
              have hnum : num b (34 + 32 * i) = x * 256 + y := by
                unfold num
                rw [hx, hy, hQ, rest_by8, rest_by8]
                rfl
              have w1 : IntKind.i64.wrap ((Q.size : Int) - 2) = (Q.size : Int) - 2 := wrap_fit _ (by omega) (by omega)
              have w2 : IntKind.i64.wrap ((x : Int) * 256) = (x : Int) * 256 := wrap_fit _ (by omega) (by omega)
              have w3 : IntKind.i64.wrap ((x : Int) * 256 + y) = (x : Int) * 256 + y := wrap_fit _ (by omega) (by omega)
              have w4 : IntKind.i64.wrap (x : Int) = x := wrap_fit _ (by omega) (by omega)
              have w5 : IntKind.i64.wrap (y : Int) = y := wrap_fit _ (by omega) (by omega)
              have hcut : cut b = ⟨R, pars b i, M⟩ := by
                unfold cut
                rw [← HC.out.2.1, ← HC.out.2.2, ← hM]
              by_cases hm : M.size = x * 256 + y
              · have e8 : ((Q.size : Int) - 2 != (x : Int) * 256 + (y : Int)) = false := by rw [bne_eq_false_iff_eq]; omega
                have e0 : ans = if right ⟨R, pars b i, M⟩ = true then some ⟨R, pars b i, M⟩ else none := by
                  rw [HC.out.1.1]
                  unfold readC
                  rw [hcut, ← HC.out.2.1, hnum]
                  simp only [hwh, hm, true_and]
                obtain ⟨rt, hrt⟩ : ∃ rt, rt = right ⟨R, pars b i, M⟩ := ⟨_, rfl⟩
                have hcall := fun w h => rright_len i R (pars b i) M o cp w (pars_length b i).symm h (by rw [pars_length]; omega) (by omega)
                rw [← hrt] at e0 hcall
                have E0 := Lib.hid e0
                clear hm hM hnum hx hy hQ hqz hh0 hh1 hown e0 hcut hrt hwh
                go_wp2
                go_quiet (fail)
                all_goals (
                  obtain ⟨hBq, q0h, q1h, hownq⟩ := HQN.out nq
                  obtain ⟨wq, hwq⟩ : ∃ wq, wq = wr.drewN nq := ⟨_, rfl⟩
                  rw [← hwq] at hBq q0h q1h hownq ⊢
                  clear hwq
                  have r0 : wq.cell? ⟨w.heap.size, 0, none⟩ = some (.string ⟨#[]⟩) := by rw [Lib.cell_of_heap q0h]; rfl
                  have r1 : wq.cell? ⟨w.heap.size, 1, none⟩ = some (.slice none 0 0) := by rw [Lib.cell_of_heap q0h]; rfl
                  have r2 : wq.cell? ⟨w.heap.size, 2, none⟩ = some (.string ⟨#[]⟩) := by rw [Lib.cell_of_heap q0h]; rfl
                  have g0 : wq.frozen? ⟨w.heap.size, 0, none⟩ = false := by simp [World.frozen?, q0h]
                  have g1 : wq.frozen? ⟨w.heap.size, 1, none⟩ = false := by simp [World.frozen?, q0h]
                  have g2 : wq.frozen? ⟨w.heap.size, 2, none⟩ = false := by simp [World.frozen?, q0h]
                  have hw2 := ownsRow_setCell_below hownq (show (⟨w.heap.size + 1, 2, none⟩ : Addr).block < w.heap.size + 2 by show w.heap.size + 1 < _; omega) (.string M)
                  obtain ⟨o', c', heq, hss, hnn, hoo, hlc⟩ := own_ss (l := pars b i) hw2 (pars_length b i).symm
                  injection heq with e15 e16 e17
                  subst e15 e17
                  clear e16
                  rw [pars_length] at hlc
                  have m2 : wq.cell? ⟨w.heap.size + 1, 2, none⟩ = some (.string ⟨#[]⟩) := by rw [Lib.cell_of_heap q1h]; rfl
                  have n2 : wq.frozen? ⟨w.heap.size + 1, 2, none⟩ = false := by simp [World.frozen?, q1h]
                  have p0 : wq.cell? ⟨w.heap.size + 1, 0, none⟩ = some (.string R) := by rw [Lib.cell_of_heap q1h]; rfl
                  have p1 : wq.cell? ⟨w.heap.size + 1, 1, none⟩ = some (.slice o i cp) := by rw [Lib.cell_of_heap q1h]; rfl
                  have q2h := block_set q1h (i := 2) (.string M)
                  have hBs : Below w.heap.size w (wq.setCell ⟨w.heap.size + 1, 2, none⟩ (.string M)) := hBq.setCell (by show w.heap.size ≤ w.heap.size + 1; omega) _
                  have q3h : (wq.setCell ⟨w.heap.size + 1, 2, none⟩ (.string M)).heap[w.heap.size]? = some (.cells #[.string ⟨#[]⟩, .slice none 0 0, .string ⟨#[]⟩] 24 (0, 0)) := by rw [Below.heap_setCell _ _ _ _ (show w.heap.size ≠ w.heap.size + 1 by omega)]; exact q0h
                  have Q2 := Lib.hid q2h
                  have Q3 := Lib.hid q3h
                  have HSS := Lib.hid hss
                  have HOO := Lib.hid hoo
                  clear q2h q3h q0h q1h hss hw2 hownq hoo
                  go_wp2_with (go_at_call 31; refine (hcall _ HSS.out).mono ?_; rintro e w5 ⟨rfl, hb5⟩; have h5a := (hb5.block w.heap.size (Array.getElem?_eq_some_iff.1 Q3.out).1).trans Q3.out; have h5b := (hb5.block (w.heap.size + 1) (Array.getElem?_eq_some_iff.1 Q2.out).1).trans Q2.out; have H5a := Lib.hid h5a; have s0 : w5.cell? ⟨w.heap.size + 1, 0, none⟩ = some (.string R) := (by (rw [Lib.cell_of_heap h5b]; rfl)); have s1 : w5.cell? ⟨w.heap.size + 1, 1, none⟩ = some (.slice o i cp) := (by (rw [Lib.cell_of_heap h5b]; rfl)); have s2 : w5.cell? ⟨w.heap.size + 1, 2, none⟩ = some (.string M) := (by (rw [Lib.cell_of_heap h5b]; rfl)); have t0 : w5.cell? ⟨w.heap.size, 0, none⟩ = some (.string ⟨#[]⟩) := (by (rw [Lib.cell_of_heap h5a]; rfl)); have t1 : w5.cell? ⟨w.heap.size, 1, none⟩ = some (.slice none 0 0) := (by (rw [Lib.cell_of_heap h5a]; rfl)); have t2 : w5.cell? ⟨w.heap.size, 2, none⟩ = some (.string ⟨#[]⟩) := (by (rw [Lib.cell_of_heap h5a]; rfl)); have v0 : w5.frozen? ⟨w.heap.size, 0, none⟩ = false := (by simp [World.frozen?, h5a]); have v1 : w5.frozen? ⟨w.heap.size, 1, none⟩ = false := (by simp [World.frozen?, h5a]); have v2 : w5.frozen? ⟨w.heap.size, 2, none⟩ = false := (by simp [World.frozen?, h5a]); have hB5 := Below.trans hBs (hb5.mono hBs.size); clear h5a h5b; cases rt)
                  · have hfin := block_set3 (x := .string ⟨#[]⟩) (y := .slice none 0 0) (z := .string ⟨#[]⟩) H5a.out
                    have d0 := Lib.cell_of_heap hfin 0
                    have d1 := Lib.cell_of_heap hfin 1
                    have d2 := Lib.cell_of_heap hfin 2
                    have e0 : ans = none := by rw [E0.out]; rfl
                    subst e0
                    clear hfin
                    go_wp2
                    exact bodyPost_ret (v := .tuple #[.agg #[.string ⟨#[]⟩, .slice none 0 0, .string ⟨#[]⟩], .bool false]) (by simp [results, Try.results16, go_sem, d0, d1, d2]) rfl (CmtOut.none rfl (((hB5.setCell (Nat.le_refl _) _).setCell (Nat.le_refl _) _).setCell (Nat.le_refl _) _))
                  · have hfin := block_set3 (x := .string R) (y := .slice o i cp) (z := .string M) H5a.out
                    have d0 := Lib.cell_of_heap hfin 0
                    have d1 := Lib.cell_of_heap hfin 1
                    have d2 := Lib.cell_of_heap hfin 2
                    have hne : ∀ x, o = some x → x.block ≠ w.heap.size := fun x hx => by have := (HOO.out x hx).1; omega
                    have hse := (((HSS.out.below hb5).set ⟨w.heap.size, 0, none⟩ (.string R) hne).set ⟨w.heap.size, 1, none⟩ (.slice o i cp) hne).set ⟨w.heap.size, 2, none⟩ (.string M) hne
                    have Hse := Lib.hid hse
                    clear hfin hse
                    go_wp2
                    exact bodyPost_ret (v := .tuple #[.agg #[.string R, .slice o i cp, .string M], .bool true]) (by simp [results, Try.results16, go_sem, d0, d1, d2]) rfl ⟨⟨R, pars b i, M⟩, o, cp, true, by (show _ = Ending.returned (.tuple #[.agg #[.string R, .slice o (pars b i).length cp, .string M], .bool true])); rw [pars_length], Hse.out, hnn, by (show (pars b i).length ≤ cp); rw [pars_length]; exact hlc, fun x hx => by (have := (HOO.out x hx).1; omega), (((hB5.setCell (Nat.le_refl _) _).setCell (Nat.le_refl _) _).setCell (Nat.le_refl _) _), fun _ => by rw [E0.out]; rfl, fun h => by cases h⟩)
              · have e8 : ((Q.size : Int) - 2 != (x : Int) * 256 + (y : Int)) = true := bne_iff_ne.2 (by omega)
                have e0 : ans = none := by
                  rw [HC.out.1.1]
                  unfold readC
                  rw [if_neg]
                  rintro ⟨_, h, _⟩
                  rw [← HC.out.2.1, hnum, hcut] at h
                  exact hm h
                subst e0
                clear hm hM hnum hx hy hQ hqz hh0 hh1 hown hcut hwh
                go_wp2
                go_quiet (fail)
                all_goals (
                  obtain ⟨hBq, q0h, q1h, hownq⟩ := HQN.out nq
                  obtain ⟨wq, hwq⟩ : ∃ wq, wq = wr.drewN nq := ⟨_, rfl⟩
                  rw [← hwq] at hBq q0h q1h hownq ⊢
                  clear hwq
                  have r0 : wq.cell? ⟨w.heap.size, 0, none⟩ = some (.string ⟨#[]⟩) := by rw [Lib.cell_of_heap q0h]; rfl
                  have r1 : wq.cell? ⟨w.heap.size, 1, none⟩ = some (.slice none 0 0) := by rw [Lib.cell_of_heap q0h]; rfl
                  have r2 : wq.cell? ⟨w.heap.size, 2, none⟩ = some (.string ⟨#[]⟩) := by rw [Lib.cell_of_heap q0h]; rfl
                  have g0 : wq.frozen? ⟨w.heap.size, 0, none⟩ = false := by simp [World.frozen?, q0h]
                  have g1 : wq.frozen? ⟨w.heap.size, 1, none⟩ = false := by simp [World.frozen?, q0h]
                  have g2 : wq.frozen? ⟨w.heap.size, 2, none⟩ = false := by simp [World.frozen?, q0h]
                  have hfin := block_set3 (x := .string ⟨#[]⟩) (y := .slice none 0 0) (z := .string ⟨#[]⟩) q0h
                  have d0 := Lib.cell_of_heap hfin 0
                  have d1 := Lib.cell_of_heap hfin 1
                  have d2 := Lib.cell_of_heap hfin 2
                  clear hfin q0h q1h hownq
                  go_wp2
                  exact bodyPost_ret (v := .tuple #[.agg #[.string ⟨#[]⟩, .slice none 0 0, .string ⟨#[]⟩], .bool false]) (by simp [results, Try.results16, go_sem, d0, d1, d2]) rfl (CmtOut.none rfl (((hBq.setCell (Nat.le_refl _) _).setCell (Nat.le_refl _) _).setCell (Nat.le_refl _) _)))
    · have e2 : (((by8 b 0).toNat : Int) != 67) = true := bne_iff_ne.2 (fun h => h67 (UInt8.toNat_inj.1 (by have : (67 : UInt8).toNat = 67 := rfl; omega)))
      have e0 : ans = none := by
        rw [hans]
        unfold readC whole
        rw [show (by8 b 0 == 67) = false by simpa using h67]
        simp
      obtain ⟨z, hz⟩ : ∃ z : Int, z = (by8 b 0).toNat := ⟨_, rfl⟩
      rw [← hz] at ix0 e2
      subst e0
      clear hans h34 hz h67 ix33
      go_enter Try.func16, Try.ntmps16
      go_wp2
      exact bodyPost_ret (v := .tuple #[.agg #[.string ⟨#[]⟩, .slice none 0 0, .string ⟨#[]⟩], .bool false]) (by simp [results, Try.results16, go_sem]) rfl (CmtOut.none rfl ((Below.refl _ _).alloc (Nat.le_refl _) _))
end Go.Proofs.Ytkjgbldooflodaa
