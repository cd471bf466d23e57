/-
  The heap of prints: heap.Pop, heap.Push: the texts are the same ones, but for the one.
-/
import Derived.Test.YtkjgbldooflodaaCo2
import Derived.Deep.AppendLies
namespace Go.Proofs.Ytkjgbldooflodaa
open Go.RowKit Cm Mp
set_option maxRecDepth 100000
set_option linter.unusedVariables false
set_option linter.unusedSimpArgs false
theorem Bx.cap {w : World} {B fb rb c : Nat} {l : List ByteArray} (h : Bx w B fb rb c l) : l.length ≤ c := by
  rcases h.row.2 with ⟨e1, _⟩ | ⟨g, cap, cur, e1, _, hb, hcap, _⟩
  · cases e1
  · injection e1 with _ _ e1
    subst e1
    exact hcap
theorem pop_gen (B fb rb c : Nat) (ts : List ByteArray) (x : ByteArray) (w : World) (h : Bx w B fb rb c (ts ++ [x])) (hl : ts.length ≤ 1000000) :
    Calls Try.prog 89 #[.pointer (some ⟨fb, 0, none⟩)] w fun e w' => e = .returned (.iface 9 (.string x)) ∧ Bx w' B fb rb c ts ∧ But fb rb w w' := by
  have hc := h.cap
  have k0 := h.cell
  have hbox := h.box
  have hrow := h.row
  have hne := h.ne
  obtain ⟨N, hN⟩ : ∃ N, N = ts.length := ⟨_, rfl⟩
  have hlen : (ts ++ [x]).length = N + 1 := by rw [List.length_append, hN]; rfl
  rw [hlen] at hc k0 hbox hrow
  have k1 : w.cell? ⟨rb, N, none⟩ = some (.string x) := row_at hrow (by rw [hN, List.getElem?_append_right (Nat.le_refl _), Nat.sub_self]; rfl)
  have f0 : w.frozen? ⟨fb, 0, none⟩ = false := by simp [World.frozen?, hbox]
  have d1 : IntKind.i64.wrap (N : Int) = N := wrap_fit _ (by omega) (by omega)
  have d2 : IntKind.i64.wrap ((N : Int) + 1) = (N : Int) + 1 := wrap_fit _ (by omega) (by omega)
  have d3 : (N : Int) < (N : Int) + 1 := by omega
  have d4 : (N : Int) ≤ c := by omega
  have hfin : Bx (w.setCell ⟨fb, 0, none⟩ (.slice (some ⟨rb, 0, none⟩) N c)) B fb rb c ts ∧ But fb rb w (w.setCell ⟨fb, 0, none⟩ (.slice (some ⟨rb, 0, none⟩) N c)) := by
    refine ⟨⟨by rw [← hN]; exact block_set hbox (i := 0) _, ?_⟩, (But.of_below (Below.refl _ _)).set 0 _⟩
    rw [← hN]
    refine World.ownsRow.kept (w := w) (row := some fb) ?_ (gb_set w ⟨fb, 0, none⟩ _) (.inr ?_)
    · exact ownsRow_pop (n := N) (size := 1) (xs := ts.map Value.string) (last := [.string x]) (by rw [List.length_map, hN, Nat.mul_one]) (by simpa using hrow)
    · simp [Value.ownBlock]
      omega
  have HF := Lib.hid hfin
  clear h hbox hrow hfin hN hlen
  go_enter Try.func89, Try.ntmps89
  go_wp2
  go_ret
  exact ⟨rfl, HF.out.1, HF.out.2⟩
set_option maxHeartbeats 2000000 in
theorem push_gen (B fb rb c : Nat) (l : List ByteArray) (x : ByteArray) (w : World) (h : Bx w B fb rb c l) (hl : l.length ≤ 1000000) (hB : B ≤ w.heap.size) :
    Calls Try.prog 90 #[.pointer (some ⟨fb, 0, none⟩), .iface 9 (.string x)] w fun e w' => e = .returned (.tuple #[]) ∧ ∃ rb' c', Bx w' B fb rb' c' (l ++ [x]) ∧ But fb rb w w' ∧ (rb' = rb ∨ w.heap.size ≤ rb') := by
  obtain ⟨i0, hi0, hz0, hz1, hz2⟩ := info_parts (P := Try.prog) (e := 9) (z := .string ⟨#[]⟩) (size := 1) (bytes := 16) (by kernel_rfl)
  have k0 := h.cell
  have f0 : w.frozen? ⟨fb, 0, none⟩ = false := by simp [World.frozen?, h.box]
  have hbox := h.box
  have hrow := h.row
  have hlt := hrow.lt rb rfl
  have hne := h.ne
  have hfl := (Array.getElem?_eq_some_iff.1 h.box).1
  have hta := ta_str x
  have hlx : (l ++ [x]).length = l.length + 1 := by simp
  have HLX := Lib.hid hlx
  clear hlx
  obtain ⟨N, hN⟩ : ∃ N, N = l.length := ⟨_, rfl⟩
  rw [← hN] at k0 hbox hrow hl
  have HN := Lib.hid hN
  clear hN
  have HX : ∀ w1, ((w.alloc (.cells #[.string x] 9)).drew).grownBy w1 ((Value.slice (some ⟨rb, 0, none⟩) N c).ownBlock) → w1.heap[fb]? = some (.cells #[.slice (some ⟨rb, 0, none⟩) N c] 82 (0, 0)) ∧ w1.cell? ⟨fb, 0, none⟩ = some (.slice (some ⟨rb, 0, none⟩) N c) ∧ w1.frozen? ⟨fb, 0, none⟩ = false ∧ But fb rb w w1 := fun w1 hgrow => by
    have hsz : (w.alloc (.cells #[.string x] 9)).drew.heap.size = w.heap.size + 1 := by show (w.alloc _).heap.size = _; simp
    have hbx := (hgrow.block fb (by rw [hsz]; omega) (by simp only [Value.ownBlock, ne_eq, Option.some.injEq]; exact hne)).trans ((Lib.alloc_old w _ fb hfl).trans hbox)
    refine ⟨hbx, by rw [Lib.cell_of_heap hbx]; rfl, by simp [World.frozen?, hbx], hgrow.os, hgrow.tape, hgrow.output, Nat.le_trans (by rw [hsz]; omega) hgrow.size, fun k hk h1 h2 => (hgrow.block k (by rw [hsz]; omega) (by simp only [Value.ownBlock, ne_eq, Option.some.injEq]; exact h2)).trans (Lib.alloc_old w _ k hk)⟩
  have hld := ldB_eq
  clear h hbox
  go_enter Try.func90, Try.ntmps90
  simp only [← ldB_eq]
  go_region_held3 (fun _ => True) (exact trivial)
    (go_loud (refine step_append_lies _ (by rfl) _ _ _ (by rfl) B 9 i0 _ 1 16 Try.underlying82 hi0 hz0 hz1 hz2 rfl (by omega) (.slice (some ⟨rb, 0, none⟩) N c) N _ (by rfl) ((hrow.alloc _).drew) ⟨w.heap.size, 0, none⟩ 1 1 [.string x] (by rfl) (by rfl) (World.news_of_block (cs := #[.string x]) (t := 9) (fr := (0, 0)) (heap_alloc_new w _)) (by simp [Value.oneCell']) (by omega) (by unfold maxLen; omega) (by omega) (by simp; omega) (w.heap.size + 1) (by simp) ?_; intro gg cap w1 hown1 hgrow hat hlt1; obtain ⟨hbx, k5, k6, hbut⟩ := HX _ hgrow))
  all_goals (
    go_wp2
    have hat2 : gg = rb ∨ w.heap.size ≤ gg := by
      rcases hat with hat | hat
      · simp [Value.ownBlock] at hat
        exact .inl (by omega)
      · exact .inr (by omega)
    have hlx : (l ++ [x]).length = N + 1 := by rw [HLX.out, HN.out]
    refine ⟨rfl, .tuple #[], by simp [results, Try.results90, go_sem], rfl, gg, cap, ⟨by rw [hlx]; exact block_set hbx (i := 0) (.slice (some ⟨gg, 0, none⟩) (N + 1) cap), ?_⟩, ?_, hat2⟩
    · rw [hlx]
      refine World.ownsRow.kept (w := w1) (row := some fb) (by rw [List.map_append]; exact hown1) (gb_set w1 ⟨fb, 0, none⟩ _) (.inr ?_)
      have hgf : gg ≠ fb := by
        rcases hat2 with hat | hat
        · omega
        · omega
      simp [Value.ownBlock]
      exact hgf
    · exact hbut.set 0 _)
set_option maxHeartbeats 2000000 in
theorem hpop_gen (B fb rb c : Nat) (l : List ByteArray) (w : World) (h : Bx w B fb rb c l) (h0 : 0 < l.length) (hl : l.length ≤ 1000000) :
    Calls Try.prog 38 #[lp fb] w fun e w' => ∃ x l', e = .returned (.iface 9 (.string x)) ∧ Bx w' B fb rb c l' ∧ (x :: l').Perm l ∧ But fb rb w w' := by
  obtain ⟨N, hN⟩ : ∃ N, l.length = N + 1 := ⟨l.length - 1, by omega⟩
  have k0 := h.cell
  rw [hN] at k0
  have m1 := mLen k0
  have m2 := mSwap k0
  have m3 := mPop
  have d1 : IntKind.i64.wrap (N : Int) = N := wrap_fit _ (by omega) (by omega)
  have hsw : Calls Try.prog 91 #[.slice (some ⟨rb, 0, none⟩) (N + 1) c, .int .i64 0, .int .i64 N] w fun e w' => ∃ l1, e = .returned (.tuple #[]) ∧ l1.length = N + 1 ∧ Bx w' B fb rb c l1 ∧ l1.Perm l ∧ But fb rb w w' := by
    have q := swap_any B rb c l.length l 0 N w h.row rfl (by omega) (by omega) (by omega)
    rw [hN] at q
    refine q.mono ?_
    rintro e w' ⟨rfl, hr, hg⟩
    exact ⟨_, rfl, by rw [swapL_length]; exact hN, h.swapped (swapL_length l 0 N) hg (by rw [hN]; exact hr), swapL_perm l 0 N (by omega) (by omega), But.of_grown hg⟩
  have hbut0 : But fb rb w w := But.of_below (Below.refl _ _)
  have HL := Lib.hid (And.intro hN hl)
  clear h h0 hN hl
  unfold lp
  go_enter Try.func38, Try.ntmps38
  go_wp2_with (fail)
  go_at_call 37
  refine (len_any _ _ _ _).mono ?_
  rintro e w1 ⟨rfl, rfl⟩
  go_wp2_with (fail)
  go_at_call 91
  with_reducible refine hsw.mono ?_
  rintro e w2 ⟨l1, rfl, hl1, hb2, hp2, hbut2⟩
  have q3 := down_gen B fb rb c N l1 w2 hb2 (by omega) (by have := HL.out; omega)
  have HP2 := Lib.hid (And.intro hp2 hl1)
  unfold lp at q3
  clear hsw m1 m2 hl1 hp2
  go_wp2_with (fail)
  go_at_call 52
  with_reducible refine q3.mono ?_
  rintro e w3 ⟨bo, rfl, l3, hb3, hp3, hbut3⟩
  obtain ⟨ts, x, hts⟩ := concat_of (l := l3) (by rw [hp3.length_eq, HP2.out.2]; omega)
  subst hts
  have q4 := pop_gen B fb rb c ts x w3 hb3 (by have := hp3.length_eq; rw [HP2.out.2, List.length_append, List.length_singleton] at this; have := HL.out; omega)
  have hbut4 := hbut2.trans hbut3
  have HP3 := Lib.hid (hp3.trans HP2.out.1)
  clear q3 hb2 hbut2 hbut3 hp3 hb3
  go_wp2_with (fail)
  go_at_call 89
  with_reducible refine q4.mono ?_
  rintro e w4 ⟨rfl, hb4, hbut5⟩
  go_wp2
  go_ret
  exact ⟨x, ts, rfl, hb4, (List.perm_append_comm (l₁ := [x]) (l₂ := ts)).trans HP3.out, hbut4.trans hbut5⟩
set_option maxHeartbeats 2000000 in
theorem hpush_gen (B fb rb c : Nat) (l : List ByteArray) (x : ByteArray) (w : World) (h : Bx w B fb rb c l) (hl : l.length ≤ 900000) (hB : B ≤ w.heap.size) :
    Calls Try.prog 39 #[lp fb, .iface 9 (.string x)] w fun e w' => e = .returned (.tuple #[]) ∧ ∃ rb' c' l', Bx w' B fb rb' c' l' ∧ l'.Perm (x :: l) ∧ (∀ k, k < w.heap.size → k ≠ fb → k ≠ rb → w'.heap[k]? = w.heap[k]?) ∧ w'.os = w.os ∧ w'.tape = w.tape ∧ w'.output = w.output ∧ w.heap.size ≤ w'.heap.size ∧ (rb' = rb ∨ w.heap.size ≤ rb') := by
  have m3 := mPush
  have q1 := push_gen B fb rb c l x w h (by omega) hB
  unfold lp
  go_enter Try.func39, Try.ntmps39
  go_wp2_with (fail)
  go_at_call 90
  with_reducible refine q1.mono ?_
  rintro e w1 ⟨rfl, rb', c', hb1, hbut1, hloc⟩
  have hlx : (l ++ [x]).length = l.length + 1 := by simp
  have k1 := hb1.cell
  rw [hlx] at k1
  have m1 := mLen k1
  have d1 : IntKind.i64.wrap (l.length : Int) = l.length := wrap_fit _ (by omega) (by omega)
  have q2 := up_gen B fb rb' c' (l ++ [x]) l.length w1 hb1 (by omega) (by omega)
  unfold lp at q2
  have HH := Lib.hid (And.intro hbut1 hloc)
  clear hlx q1 hbut1 hloc h
  go_wp2_with (fail)
  go_at_call 37
  refine (len_any _ _ _ _).mono ?_
  rintro e w2 ⟨rfl, rfl⟩
  go_wp2_with (fail)
  go_at_call 53
  with_reducible refine q2.mono ?_
  rintro e w3 ⟨rfl, l3, hb3, hp3, hbut3⟩
  go_wp2
  obtain ⟨hbut1, hloc⟩ := HH.out
  refine ⟨rfl, .tuple #[], by simp [results, Try.results39, go_sem], rfl, rb', c', l3, hb3, hp3.trans (List.perm_append_comm (l₁ := l) (l₂ := [x])), fun k hk h1 h2 => ?_, hbut3.1.trans hbut1.1, hbut3.2.1.trans hbut1.2.1, hbut3.2.2.1.trans hbut1.2.2.1, Nat.le_trans hbut1.2.2.2.1 hbut3.2.2.2.1, hloc⟩
  have hk3 : k ≠ rb' := by
    rcases hloc with e | e
    · omega
    · omega
  exact (hbut3.2.2.2.2 k (Nat.lt_of_lt_of_le hk hbut1.2.2.2.1) h1 hk3).trans (hbut1.2.2.2.2 k hk h1 h2)
end Go.Proofs.Ytkjgbldooflodaa
