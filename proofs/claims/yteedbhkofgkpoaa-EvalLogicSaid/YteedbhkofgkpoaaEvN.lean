/-
  Check of an AND of a null and a truth.
-/
import Derived.Test.YteedbhkofgkpoaaEvK
import Derived.Test.YteedbhkofgkpoaaEvL
import Derived.Test.YteedbhkofgkpoaaEvM
import Derived.Laws.AppendOwn
import Derived.Laws.OwnMore
namespace Go.Proofs.Yteedbhkofgkpoaa
open Go.RowKit Ev
set_option maxRecDepth 100000
set_option linter.unusedVariables false
set_option linter.unusedSimpArgs false
theorem own_below1 {w w' : World} {base n size : Nat} {e : TypeId} {v : Value} {xs : List Value} (h : w.ownsRow base e size v n xs) (hb : Below w.heap.size w w') : w'.ownsRow base e size v n xs :=
  h.kept (row := none) ⟨hb.os, hb.tape, hb.output, hb.size, fun i hi _ => hb.block i hi⟩ (by cases v.ownBlock <;> simp)
theorem row_some {w : World} {base n : Nat} {e : TypeId} {v : Value} {xs : List Value} (h : w.ownsRow base e 1 v n xs) (hn : 0 < n) : ∃ g cap, v = .slice (some ⟨g, 0, none⟩) n cap ∧ n ≤ cap ∧ g < w.heap.size ∧ base ≤ g := by
  rcases h.2 with ⟨_, h⟩ | ⟨g, cap, cur, rfl, hb, hg, hc, _⟩
  · omega
  · exact ⟨g, cap, rfl, hc, (Array.getElem?_eq_some_iff.1 hg).1, hb⟩
theorem setCells_below {B b : Nat} {a w : World} (hb : B ≤ b) (h : Below B a w) (o : Nat) (v : Value) : Below B a (w.setCells b o [v]) := by
  simpa [World.setCells] using h.setCell (p := ⟨b, o, none⟩) hb v
abbrev lay1 (w : World) (op text : ByteArray) (n : Int) (k : Value) : World := w.alloc (.cells #[.string op, .string text, .int .i64 n, k] 27)
theorem one_cell (w : World) (v : Value) (t : TypeId) : ∀ (j : Nat) (x : Value), [v][j]? = some x → (w.alloc (.cells #[v] t)).cell? ((⟨w.heap.size, 0, none⟩ : Addr).add j) = some x := by
  intro j x hx
  cases j with
  | zero =>
    simp at hx
    subst hx
    rw [show (⟨w.heap.size, 0, none⟩ : Addr).add 0 = ⟨w.heap.size, 0, none⟩ from rfl, Lib.cell_of_heap (heap_alloc_new w _)]
    rfl
  | succ j => simp at hx
set_option maxHeartbeats 1000000 in
theorem check_and (m : Int) (g c : Nat) (t' : ByteArray) (a b : Int) (s : ByteArray) (w : World) (ha : NodeAt w g 0 ⟨#[110, 117, 108, 108]⟩ s a (.slice none 0 0)) (hb : NodeAt w g 4 ⟨#[98, 111, 111, 108]⟩ t' b (.slice none 0 0)) :
    Calls Try.prog 11 #[nd ⟨#[98, 105, 110]⟩ ⟨#[65, 78, 68]⟩ m (.slice (some ⟨g, 0, none⟩) 2 c), .slice none 0 0] w fun e w' => e = .returned (.tuple #[.int .i64 2, .int .i64 0]) ∧ Below w.heap.size w w' := by
  obtain ⟨i0, hi0, hz0, hz1, hz2⟩ := info_parts (P := Try.prog) (e := 3) (z := .int .i64 0) (size := 1) (bytes := 8) (by kernel_rfl)
  have hc0 := fun W => check_null s a (.slice none 0 0) (.slice none 0 0) W
  have hc1 := fun W => check_bool t' b (.slice none 0 0) (.slice none 0 0) W
  have hof := fun W => of_and m (some ⟨g, 0, none⟩) c W
  have hb0 : Below w.heap.size w (lay1 w ⟨#[98, 105, 110]⟩ ⟨#[65, 78, 68]⟩ m (.slice (some ⟨g, 0, none⟩) 2 c)) := (Below.refl _ _).alloc (Nat.le_refl _) _
  have hs0 : (lay1 w ⟨#[98, 105, 110]⟩ ⟨#[65, 78, 68]⟩ m (.slice (some ⟨g, 0, none⟩) 2 c)).heap.size = w.heap.size + 1 := by simp
  have hB0 : Box (lay1 w ⟨#[98, 105, 110]⟩ ⟨#[65, 78, 68]⟩ m (.slice (some ⟨g, 0, none⟩) 2 c)) w.heap.size ⟨#[98, 105, 110]⟩ ⟨#[65, 78, 68]⟩ m (.slice (some ⟨g, 0, none⟩) 2 c) := heap_alloc_new w _
  unfold nd at hc0 hc1 hof ⊢
  go_enter Try.func11, Try.ntmps11
  go_wp2_with (fail)
  go_at_call 23
  refine (shaped_bin ⟨#[65, 78, 68]⟩ m _ c _).mono ?_
  rintro e w1 ⟨rfl, hB⟩
  have ha1 := (ha.below hb0).below hB
  have hb1 := (hb.below hb0).below hB
  have hB1 := hB0.below hB
  have hbw := hb0.trans (hB.mono hb0.size)

  clear ha hb hB0 hB hb0 hs0
  obtain ⟨n0, n1, n2, n3⟩ := hB1.at
  go_wp2
  clear n0 n1 n2 n3
  go_loopw [8, 52] (fun v k wr => ∃ l : List Value, wr.ownsRow w1.heap.size 3 1 v l.length l ∧ Below w1.heap.size w1 wr ∧ ((k = .int .i64 0 ∧ l = []) ∨ (k = .int .i64 1 ∧ l = [.int .i64 0]) ∨ (k = .int .i64 2 ∧ l = [.int .i64 0, .int .i64 2])))
    (fun _ k _ => 2 - (intOf k).toNat)
  case atStart => exact ⟨[], World.ownsRow_nil _ _ _ _, Below.refl _ _, .inl ⟨rfl, rfl⟩⟩
  case round =>
    obtain ⟨l, hown, hB, h⟩ := hrel
    have ha2 := ha1.below hB
    have hb2 := hb1.below hB
    obtain ⟨p0, p1, p2, p3⟩ := ha2
    obtain ⟨q0, q1, q2, q3⟩ := hb2
    rcases h with ⟨rfl, rfl⟩ | ⟨rfl, rfl⟩ | ⟨rfl, rfl⟩
    · go_wp2_with (fail)
      go_at_call 11
      refine (hc0 _).mono ?_
      rintro e w2 ⟨rfl, hB2⟩
      have hown2 := own_below1 (hown.alloc _) hB2
      have hB3 := (hB.alloc hB.size _).trans (hB2.mono (by have := hB.size; simp; omega))
      have hs2 : wr.heap.size + 1 ≤ w2.heap.size := by simpa using hB2.size
      have hs1 := hB.size
      clear hB2 hown hB p0 p1 p2 p3 q0 q1 q2 q3
      go_wp2_with (at_builtin; refine wpList_append_own _ rfl _ _ 56 rfl w1.heap.size 3 i0 (.int .i64 0) 1 8 Try.underlying56 hi0 hz0 hz1 hz2 rfl (by decide) _ _ _ rfl (hown2.alloc _) ⟨w2.heap.size, 0, none⟩ 1 1 [.int .i64 0] rfl rfl ?c1 ?c2 ?c3 ?c4 ?c5 ?_)
      case c1 => exact one_cell _ _ _
      case c2 => simp [Value.oneCell']
      case c3 => unfold maxLen; simp
      case c4 => simp
      case c5 => exact Nat.le_trans hB3.size (by simp)
      intro v' w' hown' hgrow _
      go_wp2
      go_roundw
      case rel => exact ⟨[.int .i64 0], hown', (hB3.alloc hB3.size _).grown hgrow (Nat.le_trans hB3.size (by simp)) (fun k hk => (hown2.lt k hk).1), .inr (.inl ⟨by go_num, rfl⟩)⟩
      case measure => simp [intOf]
    · go_wp2_with (fail)
      go_at_call 11
      refine (hc1 _).mono ?_
      rintro e w2 ⟨rfl, hB2⟩
      have hown2 := own_below1 (hown.alloc _) hB2
      have hB3 := (hB.alloc hB.size _).trans (hB2.mono (by have := hB.size; simp; omega))
      have hs2 : wr.heap.size + 1 ≤ w2.heap.size := by simpa using hB2.size
      have hs1 := hB.size
      clear hB2 hown hB p0 p1 p2 p3 q0 q1 q2 q3
      go_wp2_with (at_builtin; refine wpList_append_own _ rfl _ _ 56 rfl w1.heap.size 3 i0 (.int .i64 0) 1 8 Try.underlying56 hi0 hz0 hz1 hz2 rfl (by decide) _ _ _ rfl (hown2.alloc _) ⟨w2.heap.size, 0, none⟩ 1 1 [.int .i64 2] rfl rfl ?c1 ?c2 ?c3 ?c4 ?c5 ?_)
      case c1 => exact one_cell _ _ _
      case c2 => simp [Value.oneCell']
      case c3 => unfold maxLen; simp
      case c4 => simp
      case c5 => exact Nat.le_trans hB3.size (by simp)
      intro v' w' hown' hgrow _
      go_wp2
      go_roundw
      case rel => exact ⟨[.int .i64 0, .int .i64 2], hown', (hB3.alloc hB3.size _).grown hgrow (Nat.le_trans hB3.size (by simp)) (fun k hk => (hown2.lt k hk).1), .inr (.inr ⟨by go_num, rfl⟩)⟩
      case measure => simp [intOf]
    · obtain ⟨g2, c2, rfl, hc2, hg2, hbg⟩ := row_some hown (by simp)
      have e0 := hown.cellAt 0 (by simp)
      have e1 := hown.cellAt 1 (by simp)
      have f0 := hown.frozenAt 0
      have f1 := hown.frozenAt 1
      obtain ⟨n0, n1, n2, n3⟩ := (hB1.below hB).at
      clear p0 p1 p2 p3 q0 q1 q2 q3 hown
      go_wp2_with (fail)
      go_at_call 24
      refine (hof _).mono ?_
      rintro e w2 ⟨rfl, hB2⟩
      have hB3 := hB.trans (hB2.mono hB.size)
      have e0' : w2.cell? ⟨g2, 0, none⟩ = some (.int .i64 0) := (hB2.cell (p := ⟨g2, 0, none⟩) hg2).trans e0
      have e1' : w2.cell? ⟨g2, 1, none⟩ = some (.int .i64 2) := (hB2.cell (p := ⟨g2, 1, none⟩) hg2).trans e1
      have f0' := (hB2.frozen (p := ⟨g2, 0, none⟩) hg2).trans f0
      have f1' := (hB2.frozen (p := ⟨g2, 1, none⟩) hg2).trans f1
      clear n0 n1 n2 n3 hB e0 e1 f0 f1
      go_wp2_with (fail)
      go_at_call 25
      refine (delete2 g2 c2 w2 hc2 e0' e1' f0' f1').mono ?_
      rintro e w3 ⟨rfl, hw3⟩
      have hBf : Below w.heap.size w w3 := by
        rw [hw3]
        exact setCells_below (Nat.le_trans hbw.size hbg) ((hbw.trans (hB3.mono hbw.size)).setCell (p := ⟨g2, 0, none⟩) (Nat.le_trans hbw.size hbg) _) _ _
      have d0 : w3.cell? ⟨g2, 0, none⟩ = some (.int .i64 2) := by
        rw [hw3]
        rw [World.cell?_setCells_out]
        · exact World.cell?_setCell_same' _ _ _ (by rw [e0']; rfl)
        · intro _ _; left; simp
      clear hw3 e0' e1' f0' f1' hB3 hB2
      go_wp2
      go_loop [82] (fun k => k = .int .i64 0 ∨ k = .int .i64 1) (fun k => 1 - (intOf k).toNat)
      case atStart => exact .inl rfl
      case round =>
        rcases hrel with rfl | rfl
        · go_wp2
          go_round
          case rel => exact .inr (by go_num)
          case measure => simp [intOf]
        · go_wp2
          exact bodyPost_ret (v := .tuple #[.int .i64 2, .int .i64 0]) (by simp [results, Try.results11, go_sem]) rfl ⟨rfl, hBf⟩
end Go.Proofs.Yteedbhkofgkpoaa
