/-
  The walk of the law EvalLogic.
-/
import Derived.Test.YteedbhkofgkpoaaEvV
import Derived.Test.YteedbhkofgkpoaaEvX
import Derived.BigQuiet
import Derived.Deep.RegionHeld3
import Derived.Deep.CutRange
namespace Go.Proofs.Yteedbhkofgkpoaa
open Go.RowKit Ev
set_option maxRecDepth 100000
set_option linter.unusedVariables false
set_option linter.unusedSimpArgs false
abbrev obj3 : Obj := .cells #[.string ⟨#[98, 111, 111, 108]⟩, .string ⟨#[]⟩, .int .i64 0, .slice none 0 0, .string ⟨#[98, 111, 111, 108]⟩, .string ⟨#[]⟩, .int .i64 1, .slice none 0 0, .string ⟨#[110, 117, 108, 108]⟩, .string ⟨#[]⟩, .int .i64 0, .slice none 0 0] 27
def lop (i : Nat) : ByteArray := if i = 2 then ⟨#[110, 117, 108, 108]⟩ else ⟨#[98, 111, 111, 108]⟩
def lnum (i : Nat) : Int := if i = 1 then 1 else 0
def lX (i : Nat) : X := if i = 2 then .null else .bool (lnum i)
theorem obj3_at (w : World) (i : Nat) (hi : i < 3) : NodeAt (w.alloc obj3) w.heap.size (i * 4) (lop i) ⟨#[]⟩ (lnum i) (.slice none 0 0) := by
  have hc := Lib.cell_of_heap (heap_alloc_new w obj3)
  match i, hi with
  | 0, _ => exact ⟨by rw [hc]; rfl, by rw [hc]; rfl, by rw [hc]; rfl, by rw [hc]; rfl⟩
  | 1, _ => exact ⟨by rw [hc]; rfl, by rw [hc]; rfl, by rw [hc]; rfl, by rw [hc]; rfl⟩
  | 2, _ => exact ⟨by rw [hc]; rfl, by rw [hc]; rfl, by rw [hc]; rfl, by rw [hc]; rfl⟩
theorem rem3 (a : Int) : ∃ (r : Int) (i : Nat), a.tmod 3 = r ∧ -2 ≤ r ∧ r ≤ 2 ∧ (r + 3).tmod 3 = (i : Int) ∧ i < 3 := by
  have h1 := Int.natAbs_tmod a 3
  have h2 : a.natAbs % 3 < 3 := Nat.mod_lt _ (by omega)
  have h3 : (3 : Int).natAbs = 3 := rfl
  rw [h3] at h1
  refine ⟨a.tmod 3, (((a.tmod 3) + 3) % 3).toNat, rfl, by omega, by omega, ?_, by omega⟩
  rw [Int.tmod_eq_emod_of_nonneg (by omega)]
  omega
theorem i64_wrap_in (x : Int) (h0 : -9223372036854775808 ≤ x) (h1 : x ≤ 9223372036854775807) : IntKind.i64.wrap x = x := by rw [IntKind.wrap_i64]; omega
theorem boxes {w' : World} {pb qb : Nat} {ox oy t t' : ByteArray} {nx ny : Int} {k k' : Value} (h : Box w' pb ox t nx k) (h' : Box w' qb oy t' ny k') :
    w'.cell? ⟨pb, 0, none⟩ = some (.string ox) ∧ w'.cell? ⟨pb, 1, none⟩ = some (.string t) ∧ w'.cell? ⟨pb, 2, none⟩ = some (.int .i64 nx) ∧ w'.cell? ⟨pb, 3, none⟩ = some k ∧ w'.cell? ⟨qb, 0, none⟩ = some (.string oy) ∧ w'.cell? ⟨qb, 1, none⟩ = some (.string t') ∧ w'.cell? ⟨qb, 2, none⟩ = some (.int .i64 ny) ∧ w'.cell? ⟨qb, 3, none⟩ = some k' := by
  obtain ⟨p0, p1, p2, p3⟩ := h.at
  obtain ⟨q0, q1, q2, q3⟩ := h'.at
  exact ⟨p0, p1, p2, p3, q0, q1, q2, q3⟩
theorem lX_ok (i : Nat) : Ok (lX i) := by unfold lX; split <;> trivial
theorem turned_work (i j : Nat) (v : Vl) (f : Int) (hv : v = (workX (.not (.bin 5 (.not (lX i)) (.not (lX j))))).1) (hf : f = (workX (.not (.bin 5 (.not (lX i)) (.not (lX j))))).2) :
    ∀ (g : Nat) (W : World), IsX W (.not (.bin 5 (.not (lX i)) (.not (lX j)))) ⟨#[110, 111, 116]⟩ ⟨#[]⟩ 0 (.slice (some ⟨g, 0, none⟩) 1 1) → Calls Try.prog 14 #[.agg #[.string ⟨#[110, 111, 116]⟩, .string ⟨#[]⟩, .int .i64 0, .slice (some ⟨g, 0, none⟩) 1 1], .slice none 0 0, .slice none 0 0] W fun e w' => e = .returned (.tuple #[.agg #[.int .i64 v.k, .int .i64 v.n, .string v.s], .int .i64 f]) ∧ Below W.heap.size W w' := fun g W h => by
  have hw := work_any (.not (.bin 5 (.not (lX i)) (.not (lX j)))) ⟨by omega, lX_ok i, lX_ok j⟩ _ _ _ _ (.slice none 0 0) (.slice none 0 0) W h
  rw [show workX (.not (.bin 5 (.not (lX i)) (.not (lX j)))) = (v, f) by rw [hv, hf]] at hw
  exact hw
abbrev obj2 (g1 g2 : Nat) : Obj := .cells #[.string ⟨#[110, 111, 116]⟩, .string ⟨#[]⟩, .int .i64 0, .slice (some ⟨g1, 0, none⟩) 1 1, .string ⟨#[110, 111, 116]⟩, .string ⟨#[]⟩, .int .i64 0, .slice (some ⟨g2, 0, none⟩) 1 1] 27
theorem lX_is (W : World) (i : Nat) (k : Value) : IsX W (lX i) (lop i) ⟨#[]⟩ (lnum i) k := by
  unfold lX lop
  split
  · exact rfl
  · exact ⟨rfl, rfl⟩
abbrev objV : Obj := .cells #[.int .i64 0, .int .i64 0, .string ⟨#[]⟩] 38
/-- The block of a value laid since wc. -/
def TB (wc w : World) (g : Nat) : Prop := Lies w g ⟨0, 0, ⟨#[]⟩⟩ ∧ wc.heap.size ≤ g
theorem tb_below {wc w w' : World} {g : Nat} (h : TB wc w g) (hb : Below w.heap.size w w') : TB wc w' g := ⟨h.1.below hb, h.2⟩
theorem tb_cells {wc w : World} {g : Nat} (h : TB wc w g) : w.cell? ⟨g, 0, none⟩ = some (.int .i64 0) ∧ w.cell? ⟨g, 1, none⟩ = some (.int .i64 0) ∧ w.cell? ⟨g, 2, none⟩ = some (.string ⟨#[]⟩) ∧ w.frozen? ⟨g, 0, none⟩ = false ∧ w.frozen? ⟨g, 1, none⟩ = false ∧ w.frozen? ⟨g, 2, none⟩ = false ∧ g < w.heap.size :=
  ⟨h.1.c0, h.1.c1, h.1.c2, h.1.free 0, h.1.free 1, h.1.free 2, h.1.lt⟩
theorem pair_not (w6 : World) (g1 g2 i j : Nat) (ox oy : ByteArray) (nx ny : Int) (h : (ox = lop i ∧ nx = lnum i) ∧ oy = lop j ∧ ny = lnum j) (h1 : NodeAt w6 g1 0 ox ⟨#[]⟩ nx (.slice none 0 0)) (h2 : NodeAt w6 g2 0 oy ⟨#[]⟩ ny (.slice none 0 0)) :
    IsX (w6.alloc (obj2 g1 g2)) (.bin 5 (.not (lX i)) (.not (lX j))) ⟨#[98, 105, 110]⟩ ⟨#[65, 78, 68]⟩ 0 (.slice (some ⟨w6.heap.size, 0, none⟩) 2 2) := by
  obtain ⟨⟨rfl, rfl⟩, rfl, rfl⟩ := h
  have hb : Below w6.heap.size w6 (w6.alloc (obj2 g1 g2)) := (Below.refl _ _).alloc (Nat.le_refl _) _
  exact pair_isx (k := 5) 0 (heap_alloc_new w6 _) ⟨rfl, g1, 1, _, _, _, _, rfl, h1.below hb, lX_is _ i _⟩ ⟨rfl, g2, 1, _, _, _, _, rfl, h2.below hb, lX_is _ j _⟩
theorem pair_not2 (w6 : World) (gq g1 g2 i j : Nat) (ox oy : ByteArray) (nx ny : Int) (h : (ox = lop i ∧ nx = lnum i) ∧ oy = lop j ∧ ny = lnum j) (h1 : NodeAt w6 g1 0 ox ⟨#[]⟩ nx (.slice none 0 0)) (h2 : NodeAt w6 g2 0 oy ⟨#[]⟩ ny (.slice none 0 0)) (hq : gq = w6.heap.size) :
    IsX (w6.alloc (obj2 g1 g2)) (.bin 5 (.not (lX i)) (.not (lX j))) ⟨#[98, 105, 110]⟩ ⟨#[65, 78, 68]⟩ 0 (.slice (some ⟨gq, 0, none⟩) 2 2) := by
  rw [hq]
  exact pair_not w6 g1 g2 i j ox oy nx ny h h1 h2
theorem not_isx {W : World} (g : Nat) {x : X} {o t : ByteArray} {n : Int} {q : Value} (h : NodeAt W g 0 o t n q) (hx : IsX W x o t n q) : IsX W (.not x) ⟨#[110, 111, 116]⟩ ⟨#[]⟩ 0 (.slice (some ⟨g, 0, none⟩) 1 1) := ⟨rfl, g, 1, o, t, n, q, rfl, h, hx⟩
theorem lX_eq : lX = lX' := rfl
theorem pair_calls (i j k : Nat) (hk : k = 5 ∨ k = 6) (ox oy : ByteArray) (nx ny : Int) (h : (ox = lop i ∧ nx = lnum i) ∧ oy = lop j ∧ ny = lnum j) (v : Vl) (hv : v = (workX (.bin k (lX i) (lX j))).1) (s : ByteArray) (hs : s = binS k) :
    ∀ W, Calls Try.prog 19 #[.string s, .agg #[.string ox, .string ⟨#[]⟩, .int .i64 nx, .slice none 0 0], .agg #[.string oy, .string ⟨#[]⟩, .int .i64 ny, .slice none 0 0]] W fun e w' => e = .returned (vv v) ∧ Below W.heap.size W w' := by
  obtain ⟨⟨rfl, rfl⟩, rfl, rfl⟩ := h
  intro W
  rw [hv, hs]
  exact two2_any k hk (lX i) (lX j) ⟨lX_ok i, lX_ok j⟩ _ _ _ _ _ _ none none 0 0 0 0 W (lX_is W i _) (lX_is W j _)
set_option maxHeartbeats 4000000 in
theorem logic_try (a b : Int) (w : World) : Calls Try.prog 6 #[.int .i64 a, .int .i64 b] w fun e w' => e = .returned (.bool true) ∧ Below w.heap.size w w' := by
  obtain ⟨r, i, hr, hr1, hr2, hri, hi⟩ := rem3 a
  obtain ⟨s, j, hs, hs1, hs2, hsj, hj⟩ := rem3 b
  go_enter Try.func6, Try.ntmps6
  go_wp2_with (fail)
  go_at_call 8
  refine (awake_any _).mono ?_
  rintro e w1 ⟨rfl, hB1⟩
  obtain ⟨ox, hox⟩ : ∃ o, o = lop i := ⟨_, rfl⟩
  obtain ⟨nx, hnx⟩ : ∃ n, n = lnum i := ⟨_, rfl⟩
  obtain ⟨oy, hoy⟩ : ∃ o, o = lop j := ⟨_, rfl⟩
  obtain ⟨ny, hny⟩ : ∃ n, n = lnum j := ⟨_, rfl⟩
  have hX := obj3_at w1 i hi
  have hY := obj3_at w1 j hj
  rw [← hox, ← hnx] at hX
  rw [← hoy, ← hny] at hY
  have HO := Lib.hid (And.intro (And.intro hox hnx) (And.intro hoy hny))
  clear hox hnx hoy hny
  obtain ⟨x0, x1, x2, x3⟩ := hX
  obtain ⟨y0, y1, y2, y3⟩ := hY
  go_wp2_with (fail)
  have g1 : IntKind.i64.wrap r = r := i64_wrap_in _ (by omega) (by omega)
  have g2 : IntKind.i64.wrap (r + 3) = r + 3 := i64_wrap_in _ (by omega) (by omega)
  have g3 : IntKind.i64.wrap (i : Int) = i := i64_wrap_in _ (by omega) (by omega)
  have g4 : IntKind.i64.wrap s = s := i64_wrap_in _ (by omega) (by omega)
  have g5 : IntKind.i64.wrap (s + 3) = s + 3 := i64_wrap_in _ (by omega) (by omega)
  have g6 : IntKind.i64.wrap (j : Int) = j := i64_wrap_in _ (by omega) (by omega)
  have g7 : (i : Int) < 3 := by omega
  have g8 : (j : Int) < 3 := by omega
  have g9 : (0 : Int) ≤ i := by omega
  have g10 : (0 : Int) ≤ j := by omega
  have g11 : ((i : Int)).toNat = i := by omega
  have g12 : ((j : Int)).toNat = j := by omega
  have hB2 := hB1.alloc hB1.size obj3
  have hlt : w1.heap.size < (w1.alloc obj3).heap.size := by simp
  generalize hW : w1.alloc obj3 = W at x0 x1 x2 x3 y0 y1 y2 y3 hB2 hlt ⊢
  clear hW
  generalize w1.heap.size = g at x0 x1 x2 x3 y0 y1 y2 y3 hlt ⊢
  clear hB1
  go_cut [6, 7] from 18 to 31 (fun p q wx => ∃ pb qb : Nat, p = .pointer (some ⟨pb, 0, none⟩) ∧ q = .pointer (some ⟨qb, 0, none⟩) ∧ Box wx pb ox ⟨#[]⟩ nx (.slice none 0 0) ∧ Box wx qb oy ⟨#[]⟩ ny (.slice none 0 0) ∧ Below w.heap.size w wx)
  case first =>
    go_region
    · go_wp2_with (fail)
      go_meet
      case rel =>
        have h1 : Box ((W.alloc (oN ox ⟨#[]⟩ nx none 0 0)).alloc (oN oy ⟨#[]⟩ ny none 0 0)) W.heap.size ox ⟨#[]⟩ nx (.slice none 0 0) := (Lib.alloc_old _ _ _ (by simp)).trans (alloc_at _ _ _ rfl)
        have h2 : Box ((W.alloc (oN ox ⟨#[]⟩ nx none 0 0)).alloc (oN oy ⟨#[]⟩ ny none 0 0)) (W.heap.size + 1) oy ⟨#[]⟩ ny (.slice none 0 0) := alloc_at _ _ _ (by simp)
        exact ⟨_, _, rfl, rfl, h1, h2, ((hB2.alloc hB2.size _).alloc (by have := hB2.size; simp; omega) _).drew⟩
    · go_wp2_with (fail)
      go_meet
      case rel =>
        have h1 : Box ((W.alloc (oN oy ⟨#[]⟩ ny none 0 0)).alloc (oN ox ⟨#[]⟩ nx none 0 0)) W.heap.size oy ⟨#[]⟩ ny (.slice none 0 0) := (Lib.alloc_old _ _ _ (by simp)).trans (alloc_at _ _ _ rfl)
        have h2 : Box ((W.alloc (oN oy ⟨#[]⟩ ny none 0 0)).alloc (oN ox ⟨#[]⟩ nx none 0 0)) (W.heap.size + 1) ox ⟨#[]⟩ nx (.slice none 0 0) := alloc_at _ _ _ (by simp)
        exact ⟨_, _, rfl, rfl, h2, h1, ((hB2.alloc hB2.size _).alloc (by have := hB2.size; simp; omega) _).drew⟩
  case rest =>
    obtain ⟨pb, qb, rfl, rfl, hBx, hBy, hBw⟩ := hcut
    clear x0 x1 x2 x3 y0 y1 y2 y3 hlt g1 g2 g3 g4 g5 g6 g7 g8 g9 g10 g11 g12 hr hr1 hr2 hri hs hs1 hs2 hsj hB2
    have HI := Lib.hid (And.intro hi hj)
    clear hi hj
    obtain ⟨p0, p1, p2, p3⟩ := hBx.at
    obtain ⟨q0, q1, q2, q3⟩ := hBy.at
    have lp := hBx.lt
    have lq := hBy.lt
    obtain ⟨v, hv⟩ : ∃ v, v = (workX (.not (.bin 5 (.not (lX i)) (.not (lX j))))).1 := ⟨_, rfl⟩
    obtain ⟨f, hf⟩ : ∃ f, f = (workX (.not (.bin 5 (.not (lX i)) (.not (lX j))))).2 := ⟨_, rfl⟩
    have hV := Lib.hid hv
    have HW := Lib.hid (turned_work i j v f hv hf)
    clear hv hf
    go_wp2_with (fail)
    go_cut [10, 11] from 32 to 45 (fun p q wx => ∃ tb : Nat, p = .pointer (some ⟨tb, 0, none⟩) ∧ Lies wx tb v ∧ Box wx pb ox ⟨#[]⟩ nx (.slice none 0 0) ∧ Box wx qb oy ⟨#[]⟩ ny (.slice none 0 0) ∧ Below w.heap.size w wx)
    case first =>
      go_region_held3 (fun w' => w'.cell? ⟨pb, 0, none⟩ = some (.string ox) ∧ w'.cell? ⟨pb, 1, none⟩ = some (.string ⟨#[]⟩) ∧ w'.cell? ⟨pb, 2, none⟩ = some (.int .i64 nx) ∧ w'.cell? ⟨pb, 3, none⟩ = some (.slice none 0 0) ∧ w'.cell? ⟨qb, 0, none⟩ = some (.string oy) ∧ w'.cell? ⟨qb, 1, none⟩ = some (.string ⟨#[]⟩) ∧ w'.cell? ⟨qb, 2, none⟩ = some (.int .i64 ny) ∧ w'.cell? ⟨qb, 3, none⟩ = some (.slice none 0 0)) (first | exact ⟨p0, p1, p2, p3, q0, q1, q2, q3⟩ | exact hS5 | exact hS6 | exact hS7 | exact hS8 | exact boxes (hBx.below (set3 hA8 hT8.2 (.int .i64 v.k) (.int .i64 v.n) (.string v.s))) (hBy.below (set3 hA8 hT8.2 (.int .i64 v.k) (.int .i64 v.n) (.string v.s))) | exact boxes (hBx.below (hA8.alloc hA8.size (.cells #[.int .i64 v.k, .int .i64 v.n, .string v.s] 38))) (hBy.below (hA8.alloc hA8.size (.cells #[.int .i64 v.k, .int .i64 v.n, .string v.s] 38))) | go_keep) ((first | (go_at_call 18; go_loud (refine (not_any ox ⟨#[]⟩ nx none 0 0 _).mono ?_; rintro e w5 ⟨⟨g1, rfl, hN1⟩, hC5⟩; have hG5 : Below wc.heap.size wc w5 := (by (first | exact (Below.refl _ _).drew.trans hC5 | exact (((Below.refl _ _).alloc (Nat.le_refl _) objV).drew).trans (hC5.mono (by simp)))); have hA5 : Below wc.heap.size wc w5 := hG5; have hBx5 : Box w5 pb ox ⟨#[]⟩ nx (.slice none 0 0) := hBx.below hA5; have hBy5 : Box w5 qb oy ⟨#[]⟩ ny (.slice none 0 0) := hBy.below hA5; have hS5 := boxes hBx5 hBy5; have lp5 := hBx5.lt; have lq5 := hBy5.lt; (first | (have hT5 : TB wc w5 wc.heap.size := ⟨Lies.below (w := (wc.alloc objV).drew) (Lies.new wc ⟨0, 0, ⟨#[]⟩⟩) hC5, Nat.le_refl _⟩) | skip))) | (go_at_call 18; go_loud (refine (not_any oy ⟨#[]⟩ ny none 0 0 _).mono ?_; rintro e w6 ⟨⟨g2, rfl, hN2⟩, hC6⟩; have hG6 : Below w5.heap.size w5 w6 := (by (first | exact hC6 | exact ((Below.refl _ _).alloc (Nat.le_refl _) objV).trans (hC6.mono (by simp)))); have hA6 : Below wc.heap.size wc w6 := hA5.trans (hG6.mono hA5.size); have hBx6 : Box w6 pb ox ⟨#[]⟩ nx (.slice none 0 0) := hBx.below hA6; have hBy6 : Box w6 qb oy ⟨#[]⟩ ny (.slice none 0 0) := hBy.below hA6; have hS6 := boxes hBx6 hBy6; have lp6 := hBx6.lt; have lq6 := hBy6.lt; have hN1' := NodeAt.below hN1 hG6; (first | (have hT6 := tb_below hT5 hG6) | (have hT6 : TB wc w6 w5.heap.size := ⟨Lies.below (w := w5.alloc objV) (Lies.new w5 ⟨0, 0, ⟨#[]⟩⟩) hC6, hA5.size⟩) | skip))) | (go_at_call 18; go_loud (refine (not_any ⟨#[98, 105, 110]⟩ ⟨#[65, 78, 68]⟩ 0 _ 2 2 _).mono ?_; rintro e w7 ⟨⟨g3, rfl, hN3⟩, hC7⟩; have hG7 : Below w6.heap.size w6 w7 := (by (first | exact ((Below.refl _ _).alloc (Nat.le_refl _) (obj2 g1 g2)).trans (hC7.mono (by simp)) | exact (((Below.refl _ _).alloc (Nat.le_refl _) objV).alloc (by simp) (obj2 g1 g2)).trans (hC7.mono (by simp; omega)) | exact (((Below.refl _ _).alloc (Nat.le_refl _) (obj2 g1 g2)).alloc (by simp) objV).trans (hC7.mono (by simp; omega)))); have hA7 : Below wc.heap.size wc w7 := hA6.trans (hG7.mono hA6.size); have hBx7 : Box w7 pb ox ⟨#[]⟩ nx (.slice none 0 0) := hBx.below hA7; have hBy7 : Box w7 qb oy ⟨#[]⟩ ny (.slice none 0 0) := hBy.below hA7; have hS7 := boxes hBx7 hBy7; have lp7 := hBx7.lt; have lq7 := hBy7.lt; have hQ7 : Hid (IsX w7 (.not (.bin 5 (.not (lX i)) (.not (lX j)))) ⟨#[110, 111, 116]⟩ ⟨#[]⟩ 0 (.slice (some ⟨g3, 0, none⟩) 1 1)) := Lib.hid (not_isx g3 hN3 (by (first | exact IsX.below hC7 (pair_not w6 g1 g2 i j ox oy nx ny HO.out hN1' hN2) | exact IsX.below hC7 (pair_not2 (w6.alloc objV) _ g1 g2 i j ox oy nx ny HO.out (hN1'.below ((Below.refl _ _).alloc (Nat.le_refl _) objV)) (hN2.below ((Below.refl _ _).alloc (Nat.le_refl _) objV)) (by simp)) | exact IsX.below hC7 (IsX.below ((Below.refl _ _).alloc (Nat.le_refl _) objV) (pair_not w6 g1 g2 i j ox oy nx ny HO.out hN1' hN2))))); (first | (have hT7 := tb_below hT6 hG7) | (have hT7 : TB wc w7 w6.heap.size := ⟨Lies.below (w := (w6.alloc objV).alloc (obj2 g1 g2)) ((Lies.new w6 ⟨0, 0, ⟨#[]⟩⟩).alloc _) hC7, hA6.size⟩) | (have hT7 : TB wc w7 (w6.heap.size + 1) := ⟨Lies.below (w := (w6.alloc (obj2 g1 g2)).alloc objV) (by simpa using Lies.new (w6.alloc (obj2 g1 g2)) ⟨0, 0, ⟨#[]⟩⟩) hC7, by have := hA6.size; omega⟩) | skip))) | (go_at_call 14; go_loud (refine (HW.out g3 _ (IsX.below (w := w7) ?hx hQ7.out)).mono ?_; (case hx => first | exact Below.refl _ _ | exact ((Below.refl _ _).alloc (Nat.le_refl _) objV)); rintro e w8 ⟨rfl, hC8⟩; have hG8 : Below w7.heap.size w7 w8 := (by (first | exact hC8 | exact ((Below.refl _ _).alloc (Nat.le_refl _) objV).trans (hC8.mono (by simp)))); have hA8 : Below wc.heap.size wc w8 := hA7.trans (hG8.mono hA7.size); have hBx8 : Box w8 pb ox ⟨#[]⟩ nx (.slice none 0 0) := hBx.below hA8; have hBy8 : Box w8 qb oy ⟨#[]⟩ ny (.slice none 0 0) := hBy.below hA8; have hS8 := boxes hBx8 hBy8; have lp8 := hBx8.lt; have lq8 := hBy8.lt; (first | (have hT8 := tb_below hT7 hG8) | (have hT8 : TB wc w8 w7.heap.size := ⟨Lies.below (w := w7.alloc objV) (Lies.new w7 ⟨0, 0, ⟨#[]⟩⟩) hC8, hA7.size⟩) | skip); (first | (have hc8 := tb_cells hT8; obtain ⟨c0, c1, c2, f0, f1, f2, ltt⟩ := hc8) | skip)))))
      all_goals (go_wp2_with (fail))
      all_goals go_meet
      all_goals first
        | exact ⟨_, rfl, hT8.1.set3 v, hBx.below (set3 hA8 hT8.2 (.int .i64 v.k) (.int .i64 v.n) (.string v.s)), hBy.below (set3 hA8 hT8.2 (.int .i64 v.k) (.int .i64 v.n) (.string v.s)), hBw.trans ((set3 hA8 hT8.2 (.int .i64 v.k) (.int .i64 v.n) (.string v.s)).mono hBw.size)⟩
        | exact ⟨_, rfl, Lies.new w8 v, hBx.below (hA8.alloc hA8.size (.cells #[.int .i64 v.k, .int .i64 v.n, .string v.s] 38)), hBy.below (hA8.alloc hA8.size (.cells #[.int .i64 v.k, .int .i64 v.n, .string v.s] 38)), hBw.trans ((hA8.alloc hA8.size (.cells #[.int .i64 v.k, .int .i64 v.n, .string v.s] 38)).mono hBw.size)⟩
        | fail
    case rest =>
      obtain ⟨tb, rfl, hT, hBx, hBy, hBw⟩ := hcut
      obtain ⟨p0, p1, p2, p3⟩ := hBx.at
      obtain ⟨q0, q1, q2, q3⟩ := hBy.at
      have t0 := hT.c0
      have t1 := hT.c1
      have t2 := hT.c2
      have hS0 := And.intro (boxes hBx hBy) (And.intro t0 (And.intro t1 t2))
      have HOo := HO.out
      have HOs := And.intro HOo.2 HOo.1
      have hL := logic_plain i j HI.out.1 HI.out.2
      rw [← lX_eq] at hL
      obtain ⟨u, hu⟩ : ∃ u, u = (workX (.bin 5 (lX i) (lX j))).1 := ⟨_, rfl⟩
      have k1 : ∀ W, Calls Try.prog 19 #[.string ⟨#[65, 78, 68]⟩, .agg #[.string ox, .string ⟨#[]⟩, .int .i64 nx, .slice none 0 0], .agg #[.string oy, .string ⟨#[]⟩, .int .i64 ny, .slice none 0 0]] W fun e w' => e = .returned (vv u) ∧ Below W.heap.size W w' := pair_calls i j 5 (.inl rfl) ox oy nx ny HOo u hu _ rfl
      have k2 : ∀ W, Calls Try.prog 19 #[.string ⟨#[65, 78, 68]⟩, .agg #[.string oy, .string ⟨#[]⟩, .int .i64 ny, .slice none 0 0], .agg #[.string ox, .string ⟨#[]⟩, .int .i64 nx, .slice none 0 0]] W fun e w' => e = .returned (vv u) ∧ Below W.heap.size W w' := pair_calls j i 5 (.inl rfl) oy ox ny nx HOs u (hu.trans hL.1) _ rfl
      have k3 : ∀ W, Calls Try.prog 19 #[.string ⟨#[79, 82]⟩, .agg #[.string ox, .string ⟨#[]⟩, .int .i64 nx, .slice none 0 0], .agg #[.string oy, .string ⟨#[]⟩, .int .i64 ny, .slice none 0 0]] W fun e w' => e = .returned (vv v) ∧ Below W.heap.size W w' := pair_calls i j 6 (.inr rfl) ox oy nx ny HOo v (hV.out.trans hL.2.2) _ rfl
      have k4 : ∀ W, Calls Try.prog 19 #[.string ⟨#[79, 82]⟩, .agg #[.string oy, .string ⟨#[]⟩, .int .i64 ny, .slice none 0 0], .agg #[.string ox, .string ⟨#[]⟩, .int .i64 nx, .slice none 0 0]] W fun e w' => e = .returned (vv v) ∧ Below W.heap.size W w' := pair_calls j i 6 (.inr rfl) oy ox ny nx HOs v ((hV.out.trans hL.2.2).trans hL.2.1) _ rfl
      clear HOo HOs hL hu hV HW HO HI
      unfold vv at k1 k2 k3 k4
      go_wp2_with (fail)
      go_region_held3 (fun w' => (w'.cell? ⟨pb, 0, none⟩ = some (.string ox) ∧ w'.cell? ⟨pb, 1, none⟩ = some (.string ⟨#[]⟩) ∧ w'.cell? ⟨pb, 2, none⟩ = some (.int .i64 nx) ∧ w'.cell? ⟨pb, 3, none⟩ = some (.slice none 0 0) ∧ w'.cell? ⟨qb, 0, none⟩ = some (.string oy) ∧ w'.cell? ⟨qb, 1, none⟩ = some (.string ⟨#[]⟩) ∧ w'.cell? ⟨qb, 2, none⟩ = some (.int .i64 ny) ∧ w'.cell? ⟨qb, 3, none⟩ = some (.slice none 0 0)) ∧ w'.cell? ⟨tb, 0, none⟩ = some (.int .i64 v.k) ∧ w'.cell? ⟨tb, 1, none⟩ = some (.int .i64 v.n) ∧ w'.cell? ⟨tb, 2, none⟩ = some (.string v.s)) (first | exact hS0 | exact hS5 | exact hS6 | exact hS7 | exact hS8 | exact hS9 | go_keep) ((first | (go_at_call 19; go_loud (with_reducible refine (k1 _).mono ?_; rintro e w5 ⟨rfl, hC5⟩; have hG5 : Below wc.heap.size wc w5 := (Below.refl _ _).drew.trans (hC5.mono (by simp)); have hA5 : Below wc.heap.size wc w5 := hG5; have hBx5 : Box w5 pb ox ⟨#[]⟩ nx (.slice none 0 0) := hBx.below hA5; have hBy5 : Box w5 qb oy ⟨#[]⟩ ny (.slice none 0 0) := hBy.below hA5; have hT5 := hT.below hA5; have hS5 := And.intro (boxes hBx5 hBy5) (And.intro hT5.c0 (And.intro hT5.c1 hT5.c2)))) | (go_at_call 19; have _hg := hA6; go_loud (with_reducible refine (k3 _).mono ?_; rintro e w7 ⟨rfl, hC7⟩; have hG7 : Below w6.heap.size w6 w7 := hC7; have hA7 : Below wc.heap.size wc w7 := hA6.trans (hG7.mono hA6.size); have hBx7 : Box w7 pb ox ⟨#[]⟩ nx (.slice none 0 0) := hBx.below hA7; have hBy7 : Box w7 qb oy ⟨#[]⟩ ny (.slice none 0 0) := hBy.below hA7; have hT7 := hT.below hA7; have hS7 := And.intro (boxes hBx7 hBy7) (And.intro hT7.c0 (And.intro hT7.c1 hT7.c2)))) | (go_at_call 19; have _hg := hA7; go_loud (with_reducible refine (k4 _).mono ?_; rintro e w8 ⟨rfl, hC8⟩; have hG8 : Below w7.heap.size w7 w8 := hC8; have hA8 : Below wc.heap.size wc w8 := hA7.trans (hG8.mono hA7.size); have hBx8 : Box w8 pb ox ⟨#[]⟩ nx (.slice none 0 0) := hBx.below hA8; have hBy8 : Box w8 qb oy ⟨#[]⟩ ny (.slice none 0 0) := hBy.below hA8; have hT8 := hT.below hA8; have hS8 := And.intro (boxes hBx8 hBy8) (And.intro hT8.c0 (And.intro hT8.c1 hT8.c2)))) | (go_at_call 19; have _hg := hA8; go_loud (with_reducible refine (k3 _).mono ?_; rintro e w9 ⟨rfl, hC9⟩; have hG9 : Below w8.heap.size w8 w9 := hC9; have hA9 : Below wc.heap.size wc w9 := hA8.trans (hG9.mono hA8.size); have hBx9 : Box w9 pb ox ⟨#[]⟩ nx (.slice none 0 0) := hBx.below hA9; have hBy9 : Box w9 qb oy ⟨#[]⟩ ny (.slice none 0 0) := hBy.below hA9; have hT9 := hT.below hA9; have hS9 := And.intro (boxes hBx9 hBy9) (And.intro hT9.c0 (And.intro hT9.c1 hT9.c2)))) | (go_at_call 19; have _hg := hA5; go_loud (with_reducible refine (k2 _).mono ?_; rintro e w6 ⟨rfl, hC6⟩; have hG6 : Below w5.heap.size w5 w6 := hC6; have hA6 : Below wc.heap.size wc w6 := hA5.trans (hG6.mono hA5.size); have hBx6 : Box w6 pb ox ⟨#[]⟩ nx (.slice none 0 0) := hBx.below hA6; have hBy6 : Box w6 qb oy ⟨#[]⟩ ny (.slice none 0 0) := hBy.below hA6; have hT6 := hT.below hA6; have hS6 := And.intro (boxes hBx6 hBy6) (And.intro hT6.c0 (And.intro hT6.c1 hT6.c2))))))
      go_wp2
      exact bodyPost_ret (v := .bool true) (by simp [results, Try.results6, go_sem]) rfl ⟨rfl, hBw.trans (hA9.mono hBw.size)⟩
theorem evalLogic_walk (a b : Int) (w : World) (ha1 : -9223372036854775808 ≤ a) (ha2 : a ≤ 9223372036854775807) (hb1 : -9223372036854775808 ≤ b) (hb2 : b ≤ 9223372036854775807) :
    Calls Try.prog 6 #[.int .i64 a, .int .i64 b] w fun e w' => e = .returned (.bool true) ∧ Below w.heap.size w w' := logic_try a b w
end Go.Proofs.Yteedbhkofgkpoaa
