/-
  Walks of the orders of two values.
-/
import Derived.Test.YteedbhkofgkpoaaEv2
import Derived.Lib.Builder
namespace Go.Proofs.Yteedbhkofgkpoaa
open Go.RowKit Ev
set_option maxRecDepth 100000
set_option linter.unusedVariables false
set_option linter.unusedSimpArgs false
theorem or_blk (a b c : Int) (g : Nat) (T : TypeId) (fr : Nat × Nat) (w : World) (h : w.heap[g]? = some (.cells #[.int .i64 a, .int .i64 b, .int .i64 c] T fr)) :
    Calls Try.prog 85 #[.slice (some ⟨g, 0, none⟩) 3 3] w fun e w' => e = .returned (.int .i64 (first3 a b c)) ∧ w' = w :=
  or_any a b c g w (by rw [Lib.cell_of_heap h]; rfl) (by rw [Lib.cell_of_heap h]; rfl) (by rw [Lib.cell_of_heap h]; rfl)
theorem or_new (a b c : Int) (w1 : World) : Calls Try.prog 85 #[.slice (some ⟨w1.heap.size, 0, none⟩) 3 3] (w1.alloc (.cells #[.int .i64 a, .int .i64 b, .int .i64 c] 3)).drew fun e w' => e = .returned (.int .i64 (first3 a b c)) ∧ w' = (w1.alloc (.cells #[.int .i64 a, .int .i64 b, .int .i64 c] 3)).drew :=
  or_blk a b c w1.heap.size 3 (0, 0) _ (heap_alloc_new w1 _)
theorem cmp1_any (v u : Vl) (w : World) : Calls Try.prog 84 #[vv v, vv u] w fun e w' => e = .returned (.int .i64 (one v u)) ∧ Below w.heap.size w w' := by
  unfold vv
  go_enter Try.func84, Try.ntmps84
  go_wp2
  obtain ⟨w1, hw1⟩ : ∃ w1, w1 = (w.alloc (.cells #[.int .i64 v.k, .int .i64 v.n, .string v.s] 38)).alloc (.cells #[.int .i64 u.k, .int .i64 u.n, .string u.s] 38) := ⟨_, rfl⟩
  have hB1 : Below w.heap.size w w1 := by rw [hw1]; exact ((Below.refl _ _).alloc (Nat.le_refl _) _).alloc (by simp) _
  have k0 : w1.cell? ⟨w.heap.size, 0, none⟩ = some (.int .i64 v.k) := by rw [hw1]; go_simp
  have k1 : w1.cell? ⟨w.heap.size, 1, none⟩ = some (.int .i64 v.n) := by rw [hw1]; go_simp
  have k2 : w1.cell? ⟨w.heap.size, 2, none⟩ = some (.string v.s) := by rw [hw1]; go_simp
  have k3 : w1.cell? ⟨w.heap.size + 1, 0, none⟩ = some (.int .i64 u.k) := by rw [hw1]; go_simp
  have k4 : w1.cell? ⟨w.heap.size + 1, 1, none⟩ = some (.int .i64 u.n) := by rw [hw1]; go_simp
  have k5 : w1.cell? ⟨w.heap.size + 1, 2, none⟩ = some (.string u.s) := by rw [hw1]; go_simp
  rw [← hw1]
  have HW := Lib.hid hw1
  clear hw1
  go_region_held3 (fun w' => w'.cell? ⟨w.heap.size, 0, none⟩ = some (.int .i64 v.k) ∧ w'.cell? ⟨w.heap.size, 1, none⟩ = some (.int .i64 v.n) ∧ w'.cell? ⟨w.heap.size, 2, none⟩ = some (.string v.s) ∧ w'.cell? ⟨w.heap.size + 1, 0, none⟩ = some (.int .i64 u.k) ∧ w'.cell? ⟨w.heap.size + 1, 1, none⟩ = some (.int .i64 u.n) ∧ w'.cell? ⟨w.heap.size + 1, 2, none⟩ = some (.string u.s)) (first | exact ⟨k0, k1, k2, k3, k4, k5⟩ | go_keep) (first | (go_at_call 86; refine (cmpI_any _ _ _).mono ?_; rintro e w' ⟨rfl, rfl⟩) | (go_at_call 87; refine (cmpL_any _ _ _).mono ?_; rintro e w' ⟨rfl, rfl⟩) | (go_at_call 88; refine (cmpS_any _ _ _).mono ?_; rintro e w' ⟨rfl, rfl⟩) | (go_at_call 85; refine (or_new _ _ _ _).mono ?_; rintro e w' ⟨rfl, rfl⟩))
  go_wp2
  go_ret
  exact ⟨rfl, (hB1.alloc hB1.size _).drew⟩
/-- A value lies whole in block g. -/
def Lies (w : World) (g : Nat) (v : Vl) : Prop := w.heap[g]? = some (.cells #[.int .i64 v.k, .int .i64 v.n, .string v.s] 38 (0, 0))
theorem Lies.below {w w' : World} {g : Nat} {v : Vl} (h : Lies w g v) (hb : Below w.heap.size w w') : Lies w' g v := (hb.block g (Array.getElem?_eq_some_iff.1 h).1).trans h
theorem Lies.new (w : World) (v : Vl) : Lies (w.alloc (.cells #[.int .i64 v.k, .int .i64 v.n, .string v.s] 38)) w.heap.size v := heap_alloc_new w _
theorem Lies.c0 {w : World} {g : Nat} {v : Vl} (h : Lies w g v) : w.cell? ⟨g, 0, none⟩ = some (.int .i64 v.k) := by rw [Lib.cell_of_heap h]; rfl
theorem Lies.c1 {w : World} {g : Nat} {v : Vl} (h : Lies w g v) : w.cell? ⟨g, 1, none⟩ = some (.int .i64 v.n) := by rw [Lib.cell_of_heap h]; rfl
theorem Lies.c2 {w : World} {g : Nat} {v : Vl} (h : Lies w g v) : w.cell? ⟨g, 2, none⟩ = some (.string v.s) := by rw [Lib.cell_of_heap h]; rfl
theorem cmpF_any (v u : Vl) (g1 g2 : Nat) (w : World) (h1 : Lies w g1 v) (h2 : Lies w g2 u) :
    Calls Try.prog 83 #[.slice (some ⟨g1, 0, none⟩) 1 1, .slice (some ⟨g2, 0, none⟩) 1 1, .func (.func 84) #[] #[]] w fun e w' => e = .returned (.int .i64 (one v u)) ∧ Below w.heap.size w w' := by
  go_enter Try.func83, Try.ntmps83
  go_wp2
  go_loopw [13] (fun x wr => ∃ i : Nat, i ≤ 1 ∧ x = .int .i64 i ∧ Hid (i = 1 → one v u = 0) ∧ Below w.heap.size w wr) (fun x _ => 1 - (intOf x).toNat)
  case atStart => exact ⟨0, by omega, rfl, Lib.hid (fun h => by omega), Below.refl _ _⟩
  case round =>
    obtain ⟨i, hi, rfl, HO, hB⟩ := hrel
    by_cases hi1 : i < 1
    · obtain rfl : i = 0 := by omega
      have l1 := h1.below hB
      have l2 := h2.below hB
      have k0 := l1.c0
      have k1 := l1.c1
      have k2 := l1.c2
      have m0 := l2.c0
      have m1 := l2.c1
      have m2 := l2.c2
      have gl1 : g1 < wr.heap.size := (Array.getElem?_eq_some_iff.1 l1).1
      have gl2 : g2 < wr.heap.size := (Array.getElem?_eq_some_iff.1 l2).1
      obtain ⟨gz, hgz⟩ : ∃ gz, gz = one v u := ⟨_, rfl⟩
      have Hgz := Lib.hid hgz
      by_cases hz : gz = 0
      · have hzb : (gz != 0) = false := by rw [bne_eq_false_iff_eq]; exact hz
        have Hz := Lib.hid hz
        clear hz
        go_wp2_with (fail)
        go_at_call 84
        refine (cmp1_any v u _).mono ?_
        rintro e w5 ⟨rfl, hB5⟩
        rw [← hgz]
        clear hgz
        go_wp2
        go_roundw
        case rel => exact ⟨1, by omega, by go_num, Lib.hid (fun _ => by rw [← Hgz.out, Hz.out]), (((hB.alloc hB.size _).alloc (Nat.le_trans hB.size (by simp)) _)).trans (hB5.mono (Nat.le_trans hB.size (by simp; omega)))⟩
        case measure => simp [intOf]
      · have hzb : (gz != 0) = true := bne_iff_ne.2 hz
        have Hz := Lib.hid hz
        clear hz
        go_wp2_with (fail)
        go_at_call 84
        refine (cmp1_any v u _).mono ?_
        rintro e w5 ⟨rfl, hB5⟩
        rw [← hgz]
        clear hgz
        go_wp2
        go_ret
        exact ⟨by rw [← Hgz.out]; rfl, (((hB.alloc hB.size _).alloc (Nat.le_trans hB.size (by simp)) _)).trans (hB5.mono (Nat.le_trans hB.size (by simp; omega)))⟩
    · obtain rfl : i = 1 := by omega
      go_wp2
      go_ret
      exact ⟨by rw [HO.out (by first | rfl | trivial)]; rfl, hB⟩
theorem cellcmp_any (v u : Vl) (g1 g2 : Nat) (w : World) (h1 : Lies w g1 v) (h2 : Lies w g2 u) :
    Calls Try.prog 63 #[.slice (some ⟨g1, 0, none⟩) 1 1, .slice (some ⟨g2, 0, none⟩) 1 1] w fun e w' => e = .returned (.int .i64 (one v u)) ∧ Below w.heap.size w w' := by
  go_enter Try.func63, Try.ntmps63
  go_wp2_with (fail)
  go_at_call 83
  refine (cmpF_any v u g1 g2 w h1 h2).mono ?_
  rintro e w1 ⟨rfl, hB⟩
  go_wp2
  go_ret
  exact ⟨rfl, hB⟩
/-- The six comparisons: 0 =, 1 <>, 2 <, 3 <=, 4 >, 5 >=. -/
def cmpO (o : Nat) (c : Int) : Bool :=
  match o with
  | 0 => c == 0
  | 1 => c != 0
  | 2 => decide (c < 0)
  | 3 => decide (c ≤ 0)
  | 4 => decide (0 < c)
  | _ => decide (0 ≤ c)
def cmpOS (o : Nat) : ByteArray :=
  match o with
  | 0 => ⟨#[61]⟩
  | 1 => ⟨#[60, 62]⟩
  | 2 => ⟨#[60]⟩
  | 3 => ⟨#[60, 61]⟩
  | 4 => ⟨#[62]⟩
  | _ => ⟨#[62, 61]⟩
set_option maxHeartbeats 1000000 in
theorem compared_any (o : Nat) (ho : o ≤ 5) (v u : Vl) (w : World) :
    Calls Try.prog 45 #[.string (cmpOS o), vv v, vv u] w fun e w' => e = .returned (.bool (cmpO o (one v u))) ∧ Below w.heap.size w w' := by
  unfold vv
  match o, ho with
  | 0, _ | 1, _ | 2, _ | 3, _ | 4, _ | 5, _ =>
    unfold cmpOS
    go_enter Try.func45, Try.ntmps45
    go_wp2_with (fail)
    go_at_call 63
    refine (cellcmp_any v u _ _ _ ?ha ?hb).mono ?_
    case ha =>
      unfold Lies
      rw [Lib.alloc_old _ _ _ (by simp)]
      have h := heap_alloc_new ((w.alloc (.cells #[.int .i64 v.k, .int .i64 v.n, .string v.s] 38)).alloc (.cells #[.int .i64 u.k, .int .i64 u.n, .string u.s] 38)) (.cells #[.int .i64 v.k, .int .i64 v.n, .string v.s] 38)
      simpa using h
    case hb =>
      unfold Lies
      have h := heap_alloc_new (((w.alloc (.cells #[.int .i64 v.k, .int .i64 v.n, .string v.s] 38)).alloc (.cells #[.int .i64 u.k, .int .i64 u.n, .string u.s] 38)).alloc (.cells #[.int .i64 v.k, .int .i64 v.n, .string v.s] 38)) (.cells #[.int .i64 u.k, .int .i64 u.n, .string u.s] 38)
      simpa using h
    rintro e w5 ⟨rfl, hB5⟩
    go_wp2
    go_ret
    have b0 : Below w.heap.size w _ := (((((Below.refl _ _).alloc (Nat.le_refl _) (.cells #[.int .i64 v.k, .int .i64 v.n, .string v.s] 38)).alloc (by simp) (.cells #[.int .i64 u.k, .int .i64 u.n, .string u.s] 38)).alloc (by simp; omega) (.cells #[.int .i64 v.k, .int .i64 v.n, .string v.s] 38)).alloc (by simp; omega) (.cells #[.int .i64 u.k, .int .i64 u.n, .string u.s] 38))
    exact ⟨rfl, b0.trans (hB5.mono (by simp; omega))⟩
end Go.Proofs.Yteedbhkofgkpoaa
