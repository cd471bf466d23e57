/-
  The walks of split.part, split.Cut and same.
-/
import Derived.Test.YtncjggobpmmonaaEnds
import Derived.Test.YtncjggobpmmonaaParts
namespace Go.Proofs.Ytncjggobpmmonaa
open Go.RowKit
set_option maxRecDepth 100000
/-- What the walks of the cuts ask of a list: its texts are no greater than a memory. -/
def Fit (ls : List ByteArray) : Prop := ls.length ≤ 1000 ∧ ∀ i, i < ls.length → (ls.getD i ByteArray.empty).size ≤ 140737488351232
def E (ls : List ByteArray) : Nat → Bool := fun i => endsS (ls.getD i ByteArray.empty)
def ints (l : List Nat) : List Value := l.map fun (n : Nat) => Value.int .i64 n
theorem ints_length (l : List Nat) : (ints l).length = l.length := by simp [ints]
theorem ints_append (l m : List Nat) : ints (l ++ m) = ints l ++ ints m := by simp [ints]
theorem Vs.geti' {w : World} {a : Addr} {ls : List Nat} (h : Vs w (some a) (ints ls)) (i : Nat) (hi : i < ls.length) : w.cell? (a.add i) = some (.int .i64 (ls.getD i 0 : Nat)) :=
  h.2 a rfl i _ (by simp [ints, List.getD_eq_getElem?_getD, List.getElem?_eq_getElem hi])
theorem part_any (o : Option Addr) (c : Nat) (ls : List ByteArray) (w : World) (hv : Vs w o (ls.map Value.string)) (hf : Fit ls) (h0 : 0 < ls.length) :
    Calls Try.prog 15 #[.slice o ls.length c] w fun e w' => (∃ k : Nat, e = .returned (.int .i64 k) ∧ IsPart (E ls) ls.length k) ∧ Below w.heap.size w w' := by
  obtain ⟨a, rfl⟩ := hv.1 (by intro h; simp at h; subst h; simp at h0)
  obtain ⟨m, hm⟩ : ∃ m, m = min ls.length 16 := ⟨_, rfl⟩
  have hl := hf.1
  go_enter Try.func15, Try.ntmps15
  go_wp2
  rw [show min (ls.length : Int) 16 = (m : Int) by omega]
  obtain ⟨hm1, hm2, hm3⟩ : m ≤ ls.length ∧ m ≤ 16 ∧ (1 ≤ m) := by omega
  have Hm := Lib.hid (show m = ls.length ∨ m = 16 by omega)
  have Hm2 := Lib.hid (show 2 ≤ ls.length → 2 ≤ m by omega)
  clear hm
  go_loopw [4] (fun v wr => ∃ n : Nat, v = .int .i64 n ∧ 2 ≤ n ∧ (n ≤ m ∨ n = 2) ∧ (∀ j, 2 ≤ j → j < n → E ls (j - 1) = false) ∧ Below w.heap.size w wr)
    (fun v _ => 20 - (intOf v).toNat)
  case atStart => exact ⟨2, rfl, by omega, by omega, by omega, Below.refl _ _⟩
  case round =>
    obtain ⟨n, rfl, hn2, hnm, hall, hB⟩ := hrel
    by_cases hlt : n < m
    · have hc := (hv.below (Nat.le_refl _) hB).get (n - 1) (by omega)
      have hz := hf.2 (n - 1) (by omega)
      have hE : E ls (n - 1) = endsS (ls.getD (n - 1) ByteArray.empty) := rfl
      generalize ls.getD (n - 1) ByteArray.empty = s at hc hz hE
      have hi := i64_wrap_in (x := (n : Int) - 1) (by omega) (by omega)
      have hnn : ((n : Int) - 1).toNat = n - 1 := by omega
      cases he : endsS s with
      | true =>
        go_wp2_with (go_at_call 8; refine (ends_any s wr hz).mono ?_; rintro e w1 ⟨rfl, hb⟩; rw [he])
        go_ret
        exact ⟨⟨n, rfl, by omega, by omega, by omega, by omega, .inr (.inr (by rw [hE, he])), hall⟩, hB.trans (hb.mono hB.size)⟩
      | false =>
        go_wp2_with (go_at_call 8; refine (ends_any s wr hz).mono ?_; rintro e w1 ⟨rfl, hb⟩; rw [he])
        go_roundw
        case rel =>
          refine ⟨n + 1, by go_num, by omega, by omega, fun j h2 hj => ?_, hB.trans (hb.mono hB.size)⟩
          rcases Nat.lt_succ_iff_lt_or_eq.1 hj with h | rfl
          · exact hall j h2 h
          · rw [hE, he]
        case measure => simp [intOf]; omega
    · go_wp2
      go_ret
      have hm4 := Hm.out
      have hm5 := Hm2.out
      exact ⟨⟨m, rfl, by omega, by omega, by omega, by omega, by omega, fun j h2 hj => hall j h2 (by omega)⟩, hB⟩
theorem same_any (o1 o2 : Option Addr) (c1 c2 : Nat) (l1 l2 : List Nat) (w : World) (hv1 : Vs w o1 (ints l1)) (hv2 : Vs w o2 (ints l2)) (hl : l1.length ≤ 1000) (hl2 : l2.length ≤ 1000) :
    Calls Try.prog 10 #[.slice o1 l1.length c1, .slice o2 l2.length c2] w fun e w' => e = .returned (.bool (decide (l1 = l2))) ∧ Below w.heap.size w w' := by
  go_enter Try.func10, Try.ntmps10
  by_cases hne : l1.length = l2.length
  · go_wp2
    go_loopw [14] (fun x wr => ∃ i : Nat, i ≤ l1.length ∧ x = .int .i64 i ∧ (∀ j, j < i → l1.getD j 0 = l2.getD j 0) ∧ Below w.heap.size w wr)
      (fun x _ => l1.length - (intOf x).toNat)
    case atStart => exact ⟨0, by omega, rfl, by omega, Below.refl _ _⟩
    case round =>
      obtain ⟨i, hi, rfl, hall, hB⟩ := hrel
      by_cases hil : i < l1.length
      · obtain ⟨a1, rfl⟩ := hv1.1 (by intro h; have h2 : l1.length = 0 := by { rw [← ints_length, h]; rfl }; omega)
        obtain ⟨a2, rfl⟩ := hv2.1 (by intro h; have h2 : l2.length = 0 := by { rw [← ints_length, h]; rfl }; omega)
        have q1 := (hv1.below (Nat.le_refl _) hB).geti' i hil
        have q2 := (hv2.below (Nat.le_refl _) hB).geti' i (by omega)
        have hil2 : i < l2.length := by omega
        by_cases hxy : l1.getD i 0 = l2.getD i 0
        · rw [← hxy] at q2
          have Hxy := Lib.hid hxy
          clear hxy
          generalize l1.getD i 0 = x at q1 q2
          go_wp2
          go_roundw
          case rel =>
            refine ⟨i + 1, hil, by go_num, fun j hj => ?_, hB⟩
            rcases Nat.lt_succ_iff_lt_or_eq.1 hj with h | rfl
            · exact hall j h
            · exact Hxy.out
          case measure => simp [intOf]; omega
        · have hfin : l1 ≠ l2 := by rintro rfl; exact hxy rfl
          generalize l1.getD i 0 = x at q1 hxy
          generalize l2.getD i 0 = y at q2 hxy
          go_wp2
          go_ret
          exact ⟨by simp [hfin], hB⟩
      · have hfin : l1 = l2 := by
          apply List.ext_getElem hne
          intro j h1 h2
          have := hall j (by omega)
          simpa [List.getD_eq_getElem?_getD, List.getElem?_eq_getElem h1, List.getElem?_eq_getElem h2] using this
        go_wp2
        go_ret
        exact ⟨by simp [hfin], hB⟩
  · have hfin : l1 ≠ l2 := by rintro rfl; exact hne rfl
    go_wp2
    go_ret
    exact ⟨by simp [hfin], Below.refl _ _⟩
end Go.Proofs.Ytncjggobpmmonaa
