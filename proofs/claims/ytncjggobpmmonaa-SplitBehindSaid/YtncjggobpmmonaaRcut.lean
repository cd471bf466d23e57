/-
  The walk of the reference's Cut: part by part.
-/
import Derived.Test.YtncjggobpmmonaaRef
namespace Go.Proofs.Ytncjggobpmmonaa
open Go.RowKit
set_option maxRecDepth 100000
theorem part_last {ls : List ByteArray} {st n : Nat} (h : st + n < ls.length) (h16 : n < 16) (hnone : ∀ j, 2 ≤ j → j ≤ n → E (ls.drop st) (j - 1) = false)
    (hl : n + 1 = 16 ∨ (1 ≤ n ∧ endsS (ls.getD (st + n) ByteArray.empty) = true) ∨ st + n + 1 = ls.length) : IsPart (E (ls.drop st)) (ls.drop st).length (n + 1) := by
  have hE : E (ls.drop st) (n + 1 - 1) = endsS (ls.getD (st + n) ByteArray.empty) := by
    simp [E, List.getD_eq_getElem?_getD, List.getElem?_drop]
  have hd : (ls.drop st).length = ls.length - st := List.length_drop
  rw [hd]
  refine ⟨by omega, by omega, by omega, fun h2 => ?_, ?_, fun j h2 hj => hnone j h2 (by omega)⟩
  · rcases hl with h | ⟨h, _⟩ | h <;> omega
  · rcases hl with h | ⟨_, h⟩ | h
    · exact .inr (.inl h)
    · exact .inr (.inr (by rw [hE]; exact h))
    · exact .inl (by omega)
theorem part_none {ls : List ByteArray} {st n : Nat} (hnone : ∀ j, 2 ≤ j → j ≤ n → E (ls.drop st) (j - 1) = false) (h : n = 0 ∨ endsS (ls.getD (st + n) ByteArray.empty) = false) : ∀ j, 2 ≤ j → j ≤ n + 1 → E (ls.drop st) (j - 1) = false := fun j h2 hj => by
  rcases Nat.lt_or_ge n j with hlt | hge
  · obtain rfl : j = n + 1 := by omega
    rcases h with h | h
    · omega
    · rw [← h]
      simp [E, List.getD_eq_getElem?_getD, List.getElem?_drop]
  · exact hnone j h2 hge
set_option maxHeartbeats 4000000 in
theorem rcut_any (o : Option Addr) (c : Nat) (ls : List ByteArray) (w : World) (hv : Vs w o (ls.map Value.string)) (hf : Fit ls) :
    Calls Try.prog 12 #[.slice o ls.length c] w fun e w' => (∃ v ks, e = .returned v ∧ w'.ownsRow w.heap.size 3 1 v ks.length (ints ks) ∧ Cuts ls ks) ∧ Below w.heap.size w w' := by
  have hl1000 := hf.1
  go_enter Try.func12, Try.ntmps12
  go_wp2
  obtain ⟨i0, hi0, hz0, hz1, hz2⟩ := info_parts (P := Try.prog) (e := 3) (z := .int .i64 0) (size := 1) (bytes := 8) (by kernel_rfl)
  go_loopw [3, 4, 5] (fun v x y wr => ∃ (st n : Nat) (ds : List Nat), x = .int .i64 n ∧ y = .int .i64 ((st : Int) + n) ∧ n < 16 ∧ st + n ≤ ls.length ∧ (st + n < ls.length ∨ n = 0) ∧ ds.length ≤ st ∧
      wr.ownsRow w.heap.size 3 1 v ds.length (ints ds) ∧ (∀ ks, Cuts (ls.drop st) ks → Cuts ls (ds ++ ks)) ∧ (∀ j, 2 ≤ j → j ≤ n → E (ls.drop st) (j - 1) = false) ∧ Below w.heap.size w wr)
    (fun _ _ y _ => ls.length - (intOf y).toNat)
  case atStart => exact ⟨0, 0, [], rfl, rfl, by omega, by omega, .inr rfl, by simp, ⟨rfl, .inl ⟨rfl, rfl⟩⟩, fun ks h => h, by omega, Below.refl _ _⟩
  case round =>
    obtain ⟨st, n, ds, rfl, rfl, hn16, hle, hlt, hds, hown, hcuts, hnone, hB⟩ := hrel
    by_cases hil : st + n < ls.length
    · obtain ⟨a, rfl⟩ := hv.1 (by intro h; simp at h; subst h; simp at hil)
      have hc := (hv.below (Nat.le_refl _) hB).get (st + n) hil
      have hz := hf.2 (st + n) hil
      have HL := Lib.hid (fun hl => IsCut.snoc_start (l := ls) hcuts (part_last hil hn16 hnone hl))
      have HN := Lib.hid (fun h => part_none hnone h)
      have HC := hcuts
      clear hcuts hnone
      obtain ⟨s, hs⟩ : ∃ s, s = ls.getD (st + n) ByteArray.empty := ⟨_, rfl⟩
      rw [← hs] at hc hz HL HN
      clear hs
      have hw1 := i64_wrap_in (x := (n : Int) + 1) (by omega) (by omega)
      have hw2 := i64_wrap_in (x := (ls.length : Int) - 1) (by omega) (by omega)
      have hw3 := i64_wrap_in (x := (st : Int) + n + 1) (by omega) (by omega)
      have hnn : ((st : Int) + n).toNat = st + n := by omega
      by_cases h16 : n = 15
      · go_wp2_with ((at_builtin; refine wpList_append_own _ rfl _ _ 27 rfl w.heap.size 3 i0 (.int .i64 0) 1 8 Try.underlying27 hi0 hz0 hz1 hz2 rfl (by decide) _ _ _ rfl (hown.alloc _) ⟨wr.heap.size, 0, none⟩ 1 1 [.int .i64 16] rfl rfl ?c1 ?c2 ?c3 ?c4 ?c5 ?_))
        case c1 => exact World.news_of_block (heap_alloc_new wr _)
        case c2 => simp [Value.oneCell']
        case c3 => unfold maxLen; omega
        case c4 => omega
        case c5 => exact Nat.le_trans hB.size (by simp)
        intro v' w' hown' hgrow _
        go_wp2
        go_roundw
        case rel =>
          refine ⟨st + n + 1, 0, ds ++ [n + 1], rfl, by go_num, by omega, by omega, .inr rfl, by simp; omega, by rw [ints_append]; subst h16; simpa [ints] using hown', ?_, by omega, ?_⟩
          · have := HL.out (.inl (by omega))
            rwa [List.drop_drop] at this
          · exact (hB.alloc hB.size _).grown hgrow (Nat.le_trans hB.size (by simp)) (fun q hq => (hown.lt q hq).1)
        case measure => simp [intOf]; omega
      · have hb16 : ((n : Int) + 1 == 16) = false := beq_eq_false_iff_ne.2 (by omega)
        by_cases h1 : 1 ≤ n
        · cases he : endsS s with
          | true =>
            go_wp2_with (first | (go_at_call 9; refine (rends_any s wr hz).mono ?_; rintro e w1 ⟨rfl, hb⟩; rw [he]) | (at_builtin; refine wpList_append_own _ rfl _ _ 27 rfl w.heap.size 3 i0 (.int .i64 0) 1 8 Try.underlying27 hi0 hz0 hz1 hz2 rfl (by decide) _ _ _ rfl ((own_below hown hb).alloc _) ⟨w1.heap.size, 0, none⟩ 1 1 [.int .i64 ((n : Int) + 1)] rfl rfl ?c1 ?c2 ?c3 ?c4 ?c5 ?_))
            case c1 => exact World.news_of_block (heap_alloc_new w1 _)
            case c2 => simp [Value.oneCell']
            case c3 => unfold maxLen; omega
            case c4 => omega
            case c5 => exact Nat.le_trans (Nat.le_trans hB.size hb.size) (by simp)
            intro v' w' hown' hgrow _
            go_wp2
            go_roundw
            case rel =>
              refine ⟨st + n + 1, 0, ds ++ [n + 1], rfl, by go_num, by omega, by omega, .inr rfl, by simp; omega, by rw [ints_append]; simpa [ints] using hown', ?_, by omega, ?_⟩
              · have := HL.out (.inr (.inl ⟨h1, he⟩))
                rwa [List.drop_drop] at this
              · exact ((hB.trans (hb.mono hB.size)).alloc (Nat.le_trans hB.size hb.size) _).grown hgrow (Nat.le_trans (Nat.le_trans hB.size hb.size) (by simp)) (fun q hq => (hown.lt q hq).1)
            case measure => simp [intOf]; omega
          | false =>
            by_cases hlast : st + n + 1 = ls.length
            · have hbl : (((st : Int) + n) == (ls.length : Int) - 1) = true := beq_iff_eq.2 (by omega)
              go_wp2_with (first | (go_at_call 9; refine (rends_any s wr hz).mono ?_; rintro e w1 ⟨rfl, hb⟩; rw [he]) | (at_builtin; refine wpList_append_own _ rfl _ _ 27 rfl w.heap.size 3 i0 (.int .i64 0) 1 8 Try.underlying27 hi0 hz0 hz1 hz2 rfl (by decide) _ _ _ rfl ((own_below hown hb).alloc _) ⟨w1.heap.size, 0, none⟩ 1 1 [.int .i64 ((n : Int) + 1)] rfl rfl ?c1 ?c2 ?c3 ?c4 ?c5 ?_))
              case c1 => exact World.news_of_block (heap_alloc_new w1 _)
              case c2 => simp [Value.oneCell']
              case c3 => unfold maxLen; omega
              case c4 => omega
              case c5 => exact Nat.le_trans (Nat.le_trans hB.size hb.size) (by simp)
              intro v' w' hown' hgrow _
              go_wp2
              go_roundw
              case rel =>
                refine ⟨st + n + 1, 0, ds ++ [n + 1], rfl, by go_num, by omega, by omega, .inr rfl, by simp; omega, by rw [ints_append]; simpa [ints] using hown', ?_, by omega, ?_⟩
                · have := HL.out (.inr (.inr hlast))
                  rwa [List.drop_drop] at this
                · exact ((hB.trans (hb.mono hB.size)).alloc (Nat.le_trans hB.size hb.size) _).grown hgrow (Nat.le_trans (Nat.le_trans hB.size hb.size) (by simp)) (fun q hq => (hown.lt q hq).1)
              case measure => simp [intOf]; omega
            · have hbl : (((st : Int) + n) == (ls.length : Int) - 1) = false := beq_eq_false_iff_ne.2 (by omega)
              go_wp2_with ((go_at_call 9; refine (rends_any s wr hz).mono ?_; rintro e w1 ⟨rfl, hb⟩; rw [he]))
              go_roundw
              case rel =>
                exact ⟨st, n + 1, ds, by go_num, by go_num, by omega, by omega, .inl (by omega), hds, own_below hown hb, HC, HN.out (.inr he), (hB.trans (hb.mono hB.size))⟩
              case measure => simp [intOf]; omega
        · by_cases hlast : st + n + 1 = ls.length
          · have hbl : (((st : Int) + n) == (ls.length : Int) - 1) = true := beq_iff_eq.2 (by omega)
            go_wp2_with ((at_builtin; refine wpList_append_own _ rfl _ _ 27 rfl w.heap.size 3 i0 (.int .i64 0) 1 8 Try.underlying27 hi0 hz0 hz1 hz2 rfl (by decide) _ _ _ rfl (hown.alloc _) ⟨wr.heap.size, 0, none⟩ 1 1 [.int .i64 ((n : Int) + 1)] rfl rfl ?c1 ?c2 ?c3 ?c4 ?c5 ?_))
            (try case c1 => exact World.news_of_block (heap_alloc_new wr _))
            case c2 => simp [Value.oneCell']
            case c3 => unfold maxLen; omega
            case c4 => omega
            case c5 => exact Nat.le_trans hB.size (by simp)
            intro v' w' hown' hgrow _
            go_wp2
            go_roundw
            case rel =>
              refine ⟨st + n + 1, 0, ds ++ [n + 1], rfl, by go_num, by omega, by omega, .inr rfl, by simp; omega, by rw [ints_append]; simpa [ints] using hown', ?_, by omega, ?_⟩
              · have := HL.out (.inr (.inr hlast))
                rwa [List.drop_drop] at this
              · exact (hB.alloc hB.size _).grown hgrow (Nat.le_trans hB.size (by simp)) (fun q hq => (hown.lt q hq).1)
            case measure => simp [intOf]; omega
          · have hbl : (((st : Int) + n) == (ls.length : Int) - 1) = false := beq_eq_false_iff_ne.2 (by omega)
            go_wp2
            go_roundw
            case rel =>
              exact ⟨st, n + 1, ds, by go_num, by go_num, by omega, by omega, .inl (by omega), hds, hown, HC, HN.out (.inl (by omega)), hB⟩
            case measure => simp [intOf]; omega
    · go_wp2
      go_ret
      have h0 : n = 0 := by omega
      have : ls.drop st = [] := List.drop_eq_nil_of_le (by omega)
      rw [this] at hcuts
      exact ⟨⟨_, ds, rfl, hown, by simpa using hcuts [] .nil⟩, hB⟩
end Go.Proofs.Ytncjggobpmmonaa
