/-
  Texts that are held: prolly's Heap; commits put there and had from there.
-/
import Derived.Test.YtkjgbldooflodaaCmM
import Derived.Test.YtkjgbldooflodaaCm2
import Derived.Test.YtkjgbldooflodaaCm3
import Derived.Test.YtkjgbldooflodaaPrint
namespace Go.Proofs.Ytkjgbldooflodaa
open Go.RowKit Cm Mp
set_option maxRecDepth 100000
set_option linter.unusedVariables false
set_option linter.unusedSimpArgs false
theorem sha_size (s : ByteArray) : (Sha.sha s).size = 32 := by
  unfold Sha.sha
  rw [strOfNums_size]
  unfold Sha.digest
  rw [Sha.out4_length]
/-- Block hb is a heap of texts, whose map lies in block mb and tells what S tells. -/
structure Src (w : World) (hb mb n : Nat) (S : ByteArray → Option ByteArray) : Prop where
  blk : w.heap[hb]? = some (.cells #[.map (some mb)] 71 (0, 0))
  mf : MF w mb n (fun s => (S s).map Value.string)
theorem Src.below {w w' : World} {hb mb n B : Nat} {S : ByteArray → Option ByteArray} (h : Src w hb mb n S) (hbl : Below B w w') (h1 : hb < B) (h2 : mb < B) : Src w' hb mb n S :=
  ⟨(hbl.block hb h1).trans h.blk, h.mf.below hbl h2⟩
theorem Src.lt {w : World} {hb mb n : Nat} {S : ByteArray → Option ByteArray} (h : Src w hb mb n S) : hb < w.heap.size ∧ mb < w.heap.size := ⟨(Array.getElem?_eq_some_iff.1 h.blk).1, h.mf.lt⟩
/-- What a heap tells behind a put. -/
def putS (S : ByteArray → Option ByteArray) (p c : ByteArray) : ByteArray → Option ByteArray := fun s => if s = p then some ((S p).getD c) else S s
theorem zeroS (w : World) : (zeroValue 9).run Try.prog w = .ok (.string ⟨#[]⟩) w := by kernel_rfl
theorem hget_any (hb mb n : Nat) (S : ByteArray → Option ByteArray) (p : ByteArray) (w : World) (h : Src w hb mb n S) (hp : p.size ≤ maxLen) :
    Calls Try.prog 87 #[.pointer (some ⟨hb, 0, none⟩), .string p] w fun e w' => e = .returned (.tuple #[.string ((S p).getD ⟨#[]⟩), .bool (S p).isSome]) ∧ w' = w := by
  have k0 : w.cell? ⟨hb, 0, none⟩ = some (.map (some mb)) := by rw [Lib.cell_of_heap h.blk]; rfl
  have hrun := h.mf.get 69 9 Try.underlying69 (zeroS w) p hp true
  cases hS : S p with
  | none =>
    rw [hS] at hrun
    replace hrun : (Instr.lookup 69 (.map (some mb)) (.string p) true).run Try.prog w = .ok (.tuple #[.string ⟨#[]⟩, .bool false]) w := hrun
    go_enter Try.func87, Try.ntmps87
    go_wp2
    exact bodyPost_ret (v := .tuple #[.string ⟨#[]⟩, .bool false]) (by simp [results, Try.results87, go_sem]) rfl ⟨rfl, rfl⟩
  | some t =>
    rw [hS] at hrun
    replace hrun : (Instr.lookup 69 (.map (some mb)) (.string p) true).run Try.prog w = .ok (.tuple #[.string t, .bool true]) w := hrun
    go_enter Try.func87, Try.ntmps87
    go_wp2
    exact bodyPost_ret (v := .tuple #[.string t, .bool true]) (by simp [results, Try.results87, go_sem]) rfl ⟨rfl, rfl⟩
theorem hput_any (hb mb n : Nat) (S : ByteArray → Option ByteArray) (c : ByteArray) (w : World) (h : Src w hb mb n S) (hc : c.size ≤ 140737488351232) (hn : n < 1000000) :
    Calls Try.prog 32 #[.pointer (some ⟨hb, 0, none⟩), .string c] w fun e w' => e = .returned (.tuple #[.string (Sha.sha c), .int .i64 0]) ∧ Src w' hb mb (n + 1) (putS S (Sha.sha c) c) ∧ w.grownBy w' (some mb) := by
  obtain ⟨p, hp⟩ : ∃ p, p = Sha.sha c := ⟨_, rfl⟩
  have hp32 : p.size ≤ maxLen := by rw [hp, sha_size]; decide
  have hpr := fun w => print_any c w hc
  rw [← hp] at hpr ⊢
  clear hp
  obtain ⟨l1, l2⟩ := h.lt
  have hne : mb ≠ hb := by
    intro e
    obtain ⟨D, ⟨es, clock, hb1, _⟩, _⟩ := h.mf
    rw [e, h.blk] at hb1
    cases hb1
  have key : ∀ w1, Below w.heap.size w w1 → w1.cell? ⟨hb, 0, none⟩ = some (.map (some mb)) ∧ (Instr.lookup 69 (.map (some mb)) (.string p) true).run Try.prog w1 = .ok (.tuple #[.string ((S p).getD ⟨#[]⟩), .bool (S p).isSome]) w1 := fun w1 hb1 => by
    have h1 := h.below hb1 l1 l2
    refine ⟨by rw [Lib.cell_of_heap h1.blk]; rfl, ?_⟩
    have := h1.mf.get 69 9 Try.underlying69 (zeroS w1) p hp32 true
    cases hS : S p <;> (rw [hS] at this; exact this)
  cases hS : S p with
  | some t =>
    go_enter Try.func32, Try.ntmps32
    go_wp2_with (go_at_call 50; refine (hpr _).mono ?_; rintro e w1 ⟨rfl, hb1⟩; obtain ⟨k0, hrun⟩ := key w1 hb1; rw [hS] at hrun; replace hrun : (Instr.lookup 69 (.map (some mb)) (.string p) true).run Try.prog w1 = .ok (.tuple #[.string t, .bool true]) w1 := hrun)
    refine bodyPost_ret (v := .tuple #[.string p, .int .i64 0]) (by simp [results, Try.results32, go_sem]) rfl ⟨rfl, ?_, ?_⟩
    · have h1 := h.below hb1 l1 l2
      refine ⟨h1.blk, (?_ : MF _ mb n _).mono (Nat.le_succ _)⟩
      have : (fun s => ((putS S p c) s).map Value.string) = fun s => (S s).map Value.string := by
        funext s
        unfold putS
        by_cases hs : s = p
        · rw [if_pos hs, hs, hS]; rfl
        · rw [if_neg hs]
      rw [this]
      exact h1.mf
    · exact ⟨hb1.os, hb1.tape, hb1.output, hb1.size, fun k hk _ => hb1.block k hk⟩
  | none =>
    go_enter Try.func32, Try.ntmps32
    go_wp2_with (go_at_call 50; refine (hpr _).mono ?_; rintro e w1 ⟨rfl, hb1⟩; obtain ⟨k0, hrun⟩ := key w1 hb1; rw [hS] at hrun; replace hrun : (Instr.lookup 69 (.map (some mb)) (.string p) true).run Try.prog w1 = .ok (.tuple #[.string ⟨#[]⟩, .bool false]) w1 := hrun; obtain ⟨w2, hup, hmf2, hg2⟩ := (h.below hb1 l1 l2).mf.put 69 9 Try.underlying69 (by unfold maxLen; omega) p hp32 (.string c))
    refine bodyPost_ret (v := .tuple #[.string p, .int .i64 0]) (by simp [results, Try.results32, go_sem]) rfl ⟨rfl, ?_, ?_⟩
    · have h1 := h.below hb1 l1 l2
      refine ⟨(hg2.block hb h1.lt.1 (by simp; omega)).trans h1.blk, ?_⟩
      have : (fun s => ((putS S p c) s).map Value.string) = fun x => if x = p then some (.string c) else (S x).map Value.string := by
        funext s
        unfold putS
        by_cases hs : s = p
        · rw [if_pos hs, if_pos hs, hS]; rfl
        · rw [if_neg hs, if_neg hs]
      rw [this]
      exact hmf2
    · exact ⟨hg2.os.trans hb1.os, hg2.tape.trans hb1.tape, hg2.output.trans hb1.output, Nat.le_trans hb1.size hg2.size, fun k hk hne => (hg2.block k (Nat.lt_of_lt_of_le hk hb1.size) hne).trans (hb1.block k hk)⟩
theorem newheap_nil (w : World) : Calls Try.prog 13 #[.slice none 0 0] w fun e w' => ∃ hb mb, e = .returned (.pointer (some ⟨hb, 0, none⟩)) ∧ w.heap.size ≤ hb ∧ w.heap.size ≤ mb ∧ Src w' hb mb 0 (fun _ => none) ∧ Below w.heap.size w w' := by
  have hmm := @run_makeMap Try.prog
  go_enter Try.func13, Try.ntmps13
  go_wp2
  go_loopw [11] (fun v wr => v = .int .i64 0 ∧ wr = (w.alloc (.map #[] 0)).alloc (.cells #[.map (some w.heap.size)] 71)) (fun _ _ => 0)
  case atStart => exact ⟨rfl, rfl⟩
  case round =>
    obtain ⟨rfl, rfl⟩ := hrel
    go_wp2
    go_ret
    have hb := (Below.refl w.heap.size w).alloc (Nat.le_refl _) (.map #[] 0)
    have hb2 := hb.alloc (by simp) (.cells #[.map (some w.heap.size)] 71)
    refine ⟨w.heap.size + 1, w.heap.size, rfl, by omega, Nat.le_refl _, ⟨?_, ?_⟩, hb2⟩
    · have := heap_alloc_new (w.alloc (.map #[] 0)) (.cells #[.map (some w.heap.size)] 71)
      simpa using this
    · exact (MF.made w).block (Lib.alloc_old _ _ _ (by simp))
end Go.Proofs.Ytkjgbldooflodaa
