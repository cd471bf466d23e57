/-
  The walks of cell.Key and cell.Write.
-/
import Derived.Test.YtgfjfpghjjknlaaDoorCl7
namespace Go.Proofs.YtgfjfpghjjknlaaDoor
open Go.RowKit Cl
set_option maxRecDepth 100000
set_option linter.unusedVariables false
set_option linter.unusedSimpArgs false
theorem enters_rising1 (args : Array Value) (w : World) : (callFunc 56 args).run Tryd.prog w = .ok (.enter 56 args) w := by kernel_rfl
theorem enters_rising2 (args : Array Value) (w : World) : (callFunc 57 args).run Tryd.prog w = .ok (.enter 57 args) w := by kernel_rfl
theorem enters_plain1 (args : Array Value) (w : World) : (callFunc 61 args).run Tryd.prog w = .ok (.enter 61 args) w := by kernel_rfl
theorem enters_plain2 (args : Array Value) (w : World) : (callFunc 62 args).run Tryd.prog w = .ok (.enter 62 args) w := by kernel_rfl
theorem rising_any (w : World) : Calls Tryd.prog 33 #[] w fun e w' => e = .returned (.agg #[.int .i64 1, .int .u64 9223372036854775808, .func (.func 56) #[] #[], .func (.func 57) #[] #[]]) ∧ Below w.heap.size w w' := by
  have s1 := fun (a : Addr) (w : World) => run_store Tryd.prog w a (.func (.func 56) #[] #[]) .plain rfl
  have s2 := fun (a : Addr) (w : World) => run_store Tryd.prog w a (.func (.func 57) #[] #[]) .plain rfl
  go_enter Tryd.func33, Tryd.ntmps33
  go_wp2
  have hc := Lib.cell_of_heap (heap_alloc_new w (.cells #[.int .i64 1, .int .u64 9223372036854775808, .func (.func 56) #[] #[], .func (.func 57) #[] #[]] 48))
  have c0 := hc 0
  have c1 := hc 1
  have c2 := hc 2
  have c3 := hc 3
  exact bodyPost_ret (v := .agg #[.int .i64 1, .int .u64 9223372036854775808, .func (.func 56) #[] #[], .func (.func 57) #[] #[]]) (by simp [results, Tryd.results33, go_sem, c0, c1, c2, c3]) rfl ⟨rfl, (Below.refl _ _).alloc (Nat.le_refl _) _⟩
theorem plain_any (w : World) : Calls Tryd.prog 35 #[] w fun e w' => e = .returned (.agg #[.int .i64 0, .int .u64 0, .func (.func 61) #[] #[], .func (.func 62) #[] #[]]) ∧ Below w.heap.size w w' := by
  have s1 := fun (a : Addr) (w : World) => run_store Tryd.prog w a (.func (.func 61) #[] #[]) .plain rfl
  have s2 := fun (a : Addr) (w : World) => run_store Tryd.prog w a (.func (.func 62) #[] #[]) .plain rfl
  go_enter Tryd.func35, Tryd.ntmps35
  go_wp2
  have hc := Lib.cell_of_heap (heap_alloc_new w (.cells #[.int .i64 0, .int .u64 0, .func (.func 61) #[] #[], .func (.func 62) #[] #[]] 48))
  have c0 := hc 0
  have c1 := hc 1
  have c2 := hc 2
  have c3 := hc 3
  exact bodyPost_ret (v := .agg #[.int .i64 0, .int .u64 0, .func (.func 61) #[] #[], .func (.func 62) #[] #[]]) (by simp [results, Tryd.results35, go_sem, c0, c1, c2, c3]) rfl ⟨rfl, (Below.refl _ _).alloc (Nat.le_refl _) _⟩
def keyB (l : List V) : List UInt8 := tupW 1 9223372036854775808 W1 l
theorem key_any (l : List V) (c : Nat) (o : Option Addr) (w : World) (he : Env w) (h : Sl w o l) (hl : l.length ≤ 140737488351232) :
    Calls Tryd.prog 15 #[.slice o l.length c] w fun e w' => e = .returned (.tuple #[.string (if tuple l then ⟨(keyB l).toArray⟩ else ⟨#[]⟩), .bool (tuple l)]) ∧ Below w.heap.size w w' := by
  have ht := fun w1 (hb : Below w.heap.size w w1) => tupled_any 1 9223372036854775808 56 57 W1 (by decide) (by decide) isW1 enters_rising1 esc_W1 l c o w1 (he.below hb he.lt) (h.below hb) hl
  change ∀ w1, Below w.heap.size w w1 → Calls Tryd.prog 34 _ w1 (fun e w' => e = .returned (.tuple #[.string (if tuple l then ⟨(keyB l).toArray⟩ else ⟨#[]⟩), .bool (tuple l)]) ∧ Below w1.heap.size w1 w') at ht
  generalize (if tuple l then (⟨(keyB l).toArray⟩ : ByteArray) else ⟨#[]⟩) = r at ht ⊢
  generalize tuple l = b at ht ⊢
  go_enter Tryd.func15, Tryd.ntmps15
  go_wp2_with (fail)
  go_at_call 33
  refine (rising_any w).mono ?_
  rintro e w1 ⟨rfl, hb1⟩
  go_wp2_with (fail)
  go_at_call 34
  refine (ht w1 hb1).mono ?_
  rintro e w2 ⟨rfl, hb2⟩
  go_wp2
  exact bodyPost_ret (v := .tuple #[.string r, .bool b]) (by simp [results, Tryd.results15, go_sem]) rfl ⟨rfl, hb1.trans (hb2.mono hb1.size)⟩
def writeB (l : List V) : List UInt8 := tupW 0 0 W0 l
theorem write_any (l : List V) (c : Nat) (o : Option Addr) (w : World) (he : Env w) (h : Sl w o l) (hl : l.length ≤ 140737488351232) :
    Calls Tryd.prog 16 #[.slice o l.length c] w fun e w' => e = .returned (.tuple #[.string (if tuple l then ⟨(writeB l).toArray⟩ else ⟨#[]⟩), .bool (tuple l)]) ∧ Below w.heap.size w w' := by
  have ht := fun w1 (hb : Below w.heap.size w w1) => tupled_any 0 0 61 62 W0 (by decide) (by decide) isW0 enters_plain1 (fun l => by rw [W0_length]; omega) l c o w1 (he.below hb he.lt) (h.below hb) hl
  change ∀ w1, Below w.heap.size w w1 → Calls Tryd.prog 34 _ w1 (fun e w' => e = .returned (.tuple #[.string (if tuple l then ⟨(writeB l).toArray⟩ else ⟨#[]⟩), .bool (tuple l)]) ∧ Below w1.heap.size w1 w') at ht
  generalize (if tuple l then (⟨(writeB l).toArray⟩ : ByteArray) else ⟨#[]⟩) = r at ht ⊢
  generalize tuple l = b at ht ⊢
  go_enter Tryd.func16, Tryd.ntmps16
  go_wp2_with (fail)
  go_at_call 35
  refine (plain_any w).mono ?_
  rintro e w1 ⟨rfl, hb1⟩
  go_wp2_with (fail)
  go_at_call 34
  refine (ht w1 hb1).mono ?_
  rintro e w2 ⟨rfl, hb2⟩
  go_wp2
  exact bodyPost_ret (v := .tuple #[.string r, .bool b]) (by simp [results, Tryd.results16, go_sem]) rfl ⟨rfl, hb1.trans (hb2.mono hb1.size)⟩
end Go.Proofs.YtgfjfpghjjknlaaDoor
