/-
  The walks of bits.RotateLeft32, sums.right, sums.round: what each returns, the world as it was.
-/
import Derived.Test.YtkjgbldooflodaaProg
import Derived.Test.YtkjgbldooflodaaSha0
import Derived.WalkSpells
namespace Go.Proofs.Ytkjgbldooflodaa
open Go.RowKit
set_option maxRecDepth 100000
theorem and31 (n : Nat) (h1 : 1 ≤ n) (h2 : n ≤ 31) : Go.bits .and .u64 (IntKind.u64.wrap (-(n : Int))) 31 = ((32 - n : Nat) : Int) := by
  have : ∀ n : Fin 32, 1 ≤ n.val → Go.bits .and .u64 (IntKind.u64.wrap (-(n.val : Int))) 31 = ((32 - n.val : Nat) : Int) := by decide +kernel
  exact this ⟨n, by omega⟩ h1
set_option maxHeartbeats 400000 in
theorem rotl_any (x : Int) (n : Nat) (h1 : 1 ≤ n) (h2 : n ≤ 31) (w : World) :
    Calls Try.prog 67 #[.int .u32 x, .int .i64 (-(n : Int))] w fun e w' => e = .returned (.int .u32 (Sha.rotr x n)) ∧ w = w' := by
  have h := and31 n h1 h2
  have h3 : IntKind.u64.wrap (32 - ((32 - n : Nat) : Int)) = (n : Int) := by rw [IntKind.wrap_u64]; omega
  go_enter Try.func67, Try.ntmps67
  go_wp2
  go_ret
  exact ⟨rfl, rfl⟩
set_option maxHeartbeats 400000 in
theorem right_any (x n : Int) (h1 : 1 ≤ n) (h2 : n ≤ 31) (w : World) :
    Calls Try.prog 62 #[.int .u32 x, .int .i64 n] w fun e w' => e = .returned (.int .u32 (Sha.rotr x n.toNat)) ∧ w = w' := by
  obtain ⟨m, rfl⟩ := Int.eq_ofNat_of_zero_le (show 0 ≤ n by omega)
  go_enter Try.func62, Try.ntmps62
  go_wp2_with (go_at_call 67; refine (rotl_any x m (by omega) (by omega) _).mono ?_; rintro e w' ⟨rfl, rfl⟩)
  go_ret
  exact ⟨rfl, rfl⟩
/-- 'a[i]' of an array by value, its elements of one cell, i in range. -/
theorem run_index_row {P : Program} {t e : TypeId} {n : Nat} {k : IntKind} {z : Value} {by_ : Nat} (hu : P.underlying t = some (.array n e)) (hk : P.underlying e = some (.int k))
    (hs : (P.info? e).map (fun i => (i.zero, i.size, i.bytes)) = some (some z, 1, by_)) (cs : Array Value) (j : Int) (h0 : 0 ≤ j) (h1 : j < n) (v : Value) (hv : cs[j.toNat]? = some v) (w : World) :
    (Instr.index t (.agg cs) (.int .i64 j)).run P w = .ok v w := by
  obtain ⟨i0, hi, hz⟩ := Option.map_eq_some_iff.1 hs
  simp only [Prod.mk.injEq] at hz
  have hc : P.cellsOf e = 1 := by simp [Program.cellsOf, hi, hz.2.1]
  simp [Instr.index, run_underlying hu, asIntOf, h0, h1, go_sem, sizeOf, typeInfo, hi, hz.2.1, part, isAgg, run_underlying hk, hv]
set_option maxHeartbeats 400000 in
theorem round_any (t : Int) (h0 : 0 ≤ t) (ht : t < 64) (w : World) :
    Calls Try.prog 63 #[.int .i64 t] w fun e w' => e = .returned (.int .u32 (Sha.kst.getD t.toNat 0)) ∧ w = w' := by
  have hidx := fun w => run_index_row (P := Try.prog) (t := 125) (e := 104) (n := 64) (k := .u32) (z := .int .u32 0) (by_ := 4) rfl rfl (by kernel_rfl) (Sha.kst.map (Value.int .u32)).toArray t h0 ht (.int .u32 (Sha.kst.getD t.toNat 0))
    (by have : t.toNat < Sha.kst.length := by (show t.toNat < 64); omega
        simp [this, List.getD_eq_getElem?_getD]) w
  have hidx' : ∀ w, (Instr.index 125 (.agg (Sha.kst.map (Value.int .u32)).toArray) (.int .i64 t)).run Try.prog w = .ok (.int .u32 (Sha.kst.getD t.toNat 0)) w := hidx
  clear hidx
  generalize hr : Sha.kst.getD t.toNat 0 = r at *
  simp only [Sha.kst, List.map_cons, List.map_nil] at hidx'
  go_enter Try.func63, Try.ntmps63
  go_wp2
  go_ret
  exact ⟨rfl, rfl⟩
end Go.Proofs.Ytkjgbldooflodaa
