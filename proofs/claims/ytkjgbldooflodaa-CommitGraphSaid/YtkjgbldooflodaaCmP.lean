/-
  The heap of prints at one print: heap.Pop of the only one, heap.Push onto none.
-/
import Derived.Test.YtkjgbldooflodaaCmO
namespace Go.Proofs.Ytkjgbldooflodaa
open Go.RowKit Cm Mp
set_option maxRecDepth 100000
set_option linter.unusedVariables false
set_option linter.unusedSimpArgs false
/-- The heap's box as an interface's value. -/
def lp (fb : Nat) : Value := .iface 81 (.pointer (some ⟨fb, 0, none⟩))
theorem recv {ad : Addr} {w : World} {v : Value} (h : w.cell? ad = some v) (wr : Option String) : (receiverAt 81 (.val (.pointer (some ad))) false wr).run Try.prog w = .ok v w := by
  have hl : (loadVar 82 ad).run Try.prog w = .ok v w := by
    simp [loadVar, go_sem, h]
  have hu : (underlying 81).run Try.prog w = .ok (.pointer 82) w := by kernel_rfl
  cases wr with
  | none =>
    unfold receiverAt
    simp only [Sem.run_bind, hu, Result.andThen]
    exact hl
  | some name =>
    unfold receiverAt
    simp only [Sem.run_bind, hu, Result.andThen]
    exact hl
theorem mVal {ad : Addr} {w : World} {v : Value} (name : String) (f : FuncId) (h : w.cell? ad = some v) (hm : (Try.prog.info? 81).map (fun i => (i.methods.find? (·.name == name)).map fun m => (m.path.toList.isEmpty, m.func)) = some (some (true, some (f, false)))) :
    (Go.method 246 81 (.pointer (some ad)) name).run Try.prog w = .ok (f, v) w := by
  cases hi : Try.prog.info? 81 with
  | none => rw [hi] at hm; cases hm
  | some i =>
    rw [hi] at hm
    simp only [Option.map_some, Option.some.injEq] at hm
    cases hf : i.methods.find? (·.name == name) with
    | none => rw [hf] at hm; cases hm
    | some m =>
      rw [hf] at hm
      simp only [Option.map_some, Option.some.injEq, Prod.mk.injEq] at hm
      obtain ⟨h1, h2⟩ := hm
      have hti : (typeInfo 81).run Try.prog w = .ok i w := by simp [typeInfo, go_sem, hi]
      have hp : m.path.toList = [] := by simpa using h1
      unfold Go.method
      simp only [Sem.run_bind, hti, Result.andThen, hf, hp, follow, Sem.run_pure, h2, recv h]
theorem mPop (x : Value) (w : World) : (Go.method 246 81 x "Pop").run Try.prog w = .ok (89, x) w := by kernel_rfl
theorem mPush (x : Value) (w : World) : (Go.method 246 81 x "Push").run Try.prog w = .ok (90, x) w := by kernel_rfl
theorem mLen {ad : Addr} {w : World} {v : Value} (h : w.cell? ad = some v) : (Go.method 246 81 (.pointer (some ad)) "Len").run Try.prog w = .ok (37, v) w := mVal "Len" _ h (by kernel_rfl)
theorem mSwap {ad : Addr} {w : World} {v : Value} (h : w.cell? ad = some v) : (Go.method 246 81 (.pointer (some ad)) "Swap").run Try.prog w = .ok (91, v) w := mVal "Swap" _ h (by kernel_rfl)
end Go.Proofs.Ytkjgbldooflodaa
