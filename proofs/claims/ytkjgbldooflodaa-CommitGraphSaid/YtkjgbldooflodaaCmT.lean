/-
  The walk of commit.Base at a commit and the one ahead of it.
-/
import Derived.Test.YtkjgbldooflodaaCmS
namespace Go.Proofs.Ytkjgbldooflodaa
open Go.RowKit Cm Mp
set_option maxRecDepth 100000
set_option linter.unusedVariables false
set_option linter.unusedSimpArgs false
theorem zeroB (w : World) : (zeroValue 4).run Try.prog w = .ok (.bool false) w := by kernel_rfl
theorem own_form {w : World} {B n : Nat} {e : TypeId} {v : Value} {xs : List Value} (h : w.ownsRow B e 1 v (n + 1) xs) : ∃ g c, v = .slice (some ⟨g, 0, none⟩) (n + 1) c := by
  rcases h.2 with ⟨e1, e2⟩ | ⟨g, cap, cur, e1, _⟩
  · cases e2
  · exact ⟨g, cap, e1⟩
set_option maxHeartbeats 2000000 in
theorem over_one (X0 go c cp : Nat) (o : Option Addr) (a : ByteArray) (w : World) (hs : Ss w (some ⟨go, 0, none⟩) [a])
    (hlk : ∀ w', Below w.heap.size w w' → (Instr.lookup 79 (.map (some X0)) (.string a) false).run Try.prog w' = .ok (.slice o 0 cp) w') :
    Calls Try.prog 41 #[.map (some X0), .slice (some ⟨go, 0, none⟩) 1 c] w fun e w' => ∃ eb, e = .returned (.map (some eb)) ∧ w.heap.size ≤ eb ∧ MF w' eb 0 (fun _ => none) ∧ Below w.heap.size w w' := by
  have hb1 : Below w.heap.size w (w.alloc (.map #[] 0)) := (Below.refl _ _).alloc (Nat.le_refl _) _
  have hs1 := hs.below hb1
  have hcl := Try.slices_Clone_string go 0 1 c [a] (w.alloc (.map #[] 0)) (Nat.le_refl _) (by decide) (fun j hj => by
    obtain rfl : j = 0 := by simpa using hj
    exact hs1.at (i := 0) (x := a) rfl)
  have hmm := @run_makeMap Try.prog
  go_enter Try.func41, Try.ntmps41
  go_wp2_with (go_at_call 54; refine hcl.mono ?_; rintro e w5 ⟨v5, rfl, hown5, hne5, hb5⟩; obtain ⟨tb, cc, rfl⟩ := own_form hown5; have hB5 : Below w.heap.size w w5 := Below.trans hb1 (hb5.mono hb1.size); have hM5 := (MF.made w).below hb5 (by simp); have hl5 := hlk w5 hB5; have hc5 : w5.cell? ⟨tb, 0, none⟩ = some (.string a) := hown5.cells rfl 0 (.string a) rfl; have HM := Lib.hid (And.intro hM5 hB5); clear hM5 hB5 hown5 hb5)
  go_loopw [6] (fun v wx => (v = .slice (some ⟨tb, 0, none⟩) 1 cc ∧ wx = w5) ∨ (v = .slice (some ⟨tb, 0, none⟩) 0 cc ∧ wx = w5)) (fun v _ => lenSl v)
  case atStart => exact .inl ⟨by first | rfl | trivial, by first | rfl | trivial⟩
  case round =>
    rcases hrel with ⟨rfl, rfl⟩ | ⟨rfl, rfl⟩
    · obtain ⟨wo, rfl⟩ : ∃ wo : World, wo = wr := ⟨_, rfl⟩
      go_wp2
      go_loopw [6, 31] (fun v x wx => v = .slice (some ⟨tb, 0, none⟩) 0 cc ∧ x = .int .i64 0 ∧ wx = wo) (fun _ x _ => 0)
      case atStart => exact ⟨by first | rfl | trivial, by first | rfl | trivial, by first | rfl | trivial⟩
      case round =>
        obtain ⟨rfl, rfl, rfl⟩ := hrel
        go_wp2
        go_roundw
        case rel => exact .inr ⟨by first | rfl | trivial, by first | rfl | trivial⟩
        case measure => simp [lenSl]
    · go_wp2
      go_ret
      exact ⟨w.heap.size, rfl, Nat.le_refl _, HM.out.1, HM.out.2⟩
theorem elder_any (pb eb : Nat) (a : ByteArray) (ha : a.size ≤ maxLen) (w : World) (hc : w.cell? ⟨pb, 0, none⟩ = some (.map (some eb))) (hM : MF w eb 0 (fun _ => none)) :
    Calls Try.prog 43 #[.string a, .pointer (some ⟨pb, 0, none⟩)] w fun e w' => e = .returned (.bool false) ∧ w' = w := by
  have hlk := hM.get 87 4 Try.underlying87 (zeroB w) a ha false
  replace hlk : (Instr.lookup 87 (.map (some eb)) (.string a) false).run Try.prog w = .ok (.bool false) w := hlk
  go_enter Try.func43, Try.ntmps43
  go_wp2
  go_ret
  exact ⟨rfl, rfl⟩
theorem del_one (go c pb eb : Nat) (a : ByteArray) (ha : a.size ≤ maxLen) (w : World) (hs : Ss w (some ⟨go, 0, none⟩) [a]) (hc : w.cell? ⟨pb, 0, none⟩ = some (.map (some eb))) (hM : MF w eb 0 (fun _ => none)) :
    Calls Try.prog 42 #[.slice (some ⟨go, 0, none⟩) 1 c, .func (.func 43) #[] #[.pointer (some ⟨pb, 0, none⟩)]] w fun e w' => e = .returned (.slice (some ⟨go, 0, none⟩) 1 c) ∧ Below w.heap.size w w' := by
  have hpl : pb < w.heap.size := World.block_lt_of_cell? w ⟨pb, 0, none⟩ hc
  have hpr : PredAt Try.prog 43 #[.pointer (some ⟨pb, 0, none⟩)] (fun _ : Unit => Value.string a) (fun _ => false) w := fun W x hb => (elder_any pb eb a ha W ((hb.cell hpl).trans hc) (hM.below hb hM.lt)).mono (by
    rintro e w' ⟨rfl, rfl⟩
    exact ⟨rfl, 0, rfl⟩)
  have hix := Try.slices_IndexFunc (fun _ : Unit => Value.string a) (fun _ => false) 43 #[.pointer (some ⟨pb, 0, none⟩)] (fun _ _ => by kernel_rfl) go 0 1 c [()] w hpr (Nat.le_refl _) (by decide) (fun j hj => by
    obtain rfl : j = 0 := by simpa using hj
    exact hs.at (i := 0) (x := a) rfl)
  rw [show Lib.idxBy (fun (_ : Unit) (_ : Unit) => false) (List.take 1 [()]) default = -1 by rfl] at hix
  go_enter Try.func42, Try.ntmps42
  go_wp2_with (go_at_call 55; refine hix.mono ?_; rintro e w1 ⟨rfl, q, rfl⟩)
  go_ret
  exact ⟨rfl, below_drewN (Below.refl _ _) q⟩
end Go.Proofs.Ytkjgbldooflodaa
