/-
  Striking out of a list of texts those that a map of truths tells.
-/
import Derived.Test.YtkjgbldooflodaaCn1
import Derived.Test.YtkjgbldooflodaaShelf2
import Derived.Lib.OwnBridge
namespace Go.Proofs.Ytkjgbldooflodaa
open Go.RowKit Cm Mp
set_option maxRecDepth 100000
set_option linter.unusedVariables false
set_option linter.unusedSimpArgs false
/-- A text that a map may be asked for. -/
abbrev Sm := {s : ByteArray // s.size ≤ maxLen}
instance : Inhabited Sm := ⟨⟨⟨#[]⟩, Nat.zero_le _⟩⟩
def encS (x : Sm) : Value := .string x.1
theorem elder_gen (pb eb n : Nat) (vis : List ByteArray) (a : ByteArray) (ha : a.size ≤ maxLen) (w : World) (hc : w.cell? ⟨pb, 0, none⟩ = some (.map (some eb))) (hM : MF w eb n (memB vis)) :
    Calls Try.prog 43 #[.string a, .pointer (some ⟨pb, 0, none⟩)] w fun e w' => e = .returned (.bool (inB a vis)) ∧ w' = w := by
  have hlk := hM.get 87 4 Try.underlying87 (zeroB w) a ha false
  replace hlk : (Instr.lookup 87 (.map (some eb)) (.string a) false).run Try.prog w = .ok (.bool (inB a vis)) w := by
    by_cases h : a ∈ vis
    · rw [memB_in h] at hlk
      rw [(inB_iff _ _).2 h]
      exact hlk
    · rw [memB_out h] at hlk
      rw [Bool.eq_false_iff.2 (fun e => h ((inB_iff _ _).1 e))]
      exact hlk
  generalize inB a vis = bo at hlk ⊢
  go_enter Try.func43, Try.ntmps43
  go_wp2
  go_ret
  exact ⟨rfl, rfl⟩
theorem del_any (base pb eb n g cap : Nat) (ks : List Sm) (vis : List ByteArray) (w : World) (hown : w.ownsRow base 9 1 (.slice (some ⟨g, 0, none⟩) ks.length cap) ks.length (ks.map encS))
    (hc : w.cell? ⟨pb, 0, none⟩ = some (.map (some eb))) (hM : MF w eb n (memB vis)) (hpg : pb ≠ g) (heg : eb ≠ g) (hkl : ks.length ≤ 1000000) :
    Calls Try.prog 42 #[.slice (some ⟨g, 0, none⟩) ks.length cap, .func (.func 43) #[] #[.pointer (some ⟨pb, 0, none⟩)]] w fun e w' =>
      ∃ fs : List Sm, (∀ x : Sm, x ∈ fs ↔ x ∈ ks ∧ x.1 ∉ vis) ∧ fs.length ≤ ks.length ∧ e = .returned (.slice (some ⟨g, 0, none⟩) fs.length cap) ∧ w'.ownsRow base 9 1 (.slice (some ⟨g, 0, none⟩) fs.length cap) fs.length (fs.map encS) ∧ Below base w w' := by
  have hpl : pb < w.heap.size := World.block_lt_of_cell? w ⟨pb, 0, none⟩ hc
  obtain ⟨g', cap', he, hbg, hlt, hn, hm, hl, hH⟩ := Lib.holds_of_ownsRow hown (by intro e; cases e)
  injection he with e1 _ e3
  injection e1 with e1
  injection e1 with e1
  subst e1 e3
  have hpr : PredAt Try.prog 43 #[.pointer (some ⟨pb, 0, none⟩)] encS (fun x => inB x.1 vis) w := fun W x hb => (elder_gen pb eb n vis x.1 x.2 W ((hb.cell hpl).trans hc) (hM.below hb hM.lt)).mono (by
    rintro e w' ⟨rfl, rfl⟩
    exact ⟨rfl, 0, rfl⟩)
  have hpo : PredOver Try.prog 43 #[.pointer (some ⟨pb, 0, none⟩)] encS (fun x => inB x.1 vis) g 0 ks.toArray.size w := fun m os dk x _ => (elder_gen pb eb n vis x.1 x.2 _ (by
      unfold sortWorld
      rw [Sort.cell?_grow _ _ _ (by show pb < (Sort.putRow _ _ _ _ _).heap.size; rw [Sort.size_putRow]; exact hpl), Sort.cell?_putRow_other _ _ g 0 _ _ (Or.inl hpg)]
      exact hc) (hM.block (by
      unfold sortWorld
      rw [Sort.heap_grow_old _ _ (by rw [Sort.size_putRow]; exact hM.lt)]
      simp [Sort.putRow, Sort.mapBlock, Sort.ahead, Array.getElem?_modify, heg.symm]))).mono (by
    rintro e w' ⟨rfl, rfl⟩
    exact ⟨rfl, 0, rfl⟩)
  have hcon := Try.slices_DeleteFunc encS (fun _ => rfl) (fun x => inB x.1 vis) 43 #[.pointer (some ⟨pb, 0, none⟩)] (fun _ _ => by kernel_rfl) ⟨⟨#[]⟩, Nat.zero_le _⟩ (fun _ => by kernel_rfl) g 0 cap ks.toArray w hpr hpo hH (by simp; omega) (by simpa using hn)
  rw [show ks.toArray.size = ks.length from List.size_toArray] at hcon
  refine hcon.mono ?_
  rintro e w' ⟨rfl, q, rfl⟩
  have hle := List.length_filter_le (fun x : Sm => !inB x.1 vis) ks
  refine ⟨ks.filter fun x => !inB x.1 vis, fun x => ?_, hle, rfl, ?_, Lib.below_putRow (Below.refl _ _) hbg⟩
  · rw [List.mem_filter, ← inB_iff]
    simp
  · have := Lib.ownsRow_putRow (q := q) (k := (ks.filter fun x => !inB x.1 vis).length) (ys := (ks.filter fun x => !inB x.1 vis) ++ List.replicate (ks.length - (ks.filter fun x => !inB x.1 vis).length) ⟨⟨#[]⟩, Nat.zero_le _⟩) hown (by rw [List.length_append, List.length_replicate]; omega) hle
    rw [List.take_left] at this
    exact this
theorem over_nil (X0 : Nat) (w : World) :
    Calls Try.prog 41 #[.map (some X0), .slice none 0 0] w fun e w' => ∃ eb, e = .returned (.map (some eb)) ∧ Below w.heap.size w w' := by
  have hb1 : Below w.heap.size w (w.alloc (.map #[] 0)) := (Below.refl _ _).alloc (Nat.le_refl _) _
  have hcl := fun w => Try.slices_Clone_string_nil 0 0 w
  have hmm := @run_makeMap Try.prog
  go_enter Try.func41, Try.ntmps41
  go_wp2_with (go_at_call 54; refine (hcl _).mono ?_; rintro e w5 ⟨rfl, rfl⟩)
  go_loopw [6] (fun v wx => v = .slice none 0 0 ∧ wx = w.alloc (.map #[] 0)) (fun _ _ => 0)
  case atStart => exact ⟨by first | rfl | trivial, by first | rfl | trivial⟩
  case round =>
    obtain ⟨rfl, rfl⟩ := hrel
    go_wp2
    go_ret
    exact ⟨w.heap.size, rfl, hb1⟩
theorem del_nil (fv : Value) (w : World) :
    Calls Try.prog 42 #[.slice none 0 0, fv] w fun e w' => e = .returned (.slice none 0 0) ∧ w' = w := by
  have hix := fun w => Try.slices_IndexFunc_empty (α := Unit) none 0 fv w
  go_enter Try.func42, Try.ntmps42
  go_wp2_with (go_at_call 55; refine (hix _).mono ?_; rintro e w1 ⟨rfl, rfl⟩)
  go_ret
  exact ⟨rfl, rfl⟩
end Go.Proofs.Ytkjgbldooflodaa
