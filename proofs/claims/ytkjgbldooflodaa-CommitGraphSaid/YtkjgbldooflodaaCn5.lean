/-
  The walk of the reference's Clash at one list.
-/
import Derived.Test.YtkjgbldooflodaaCmM
import Derived.Test.YtkjgbldooflodaaRef1
import Derived.Test.YtkjgbldooflodaaCn1
import Derived.Test.YtkjgbldooflodaaCm4
namespace Go.Proofs.Ytkjgbldooflodaa
open Go.RowKit Cm Mp
set_option maxRecDepth 100000
set_option linter.unusedVariables false
set_option linter.unusedSimpArgs false
theorem ne_list {a b : ByteArray} (h : ¬ a = b) : (a.toList == b.toList) = false := by
  rw [beq_eq_false_iff_ne]
  intro e
  rw [ByteArray.toList_eq, ByteArray.toList_eq] at e
  exact h (list_ext e)
/-- What is seen so far: of each print the one text. -/
structure Seen (T : List ByteArray) (f : ByteArray → Option ByteArray) : Prop where
  of : ∀ p t, f p = some t → t ∈ T ∧ Sha.sha t = p
  has : ∀ t ∈ T, f (Sha.sha t) = some t
theorem Seen.nil : Seen [] fun _ => none := ⟨(fun p t h => by cases h), fun t h => by cases h⟩
theorem Seen.step {T : List ByteArray} {f : ByteArray → Option ByteArray} {s : ByteArray} (h : Seen T f) (hs : ∀ t, f (Sha.sha s) = some t → t = s) : Seen (T ++ [s]) (fun x => if x = Sha.sha s then some s else f x) := by
  refine ⟨fun p t hp => ?_, fun t ht => ?_⟩
  · by_cases hx : p = Sha.sha s
    · rw [if_pos hx] at hp
      cases hp
      exact ⟨by simp, hx.symm⟩
    · rw [if_neg hx] at hp
      obtain ⟨h1, h2⟩ := h.of p t hp
      exact ⟨List.mem_append_left _ h1, h2⟩
  · rw [List.mem_append, List.mem_singleton] at ht
    by_cases hx : Sha.sha t = Sha.sha s
    · rw [if_pos hx]
      rcases ht with ht | rfl
      · have := h.has t ht
        rw [hx] at this
        rw [hs t this]
      · rfl
    · rw [if_neg hx]
      rcases ht with ht | rfl
      · exact h.has t ht
      · exact absurd rfl hx
/-- No two unlike texts have one print. -/
def NoClash (T : List ByteArray) : Prop := ∀ s ∈ T, ∀ t ∈ T, Sha.sha s = Sha.sha t → s = t
theorem Seen.done {T : List ByteArray} {f : ByteArray → Option ByteArray} (h : Seen T f) : NoClash T := fun s hs t ht e => by
  have h1 := h.has s hs
  have h2 := h.has t ht
  rw [e, h2] at h1
  exact (Option.some.inj h1).symm
theorem str_map {f : ByteArray → Option ByteArray} (p s : ByteArray) : (fun x => if x = p then some (Value.string s) else (f x).map Value.string) = fun x => ((fun x => if x = p then some s else f x) x).map Value.string := by
  funext x
  by_cases h : x = p
  · simp [h]
  · simp [h]
set_option maxHeartbeats 4000000 in
theorem clash_any (g : Nat) (o : Option Addr) (T : List ByteArray) (c c2 : Nat) (w : World) (hg : w.cell? ⟨g, 0, none⟩ = some (.slice o T.length c)) (hs : Ss w o T) (hT : ∀ t ∈ T, t.size ≤ 140737488351232) (hl : T.length ≤ 1000) :
    Calls Try.prog 25 #[.slice (some ⟨g, 0, none⟩) 1 c2] w fun e w' => ∃ bo, e = .returned (.bool bo) ∧ (bo = false → NoClash T) ∧ Below w.heap.size w w' := by
  have hmm := @run_makeMap Try.prog
  have hgl : g < w.heap.size := World.block_lt_of_cell? w ⟨g, 0, none⟩ hg
  have hb1 : Below w.heap.size w (w.alloc (.map #[] 0)) := (Below.refl _ _).alloc (Nat.le_refl _) _
  have HT := Lib.hid hT
  clear hT
  go_enter Try.func25, Try.ntmps25
  go_wp2
  go_loopw [14] (fun v wx => (v = .int .i64 0 ∧ wx = w.alloc (.map #[] 0)) ∨ (v = .int .i64 1 ∧ Hid (NoClash T) ∧ Below w.heap.size w wx)) (fun v _ => 1 - (intOf v).toNat)
  case atStart => exact .inl ⟨by first | rfl | trivial, by first | rfl | trivial⟩
  case round =>
    rcases hrel with ⟨rfl, rfl⟩ | ⟨rfl, hno, hB⟩
    · have cg := (hb1.cell (p := ⟨g, 0, none⟩) hgl).trans hg
      have hs1 := hs.below hb1
      go_wp2
      go_loopw [20] (fun v wx => ∃ (i : Nat) (f : ByteArray → Option ByteArray), v = .int .i64 i ∧ i ≤ T.length ∧ MF wx w.heap.size i (fun x => (f x).map Value.string) ∧ Hid (Seen (T.take i) f) ∧ Below w.heap.size w wx) (fun v _ => T.length - (intOf v).toNat)
      case atStart => exact ⟨0, fun _ => none, by first | rfl | trivial, Nat.zero_le _, MF.made w, Lib.hid Seen.nil, hb1⟩
      case round =>
        obtain ⟨i, f, rfl, hi, hM, HS, hB⟩ := hrel
        by_cases hil : i < T.length
        · obtain ⟨a, rfl⟩ := ss_some hs hil
          obtain ⟨x, hx⟩ : ∃ x, T[i]? = some x := ⟨T[i], List.getElem?_eq_getElem hil⟩
          have cx := (hs.below hB).at hx
          have hxz := HT.out x (List.mem_of_getElem? hx)
          have i16 : (i : Int) < T.length := by omega
          have i17 : IntKind.i64.wrap ((i : Int) + 1) = (i : Int) + 1 := wrap_fit _ (by omega) (by omega)
          obtain ⟨p, hp⟩ : ∃ p, p = Sha.sha x := ⟨_, rfl⟩
          have hp32 : p.size ≤ maxLen := by rw [hp, sha_size]; decide
          have hpr := fun w => rprint_any x w hxz
          rw [← hp] at hpr
          have hml := hM.lt
          have hget : ∀ w3, Below wr.heap.size wr w3 → (Instr.lookup 69 (.map (some w.heap.size)) (.string p) true).run Try.prog w3 = .ok (.tuple #[.string ((f p).getD ⟨#[]⟩), .bool (f p).isSome]) w3 := fun w3 hb3 => by
            have := (hM.below hb3 hml).get 69 9 Try.underlying69 (zeroS w3) p hp32 true
            cases hS : f p <;> (rw [hS] at this; exact this)
          have hput : ∀ w3, Below wr.heap.size wr w3 → ∃ w4, (Instr.mapUpdate 69 (.map (some w.heap.size)) (.string p) (.string x)).run Try.prog w3 = .ok () w4 ∧ MF w4 w.heap.size (i + 1) (fun y => ((fun y => if y = p then some x else f y) y).map Value.string) ∧ Below w.heap.size w w4 := fun w3 hb3 => by
            obtain ⟨w4, h1, h2, h3⟩ := (hM.below hb3 hml).put 69 9 Try.underlying69 (by unfold maxLen; omega) p hp32 (.string x)
            rw [str_map] at h2
            have hB3 := hB.trans (hb3.mono hB.size)
            exact ⟨w4, h1, h2, hB3.trans (below_of_grown h3 (fun k hk => by cases hk; exact Nat.le_refl _) hB3.size)⟩
          have HX := Lib.hid (And.intro (And.intro hx hp) hB)
          have HPUT := Lib.hid hput
          clear hx hp hxz hM hput
          cases hfp : f p with
          | none =>
            have hget' : ∀ w3, Below wr.heap.size wr w3 → (Instr.lookup 69 (.map (some w.heap.size)) (.string p) true).run Try.prog w3 = .ok (.tuple #[.string ⟨#[]⟩, .bool false]) w3 := fun w3 hb3 => by
              have := hget w3 hb3
              rw [hfp] at this
              exact this
            have HFP := Lib.hid hfp
            clear hget hfp
            go_wp2_with (go_at_call 17; with_reducible refine (hpr _).mono ?_; rintro e w3 ⟨rfl, hb3⟩; have hg3 := hget' _ hb3; obtain ⟨w4, hup, hM4, hB4⟩ := HPUT.out _ hb3)
            go_roundw
            case rel =>
              have hst := HS.out.step (s := x) (fun t ht => by rw [← HX.out.1.2, HFP.out] at ht; cases ht)
              rw [← HX.out.1.2, show T.take i ++ [x] = T.take (i + 1) by rw [List.take_add_one, HX.out.1.1]; rfl] at hst
              exact ⟨i + 1, _, by go_num, hil, hM4, Lib.hid hst, hB4⟩
            case measure => simp [intOf]; omega
          | some t =>
            have hget' : ∀ w3, Below wr.heap.size wr w3 → (Instr.lookup 69 (.map (some w.heap.size)) (.string p) true).run Try.prog w3 = .ok (.tuple #[.string t, .bool true]) w3 := fun w3 hb3 => by
              have := hget w3 hb3
              rw [hfp] at this
              exact this
            have HFP := Lib.hid hfp
            clear hget hfp
            by_cases htx : t = x
            · subst htx
              go_wp2_with (go_at_call 17; with_reducible refine (hpr _).mono ?_; rintro e w3 ⟨rfl, hb3⟩; have hg3 := hget' _ hb3; obtain ⟨w4, hup, hM4, hB4⟩ := HPUT.out _ hb3)
              go_roundw
              case rel =>
                have hst := HS.out.step (s := t) (fun u hu => by rw [← HX.out.1.2, HFP.out] at hu; exact (Option.some.inj hu).symm)
                rw [← HX.out.1.2, show T.take i ++ [t] = T.take (i + 1) by rw [List.take_add_one, HX.out.1.1]; rfl] at hst
                exact ⟨i + 1, _, by go_num, hil, hM4, Lib.hid hst, hB4⟩
              case measure => simp [intOf]; omega
            · have hnl := ne_list htx
              clear htx
              go_wp2_with (go_at_call 17; with_reducible refine (hpr _).mono ?_; rintro e w3 ⟨rfl, hb3⟩; have hg3 := hget' _ hb3)
              go_ret
              exact ⟨true, rfl, (fun h => by cases h), HX.out.2.trans (hb3.mono HX.out.2.size)⟩
        · obtain rfl : i = T.length := by omega
          rw [List.take_length] at HS
          go_wp2
          go_roundw
          case rel => exact .inr ⟨by first | rfl | trivial, Lib.hid HS.out.done, hB⟩
          case measure => simp [intOf]
    · go_wp2
      go_ret
      exact ⟨false, rfl, fun _ => hno.out, hB⟩
end Go.Proofs.Ytkjgbldooflodaa
