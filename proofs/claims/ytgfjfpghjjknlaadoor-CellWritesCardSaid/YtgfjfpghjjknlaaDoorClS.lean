/-
  The walk of the law CellWrites.
-/
import Derived.Test.YtgfjfpghjjknlaaDoorClQ
import Derived.Test.YtgfjfpghjjknlaaDoorClR
import Derived.Test.YtgfjfpghjjknlaaDoorClF
namespace Go.Proofs.YtgfjfpghjjknlaaDoor
open Go.RowKit Cl
set_option maxRecDepth 100000
set_option linter.unusedVariables false
set_option linter.unusedSimpArgs false
theorem valsOut_some {l : List V} {w w' : World} {e : Ending} (h : ValsOut (some l) w e w') : ∃ (o : Option Addr) (c : Nat), e = .returned (.tuple #[.slice o l.length c, .bool true]) ∧ Sl w' o l ∧ Below w.heap.size w w' := by
  obtain ⟨o, c, l', ok, rfl, hs, hb, h1, h2⟩ := h
  cases ok with
  | false => exact absurd (h2 rfl).1 (by simp)
  | true =>
    have e := h1 rfl
    cases e
    exact ⟨o, c, rfl, hs, hb⟩
set_option maxHeartbeats 4000000 in
theorem cellWrites_walk (l : List V) (o : Option Addr) (c : Nat) (w : World) (he : Env w) (h : Sl w o l) (hn : o = none → c = 0) (hin : ∀ v ∈ l, In64 v.n) (hl : l.length ≤ 140737488351232) :
    Calls Tryd.prog 6 #[.slice o l.length c] w fun e w' => e = .returned (.bool true) ∧ Below w.heap.size w w' := by
  go_enter Tryd.func6, Tryd.ntmps6
  go_wp2_with (fail)
  go_at_call 9
  refine (awake_any w he).mono ?_
  rintro e w1 ⟨rfl, hb1⟩
  have h1 := h.below hb1
  have he1 := he.below hb1 he.lt
  have hbl := (Below.refl w1.heap.size w1).alloc (Nat.le_refl _) (.cells #[.slice o l.length c] 27)
  have hlt : w1.heap.size < (w1.alloc (.cells #[.slice o l.length c] 27)).heap.size := by simp
  have hfew := few_any [⟨o, c, l⟩] ⟨w1.heap.size, 0, none⟩ (w1.alloc (.cells #[.slice o l.length c] 27)) hlt (fun i x hx => by
    have hc := Lib.cell_of_heap (heap_alloc_new w1 (.cells #[.slice o l.length c] 27))
    match i, hx with
    | 0, hx =>
      cases hx
      exact ⟨hc 0, h1.below hbl, hl⟩) (by simp)
  rw [show ([⟨o, c, l⟩] : List Ls).length = 1 from rfl] at hfew
  have hB1 := hb1.trans (hbl.mono hb1.size)
  have h2 := h1.below hbl
  have he2 := he1.below hbl he1.lt
  obtain ⟨fw, hfw⟩ : ∃ fw : Bool, fw = ([⟨o, c, l⟩] : List Ls).all fun x => fewL x.l := ⟨_, rfl⟩
  rw [← hfw] at hfew
  clear hfw hbl hlt h1 he1 hb1
  go_wp2_with (fail)
  go_at_call 14
  refine hfew.mono ?_
  rintro e w3 ⟨rfl, hb3⟩
  have hB3 := hB1.trans (hb3.mono hB1.size)
  have h3 := h2.below hb3
  have he3 := he2.below hb3 he2.lt
  clear hfew h2 he2 hb3 hB1 h he
  cases fw
  · go_wp2
    go_ret
    exact ⟨rfl, hB3⟩
  · have k1 := fun w (he : Env w) h => write_any l c o w he h hl
    have k2 := fun w h => rwrite_any l c o w h hl hin
    have k3 := fun w (he : Env w) h => key_any l c o w he h hl
    have k4 := fun w h => rkey_any l c o w h hl hin
    have k5 : tuple l = true → ∀ w (he : Env w), Calls Tryd.prog 19 #[.string ⟨(writeB l).toArray⟩] w fun e w' => ∃ (o : Option Addr) (c : Nat), e = .returned (.tuple #[.slice o l.length c, .bool true]) ∧ Sl w' o l ∧ Below w.heap.size w w' := by
      intro ht w he
      have hz : (⟨(writeB l).toArray⟩ : ByteArray).size ≤ 1000000000 := by
        have ht2 := ht
        unfold tuple at ht2
        simp only [Bool.and_eq_true, decide_eq_true_eq] at ht2
        have := tupW_length (fk := 0) (turn := 0) (W := W0) (fun l => by rw [W0_length]; omega) l ht2.2
        show (writeB l).toArray.size ≤ _
        rw [List.size_toArray]
        unfold writeB
        omega
      have hr := read_any ⟨(writeB l).toArray⟩ w he hz
      have hv := vals_tup forth0 (.inl rfl) (.inl rfl) l ht hin
      rw [show vals 0 0 plainU (⟨(writeB l).toArray⟩ : ByteArray).data.toList = some l from hv] at hr
      exact hr.mono fun e w' h => valsOut_some h
    have k6 : tuple l = true → ∀ w (he : Env w), Calls Tryd.prog 20 #[.string ⟨(keyB l).toArray⟩] w fun e w' => ∃ (o : Option Addr) (c : Nat), e = .returned (.tuple #[.slice o l.length c, .bool true]) ∧ Sl w' o l ∧ Below w.heap.size w w' := by
      intro ht w he
      have hz : (⟨(keyB l).toArray⟩ : ByteArray).size ≤ 1000000000 := by
        have ht2 := ht
        unfold tuple at ht2
        simp only [Bool.and_eq_true, decide_eq_true_eq] at ht2
        have := tupW_length (fk := 1) (turn := 9223372036854775808) (W := W1) esc_W1 l ht2.2
        show (keyB l).toArray.size ≤ _
        rw [List.size_toArray]
        unfold keyB
        omega
      have hr := back_any ⟨(keyB l).toArray⟩ w he hz
      have hv := vals_tup forth1 (.inr rfl) (.inr rfl) l ht hin
      rw [show vals 1 9223372036854775808 Esc.unesc (⟨(keyB l).toArray⟩ : ByteArray).data.toList = some l from hv] at hr
      exact hr.mono fun e w' h => valsOut_some h
    obtain ⟨tb, htb⟩ : ∃ b, b = tuple l := ⟨_, rfl⟩
    rw [← htb] at k1 k2 k3 k4 k5 k6
    clear htb hin hn
    cases tb
    · clear k5 k6
      rw [if_neg (by decide)] at k1 k2 k3 k4
      go_wp2_with (fail)
      go_at_call 16
      refine (k1 _ he3 h3).mono ?_
      rintro e w4 ⟨rfl, hb4⟩
      have hB4 := hB3.trans (hb4.mono hB3.size)
      have h4 := h3.below hb4
      have he4 := he3.below hb4 he3.lt
      go_wp2_with (fail)
      go_at_call 17
      refine (k2 _ h4).mono ?_
      rintro e w5 ⟨rfl, hb5⟩
      have hB5 := hB4.trans (hb5.mono hB4.size)
      have h5 := h4.below hb5
      have he5 := he4.below hb5 he4.lt
      go_wp2_with (fail)
      go_at_call 15
      refine (k3 _ he5 h5).mono ?_
      rintro e w6 ⟨rfl, hb6⟩
      have hB6 := hB5.trans (hb6.mono hB5.size)
      have h6 := h5.below hb6
      go_wp2_with (fail)
      go_at_call 18
      refine (k4 _ h6).mono ?_
      rintro e w7 ⟨rfl, hb7⟩
      have hB7 := hB6.trans (hb7.mono hB6.size)
      go_wp2
      go_ret
      exact ⟨rfl, hB7⟩
    · replace k5 := k5 rfl
      replace k6 := k6 rfl
      rw [if_pos rfl] at k1 k2 k3 k4
      generalize (⟨(writeB l).toArray⟩ : ByteArray) = sw at k1 k2 k5
      generalize (⟨(keyB l).toArray⟩ : ByteArray) = sk at k3 k4 k6
      go_wp2_with (fail)
      go_at_call 16
      refine (k1 _ he3 h3).mono ?_
      rintro e w4 ⟨rfl, hb4⟩
      have hB4 := hB3.trans (hb4.mono hB3.size)
      have h4 := h3.below hb4
      have he4 := he3.below hb4 he3.lt
      clear hB3 h3 he3 hb4
      go_wp2_with (fail)
      go_at_call 17
      refine (k2 _ h4).mono ?_
      rintro e w5 ⟨rfl, hb5⟩
      have hB5 := hB4.trans (hb5.mono hB4.size)
      have h5 := h4.below hb5
      have he5 := he4.below hb5 he4.lt
      clear hB4 h4 he4 hb5
      go_wp2_with (fail)
      go_at_call 15
      refine (k3 _ he5 h5).mono ?_
      rintro e w6 ⟨rfl, hb6⟩
      have hB6 := hB5.trans (hb6.mono hB5.size)
      have h6 := h5.below hb6
      have he6 := he5.below hb6 he5.lt
      clear hB5 h5 he5 hb6
      go_wp2_with (fail)
      go_at_call 18
      refine (k4 _ h6).mono ?_
      rintro e w7 ⟨rfl, hb7⟩
      have hB7 := hB6.trans (hb7.mono hB6.size)
      have h7 := h6.below hb7
      have he7 := he6.below hb7 he6.lt
      clear hB6 h6 he6 hb7
      go_wp2_with (fail)
      go_at_call 19
      refine (k5 _ he7).mono ?_
      rintro e w8 ⟨oa, ca, rfl, ha8, hb8⟩
      have hB8 := hB7.trans (hb8.mono hB7.size)
      have h8 := h7.below hb8
      have he8 := he7.below hb8 he7.lt
      clear hB7 h7 he7 hb8
      go_wp2_with (fail)
      go_at_call 20
      refine (k6 _ he8).mono ?_
      rintro e w9 ⟨ob, cb, rfl, hb9', hb9⟩
      have hB9 := hB8.trans (hb9.mono hB8.size)
      have h9 := h8.below hb9
      have ha9 := ha8.below hb9
      clear hB8 h8 he8 hb9 ha8 k1 k2 k3 k4 k5 k6
      go_wp2_with (fail)
      go_at_call 21
      refine (same_any l ca c oa o _ ha9 h9 hl).mono ?_
      rintro e w10 ⟨rfl, hb10⟩
      have hB10 := hB9.trans (hb10.mono hB9.size)
      have h10 := h9.below hb10
      have hb10' := hb9'.below hb10
      clear hB9 h9 hb10 hb9' ha9
      go_wp2_with (fail)
      go_at_call 21
      refine (same_any l cb c ob o _ hb10' h10 hl).mono ?_
      rintro e w11 ⟨rfl, hb11⟩
      have hB11 := hB10.trans (hb11.mono hB10.size)
      go_wp2
      go_ret
      exact ⟨rfl, hB11⟩
end Go.Proofs.YtgfjfpghjjknlaaDoor
