/-
  The walk of the law CellJoins.
-/
import Derived.Test.YtgfjfpghjjknlaaDoorClF
namespace Go.Proofs.YtgfjfpghjjknlaaDoor
open Go.RowKit Cl
set_option maxRecDepth 100000
set_option linter.unusedVariables false
set_option linter.unusedSimpArgs false
theorem key_append (a b : List V) : keyB (a ++ b) = keyB a ++ keyB b := by unfold keyB tupW; rw [List.flatMap_append]
theorem tuple_append (a b : List V) (ha : a.length ≤ 32) (hb : b.length ≤ 32) : tuple (a ++ b) = (tuple a && tuple b) := by
  unfold tuple
  rw [List.all_append, List.length_append, decide_eq_true (show a.length + b.length ≤ 64 by omega), decide_eq_true (show a.length ≤ 64 by omega), decide_eq_true (show b.length ≤ 64 by omega)]
  simp
set_option maxHeartbeats 4000000 in
theorem cellJoins_walk0 (l1 l2 : List V) (o1 o2 : Option Addr) (c1 c2 : Nat) (w : World) (he : Env w) (h1 : Sl w o1 l1) (h2 : Sl w o2 l2) (hn1 : o1 = none → c1 = 0) (hn2 : o2 = none → c2 = 0) (hl1 : l1.length ≤ 140737488351232) (hl2 : l2.length ≤ 140737488351232) :
    Calls Tryd.prog 4 #[.slice o1 l1.length c1, .slice o2 l2.length c2] w fun e w' => e = .returned (.bool true) ∧ Below w.heap.size w w' := by
  obtain ⟨i0, hi0, hz0, hz1, hz2⟩ := info_parts (P := Tryd.prog) (e := 23) (z := .agg #[.int .i64 0, .int .i64 0, .string ⟨#[]⟩]) (size := 3) (bytes := 32) (by kernel_rfl)
  go_enter Tryd.func4, Tryd.ntmps4
  go_wp2_with (fail)
  go_at_call 9
  refine (awake_any w he).mono ?_
  rintro e w1 ⟨rfl, hb1⟩
  have h11 := h1.below hb1
  have h21 := h2.below hb1
  have he1 := he.below hb1 he.lt
  have hbl := (Below.refl w1.heap.size w1).alloc (Nat.le_refl _) (.cells #[.slice o1 l1.length c1, .slice o2 l2.length c2] 27)
  have hlt : w1.heap.size < (w1.alloc (.cells #[.slice o1 l1.length c1, .slice o2 l2.length c2] 27)).heap.size := by simp
  have hfew := few_any [⟨o1, c1, l1⟩, ⟨o2, c2, l2⟩] ⟨w1.heap.size, 0, none⟩ (w1.alloc (.cells #[.slice o1 l1.length c1, .slice o2 l2.length c2] 27)) hlt (fun i x hx => by
    have hc := Lib.cell_of_heap (heap_alloc_new w1 (.cells #[.slice o1 l1.length c1, .slice o2 l2.length c2] 27))
    match i, hx with
    | 0, hx =>
      cases hx
      exact ⟨hc 0, h11.below hbl, hl1⟩
    | 1, hx =>
      cases hx
      exact ⟨hc 1, h21.below hbl, hl2⟩) (by simp)
  rw [show ([⟨o1, c1, l1⟩, ⟨o2, c2, l2⟩] : List Ls).length = 2 from rfl] at hfew
  have hB1 := hb1.trans (hbl.mono hb1.size)
  have h12 := h11.below hbl
  have h22 := h21.below hbl
  have he2 := he1.below hbl he1.lt
  obtain ⟨fw, hfw⟩ : ∃ fw : Bool, fw = ([⟨o1, c1, l1⟩, ⟨o2, c2, l2⟩] : List Ls).all fun x => fewL x.l := ⟨_, rfl⟩
  rw [← hfw] at hfew
  clear hfw hbl hlt h11 h21 he1 hb1
  go_wp2_with (fail)
  go_at_call 14
  refine hfew.mono ?_
  rintro e w3 ⟨rfl, hb3⟩
  have hB3 := hB1.trans (hb3.mono hB1.size)
  have h13 := h12.below hb3
  have h23 := h22.below hb3
  have he3 := he2.below hb3 he2.lt
  clear hfew h12 h22 he2 hb3 hB1 h1 h2 he
  cases fw
  · go_wp2
    go_ret
    exact ⟨rfl, hB3⟩
  · by_cases ha : (l1.length : Int) > 32
    · go_wp2
      go_ret
      exact ⟨rfl, hB3⟩
    · by_cases hb : (l2.length : Int) > 32
      · go_wp2
        go_ret
        exact ⟨rfl, hB3⟩
      · have ta := tuple_append l1 l2 (by omega) (by omega)
        obtain ⟨t1, ht1⟩ : ∃ t : Bool, t = tuple l1 := ⟨_, rfl⟩
        obtain ⟨t2, ht2⟩ : ∃ t : Bool, t = tuple l2 := ⟨_, rfl⟩
        have hk1 := fun w (he : Env w) h => key_any l1 c1 o1 w he h (by omega)
        have hk2 := fun w (he : Env w) h => key_any l2 c2 o2 w he h (by omega)
        rw [← ht1, ← ht2] at ta
        rw [← ht1] at hk1
        rw [← ht2] at hk2
        obtain ⟨r1, hr1⟩ : ∃ r : ByteArray, r = (if t1 then (⟨(keyB l1).toArray⟩ : ByteArray) else ⟨#[]⟩) := ⟨_, rfl⟩
        obtain ⟨r2, hr2⟩ : ∃ r : ByteArray, r = (if t2 then (⟨(keyB l2).toArray⟩ : ByteArray) else ⟨#[]⟩) := ⟨_, rfl⟩
        rw [← hr1] at hk1
        rw [← hr2] at hk2
        have hsz1 : r1.size ≤ 1000000 := by
          rw [hr1]
          cases t1 with
          | false => show (⟨#[]⟩ : ByteArray).size ≤ _; decide
          | true =>
            have := tupW_length (fk := 1) (turn := 9223372036854775808) esc_W1 l1 (by have := ht1.symm; unfold tuple at this; simp only [Bool.and_eq_true] at this; exact this.2)
            show (keyB l1).toArray.size ≤ _
            rw [List.size_toArray]
            unfold keyB
            omega
        have hsz2 : r2.size ≤ 1000000 := by
          rw [hr2]
          cases t2 with
          | false => show (⟨#[]⟩ : ByteArray).size ≤ _; decide
          | true =>
            have := tupW_length (fk := 1) (turn := 9223372036854775808) esc_W1 l2 (by have := ht2.symm; unfold tuple at this; simp only [Bool.and_eq_true] at this; exact this.2)
            show (keyB l2).toArray.size ≤ _
            rw [List.size_toArray]
            unfold keyB
            omega
        have HR := Lib.hid (And.intro (And.intro ht1 ht2) (And.intro hr1 hr2))
        have TA := Lib.hid ta
        clear hr1 hr2 ta ht1 ht2
        go_wp2_with (fail)
        go_at_call 15
        refine (hk1 _ he3 h13).mono ?_
        rintro e w4 ⟨rfl, hb4⟩
        have hB4 := hB3.trans (hb4.mono hB3.size)
        have h14 := h13.below hb4
        have h24 := h23.below hb4
        have he4 := he3.below hb4 he3.lt
        clear hk1 h13 h23 he3 hb4 hB3
        go_wp2_with (fail)
        go_at_call 15
        refine (hk2 _ he4 h24).mono ?_
        rintro e w5 ⟨rfl, hb5⟩
        have hB5 := hB4.trans (hb5.mono hB4.size)
        have h15 := h14.below hb5
        have h25 := h24.below hb5
        have he5 := he4.below hb5 he4.lt
        clear hk2 h14 h24 he4 hb5 hB4
        go_wp2_with (at_builtin; go_loud (refine wpList_appV rfl (.tmp 39) (.tmp 40) 27 rfl w5.heap.size 23 i0 (.agg #[.int .i64 0, .int .i64 0, .string ⟨#[]⟩]) 32 Tryd.underlying27 hi0 hz0 hz1 hz2 rfl _ 0 [] rfl ?h0 o1 l1 c1 rfl hn1 ?v0 ?m0 ?b0 ?s0 ?_))
        case h0 => exact ⟨rfl, .inr ⟨w5.heap.size, 0, #[], rfl, Nat.le_refl _, heap_alloc_new w5 _, Nat.le_refl _, by unfold maxLen; omega, rfl, rfl⟩⟩
        case v0 => exact h15.below ((Below.refl _ _).alloc (Nat.le_refl _) _)
        case m0 => unfold maxLen; omega
        case b0 => omega
        case s0 => simp
        intro vb w6 hown6 hgrow6
        have hB6 : Below w5.heap.size w5 w6 := ((Below.refl _ _).alloc (Nat.le_refl _) _).grown hgrow6 (by simp) (fun k hk => by simp [Value.ownBlock] at hk; omega)
        go_wp2_with (at_builtin; go_loud (refine wpList_appV rfl (.tmp 41) (.tmp 42) 27 rfl w5.heap.size 23 i0 (.agg #[.int .i64 0, .int .i64 0, .string ⟨#[]⟩]) 32 Tryd.underlying27 hi0 hz0 hz1 hz2 rfl _ l1.length (vcells l1) rfl ?h1 o2 l2 c2 rfl hn2 ?v1 ?m1 ?b1 ?s1 ?_))
        case h1 => exact hown6
        case v1 => exact h25.below hB6
        case m1 => unfold maxLen; omega
        case b1 => omega
        case s1 => exact hB6.size
        intro vc w7 hown7 hgrow7
        have hB7 : Below w5.heap.size w5 w7 := hB6.grown hgrow7 hB6.size (fun k hk => (hown6.lt k hk).1)
        have hap : vcells (l1 ++ l2) = vcells l1 ++ vcells l2 := by unfold vcells; rw [List.flatMap_append]
        rw [← hap] at hown7
        obtain ⟨o3, c3, rfl, hsl3⟩ := own_sl hown7 (by rw [List.length_append])
        have he7 := he5.below hB7 he5.lt
        have hBB := hB5.trans (hB7.mono hB5.size)
        have hk3 := key_any (l1 ++ l2) c3 o3 w7 he7 hsl3 (by rw [List.length_append]; omega)
        rw [TA.out, List.length_append] at hk3
        clear hown7 hgrow7 hown6 hgrow6 hB6 hB7 h15 h25 he5 hap he7
        obtain ⟨r3, hr3⟩ : ∃ r : ByteArray, r = (if (t1 && t2) = true then (⟨(keyB (l1 ++ l2)).toArray⟩ : ByteArray) else ⟨#[]⟩) := ⟨_, rfl⟩
        rw [← hr3] at hk3
        have hcat : t1 = true → t2 = true → r3 = r1 ++ r2 := by
          intro h1 h2
          obtain ⟨_, e1, e2⟩ := HR.out
          rw [hr3, e1, e2, h1, h2]
          refine ByteArray.ext (Array.ext' ?_)
          simp [key_append]
        have HC := Lib.hid hcat
        clear hr3 hcat
        go_wp2_with (fail)
        go_at_call 15
        refine hk3.mono ?_
        rintro e w8 ⟨rfl, hb8⟩
        have hB8 := hBB.trans (hb8.mono hBB.size)
        clear hk3 hsl3 hb8 hBB
        cases t1
        · go_wp2
          go_ret
          exact ⟨rfl, hB8⟩
        · cases t2
          · go_wp2
            go_ret
            exact ⟨rfl, hB8⟩
          · have hc := HC.out rfl rfl
            subst hc
            go_wp2
            go_ret
            exact ⟨by first | rfl | (simp; done), hB8⟩
theorem cellJoins_walk (l1 : List V) (o1 : Option Addr) (c1 : Nat) (l2 : List V) (o2 : Option Addr) (c2 : Nat) (w : World) (he : Env w) (h1 : Sl w o1 l1) (hn1 : o1 = none → c1 = 0) (_ : ∀ v ∈ l1, In64 v.n) (hl1 : l1.length ≤ 140737488351232)
    (h2 : Sl w o2 l2) (hn2 : o2 = none → c2 = 0) (_ : ∀ v ∈ l2, In64 v.n) (hl2 : l2.length ≤ 140737488351232) :
    Calls Tryd.prog 4 #[.slice o1 l1.length c1, .slice o2 l2.length c2] w fun e w' => e = .returned (.bool true) ∧ Below w.heap.size w w' :=
  cellJoins_walk0 l1 l2 o1 o2 c1 c2 w he h1 h2 hn1 hn2 hl1 hl2
end Go.Proofs.YtgfjfpghjjknlaaDoor
