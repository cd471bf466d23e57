/-
  The walk of the law CellShown.
-/
import Derived.Test.YtgfjfpghjjknlaaDoorClD
import Derived.Deep.RegionHeld3
namespace Go.Proofs.YtgfjfpghjjknlaaDoor
open Go.RowKit Cl
set_option maxRecDepth 100000
set_option linter.unusedVariables false
set_option linter.unusedSimpArgs false
theorem ne_toList {s t : ByteArray} (h : s ≠ t) : ¬ s.toList = t.toList := fun e => h (Sh.str_of (by rw [toList_data, toList_data] at e; exact e))
set_option maxHeartbeats 4000000 in
theorem cellShown_walk (a b : V) (w : World) (he : Env w) (ha : In64 a.n) (hb : In64 b.n) :
    Calls Tryd.prog 5 #[.agg #[.int .i64 a.k, .int .i64 a.n, .string a.s], .agg #[.int .i64 b.k, .int .i64 b.n, .string b.s]] w fun e w' => e = .returned (.bool true) ∧ Below w.heap.size w w' := by
  obtain ⟨ka, na, sa⟩ := a
  obtain ⟨kb, nb, sb⟩ := b
  dsimp only at ha hb ⊢
  have hb1 := ((Below.refl w.heap.size w).alloc (Nat.le_refl _) (.cells #[.int .i64 ka, .int .i64 na, .string sa] 23)).alloc (by simp) (.cells #[.int .i64 kb, .int .i64 nb, .string sb] 23)
  have hva : VAt ((w.alloc (.cells #[.int .i64 ka, .int .i64 na, .string sa] 23)).alloc (.cells #[.int .i64 kb, .int .i64 nb, .string sb] 23)) w.heap.size ⟨ka, na, sa⟩ := (Lib.alloc_old _ _ _ (by simp)).trans (heap_alloc_new w _)
  have hvb : VAt ((w.alloc (.cells #[.int .i64 ka, .int .i64 na, .string sa] 23)).alloc (.cells #[.int .i64 kb, .int .i64 nb, .string sb] 23)) (w.heap.size + 1) ⟨kb, nb, sb⟩ := by
    have := heap_alloc_new (w.alloc (.cells #[.int .i64 ka, .int .i64 na, .string sa] 23)) (.cells #[.int .i64 kb, .int .i64 nb, .string sb] 23)
    simpa [VAt] using this
  have he1 := he.below hb1 he.lt
  generalize hwa : ((w.alloc (.cells #[.int .i64 ka, .int .i64 na, .string sa] 23)).alloc (.cells #[.int .i64 kb, .int .i64 nb, .string sb] 23)) = wa at hb1 hva hvb he1
  go_enter Tryd.func5, Tryd.ntmps5
  go_wp2_with (fail)
  clear hwa
  go_at_call 9
  refine (awake_any wa he1).mono ?_
  rintro e w1 ⟨rfl, h1⟩
  have hB1 := hb1.trans (h1.mono hb1.size)
  have ha1 := hva.below h1
  have hb2 := hvb.below h1
  have he2 := he1.below h1 he1.lt
  clear hva hvb he1 hb1 h1 he
  obtain ⟨x0, x1, x2⟩ := ha1.cells
  dsimp only at x0 x1 x2
  obtain ⟨y0, y1, y2⟩ := hb2.cells
  dsimp only at y0 y1 y2
  go_wp2_with (fail)
  go_at_call 11
  refine (rright_any ⟨ka, na, sa⟩ w1).mono ?_
  rintro e w2 ⟨rfl, h2⟩
  have hB2 := hB1.trans (h2.mono hB1.size)
  have ha2 := ha1.below h2
  have hbb2 := hb2.below h2
  have he3 := he2.below h2 he2.lt
  clear x0 x1 x2 y0 y1 y2 ha1 hb2 he2 h2 hB1
  cases hra : right ⟨ka, na, sa⟩
  · go_wp2
    go_ret
    exact ⟨rfl, hB2⟩
  · obtain ⟨y0, y1, y2⟩ := hbb2.cells
    dsimp only at y0 y1 y2
    go_wp2_with (fail)
    go_at_call 11
    refine (rright_any ⟨kb, nb, sb⟩ w2).mono ?_
    rintro e w3 ⟨rfl, h3⟩
    have hB3 := hB2.trans (h3.mono hB2.size)
    have ha3 := ha2.below h3
    have hb3 := hbb2.below h3
    have he4 := he3.below h3 he3.lt
    clear y0 y1 y2 ha2 hbb2 he3 h3 hB2
    cases hrb : right ⟨kb, nb, sb⟩
    · go_wp2
      go_ret
      exact ⟨rfl, hB3⟩
    · obtain ⟨x0, x1, x2⟩ := ha3.cells
      dsimp only at x0 x1 x2
      obtain ⟨y0, y1, y2⟩ := hb3.cells
      dsimp only at y0 y1 y2
      have hS0 := And.intro ha3.cells hb3.cells
      have ca := fun w (he : Env w) => show_any ⟨ka, na, sa⟩ w he ha
      have cb := fun w (he : Env w) => show_any ⟨kb, nb, sb⟩ w he hb
      dsimp only at ca cb
      have hinj : showS ⟨ka, na, sa⟩ = showS ⟨kb, nb, sb⟩ ↔ (ka = kb ∧ na = nb ∧ sa = sb) := by
        constructor
        · intro h
          have h2 := congrArg (fun z : ByteArray => z.data.toList) h
          have h3 := Sh.show_inj hra hrb (by simpa [showS] using h2)
          injection h3 with h4 h5 h6
          exact ⟨h4, h5, h6⟩
        · rintro ⟨rfl, rfl, rfl⟩; rfl
      obtain ⟨za, hza⟩ : ∃ za, za = showS ⟨ka, na, sa⟩ := ⟨_, rfl⟩
      obtain ⟨zb, hzb⟩ : ∃ zb, zb = showS ⟨kb, nb, sb⟩ := ⟨_, rfl⟩
      rw [← hza] at ca hinj
      rw [← hzb] at cb hinj
      have HI := Lib.hid hinj
      clear hinj hza hzb hra hrb
      by_cases hk : ka = kb
      · subst hk
        by_cases hn : na = nb
        · subst hn
          by_cases hs : sa = sb
          · subst hs
            have hz : za = zb := HI.out.2 ⟨rfl, rfl, rfl⟩
            subst hz
            go_wp2_with (fail)
            go_region_held3 (fun w' => (w'.cell? ⟨w.heap.size, 0, none⟩ = some (.int .i64 ka) ∧ w'.cell? ⟨w.heap.size, 1, none⟩ = some (.int .i64 na) ∧ w'.cell? ⟨w.heap.size, 2, none⟩ = some (.string sa)) ∧ w'.cell? ⟨w.heap.size + 1, 0, none⟩ = some (.int .i64 ka) ∧ w'.cell? ⟨w.heap.size + 1, 1, none⟩ = some (.int .i64 na) ∧ w'.cell? ⟨w.heap.size + 1, 2, none⟩ = some (.string sa)) (first | exact hS0 | exact hS5 | exact hS6 | go_keep)
              ((first | (go_at_call 12; go_loud (with_reducible refine (ca _ (he4.below (w' := _) (B := w3.heap.size) (Below.drew (Below.refl _ _)) he4.lt)).mono ?_; rintro e w5 ⟨rfl, hC5⟩; have hb5 : Below w3.heap.size w3 w5 := (Below.refl _ _).drew.trans (hC5.mono (by simp)); have hS5 := And.intro (ha3.below hb5).cells (hb3.below hb5).cells; have he5 := he4.below hb5 he4.lt)) | (go_at_call 12; go_loud (with_reducible refine (cb _ he5).mono ?_; rintro e w6 ⟨rfl, hC6⟩; have hb6 : Below w3.heap.size w3 w6 := hb5.trans (hC6.mono hb5.size); have hS6 := And.intro (ha3.below hb6).cells (hb3.below hb6).cells))))
            all_goals (
              go_wp2
              go_ret
              exact ⟨by first | rfl | (simp; done) | (simp; exact hz), hB3.trans (hb6.mono hB3.size)⟩)
          · have hz := ne_toList (fun h => hs (HI.out.1 h).2.2 : za ≠ zb)
            have hsl := ne_toList hs
            clear hs
            go_wp2_with (fail)
            go_region_held3 (fun w' => (w'.cell? ⟨w.heap.size, 0, none⟩ = some (.int .i64 ka) ∧ w'.cell? ⟨w.heap.size, 1, none⟩ = some (.int .i64 na) ∧ w'.cell? ⟨w.heap.size, 2, none⟩ = some (.string sa)) ∧ w'.cell? ⟨w.heap.size + 1, 0, none⟩ = some (.int .i64 ka) ∧ w'.cell? ⟨w.heap.size + 1, 1, none⟩ = some (.int .i64 na) ∧ w'.cell? ⟨w.heap.size + 1, 2, none⟩ = some (.string sb)) (first | exact hS0 | exact hS5 | exact hS6 | go_keep)
              ((first | (go_at_call 12; go_loud (with_reducible refine (ca _ (he4.below (w' := _) (B := w3.heap.size) (Below.drew (Below.refl _ _)) he4.lt)).mono ?_; rintro e w5 ⟨rfl, hC5⟩; have hb5 : Below w3.heap.size w3 w5 := (Below.refl _ _).drew.trans (hC5.mono (by simp)); have hS5 := And.intro (ha3.below hb5).cells (hb3.below hb5).cells; have he5 := he4.below hb5 he4.lt)) | (go_at_call 12; go_loud (with_reducible refine (cb _ he5).mono ?_; rintro e w6 ⟨rfl, hC6⟩; have hb6 : Below w3.heap.size w3 w6 := hb5.trans (hC6.mono hb5.size); have hS6 := And.intro (ha3.below hb6).cells (hb3.below hb6).cells))))
            all_goals (
              go_wp2
              go_ret
              exact ⟨by first | rfl | (simp; done) | (simp; exact hz), hB3.trans (hb6.mono hB3.size)⟩)
        · have hz := ne_toList (fun h => hn (HI.out.1 h).2.1 : za ≠ zb)
          go_wp2_with (fail)
          go_region_held3 (fun w' => (w'.cell? ⟨w.heap.size, 0, none⟩ = some (.int .i64 ka) ∧ w'.cell? ⟨w.heap.size, 1, none⟩ = some (.int .i64 na) ∧ w'.cell? ⟨w.heap.size, 2, none⟩ = some (.string sa)) ∧ w'.cell? ⟨w.heap.size + 1, 0, none⟩ = some (.int .i64 ka) ∧ w'.cell? ⟨w.heap.size + 1, 1, none⟩ = some (.int .i64 nb) ∧ w'.cell? ⟨w.heap.size + 1, 2, none⟩ = some (.string sb)) (first | exact hS0 | exact hS5 | exact hS6 | go_keep)
            ((first | (go_at_call 12; go_loud (with_reducible refine (ca _ (he4.below (w' := _) (B := w3.heap.size) (Below.drew (Below.refl _ _)) he4.lt)).mono ?_; rintro e w5 ⟨rfl, hC5⟩; have hb5 : Below w3.heap.size w3 w5 := (Below.refl _ _).drew.trans (hC5.mono (by simp)); have hS5 := And.intro (ha3.below hb5).cells (hb3.below hb5).cells; have he5 := he4.below hb5 he4.lt)) | (go_at_call 12; go_loud (with_reducible refine (cb _ he5).mono ?_; rintro e w6 ⟨rfl, hC6⟩; have hb6 : Below w3.heap.size w3 w6 := hb5.trans (hC6.mono hb5.size); have hS6 := And.intro (ha3.below hb6).cells (hb3.below hb6).cells))))
          all_goals (
            go_wp2
            go_ret
            exact ⟨by first | rfl | (simp; done) | (simp; exact hz), hB3.trans (hb6.mono hB3.size)⟩)
      · have hz := ne_toList (fun h => hk (HI.out.1 h).1 : za ≠ zb)
        go_wp2_with (fail)
        go_region_held3 (fun w' => (w'.cell? ⟨w.heap.size, 0, none⟩ = some (.int .i64 ka) ∧ w'.cell? ⟨w.heap.size, 1, none⟩ = some (.int .i64 na) ∧ w'.cell? ⟨w.heap.size, 2, none⟩ = some (.string sa)) ∧ w'.cell? ⟨w.heap.size + 1, 0, none⟩ = some (.int .i64 kb) ∧ w'.cell? ⟨w.heap.size + 1, 1, none⟩ = some (.int .i64 nb) ∧ w'.cell? ⟨w.heap.size + 1, 2, none⟩ = some (.string sb)) (first | exact hS0 | exact hS5 | exact hS6 | go_keep)
          ((first | (go_at_call 12; go_loud (with_reducible refine (ca _ (he4.below (w' := _) (B := w3.heap.size) (Below.drew (Below.refl _ _)) he4.lt)).mono ?_; rintro e w5 ⟨rfl, hC5⟩; have hb5 : Below w3.heap.size w3 w5 := (Below.refl _ _).drew.trans (hC5.mono (by simp)); have hS5 := And.intro (ha3.below hb5).cells (hb3.below hb5).cells; have he5 := he4.below hb5 he4.lt)) | (go_at_call 12; go_loud (with_reducible refine (cb _ he5).mono ?_; rintro e w6 ⟨rfl, hC6⟩; have hb6 : Below w3.heap.size w3 w6 := hb5.trans (hC6.mono hb5.size); have hS6 := And.intro (ha3.below hb6).cells (hb3.below hb6).cells))))
        all_goals (
          go_wp2
          go_ret
          exact ⟨by first | rfl | (simp; done) | (simp; exact hz), hB3.trans (hb6.mono hB3.size)⟩)
end Go.Proofs.YtgfjfpghjjknlaaDoor
