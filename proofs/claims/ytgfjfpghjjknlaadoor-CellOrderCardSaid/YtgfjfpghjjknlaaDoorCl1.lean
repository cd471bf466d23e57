/-
  The walks of cell.Right and of the reference's.
-/
import Derived.Test.YtgfjfpghjjknlaaDoorCl0
namespace Go.Proofs.YtgfjfpghjjknlaaDoor
open Go.RowKit Cl
set_option maxRecDepth 100000
set_option linter.unusedVariables false
set_option linter.unusedSimpArgs false
set_option maxHeartbeats 4000000 in
theorem right_any (v : V) (w : World) : Calls Tryd.prog 10 #[.agg #[.int .i64 v.k, .int .i64 v.n, .string v.s]] w fun e w' => e = .returned (.bool (right v)) ∧ Below w.heap.size w w' := by
  obtain ⟨k, n, s⟩ := v
  have hb := (Below.refl w.heap.size w).alloc (Nat.le_refl _) (.cells #[.int .i64 k, .int .i64 n, .string s] 23)
  dsimp only
  by_cases h0 : k = 0
  · subst h0
    by_cases hn : n = 0
    · subst hn
      cases hs : s.toList.isEmpty
      · go_enter Tryd.func10, Tryd.ntmps10
        go_wp2
        go_ret
        exact ⟨by simp [right, *], hb⟩
      · go_enter Tryd.func10, Tryd.ntmps10
        go_wp2
        go_ret
        exact ⟨by simp [right, *], hb⟩
    · go_enter Tryd.func10, Tryd.ntmps10
      go_wp2
      go_ret
      exact ⟨by simp [right, *], hb⟩
  · skip
    by_cases h1 : k = 1
    · subst h1
      cases hs : s.toList.isEmpty
      · go_enter Tryd.func10, Tryd.ntmps10
        go_wp2
        go_ret
        exact ⟨by simp [right, *], hb⟩
      · go_enter Tryd.func10, Tryd.ntmps10
        go_wp2
        go_ret
        exact ⟨by simp [right, *], hb⟩
    · skip
      by_cases h2 : k = 2
      · subst h2
        by_cases hn0 : n = 0
        · subst hn0
          cases hs : s.toList.isEmpty
          · go_enter Tryd.func10, Tryd.ntmps10
            go_wp2
            go_ret
            exact ⟨by simp [right, *], hb⟩
          · go_enter Tryd.func10, Tryd.ntmps10
            go_wp2
            go_ret
            exact ⟨by simp [right, *], hb⟩
        · skip
          by_cases hn1 : n = 1
          · subst hn1
            cases hs : s.toList.isEmpty
            · go_enter Tryd.func10, Tryd.ntmps10
              go_wp2
              go_ret
              exact ⟨by simp [right, *], hb⟩
            · go_enter Tryd.func10, Tryd.ntmps10
              go_wp2
              go_ret
              exact ⟨by simp [right, *], hb⟩
          · have hq : ¬ n / 2 = 0 := by omega
            go_enter Tryd.func10, Tryd.ntmps10
            go_wp2
            go_ret
            exact ⟨by simp [right, *], hb⟩
      · skip
        by_cases h3 : k = 3
        · subst h3
          by_cases hn : n = 0
          · subst hn
            by_cases hs : s.size ≤ 1000
            · have hs2 : (s.size : Int) ≤ 1000 := by omega
              go_enter Tryd.func10, Tryd.ntmps10
              go_wp2
              go_ret
              exact ⟨by simp [right, *], hb⟩
            · have hs2 : ¬ (s.size : Int) ≤ 1000 := by omega
              go_enter Tryd.func10, Tryd.ntmps10
              go_wp2
              go_ret
              exact ⟨by simp [right, *], hb⟩
          · go_enter Tryd.func10, Tryd.ntmps10
            go_wp2
            go_ret
            exact ⟨by simp [right, *], hb⟩
        · skip
          by_cases h4 : k = 4
          · subst h4
            by_cases hn : n = 0
            · subst hn
              by_cases hs : s.size ≤ 1000
              · have hs2 : (s.size : Int) ≤ 1000 := by omega
                go_enter Tryd.func10, Tryd.ntmps10
                go_wp2
                go_ret
                exact ⟨by simp [right, *], hb⟩
              · have hs2 : ¬ (s.size : Int) ≤ 1000 := by omega
                go_enter Tryd.func10, Tryd.ntmps10
                go_wp2
                go_ret
                exact ⟨by simp [right, *], hb⟩
            · go_enter Tryd.func10, Tryd.ntmps10
              go_wp2
              go_ret
              exact ⟨by simp [right, *], hb⟩
          · skip
            go_enter Tryd.func10, Tryd.ntmps10
            go_wp2
            go_ret
            exact ⟨by simp [right, *], hb⟩
set_option maxHeartbeats 4000000 in
theorem rright_any (v : V) (w : World) : Calls Tryd.prog 11 #[.agg #[.int .i64 v.k, .int .i64 v.n, .string v.s]] w fun e w' => e = .returned (.bool (right v)) ∧ Below w.heap.size w w' := by
  obtain ⟨k, n, s⟩ := v
  have hb := (Below.refl w.heap.size w).alloc (Nat.le_refl _) (.cells #[.int .i64 k, .int .i64 n, .string s] 23)
  dsimp only
  by_cases h0 : k = 0
  · subst h0
    by_cases hn : n = 0
    · subst hn
      cases hs : s.toList.isEmpty
      · go_enter Tryd.func11, Tryd.ntmps11
        go_wp2
        go_ret
        exact ⟨by simp [right, *], hb⟩
      · go_enter Tryd.func11, Tryd.ntmps11
        go_wp2
        go_ret
        exact ⟨by simp [right, *], hb⟩
    · go_enter Tryd.func11, Tryd.ntmps11
      go_wp2
      go_ret
      exact ⟨by simp [right, *], hb⟩
  · skip
    by_cases h1 : k = 1
    · subst h1
      cases hs : s.toList.isEmpty
      · go_enter Tryd.func11, Tryd.ntmps11
        go_wp2
        go_ret
        exact ⟨by simp [right, *], hb⟩
      · go_enter Tryd.func11, Tryd.ntmps11
        go_wp2
        go_ret
        exact ⟨by simp [right, *], hb⟩
    · skip
      by_cases h2 : k = 2
      · subst h2
        by_cases hn0 : n = 0
        · subst hn0
          cases hs : s.toList.isEmpty
          · go_enter Tryd.func11, Tryd.ntmps11
            go_wp2
            go_ret
            exact ⟨by simp [right, *], hb⟩
          · go_enter Tryd.func11, Tryd.ntmps11
            go_wp2
            go_ret
            exact ⟨by simp [right, *], hb⟩
        · skip
          by_cases hn1 : n = 1
          · subst hn1
            cases hs : s.toList.isEmpty
            · go_enter Tryd.func11, Tryd.ntmps11
              go_wp2
              go_ret
              exact ⟨by simp [right, *], hb⟩
            · go_enter Tryd.func11, Tryd.ntmps11
              go_wp2
              go_ret
              exact ⟨by simp [right, *], hb⟩
          · have hq : ¬ n / 2 = 0 := by omega
            go_enter Tryd.func11, Tryd.ntmps11
            go_wp2
            go_ret
            exact ⟨by simp [right, *], hb⟩
      · skip
        by_cases h3 : k = 3
        · subst h3
          by_cases hn : n = 0
          · subst hn
            by_cases hs : s.size ≤ 1000
            · have hs2 : (s.size : Int) ≤ 1000 := by omega
              go_enter Tryd.func11, Tryd.ntmps11
              go_wp2
              go_ret
              exact ⟨by simp [right, *], hb⟩
            · have hs2 : ¬ (s.size : Int) ≤ 1000 := by omega
              go_enter Tryd.func11, Tryd.ntmps11
              go_wp2
              go_ret
              exact ⟨by simp [right, *], hb⟩
          · go_enter Tryd.func11, Tryd.ntmps11
            go_wp2
            go_ret
            exact ⟨by simp [right, *], hb⟩
        · skip
          by_cases h4 : k = 4
          · subst h4
            by_cases hn : n = 0
            · subst hn
              by_cases hs : s.size ≤ 1000
              · have hs2 : (s.size : Int) ≤ 1000 := by omega
                go_enter Tryd.func11, Tryd.ntmps11
                go_wp2
                go_ret
                exact ⟨by simp [right, *], hb⟩
              · have hs2 : ¬ (s.size : Int) ≤ 1000 := by omega
                go_enter Tryd.func11, Tryd.ntmps11
                go_wp2
                go_ret
                exact ⟨by simp [right, *], hb⟩
            · go_enter Tryd.func11, Tryd.ntmps11
              go_wp2
              go_ret
              exact ⟨by simp [right, *], hb⟩
          · skip
            go_enter Tryd.func11, Tryd.ntmps11
            go_wp2
            go_ret
            exact ⟨by simp [right, *], hb⟩
end Go.Proofs.YtgfjfpghjjknlaaDoor
