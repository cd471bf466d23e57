/-
  The walk of the law CommitBases.
-/
import Derived.Test.YtkjgbldooflodaaCn7
import Derived.Test.YtkjgbldooflodaaCn3
import Derived.Test.YtkjgbldooflodaaCmW
namespace Go.Proofs.Ytkjgbldooflodaa
open Go.RowKit Cm Mp
set_option maxRecDepth 100000
set_option linter.unusedVariables false
set_option linter.unusedSimpArgs false
theorem GOK.size {T : List ByteArray} (h : GOK T) {t : ByteArray} (ht : t ∈ T) : t.size ≤ 2000 := by
  obtain ⟨i, hi⟩ := List.getElem?_of_mem ht
  exact (h i t hi).1
theorem prints_size {T : List ByteArray} {p : ByteArray} (hp : p ∈ T.map Sha.sha) : p.size ≤ maxLen := by
  obtain ⟨t, _, rfl⟩ := List.mem_map.1 hp
  rw [sha_size]
  decide
theorem src_keys {T : List ByteArray} (s : ByteArray) (h : srcOf T s ≠ none) : s ∈ T.map Sha.sha := by
  cases hs : srcOf T s with
  | none => exact absurd hs h
  | some t =>
    obtain ⟨h1, h2⟩ := src_mem hs
    rw [← h2]
    exact List.mem_map_of_mem h1
theorem base_src {T : List ByteArray} (hG : GOK T) (hTl : T.length ≤ 24) (hb mb ns : Nat) (a b : ByteArray) (w : World) (hS : Src w hb mb ns (srcOf T)) (ha : a ∈ T.map Sha.sha) (hbm : b ∈ T.map Sha.sha) :
    Calls Try.prog 23 #[hp hb, .string a, .string b] w fun e w' => ∃ c ok, e = .returned (.tuple #[.string c, .bool ok, .int .i64 0]) ∧ BaseOut (srcOf T) a b c ok ∧ Below w.heap.size w w' :=
  base_any (srcOf T) (T.map Sha.sha) hb mb ns a b w hS src_keys (by rw [List.length_map]; omega) (fun s t h => by have := hG.size (src_mem h).1; omega) (fun s hs => prints_size hs) (gok_whole hG ha) (gok_whole hG hbm) (prints_size ha) (prints_size hbm)
theorem is_src {T : List ByteArray} (hG : GOK T) (hTl : T.length ≤ 24) (hb mb ns : Nat) (q p : ByteArray) (w : World) (hS : Src w hb mb ns (srcOf T)) (hq : q.size ≤ maxLen) (hpm : p ∈ T.map Sha.sha) :
    Calls Try.prog 28 #[hp hb, .string q, .string p] w fun e w' => ∃ bo, e = .returned (.tuple #[.bool bo, .int .i64 0]) ∧ (bo = true ↔ Ahd (srcOf T) p q) ∧ Below w.heap.size w w' :=
  is_any (srcOf T) (T.map Sha.sha) hb mb ns q p w hS src_keys (by rw [List.length_map]; omega) (fun s t h => by have := hG.size (src_mem h).1; omega) (gok_whole hG hpm) (prints_size hpm) hq
theorem at_mod (n : Int) (i : Nat) (hi : 0 < i) (hi24 : i ≤ 24) : ∃ (r : Int) (j : Nat), n.tmod i = r ∧ IntKind.i64.wrap r = r ∧ IntKind.i64.wrap (r + i) = r + i ∧ (r + i).tmod i = j ∧ IntKind.i64.wrap (j : Int) = j ∧ j < i := by
  obtain ⟨j, h1, h2, h3, h4⟩ := graph_mod n i hi
  exact ⟨_, j, rfl, wrap_fit _ (by omega) (by omega), wrap_fit _ (by omega) (by omega), h1, wrap_fit _ (by omega) (by omega), h2⟩
set_option maxHeartbeats 1000000 in
theorem commitBases_walk (L : List (List Int)) (o : Option Addr) (c : Nat) (n0 n1 : Int) (w : World) (hL : LL w o L) (hll : ∀ l ∈ L, l.length ≤ 9223372036854775807) (hLl : L.length ≤ 9223372036854775807) :
    Calls Try.prog 8 #[.slice o L.length c, .agg #[.int .i64 n0, .int .i64 n1]] w fun e w' => e = .returned (.bool true) ∧ Below w.heap.size w w' := by
  have hb1 : Below w.heap.size w (w.alloc (.cells #[.int .i64 n0, .int .i64 n1] 57)) := (Below.refl _ _).alloc (Nat.le_refl _) _
  have hblk := heap_alloc_new w (.cells #[.int .i64 n0, .int .i64 n1] 57)
  have HCELLS := Lib.hid (show ∀ w' : World, w'.heap[w.heap.size]? = some (.cells #[.int .i64 n0, .int .i64 n1] 57 (0, 0)) → w'.cell? ⟨w.heap.size, 0, none⟩ = some (.int .i64 n0) ∧ w'.cell? ⟨w.heap.size, 1, none⟩ = some (.int .i64 n1) from fun w' hk => ⟨by rw [Lib.cell_of_heap hk]; rfl, by rw [Lib.cell_of_heap hk]; rfl⟩)
  by_cases h24 : 24 < L.length
  · have g1 : (L.length : Int) > 24 := by omega
    go_enter Try.func8, Try.ntmps8
    go_wp2_with (go_at_call 9; refine (awake_any _).mono ?_; rintro e w1 ⟨rfl, hb2⟩)
    go_ret
    exact ⟨rfl, hb1.trans (hb2.mono hb1.size)⟩
  · have g1 : decide ((24 : Int) < L.length) = false := decide_eq_false (by omega)
    by_cases h0 : L.length = 0
    · have g2 : ((L.length : Int) == 0) = true := beq_iff_eq.2 (by omega)
      clear h0 h24
      go_enter Try.func8, Try.ntmps8
      go_wp2_with (go_at_call 9; refine (awake_any _).mono ?_; rintro e w1 ⟨rfl, hb2⟩)
      go_ret
      exact ⟨rfl, hb1.trans (hb2.mono hb1.size)⟩
    · have g2 : ((L.length : Int) == 0) = false := beq_eq_false_iff_ne.2 (by omega)
      obtain ⟨r0, j0, m0, m1, m2, m3, m4, hj0⟩ := at_mod n0 L.length (by omega) (by omega)
      obtain ⟨r1, j1, m5, m6, m7, m8, m9, hj1⟩ := at_mod n1 L.length (by omega) (by omega)
      go_enter Try.func8, Try.ntmps8
      go_wp2_with (fail)
      go_at_call 9
      refine (awake_any _).mono ?_
      rintro e w1 ⟨rfl, hb2⟩
      have hB1 := hb1.trans (hb2.mono hb1.size)
      have hL1 := (hL.below hb1).below hb2
      have hblk1 := (hb2.block w.heap.size (by simp)).trans hblk
      clear hb1 hb2 hblk hL
      go_wp2_with (fail)
      go_at_call 26
      refine (graph_any o L c w1 hL1 (by omega) hll).mono ?_
      rintro e w2 ⟨T, o1, c1, o2, c2, rfl, hTl, hG, hs1, hs2, hb2⟩
      have hB2 := hB1.trans (hb2.mono hB1.size)
      have hblk2 := (hb2.block w.heap.size (Array.getElem?_eq_some_iff.1 hblk1).1).trans hblk1
      have HG := Lib.hid (And.intro hG hTl)
      have HS1 := Lib.hid (And.intro hs1 hs2)
      clear hb2 hB1 hblk1 hL1 hG hTl hs1 hs2
      go_wp2_with (fail)
      go_at_call 13
      with_reducible refine (newheap_any o1 T c1 w2 HS1.out.1 (fun t ht => by have := HG.out.1.size ht; omega) (by have := HG.out.2; omega)).mono ?_
      rintro e w3 ⟨hb, mb, ns, rfl, hh, hm, hS, hb3⟩
      have hB3 := hB2.trans (hb3.mono hB2.size)
      have hblk3 := (hb3.block w.heap.size (Array.getElem?_eq_some_iff.1 hblk2).1).trans hblk2
      obtain ⟨k0, k1⟩ := HCELLS.out w3 hblk3
      have ht3 := HS1.out.1.below hb3
      have hp3 := HS1.out.2.below hb3
      have hTl := HG.out.2
      obtain ⟨pa, hpa⟩ : ∃ x, (T.map Sha.sha)[j0]? = some x := ⟨_, List.getElem?_eq_getElem (by rw [List.length_map, hTl]; exact hj0)⟩
      obtain ⟨pb, hpb⟩ : ∃ x, (T.map Sha.sha)[j1]? = some x := ⟨_, List.getElem?_eq_getElem (by rw [List.length_map, hTl]; exact hj1)⟩
      obtain ⟨a2, rfl⟩ := ss_some hp3 (i := j0) (by rw [List.length_map, hTl]; exact hj0)
      have ca := hp3.at hpa
      have cb := hp3.at hpb
      have n0 : (j0 : Int) < T.length := by omega
      have n1 : (j1 : Int) < T.length := by omega
      have HP := Lib.hid (And.intro (List.mem_of_getElem? hpa) (List.mem_of_getElem? hpb))
      clear hb3 hB2 hblk2 hTl hpa hpb hp3
      go_wp2_with (fail)
      go_quiet (fail)
      all_goals (
        obtain ⟨wq, hwq⟩ : ∃ wq, wq = w3.drewN nq := ⟨_, rfl⟩
        rw [← hwq]
        have hBq : Below w.heap.size w wq := by rw [hwq]; exact below_drewN hB3 nq
        have hb3q : Below w3.heap.size w3 wq := by rw [hwq]; exact below_drewN (Below.refl _ _) nq
        have hSq := hS.below hb3q hS.lt.1 hS.lt.2
        have htq := ht3.below hb3q
        clear hwq hb3q hS ht3 hB3 hblk3 k0 k1 ca cb m0 m1 m2 m3 m4 m5 m6 m7 m8 m9 n0 n1 hll HCELLS hh hm
        have hpm := HP.out.1
        have hpn := HP.out.2
        have q1 := base_src HG.out.1 (by have := HG.out.2; omega) hb mb ns pa pb wq hSq hpm hpn
        unfold hp at q1
        clear hpm hpn
        go_wp2_with (fail)
        go_at_call 23
        with_reducible refine q1.mono ?_
        rintro e w4 ⟨cc, ok, rfl, hbo, hb4⟩
        have hB4 := hBq.trans (hb4.mono hBq.size)
        have hS4 := hSq.below hb4 hSq.lt.1 hSq.lt.2
        have ht4 := htq.below hb4
        have q2 := base_src HG.out.1 (by have := HG.out.2; omega) hb mb ns pb pa w4 hS4 HP.out.2 HP.out.1
        unfold hp at q2
        have HBO := Lib.hid hbo
        clear hbo q1 hb4 hSq htq hBq
        go_wp2_with (fail)
        go_at_call 23
        with_reducible refine q2.mono ?_
        rintro e w5 ⟨dd, yes, rfl, hbo2, hb5⟩
        obtain ⟨e1, e2⟩ := BaseOut.one HBO.out hbo2
        subst e1 e2
        have hB5 := hB4.trans (hb5.mono hB4.size)
        have hS5 := hS4.below hb5 hS4.lt.1 hS4.lt.2
        have ht5 := ht4.below hb5
        have q3 := is_src HG.out.1 (by have := HG.out.2; omega) hb mb ns pb pa w5 hS5 (prints_size HP.out.2) HP.out.1
        unfold hp at q3
        clear hbo2 q2 hb5 hS4 ht4 hB4
        go_wp2_with (fail)
        go_at_call 28
        with_reducible refine q3.mono ?_
        rintro e w6 ⟨bo, rfl, hbi, hb6⟩
        have hB6 := hB5.trans (hb6.mono hB5.size)
        have hS6 := hS5.below hb6 hS5.lt.1 hS5.lt.2
        have ht6 := ht5.below hb6
        have HBI := Lib.hid hbi
        clear hbi q3 hb6 hS5 ht5 hB5
        have hcase : (bo = true ∧ ¬ cc = pb) ∨ bo = false ∨ (bo = true ∧ (cc.toList == pb.toList) = true) := by
          cases bo
          · exact .inr (.inl rfl)
          · by_cases h : cc = pb
            · exact .inr (.inr ⟨rfl, by rw [h]; exact beq_self_eq_true _⟩)
            · exact .inl ⟨rfl, h⟩
        rcases hcase with ⟨rfl, hcb⟩ | rfl | ⟨rfl, heq⟩
        · have hnl := ne_list hcb
          have hba : Below w6.heap.size w6 (w6.alloc (.cells #[.slice o1 T.length c1] 22)) := (Below.refl _ _).alloc (Nat.le_refl _) _
          have q4 := clash_any w6.heap.size o1 T c1 1 (w6.alloc (.cells #[.slice o1 T.length c1] 22)) (cell_new0 w6 _ _) (ht6.below hba) (fun t ht => by have := HG.out.1.size ht; omega) (by have := HG.out.2; omega)
          have HCB := Lib.hid hcb
          clear hcb ht6 hS6
          go_wp2_with (go_at_call 25; with_reducible refine q4.mono ?_; rintro e w7 ⟨b2, rfl, hno, hb7⟩; obtain rfl : b2 = true := (by (cases b2; exact absurd (base_elder HG.out.1 (hno rfl) HP.out.2 (HBI.out.1 (by first | rfl | trivial)) HBO.out) HCB.out; rfl)))
          go_ret
          exact ⟨rfl, (hB6.alloc hB6.size _).trans (hb7.mono (by simp; have := hB6.size; omega))⟩
        all_goals (
          cases ok
          · obtain rfl : cc = ⟨#[]⟩ := by
              rcases HBO.out with ⟨h, _⟩ | ⟨_, h, _⟩
              · cases h
              · exact h
            first
              | (exfalso
                 have h1 := eq_of_beq heq
                 rw [ByteArray.toList_eq, ByteArray.toList_eq] at h1
                 have h2 := list_ext h1
                 obtain ⟨t, _, h3⟩ := List.mem_map.1 HP.out.2
                 have h4 := sha_size t
                 rw [h3, ← h2] at h4
                 exact absurd h4 (by decide))
              | (clear ht6 hS6
                 go_wp2
                 go_ret
                 exact ⟨by first | rfl | (simp; done), hB6⟩)
          · have hbs : Ahd (srcOf T) pa cc ∧ Ahd (srcOf T) pb cc := by
              rcases HBO.out with ⟨_, h, _⟩ | ⟨h, _⟩
              · exact h.1
              · cases h
            have hck := prints_size (gok_ahd HG.out.1 HP.out.1 hbs.1)
            have q4 := is_src HG.out.1 (by have := HG.out.2; omega) hb mb ns cc pa w6 hS6 hck HP.out.1
            unfold hp at q4
            have HBS := Lib.hid hbs
            clear hbs
            go_wp2_with (fail)
            go_at_call 28
            with_reducible refine q4.mono ?_
            rintro e w7 ⟨b2, rfl, hb2, hb7⟩
            obtain rfl : b2 = true := hb2.2 HBS.out.1
            have hB7 := hB6.trans (hb7.mono hB6.size)
            have hS7 := hS6.below hb7 hS6.lt.1 hS6.lt.2
            have q5 := is_src HG.out.1 (by have := HG.out.2; omega) hb mb ns cc pb w7 hS7 hck HP.out.2
            unfold hp at q5
            clear q4 hb2 hb7 hS6 hB6 ht6
            go_wp2_with (fail)
            go_at_call 28
            with_reducible refine q5.mono ?_
            rintro e w8 ⟨b3, rfl, hb3, hb8⟩
            obtain rfl : b3 = true := hb3.2 HBS.out.2
            have hB8 := hB7.trans (hb8.mono hB7.size)
            clear q5 hb3 hb8 hS7 hB7
            go_wp2
            go_ret
            exact ⟨by first | rfl | (simp; done), hB8⟩))
end Go.Proofs.Ytkjgbldooflodaa
