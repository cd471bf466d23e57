/-
  The reference's walks over commits, the plain law that both are one, and the walk of the law CommitGraph.
-/
import Derived.Test.YtkjgbldooflodaaCgH
import Derived.Test.YtkjgbldooflodaaCn8
import Derived.Test.YtkjgbldooflodaaCn5
import Derived.Test.YtkjgbldooflodaaCn6
import Derived.Test.YtkjgbldooflodaaCm7
import Derived.Test.YtkjgbldooflodaaCmX
import Derived.BigQuiet
namespace Go.Proofs.Ytkjgbldooflodaa
open Go.RowKit Cm Mp
set_option maxRecDepth 100000
set_option linter.unusedVariables false
set_option linter.unusedSimpArgs false
theorem acy_src {T : List ByteArray} (hG : GOK T) (hn : NoClash T) {p : ByteArray} (hp : p ∈ T.map Sha.sha) : Acy (srcOf T) p := by
  have hlt : ∀ s, s ∈ T.map Sha.sha → (T.map Sha.sha).findIdx (fun x => decide (x = s)) < (T.map Sha.sha).length := fun s hs => List.findIdx_lt_length_of_exists ⟨s, hs, by simp⟩
  refine ⟨fun s => (T.map Sha.sha).findIdx (fun x => decide (x = s)), (T.map Sha.sha).length, fun s hs => Nat.le_of_lt (hlt s (gok_ahd hG hp hs)), fun s hs l hl q hq => ?_⟩
  have h1 := hlt s (gok_ahd hG hp hs)
  have h2 := List.findIdx_getElem (w := h1)
  have h3 := of_decide_eq_true h2
  rw [List.getElem_map] at h3
  have hi : (T.map Sha.sha).findIdx (fun x => decide (x = s)) < T.length := by simpa using h1
  obtain ⟨j, u, hj, hu, rfl⟩ := gok_less hG hn (List.getElem?_eq_getElem hi) (by rw [h3]; exact hl) hq
  dsimp only
  rcases Nat.lt_or_ge ((T.map Sha.sha).findIdx fun x => decide (x = s)) ((T.map Sha.sha).findIdx fun x => decide (x = Sha.sha u)) with h | h
  · exfalso
    have hjl : j < (T.map Sha.sha).findIdx fun x => decide (x = Sha.sha u) := by omega
    have h4 := List.not_of_lt_findIdx hjl
    rw [List.getElem_map] at h4
    obtain ⟨h5, h6⟩ := List.getElem?_eq_some_iff.1 hu
    rw [h6] at h4
    simp at h4
  · rcases Nat.lt_or_ge ((T.map Sha.sha).findIdx fun x => decide (x = Sha.sha u)) ((T.map Sha.sha).findIdx fun x => decide (x = s)) with h' | h'
    · exact h'
    · exfalso
      have hjl : j < (T.map Sha.sha).findIdx fun x => decide (x = Sha.sha u) := by omega
      have h4 := List.not_of_lt_findIdx hjl
      rw [List.getElem_map] at h4
      obtain ⟨h5, h6⟩ := List.getElem?_eq_some_iff.1 hu
      rw [h6] at h4
      simp at h4
theorem ahead_src {T : List ByteArray} (hG : GOK T) (hTl : T.length ≤ 24) (hb mb ns : Nat) (a : ByteArray) (w : World) (hS : Src w hb mb ns (srcOf T)) (ha : a ∈ T.map Sha.sha) :
    Calls Try.prog 20 #[hp hb, .string a] w fun e w' => ATold (srcOf T) a w e w' :=
  ahead_any (srcOf T) (T.map Sha.sha) hb mb ns a w hS src_keys (by rw [List.length_map]; omega) (fun s t h => by have := hG.size (src_mem h).1; omega) (fun s hs => prints_size hs) (gok_whole hG ha) (prints_size ha)
theorem clash_true (g : Nat) (o : Option Addr) (T : List ByteArray) (c c2 : Nat) (w : World) (hg : w.cell? ⟨g, 0, none⟩ = some (.slice o T.length c)) (hs : Ss w o T) (hG : GOK T) (hl : T.length ≤ 24) (hbad : ¬ NoClash T) :
    Calls Try.prog 25 #[.slice (some ⟨g, 0, none⟩) 1 c2] w fun e w' => e = .returned (.bool true) ∧ Below w.heap.size w w' :=
  (clash_any g o T c c2 w hg hs (fun t ht => by have := hG.size ht; omega) (by omega)).mono (by
    rintro e w' ⟨bo, rfl, h1, h2⟩
    cases bo
    · exact absurd (h1 rfl) hbad
    · exact ⟨rfl, h2⟩)
/-- The places told so far. -/
structure Plc (out : List ByteArray) (i : Nat) (f : ByteArray → Option Int) : Prop where
  of : ∀ s k, f s = some k → ∃ j : Nat, k = j ∧ j < i ∧ out[j]? = some s
  has : ∀ (j : Nat) s, j < i → out[j]? = some s → f s = some (j : Int)
theorem Plc.step {out : List ByteArray} {i : Nat} {f : ByteArray → Option Int} {s : ByteArray} (h : Plc out i f) (hs : out[i]? = some s) (hn : f s = none) : Plc out (i + 1) (upd f s i) := by
  refine ⟨fun x k hk => ?_, fun j x hj hx => ?_⟩
  · unfold upd at hk
    by_cases hxs : x = s
    · rw [if_pos hxs] at hk
      cases hk
      exact ⟨i, rfl, by omega, by rw [hxs]; exact hs⟩
    · rw [if_neg hxs] at hk
      obtain ⟨j, h1, h2, h3⟩ := h.of x k hk
      exact ⟨j, h1, by omega, h3⟩
  · unfold upd
    by_cases hji : j = i
    · subst hji
      rw [hs] at hx
      cases hx
      rw [if_pos rfl]
    · have h1 := h.has j x (by omega) hx
      have hxs : x ≠ s := fun e => by rw [e, hn] at h1; cases h1
      rw [if_neg hxs]
      exact h1
set_option maxHeartbeats 2000000 in
theorem commitOrder_walk (L : List (List Int)) (o : Option Addr) (c : Nat) (n0 : Int) (w : World) (hL : LL w o L) (hll : ∀ l ∈ L, l.length ≤ 9223372036854775807) (hLl : L.length ≤ 9223372036854775807) {P Q : Prop} (_ : P) (_ : Q) :
    Calls Try.prog 6 #[.slice o L.length c, .int .i64 n0] w fun e w' => e = .returned (.bool true) ∧ Below w.heap.size w w' := by
  by_cases h24 : 24 < L.length
  · have g1 : (L.length : Int) > 24 := by omega
    go_enter Try.func6, Try.ntmps6
    go_wp2_with (go_at_call 9; refine (awake_any _).mono ?_; rintro e w1 ⟨rfl, hb2⟩)
    go_ret
    exact ⟨rfl, hb2⟩
  · have g1 : decide ((24 : Int) < L.length) = false := decide_eq_false (by omega)
    by_cases h0 : L.length = 0
    · have g2 : ((L.length : Int) == 0) = true := beq_iff_eq.2 (by omega)
      clear h0 h24
      go_enter Try.func6, Try.ntmps6
      go_wp2_with (go_at_call 9; refine (awake_any _).mono ?_; rintro e w1 ⟨rfl, hb2⟩)
      go_ret
      exact ⟨rfl, hb2⟩
    · have g2 : ((L.length : Int) == 0) = false := beq_eq_false_iff_ne.2 (by omega)
      obtain ⟨r0, j0, m0, m1, m2, m3, m4, hj0⟩ := at_mod n0 L.length (by omega) (by omega)
      go_enter Try.func6, Try.ntmps6
      go_wp2_with (fail)
      go_at_call 9
      refine (awake_any _).mono ?_
      rintro e w1 ⟨rfl, hB1⟩
      have hL1 := hL.below hB1
      clear hL
      go_wp2_with (fail)
      go_at_call 26
      refine (graph_any o L c w1 hL1 (by omega) hll).mono ?_
      rintro e w2 ⟨T, o1, c1, o2, c2, rfl, hTl, hG, hs1, hs2, hb2⟩
      have hB2 := hB1.trans (hb2.mono hB1.size)
      have HG := Lib.hid (And.intro hG hTl)
      have HS1 := Lib.hid (And.intro hs1 hs2)
      clear hb2 hB1 hL1 hG hTl hs1 hs2
      go_wp2_with (fail)
      go_at_call 13
      with_reducible refine (newheap_any o1 T c1 w2 HS1.out.1 (fun t ht => by have := HG.out.1.size ht; omega) (by have := HG.out.2; omega)).mono ?_
      rintro e w3 ⟨hb, mb, ns, rfl, hh, hm, hS, hb3⟩
      have hB3 := hB2.trans (hb3.mono hB2.size)
      have ht3 := HS1.out.1.below hb3
      have hp3 := HS1.out.2.below hb3
      have hTl := HG.out.2
      have hT24 : T.length ≤ 24 := by omega
      obtain ⟨pa, hpa⟩ : ∃ x, (T.map Sha.sha)[j0]? = some x := ⟨_, List.getElem?_eq_getElem (by rw [List.length_map, hTl]; exact hj0)⟩
      obtain ⟨a2, rfl⟩ := ss_some hp3 (i := j0) (by rw [List.length_map, hTl]; exact hj0)
      have ca := hp3.at hpa
      have n0' : (j0 : Int) < T.length := by omega
      have HP := Lib.hid (List.mem_of_getElem? hpa)
      clear hb3 hB2 hTl hpa hp3
      have q1 := ahead_src HG.out.1 hT24 hb mb ns pa w3 hS HP.out
      unfold hp at q1
      go_wp2_with (fail)
      go_at_call 20
      with_reducible refine q1.mono ?_
      rintro e w4 ⟨out, ox, cx, rfl, hsx, hxa, hxl, htold, hb4⟩
      have hB4 := hB3.trans (hb4.mono hB3.size)
      have hS4 := hS.below hb4 hS.lt.1 hS.lt.2
      have ht4 := ht3.below hb4
      have HT := Lib.hid (And.intro htold (And.intro hxa hxl))
      clear htold hxa hxl hb4 hS ht3 hB3 hh hm ca m0 m1 m2 m3 m4 n0' hll q1
      by_cases ho : out = []
      · subst ho
        have hbad : ¬ NoClash T := fun hn => by
          have := (HT.out.1 (acy_src HG.out.1 hn HP.out)).first
          simp at this
        have hba : Below w4.heap.size w4 (w4.alloc (.cells #[.slice o1 T.length c1] 22)) := (Below.refl _ _).alloc (Nat.le_refl _) _
        have q4 := clash_true w4.heap.size o1 T c1 1 (w4.alloc (.cells #[.slice o1 T.length c1] 22)) (cell_new0 w4 _ _) (ht4.below hba) HG.out.1 hT24 hbad
        have hBz := hB4.alloc hB4.size (.cells #[.slice o1 T.length c1] 22)
        clear hsx hS4 ht4 hB4 hba hbad
        go_wp2_with (go_at_call 25; with_reducible refine q4.mono ?_; rintro e w9 ⟨rfl, hb9⟩)
        go_ret
        exact ⟨rfl, hBz.trans (hb9.mono hBz.size)⟩
      · have hol : 0 < out.length := List.length_pos_iff.2 ho
        obtain ⟨y, hy⟩ : ∃ y, out[0]? = some y := ⟨out[0], List.getElem?_eq_getElem hol⟩
        obtain ⟨ax, rfl⟩ := ss_some hsx hol
        have cy0 := hsx.at hy
        have cy : w4.cell? ax = some (.string y) := cy0
        have f1 : ((out.length : Int) == 0) = false := beq_eq_false_iff_ne.2 (by omega)
        have f2 : (0 : Int) < out.length := by omega
        have HY := Lib.hid hy
        clear hy cy0 ho
        by_cases hya : y = pa
        · subst hya
          have hmm := @run_makeMap Try.prog
          have hM0 : MF (w4.alloc (.map #[] 0)) w4.heap.size 0 (imap fun _ => none) := MF.made w4
          have hBa : Below w4.heap.size w4 (w4.alloc (.map #[] 0)) := (Below.refl _ _).alloc (Nat.le_refl _) _
          go_wp2
          go_loopw [81] (fun v wx => ∃ (i : Nat) (f : ByteArray → Option Int), v = .int .i64 i ∧ i ≤ out.length ∧ MF wx w4.heap.size i (imap f) ∧ Below w4.heap.size w4 wx ∧ Hid (Plc out i f)) (fun v _ => out.length - (intOf v).toNat)
          case atStart => exact ⟨0, fun _ => none, by first | rfl | trivial, Nat.zero_le _, hM0, hBa, Lib.hid ⟨(fun s k hk => by cases hk), fun j s hj => absurd hj (Nat.not_lt_zero _)⟩⟩
          case round =>
            clear hM0 hBa
            obtain ⟨i, f, rfl, hi, hM, hBw, HPl⟩ := hrel
            obtain ⟨wo, rfl⟩ : ∃ wo : World, wo = wr := ⟨_, rfl⟩
            have hB5 := hB4.trans (hBw.mono hB4.size)
            have ht5 := ht4.below hBw
            have hxs := hsx.below hBw
            by_cases hil : i < out.length
            · obtain ⟨s, hs⟩ : ∃ s, out[i]? = some s := ⟨out[i], List.getElem?_eq_getElem hil⟩
              have cs := hxs.at hs
              have hs32 := prints_size (gok_ahd HG.out.1 HP.out (HT.out.2.1 s (List.mem_of_getElem? hs)))
              have i16 : (i : Int) < out.length := by omega
              have hxl := HT.out.2.2
              have i17 : IntKind.i64.wrap ((i : Int) + 1) = (i : Int) + 1 := wrap_fit _ (by omega) (by omega)
              have hlk := hM.get 54 3 Try.underlying54 (zeroI wo) s hs32 true
              have HSx := Lib.hid hs
              cases hfs : f s with
              | none =>
                replace hlk : (Instr.lookup 54 (.map (some w4.heap.size)) (.string s) true).run Try.prog wo = .ok (.tuple #[.int .i64 0, .bool false]) wo := by
                  rw [show imap f s = none by unfold imap; rw [hfs]; rfl] at hlk
                  exact hlk
                obtain ⟨w6, hup, hM6, hg6⟩ := hM.put 54 3 Try.underlying54 (by unfold maxLen; omega) s hs32 (.int .i64 i)
                rw [imap_upd] at hM6
                have hB6 := hBw.trans (below_of_grown hg6 (fun k hk => by cases hk; exact Nat.le_refl _) hBw.size)
                have HPl6 := Lib.hid (HPl.out.step hs hfs)
                clear hs hfs hM hBw hB5 ht5 hxs hg6 hxl
                go_wp2
                go_roundw
                case rel => exact ⟨i + 1, _, by go_num, hil, hM6, hB6, HPl6⟩
                case measure => simp [intOf]; omega
              | some k =>
                replace hlk : (Instr.lookup 54 (.map (some w4.heap.size)) (.string s) true).run Try.prog wo = .ok (.tuple #[.int .i64 k, .bool true]) wo := by
                  rw [show imap f s = some (.int .i64 k) by unfold imap; rw [hfs]; rfl] at hlk
                  exact hlk
                have hbad : ¬ NoClash T := fun hn => by
                  have hnd := (HT.out.1 (acy_src HG.out.1 hn HP.out)).nodup
                  obtain ⟨j, _, hj, hjs⟩ := HPl.out.of s k hfs
                  obtain ⟨h1, h2⟩ := List.getElem?_eq_some_iff.1 hjs
                  obtain ⟨h3, h4⟩ := List.getElem?_eq_some_iff.1 hs
                  have := (List.getElem_inj hnd).1 (h2.trans h4.symm)
                  omega
                have hba : Below wo.heap.size wo (wo.alloc (.cells #[.slice o1 T.length c1] 22)) := (Below.refl _ _).alloc (Nat.le_refl _) _
                have q4 := clash_true wo.heap.size o1 T c1 1 (wo.alloc (.cells #[.slice o1 T.length c1] 22)) (cell_new0 wo _ _) (ht5.below hba) HG.out.1 hT24 hbad
                have hBz := hB5.alloc hB5.size (.cells #[.slice o1 T.length c1] 22)
                clear hs hfs hM hBw hB5 ht5 hxs hba hbad hsx hS4 ht4 hB4
                go_wp2_with (go_at_call 25; with_reducible refine q4.mono ?_; rintro e w9 ⟨rfl, hb9⟩)
                go_ret
                exact ⟨rfl, hBz.trans (hb9.mono hBz.size)⟩
            · obtain rfl : i = out.length := by omega
              have hS5 := hS4.below hBw hS4.lt.1 hS4.lt.2
              clear hsx hS4 ht4 hB4
              go_wp2
              go_loopw [102] (fun v wx => ∃ (i : Nat), v = .int .i64 i ∧ i ≤ out.length ∧ Below wo.heap.size wo wx) (fun v _ => out.length - (intOf v).toNat)
              case atStart => exact ⟨0, by first | rfl | trivial, Nat.zero_le _, Below.refl _ _⟩
              case round =>
                obtain ⟨i, rfl, hi, hBv⟩ := hrel
                obtain ⟨wv, rfl⟩ : ∃ wv : World, wv = wr := ⟨_, rfl⟩
                have hB6 := hB5.trans (hBv.mono hB5.size)
                by_cases hil : i < out.length
                · obtain ⟨s, hs⟩ : ∃ s, out[i]? = some s := ⟨out[i], List.getElem?_eq_getElem hil⟩
                  have cs := (hxs.below hBv).at hs
                  have hsK := gok_ahd HG.out.1 HP.out (HT.out.2.1 s (List.mem_of_getElem? hs))
                  obtain ⟨cc, hcc⟩ : ∃ c, getC (srcOf T) s = some c := by
                    obtain ⟨l, h1, _⟩ := gok_par HG.out.1 hsK
                    unfold par at h1
                    cases hg : getC (srcOf T) s with
                    | none => rw [hg] at h1; cases h1
                    | some c => exact ⟨c, rfl⟩
                  have hpls : pls (srcOf T) s = cc.par := by unfold pls par; rw [hcc]; rfl
                  have hparS : par (srcOf T) s = some cc.par := by unfold par; rw [hcc]; rfl
                  have hq6 := cget_some hb mb ns (srcOf T) s cc wv (hS5.below hBv hS5.lt.1 hS5.lt.2) (prints_size hsK) (fun t ht => by have := HG.out.1.size (src_mem ht).1; omega) hcc
                  obtain ⟨_, hparK⟩ := gok_par HG.out.1 hsK
                  have hpar32 : ∀ q ∈ cc.par, q.size ≤ maxLen := fun q hq => by
                    obtain ⟨l, h1, h2⟩ := gok_par HG.out.1 hsK
                    unfold par at h1
                    rw [hcc] at h1
                    cases h1
                    exact prints_size (h2 q hq)
                  have hp2 : cc.par.length ≤ 2 := (par_two (S := srcOf T) (x := s) (by unfold par; rw [hcc]; rfl)).1
                  obtain ⟨rr, ll, mm⟩ := cc
                  dsimp only at hq6 hpls hpar32 hp2 hparS
                  have i16 : (i : Int) < out.length := by omega
                  have hxl := HT.out.2.2
                  have i17 : IntKind.i64.wrap ((i : Int) + 1) = (i : Int) + 1 := wrap_fit _ (by omega) (by omega)
                  have HSx := Lib.hid (And.intro hs (And.intro hpls (And.intro hpar32 hparS)))
                  unfold hp at hq6
                  clear hs hsK hcc hpls hpar32 hxl hparK hparS
                  go_wp2_with (fail)
                  go_at_call 18
                  with_reducible refine hq6.mono ?_
                  rintro e w6 ⟨ol, cp, rfl, hss6, hn6, hcp6, _, hb6⟩
                  have hbl6 := (Below.refl w6.heap.size w6).alloc (Nat.le_refl _) (.cells #[.string rr, .slice ol ll.length cp, .string mm] 24)
                  have hblk6 := heap_alloc_new w6 (.cells #[.string rr, .slice ol ll.length cp, .string mm] 24)
                  have t1 : (w6.alloc (.cells #[.string rr, .slice ol ll.length cp, .string mm] 24)).cell? ⟨w6.heap.size, 1, none⟩ = some (.slice ol ll.length cp) := by rw [Lib.cell_of_heap hblk6]; rfl
                  have hss7 := hss6.below hbl6
                  have hBv7 : Below wo.heap.size wo (w6.alloc (.cells #[.string rr, .slice ol ll.length cp, .string mm] 24)) := (hBv.trans (hb6.mono hBv.size)).trans (hbl6.mono (hBv.trans (hb6.mono hBv.size)).size)
                  clear hq6 hss6 hb6 hbl6 hblk6 hn6 hcp6
                  obtain ⟨w7, hw7⟩ : ∃ w7, w7 = w6.alloc (.cells #[.string rr, .slice ol ll.length cp, .string mm] 24) := ⟨_, rfl⟩
                  rw [← hw7] at hss7 hBv7
                  have HW7 := Lib.hid hw7
                  clear hw7
                  go_wp2
                  go_loopw [122] (fun z wx => ∃ k : Nat, z = .int .i64 k ∧ k ≤ ll.length ∧ Below w7.heap.size w7 wx) (fun z _ => ll.length - (intOf z).toNat)
                  case atStart => exact ⟨0, by first | rfl | trivial, Nat.zero_le _, by rw [HW7.out]; exact Below.refl _ _⟩
                  case round =>
                    obtain ⟨k, rfl, hk, hBx⟩ := hrel
                    obtain ⟨wx, rfl⟩ : ∃ wx : World, wx = wr := ⟨_, rfl⟩
                    have hBvx : Below wo.heap.size wo wx := hBv7.trans (hBx.mono hBv7.size)
                    by_cases hkl : k < ll.length
                    · obtain ⟨ad, rfl⟩ := ss_some hss7 hkl
                      obtain ⟨q, hq⟩ : ∃ q, ll[k]? = some q := ⟨ll[k], List.getElem?_eq_getElem hkl⟩
                      have cq := (hss7.below hBx).at hq
                      obtain ⟨hs, hpls, hpar32, hparS⟩ := HSx.out
                      have hql := List.mem_of_getElem? hq
                      have hq32 := hpar32 q hql
                      have k16 : (k : Int) < ll.length := by omega
                      have k17 : IntKind.i64.wrap ((k : Int) + 1) = (k : Int) + 1 := wrap_fit _ (by omega) (by omega)
                      have hlk := (hM.below hBvx hM.lt).get 54 3 Try.underlying54 (zeroI wx) q hq32 true
                      have htx := ht5.below hBvx
                      have hBq := hB5.trans (hBvx.mono hB5.size)
                      have hqp : q ∈ pls (srcOf T) s := by rw [hpls]; exact hql
                      cases hfq : f q with
                      | none =>
                        replace hlk : (Instr.lookup 54 (.map (some w4.heap.size)) (.string q) true).run Try.prog wx = .ok (.tuple #[.int .i64 0, .bool false]) wx := by
                          rw [show imap f q = none by unfold imap; rw [hfq]; rfl] at hlk
                          exact hlk
                        have hbad : ¬ NoClash T := fun hn => by
                          have hqo := (HT.out.1 (acy_src HG.out.1 hn HP.out)).all q (.step (HT.out.2.1 s (List.mem_of_getElem? hs)) hparS hql)
                          obtain ⟨j, hj⟩ := List.getElem?_of_mem hqo
                          have := HPl.out.has j q (List.getElem?_eq_some_iff.1 hj).1 hj
                          rw [hfq] at this
                          cases this
                        have hba : Below wx.heap.size wx (wx.alloc (.cells #[.slice o1 T.length c1] 22)) := (Below.refl _ _).alloc (Nat.le_refl _) _
                        have q4 := clash_true wx.heap.size o1 T c1 1 (wx.alloc (.cells #[.slice o1 T.length c1] 22)) (cell_new0 wx _ _) (htx.below hba) HG.out.1 hT24 hbad
                        have hBz := hBq.alloc hBq.size (.cells #[.slice o1 T.length c1] 22)
                        clear hs hpls hpar32 hparS hql hq hqp hfq hba hbad htx hBq hBvx hBx hBv7 hss7 hM hB5 ht5 hxs hS5 hBv hB6 hBw
                        go_wp2_with (go_at_call 25; with_reducible refine q4.mono ?_; rintro e w9 ⟨rfl, hb9⟩)
                        go_ret
                        exact ⟨rfl, hBz.trans (hb9.mono hBz.size)⟩
                      | some kk =>
                        obtain ⟨j, rfl, hj, hjq⟩ := HPl.out.of q kk hfq
                        replace hlk : (Instr.lookup 54 (.map (some w4.heap.size)) (.string q) true).run Try.prog wx = .ok (.tuple #[.int .i64 j, .bool true]) wx := by
                          rw [show imap f q = some (.int .i64 j) by unfold imap; rw [hfq]; rfl] at hlk
                          exact hlk
                        by_cases hji : j ≤ i
                        · have e1 : decide ((j : Int) ≤ i) = true := decide_eq_true (by omega)
                          have hbad : ¬ NoClash T := fun hn => by
                            have := (HT.out.1 (acy_src HG.out.1 hn HP.out)).ord i j s q hs hqp hjq
                            omega
                          have hba : Below wx.heap.size wx (wx.alloc (.cells #[.slice o1 T.length c1] 22)) := (Below.refl _ _).alloc (Nat.le_refl _) _
                          have q4 := clash_true wx.heap.size o1 T c1 1 (wx.alloc (.cells #[.slice o1 T.length c1] 22)) (cell_new0 wx _ _) (htx.below hba) HG.out.1 hT24 hbad
                          have hBz := hBq.alloc hBq.size (.cells #[.slice o1 T.length c1] 22)
                          clear hs hpls hpar32 hparS hql hq hqp hfq hba hbad htx hBq hBvx hBx hBv7 hss7 hM hB5 ht5 hxs hS5 hBv hB6 hBw hjq
                          go_wp2_with (go_at_call 25; with_reducible refine q4.mono ?_; rintro e w9 ⟨rfl, hb9⟩)
                          go_ret
                          exact ⟨rfl, hBz.trans (hb9.mono hBz.size)⟩
                        · have e1 : decide ((j : Int) ≤ i) = false := decide_eq_false (by omega)
                          clear hs hpls hpar32 hparS hql hq hqp hfq htx hBq hBv7 hss7 hM hB5 ht5 hxs hS5 hBv hB6 hBw hjq
                          go_wp2
                          go_roundw
                          case rel => exact ⟨k + 1, by go_num, hkl, hBx⟩
                          case measure => simp [intOf]; omega
                    · obtain rfl : k = ll.length := by omega
                      clear hBv7 hss7 hM hB5 ht5 hxs hS5 hBv hB6 hBw
                      go_wp2
                      go_roundw
                      case rel => exact ⟨i + 1, by go_num, hil, hBvx⟩
                      case measure => simp [intOf]; omega
                · obtain rfl : i = out.length := by omega
                  go_wp2
                  go_ret
                  exact ⟨by first | rfl | (simp; done), hB6⟩
        · have hbad : ¬ NoClash T := fun hn => by
            have := (HT.out.1 (acy_src HG.out.1 hn HP.out)).first
            rw [HY.out] at this
            exact hya (Option.some.inj this)
          have hnl := ne_list hya
          have hba : Below w4.heap.size w4 (w4.alloc (.cells #[.slice o1 T.length c1] 22)) := (Below.refl _ _).alloc (Nat.le_refl _) _
          have q4 := clash_true w4.heap.size o1 T c1 1 (w4.alloc (.cells #[.slice o1 T.length c1] 22)) (cell_new0 w4 _ _) (ht4.below hba) HG.out.1 hT24 hbad
          have hBz := hB4.alloc hB4.size (.cells #[.slice o1 T.length c1] 22)
          clear hsx hS4 ht4 hB4 hba hbad hya
          go_wp2_with (go_at_call 25; with_reducible refine q4.mono ?_; rintro e w9 ⟨rfl, hb9⟩)
          go_ret
          exact ⟨rfl, hBz.trans (hb9.mono hBz.size)⟩
end Go.Proofs.Ytkjgbldooflodaa
namespace Go.Proofs.Ytkjgbldooflodaa
open Go.RowKit Cm Mp
set_option maxRecDepth 100000
set_option linter.unusedVariables false
set_option linter.unusedSimpArgs false
theorem eq_list {a b : ByteArray} (h : a = b) : (a.toList == b.toList) = true := by rw [h]; exact beq_self_eq_true _
theorem has_still (o : Option Addr) (l : List ByteArray) (c : Nat) (s : ByteArray) (w : World) (h : Ss w o l) (hl : l.length ≤ 100000) :
    Calls Try.prog 40 #[.slice o l.length c, .string s] w fun e w' => e = .returned (.bool (inB s l)) ∧ w = w' := by
  obtain ⟨ans, hans⟩ : ∃ b, b = inB s l := ⟨_, rfl⟩
  rw [← hans]
  have HA := Lib.hid hans
  clear hans
  go_enter Try.func40, Try.ntmps40
  go_wp2
  go_loopw [5] (fun v wx => ∃ i : Nat, v = .int .i64 i ∧ i ≤ l.length ∧ Hid (∀ j x, j < i → l[j]? = some x → x ≠ s) ∧ w = wx) (fun v _ => l.length - (intOf v).toNat)
  case atStart => exact ⟨0, by first | rfl | trivial, Nat.zero_le _, Lib.hid (fun j x hj => absurd hj (Nat.not_lt_zero _)), rfl⟩
  case round =>
    obtain ⟨i, rfl, hi, HI, rfl⟩ := hrel
    by_cases hil : i < l.length
    · obtain ⟨a, rfl⟩ := ss_some h hil
      obtain ⟨x, hx⟩ : ∃ x, l[i]? = some x := ⟨l[i], List.getElem?_eq_getElem hil⟩
      have cx := h.at hx
      have i16 : (i : Int) < l.length := by omega
      have i17 : IntKind.i64.wrap ((i : Int) + 1) = (i : Int) + 1 := wrap_fit _ (by omega) (by omega)
      have HX := Lib.hid hx
      clear hx
      by_cases hxs : x = s
      · have hnl := eq_list hxs
        obtain rfl : ans = true := by rw [HA.out, inB_iff, ← hxs]; exact List.mem_of_getElem? HX.out
        clear hxs
        go_wp2
        go_ret
        exact ⟨by first | rfl | (simp; done), rfl⟩
      · have hnl := ne_list hxs
        have HN := Lib.hid hxs
        clear hxs
        go_wp2
        go_roundw
        case rel => exact ⟨i + 1, by go_num, hil, Lib.hid (fun j y hj hy => by
            by_cases hji : j = i
            · subst hji; rw [HX.out] at hy; cases hy; exact HN.out
            · exact HI.out j y (by omega) hy), by first | rfl | trivial⟩
        case measure => simp [intOf]; omega
    · obtain rfl : i = l.length := by omega
      obtain rfl : ans = false := by
        rw [HA.out]
        refine Bool.eq_false_iff.2 (fun e => ?_)
        obtain ⟨j, hj⟩ := List.getElem?_of_mem ((inB_iff s l).1 e)
        exact HI.out j s (List.getElem?_eq_some_iff.1 hj).1 hj rfl
      go_wp2
      go_ret
      exact ⟨by first | rfl | (simp; done), rfl⟩
theorem has_any (o : Option Addr) (l : List ByteArray) (c : Nat) (s : ByteArray) (w : World) (h : Ss w o l) (hl : l.length ≤ 100000) :
    Calls Try.prog 40 #[.slice o l.length c, .string s] w fun e w' => e = .returned (.bool (inB s l)) ∧ Below w.heap.size w w' :=
  (has_still o l c s w h hl).mono (by
    rintro e w' ⟨rfl, rfl⟩
    exact ⟨rfl, Below.refl _ _⟩)
theorem src_at {T : List ByteArray} {p t : ByteArray} {i : Nat} (ht : T[i]? = some t) (hp : Sha.sha t = p) (hn : ∀ j x, j < i → T[j]? = some x → Sha.sha x ≠ p) : srcOf T p = some t := by
  unfold srcOf
  obtain ⟨h1, h2⟩ := List.getElem?_eq_some_iff.1 ht
  rw [List.find?_eq_some_iff_getElem]
  refine ⟨by simp [hp], i, h1, h2, fun j hj => ?_⟩
  have := hn j T[j] hj (List.getElem?_eq_getElem (by omega))
  simpa using this
theorem src_no {T : List ByteArray} {p : ByteArray} (hn : ∀ j x, j < T.length → T[j]? = some x → Sha.sha x ≠ p) : srcOf T p = none := by
  unfold srcOf
  rw [List.find?_eq_none]
  intro t ht
  obtain ⟨j, hj⟩ := List.getElem?_of_mem ht
  have := hn j t (List.getElem?_eq_some_iff.1 hj).1 hj
  simpa using this
/-- The reference's Get, where there is a commit. -/
theorem rget_some (o : Option Addr) (T : List ByteArray) (c : Nat) (p : ByteArray) (cc : C) (w : World) (h : Ss w o T) (hl : T.length ≤ 1000) (hT : ∀ t ∈ T, t.size ≤ 1000000) (hcc : getC (srcOf T) p = some cc) :
    Calls Try.prog 19 #[.slice o T.length c, .string p] w fun e w' => ∃ (oo : Option Addr) (cp : Nat), e = .returned (.tuple #[.agg #[.string cc.root, .slice oo cc.par.length cp, .string cc.msg], .bool true]) ∧ Ss w' oo cc.par ∧ (∀ y, oo = some y → w.heap.size ≤ y.block) ∧ Below w.heap.size w w' := by
  have hb1 : Below w.heap.size w (w.alloc (.cells #[.string ⟨#[]⟩, .slice none 0 0, .string ⟨#[]⟩] 24)) := (Below.refl _ _).alloc (Nat.le_refl _) _
  have hblk := heap_alloc_new w (.cells #[.string ⟨#[]⟩, .slice none 0 0, .string ⟨#[]⟩] 24)
  have hsz : (w.alloc (.cells #[.string ⟨#[]⟩, .slice none 0 0, .string ⟨#[]⟩] 24)).heap.size = w.heap.size + 1 := by simp
  have hb2 : Below (w.heap.size + 1) (w.alloc (.cells #[.string ⟨#[]⟩, .slice none 0 0, .string ⟨#[]⟩] 24)) (w.alloc (.cells #[.string ⟨#[]⟩, .slice none 0 0, .string ⟨#[]⟩] 24)) := Below.refl _ _
  have HCC := Lib.hid hcc
  clear hcc
  go_enter Try.func19, Try.ntmps19
  go_wp2
  go_loopw [6] (fun v wx => ∃ i : Nat, v = .int .i64 i ∧ i ≤ T.length ∧ Hid (∀ j x, j < i → T[j]? = some x → Sha.sha x ≠ p) ∧ Below w.heap.size w wx ∧ wx.heap[w.heap.size]? = some (.cells #[.string ⟨#[]⟩, .slice none 0 0, .string ⟨#[]⟩] 24 (0, 0))) (fun v _ => T.length - (intOf v).toNat)
  case atStart => exact ⟨0, by first | rfl | trivial, Nat.zero_le _, Lib.hid (fun j x hj => absurd hj (Nat.not_lt_zero _)), hb1, hblk⟩
  case round =>
    clear hb1 hblk hb2 hsz
    obtain ⟨i, rfl, hi, HI, hB, hbk⟩ := hrel
    by_cases hil : i < T.length
    · obtain ⟨a, rfl⟩ := ss_some h hil
      obtain ⟨x, hx⟩ : ∃ x, T[i]? = some x := ⟨T[i], List.getElem?_eq_getElem hil⟩
      have cx := (h.below hB).at hx
      have hxz := hT x (List.mem_of_getElem? hx)
      have i16 : (i : Int) < T.length := by omega
      have i17 : IntKind.i64.wrap ((i : Int) + 1) = (i : Int) + 1 := wrap_fit _ (by omega) (by omega)
      obtain ⟨ps, hps⟩ : ∃ q, q = Sha.sha x := ⟨_, rfl⟩
      have hpr := fun w => rprint_any x w (by omega)
      rw [← hps] at hpr
      have hlt := (Array.getElem?_eq_some_iff.1 hbk).1
      have hax := (h.2 a rfl).1 (by intro e; rw [e] at hil; simp at hil)
      have FAR : ∀ w5, Below wr.heap.size wr w5 → w5.cell? (a.add i) = some (.string x) ∧ w5.heap[w.heap.size]? = some (.cells #[.string ⟨#[]⟩, .slice none 0 0, .string ⟨#[]⟩] 24 (0, 0)) ∧ Below w.heap.size w w5 := fun w5 h5 => ⟨(h5.cell (by rw [addr_add_block]; have := hB.size; omega)).trans cx, (h5.block _ hlt).trans hbk, hB.trans (h5.mono hB.size)⟩
      have HX := Lib.hid (And.intro hx hps)
      clear hx hps
      by_cases hpp : ps = p
      · have hnl := eq_list hpp
        have hrd := fun w => rread_any x w hxz
        have hans : readC x = some cc := by
          have h1 := src_at HX.out.1 (by rw [← HX.out.2]; exact hpp) HI.out
          have h2 := HCC.out
          unfold getC at h2
          rw [h1] at h2
          exact h2
        rw [hans] at hrd
        obtain ⟨rr, ll, mm⟩ := cc
        clear hpp hans
        go_wp2_with (go_at_call 17; with_reducible refine (hpr _).mono ?_; rintro e w5 ⟨rfl, hb5⟩; obtain ⟨cx5, hbk5, hB5⟩ := FAR _ hb5)
        go_at_call 16
        with_reducible refine (hrd _).mono ?_
        intro e w6 hout
        obtain ⟨c6, o6, cp6, ok, rfl, hs6, hn6, hcp6, hfr6, hb6, h7, h8⟩ := hout
        obtain rfl : ok = true := by
          cases ok
          · cases (h8 rfl).1
          · rfl
        have h6 := Option.some.inj (h7 rfl)
        subst h6
        clear h7 h8
        dsimp only at hs6 hcp6
        have hbk6 := (hb6.block _ (Array.getElem?_eq_some_iff.1 hbk5).1).trans hbk5
        have hB6 := hB5.trans (hb6.mono hB5.size)
        have hfin := block_set3 (x := .string rr) (y := .slice o6 ll.length cp6) (z := .string mm) hbk6
        have d0 := Lib.cell_of_heap hfin 0
        have d1 := Lib.cell_of_heap hfin 1
        have d2 := Lib.cell_of_heap hfin 2
        have t0 : w6.cell? ⟨w.heap.size, 0, none⟩ = some (.string ⟨#[]⟩) := by rw [Lib.cell_of_heap hbk6]; rfl
        have t1 : w6.cell? ⟨w.heap.size, 1, none⟩ = some (.slice none 0 0) := by rw [Lib.cell_of_heap hbk6]; rfl
        have t2 : w6.cell? ⟨w.heap.size, 2, none⟩ = some (.string ⟨#[]⟩) := by rw [Lib.cell_of_heap hbk6]; rfl
        have g0 : w6.frozen? ⟨w.heap.size, 0, none⟩ = false := by simp [World.frozen?, hbk6]
        have g1 : w6.frozen? ⟨w.heap.size, 1, none⟩ = false := by simp [World.frozen?, hbk6]
        have g2 : w6.frozen? ⟨w.heap.size, 2, none⟩ = false := by simp [World.frozen?, hbk6]
        have HFR := Lib.hid (show ∀ y, o6 = some y → w.heap.size ≤ y.block from fun y hy => Nat.le_trans hB5.size (hfr6 y hy))
        have hne : ∀ x, o6 = some x → x.block ≠ w.heap.size := fun x hx => by
          have h1 := hfr6 x hx
          have h2 := (Array.getElem?_eq_some_iff.1 hbk5).1
          omega
        have hse := ((hs6.set ⟨w.heap.size, 0, none⟩ (.string rr) hne).set ⟨w.heap.size, 1, none⟩ (.slice o6 ll.length cp6) hne).set ⟨w.heap.size, 2, none⟩ (.string mm) hne
        have Hse := Lib.hid (And.intro hse (((hB6.setCell (p := ⟨w.heap.size, 0, none⟩) (Nat.le_refl _) (.string rr)).setCell (p := ⟨w.heap.size, 1, none⟩) (Nat.le_refl _) (.slice o6 ll.length cp6)).setCell (p := ⟨w.heap.size, 2, none⟩) (Nat.le_refl _) (.string mm)))
        clear hse hfin hs6 hb6 hbk6 hfr6 hne
        go_wp2
        exact bodyPost_ret (v := .tuple #[.agg #[.string rr, .slice o6 ll.length cp6, .string mm], .bool true]) (by simp [results, Try.results19, go_sem, d0, d1, d2]) rfl ⟨o6, ⟨cp6, rfl⟩, Hse.out.1, HFR.out, Hse.out.2⟩
      · have hnl := ne_list hpp
        have HN := Lib.hid hpp
        clear hpp hbk
        go_wp2_with (go_at_call 17; with_reducible refine (hpr _).mono ?_; rintro e w5 ⟨rfl, hb5⟩; obtain ⟨cx5, hbk5, hB5⟩ := FAR _ hb5)
        go_roundw
        case rel => exact ⟨i + 1, by go_num, hil, Lib.hid (fun j y hj hy => by
            by_cases hji : j = i
            · subst hji; rw [HX.out.1] at hy; cases hy; rw [← HX.out.2]; exact HN.out
            · exact HI.out j y (by omega) hy), hB5, hbk5⟩
        case measure => simp [intOf]; omega
    · exfalso
      have h2 := HCC.out
      unfold getC at h2
      rw [src_no (fun j x hj hx => HI.out j x (by omega) hx)] at h2
      cases h2
end Go.Proofs.Ytkjgbldooflodaa
namespace Go.Proofs.Ytkjgbldooflodaa
open Go.RowKit Cm Mp
set_option maxRecDepth 100000
set_option linter.unusedVariables false
set_option linter.unusedSimpArgs false
/-- All that is ahead, under way: the first i's parents are told, and of the next one the first k. -/
structure Al (S : ByteArray → Option ByteArray) (p : ByteArray) (out : List ByteArray) (i : Nat) : Prop where
  nodup : out.Nodup
  reach : ∀ x ∈ out, Ahd S p x
  first : p ∈ out
  done : ∀ (j : Nat) x, j < i → out[j]? = some x → ∀ q ∈ pls S x, q ∈ out
theorem Al.start (S : ByteArray → Option ByteArray) (p : ByteArray) : Al S p [p] 0 :=
  ⟨by simp, (fun x hx => by rw [List.mem_singleton] at hx; rw [hx]; exact .refl), by simp, fun j x hj => absurd hj (Nat.not_lt_zero _)⟩
theorem Al.more {S : ByteArray → Option ByteArray} {p q : ByteArray} {out l : List ByteArray} {i : Nat} {x : ByteArray} (h : Al S p out i) (hx : x ∈ out) (hl : par S x = some l) (hq : q ∈ l) (hn : q ∉ out) (hi : i ≤ out.length) : Al S p (out ++ [q]) i := by
  refine ⟨?_, fun y hy => ?_, List.mem_append_left _ h.first, fun j y hj hy r hr => ?_⟩
  · rw [List.nodup_append]
    exact ⟨h.nodup, by simp, fun a ha b hb => by rw [List.mem_singleton] at hb; rw [hb]; intro e; exact hn (e ▸ ha)⟩
  · rw [List.mem_append, List.mem_singleton] at hy
    rcases hy with hy | rfl
    · exact h.reach y hy
    · exact .step (h.reach x hx) hl hq
  · rw [List.getElem?_append_left (by omega)] at hy
    exact List.mem_append_left _ (h.done j y hj hy r hr)
theorem Al.next {S : ByteArray → Option ByteArray} {p x : ByteArray} {out l : List ByteArray} {i : Nat} (h : Al S p out i) (hx : out[i]? = some x) (hl : pls S x = l) (ha : ∀ q ∈ l, q ∈ out) : Al S p out (i + 1) :=
  ⟨h.nodup, h.reach, h.first, fun j y hj hy q hq => by
    by_cases hji : j = i
    · subst hji
      rw [hx] at hy
      cases hy
      rw [hl] at hq
      exact ha q hq
    · exact h.done j y (by omega) hy q hq⟩
theorem Al.all {S : ByteArray → Option ByteArray} {p : ByteArray} {out : List ByteArray} (h : Al S p out out.length) : ∀ q, q ∈ out ↔ Ahd S p q := by
  refine fun q => ⟨h.reach q, fun hq => ?_⟩
  induction hq with
  | refl => exact h.first
  | step _ hl hq ih =>
    obtain ⟨j, hj⟩ := List.getElem?_of_mem ih
    exact h.done j _ (List.getElem?_eq_some_iff.1 hj).1 hj _ (by unfold pls; rw [hl]; exact hq)
theorem GOK.size' {T : List ByteArray} (h : GOK T) {t : ByteArray} (ht : t ∈ T) : t.size ≤ 2000 := by
  obtain ⟨i, hi⟩ := List.getElem?_of_mem ht
  exact (h i t hi).1
set_option maxHeartbeats 4000000 in
theorem rall_any (o : Option Addr) (T : List ByteArray) (c : Nat) (p : ByteArray) (w : World) (h : Ss w o T) (hG : GOK T) (hl : T.length ≤ 24) (hp : p ∈ T.map Sha.sha) :
    Calls Try.prog 21 #[.slice o T.length c, .string p] w fun e w' => ∃ (out : List ByteArray) (oo : Option Addr) (co : Nat), e = .returned (.tuple #[.slice oo out.length co, .bool true]) ∧ Ss w' oo out ∧ out.Nodup ∧ (∀ q, q ∈ out ↔ Ahd (srcOf T) p q) ∧ out.length ≤ 24 ∧ Below w.heap.size w w' := by
  obtain ⟨i0, hi0, hz0, hz1, hz2⟩ := info_parts (P := Try.prog) (e := 9) (z := .string ⟨#[]⟩) (size := 1) (bytes := 16) (by kernel_rfl)
  have hown0 := World.ownsRow_lit (base := w.heap.size) (e := 9) (size := 1) w #[.string p] 1 (Nat.le_refl _) (by unfold maxLen; omega) rfl
  have hb0 : Below w.heap.size w (w.alloc (.cells #[.string p] 9)) := (Below.refl _ _).alloc (Nat.le_refl _) _
  go_enter Try.func21, Try.ntmps21
  go_wp2
  have HG := Lib.hid (And.intro hG (And.intro hl hp))
  clear hG hl hp
  go_loopg [6, 7] 25 (fun k v vi wx => ∃ (out : List ByteArray) (i : Nat) (oo : Option Addr) (co : Nat), v = .slice oo out.length co ∧ vi = .int .i64 i ∧ i ≤ out.length ∧ wx.ownsRow w.heap.size 9 1 (.slice oo out.length co) out.length (out.map Value.string) ∧ Hid (Al (srcOf T) p out i ∧ out.length ≤ 24 ∧ k = 25 - i) ∧ Below w.heap.size w wx)
  case atStart => exact ⟨[p], 0, some ⟨w.heap.size, 0, none⟩, 1, rfl, by first | rfl | trivial, Nat.zero_le _, by simpa using hown0, Lib.hid ⟨Al.start _ _, by simp, rfl⟩, hb0⟩
  case round =>
    clear hown0 hb0
    obtain ⟨out, i, oo, co, rfl, rfl, hi, hown, HA, hB⟩ := hrel
    obtain ⟨hal, hol, hk⟩ := HA.out
    by_cases hil : i < out.length
    · obtain ⟨x, hx⟩ : ∃ x, out[i]? = some x := ⟨out[i], List.getElem?_eq_getElem hil⟩
      have hss : Ss wr oo out := by
        obtain ⟨o', c', e1, h, _⟩ := own_ss hown rfl
        injection e1 with e1
        rw [e1]
        exact h
      obtain ⟨a, rfl⟩ := ss_some hss hil
      have cx := hss.at hx
      have hxA := hal.reach x (List.mem_of_getElem? hx)
      have hxK := gok_ahd HG.out.1 HG.out.2.2 hxA
      obtain ⟨cc, hcc⟩ : ∃ c, getC (srcOf T) x = some c := by
        obtain ⟨l, h1, _⟩ := gok_par HG.out.1 hxK
        unfold par at h1
        cases hg : getC (srcOf T) x with
        | none => rw [hg] at h1; cases h1
        | some c => exact ⟨c, rfl⟩
      have hparS : par (srcOf T) x = some cc.par := by unfold par; rw [hcc]; rfl
      have hp2 := (par_two hparS).1
      have hq := rget_some o T c x cc wr (h.below hB) (by have := HG.out.2.1; omega) (fun t ht => by have := HG.out.1.size' ht; omega) hcc
      obtain ⟨rr, ll, mm⟩ := cc
      dsimp only at hq hparS hp2
      have i16 : (i : Int) < out.length := by omega
      have i17 : IntKind.i64.wrap ((i : Int) + 1) = (i : Int) + 1 := wrap_fit _ (by omega) (by omega)
      have hob := own_lt' hown
      have HX := Lib.hid (And.intro (And.intro hx hparS) (And.intro (And.intro hal hol) (And.intro (And.intro hk hob) (And.intro hxA hown))))
      clear hx hparS hal hol hk hxA hxK hcc hss hown hob
      go_wp2_with (fail)
      go_at_call 19
      with_reducible refine hq.mono ?_
      rintro e w5 ⟨ol, cp, rfl, hs5, hfr5, hb5⟩
      have hbl := (Below.refl w5.heap.size w5).alloc (Nat.le_refl _) (.cells #[.string rr, .slice ol ll.length cp, .string mm] 24)
      have hblk := heap_alloc_new w5 (.cells #[.string rr, .slice ol ll.length cp, .string mm] 24)
      have hs7 := hs5.below hbl
      have hB7 : Below w.heap.size w (w5.alloc (.cells #[.string rr, .slice ol ll.length cp, .string mm] 24)) := (hB.trans (hb5.mono hB.size)).trans (hbl.mono (hB.trans (hb5.mono hB.size)).size)
      have hown7 := (HX.out.2.2.2.2.kept (gb_of_below hb5 none) (Classical.em _)).kept (gb_of_below hbl none) (Classical.em _)
      have hb5s := hb5.size
      have H7 := Lib.hid (And.intro (And.intro hblk hs7) (And.intro hB7 hown7))
      clear hbl hblk hs7 hB7 hown7 hs5 hb5 hq
      go_wp2
      go_loopw [6, 10] (fun v z wx => ∃ (out2 : List ByteArray) (o2 : Option Addr) (c2 k : Nat), v = .slice o2 out2.length c2 ∧ z = .int .i64 k ∧ k ≤ ll.length ∧ wx.ownsRow w.heap.size 9 1 (.slice o2 out2.length c2) out2.length (out2.map Value.string) ∧
          wx.heap[w5.heap.size]? = some (.cells #[.string rr, .slice ol ll.length cp, .string mm] 24 (0, 0)) ∧ Ss wx ol ll ∧
          Hid (Al (srcOf T) p out2 i ∧ out2[i]? = some x ∧ (∀ m q, m < k → ll[m]? = some q → q ∈ out2) ∧ (∀ j, (Value.slice o2 out2.length c2).ownBlock = some j → w.heap.size ≤ j ∧ j ≠ w5.heap.size ∧ ∀ y, ol = some y → y.block ≠ j)) ∧ Below w.heap.size w wx)
        (fun _ z _ => ll.length - (intOf z).toNat)
      case atStart =>
        obtain ⟨⟨hblk, hs7⟩, hB7, hown7⟩ := H7.out
        obtain ⟨⟨hx, hparS⟩, ⟨hal, hol⟩, ⟨hk, hob⟩, hxA, hown⟩ := HX.out
        exact ⟨out, some a, co, 0, rfl, by first | rfl | trivial, Nat.zero_le _, hown7, hblk, hs7, Lib.hid ⟨hal, hx, fun m q hm => absurd hm (Nat.not_lt_zero _), fun j hj => ⟨(hob j hj).1, by have := (hob j hj).2; omega, fun y hy => by have h1 := hfr5 y hy; have h2 := (hob j hj).2; omega⟩⟩, hB7⟩
      case round =>
        obtain ⟨out2, o2, c2, k, rfl, rfl, hkk, hown2, hblk, hs7, HI, hBx⟩ := hrel
        clear H7
        obtain ⟨wx, rfl⟩ : ∃ wx : World, wx = wr := ⟨_, rfl⟩
        have t1 : wx.cell? ⟨w5.heap.size, 1, none⟩ = some (.slice ol ll.length cp) := by rw [Lib.cell_of_heap hblk]; rfl
        have hlt5 := (Array.getElem?_eq_some_iff.1 hblk).1
        by_cases hkl : k < ll.length
        · obtain ⟨ad, rfl⟩ := ss_some hs7 hkl
          obtain ⟨q, hq⟩ : ∃ q, ll[k]? = some q := ⟨ll[k], List.getElem?_eq_getElem hkl⟩
          have cq := hs7.at hq
          have hadl := (hs7.2 ad rfl).1 (by intro e; rw [e] at hkl; simp at hkl)
          obtain ⟨hal, hx, hdone, hdis⟩ := HI.out
          have hss2 : Ss wx o2 out2 := by
            obtain ⟨o', c', e1, h, _⟩ := own_ss hown2 rfl
            injection e1 with e1
            rw [e1]
            exact h
          have hl24 : out2.length ≤ 24 := by
            have := len_sub out2 (T.map Sha.sha) hal.nodup (fun s hs => gok_ahd HG.out.1 HG.out.2.2 (hal.reach s hs))
            rw [List.length_map] at this
            have := HG.out.2.1
            omega
          have hh := has_any o2 out2 c2 q wx hss2 (by omega)
          have k16 : (k : Int) < ll.length := by omega
          have k17 : IntKind.i64.wrap ((k : Int) + 1) = (k : Int) + 1 := wrap_fit _ (by omega) (by omega)
          have FAR : ∀ w6, Below wx.heap.size wx w6 → w6.cell? (ad.add k) = some (.string q) ∧ w6.cell? ⟨w5.heap.size, 1, none⟩ = some (.slice (some ad) ll.length cp) ∧ (w6.heap[w5.heap.size]? = some (.cells #[.string rr, .slice (some ad) ll.length cp, .string mm] 24 (0, 0)) ∧ Ss w6 (some ad) ll ∧ w6.ownsRow w.heap.size 9 1 (.slice o2 out2.length c2) out2.length (out2.map Value.string) ∧ Below w.heap.size w w6) := fun w6 h6 => by
            have hb6 := (h6.block _ hlt5).trans hblk
            exact ⟨(h6.cell (by rw [addr_add_block]; exact hadl)).trans cq, by rw [Lib.cell_of_heap hb6]; rfl, hb6, hs7.below h6, hown2.kept (gb_of_below h6 none) (Classical.em _), hBx.trans (h6.mono hBx.size)⟩
          have HQ := Lib.hid (And.intro (And.intro hq hl24) (And.intro (And.intro hal hx) (And.intro hdone hdis)))
          clear hq hal hx hdone hdis hss2 hblk hs7 hown2
          by_cases hqo : q ∈ out2
          · rw [(inB_iff q out2).2 hqo] at hh
            have HQO := Lib.hid hqo
            clear hqo
            go_wp2_with (go_at_call 40; with_reducible refine hh.mono ?_; rintro e w6 ⟨rfl, hb6⟩; obtain ⟨cq6, t6, HB6⟩ := FAR _ hb6; have HB6 := Lib.hid HB6)
            obtain ⟨hblk6, hs6, hown6, hB6⟩ := HB6.out
            obtain ⟨⟨hq, _⟩, ⟨hal, hx⟩, hdone, hdis⟩ := HQ.out
            go_roundw
            case rel => exact ⟨out2, o2, c2, k + 1, by first | rfl | trivial, by go_num, hkl, hown6, hblk6, hs6, Lib.hid ⟨hal, hx, fun m r hm hr => by
                by_cases hmk : m = k
                · subst hmk; rw [hq] at hr; cases hr; exact HQO.out
                · exact hdone m r (by omega) hr, hdis⟩, hB6⟩
            case measure => simp [intOf]; omega
          · rw [show inB q out2 = false from Bool.eq_false_iff.2 (fun e => hqo ((inB_iff _ _).1 e))] at hh
            have HQO := Lib.hid hqo
            have hm1 : out2.length + 1 ≤ maxLen := by unfold maxLen; omega
            have hm2 : (out2.length + 1) * 16 ≤ 140737488355328 := by omega
            clear hqo
            go_wp2_with (first | (go_at_call 40; with_reducible refine hh.mono ?_; rintro e w6 ⟨rfl, hb6⟩; obtain ⟨cq6, t6, HB6⟩ := FAR _ hb6; have hg7 : w6.grownBy (w6.alloc (.cells #[.string q] 9)) none := World.grownBy_alloc _ _ none; have hown7 := HB6.2.2.1.kept hg7 (Classical.em _); have hm3 : w.heap.size ≤ (w6.alloc (.cells #[.string q] 9)).heap.size := (by have := HB6.2.2.2.size; simp; omega); have cq7 : (w6.alloc (.cells #[.string q] 9)).cell? ⟨w6.heap.size, 0, none⟩ = some (.string q) := cell_new0 w6 _ _; have HB6 := Lib.hid (And.intro HB6 hg7); clear hg7) | (at_builtin; go_loud (refine wpList_appAt rfl (.tmp 45) (.tmp 51) 22 rfl w.heap.size 9 i0 (.string ⟨#[]⟩) 16 Try.underlying22 hi0 hz0 hz1 hz2 rfl (.slice o2 out2.length c2) out2.length _ rfl hown7 (some ⟨w6.heap.size, 0, none⟩) [q] 1 rfl 1 rfl (fun e => by cases e) (ss_new w6 q _) hm1 hm2 hm3 ?_)))
            intro v8 w8 hown8 hg8 hloc8
            replace hown8 : w8.ownsRow w.heap.size 9 1 v8 (out2.length + 1) ((out2 ++ [q]).map Value.string) := by rw [List.map_append]; exact hown8
            have hlen : (out2 ++ [q]).length = out2.length + 1 := by simp
            obtain ⟨o8, c8, hv8, _⟩ := own_ss hown8 hlen.symm
            rw [hlen] at hv8
            subst hv8
            obtain ⟨⟨hblk6, hs6, hown6, hB6⟩, hg7⟩ := HB6.out
            obtain ⟨⟨hq, _⟩, ⟨hal, hx⟩, hdone, hdis⟩ := HQ.out
            have hsa : (w6.alloc (.cells #[.string q] 9)).heap.size = w6.heap.size + 1 := by simp
            have hlt6 := (Array.getElem?_eq_some_iff.1 hblk6).1
            have hadl6 := (hs6.2 ad rfl).1 (by intro e; rw [e] at hkl; simp at hkl)
            have hdis8 : ∀ j, (Value.slice o8 (out2.length + 1) c8).ownBlock = some j → w.heap.size ≤ j ∧ j ≠ w5.heap.size ∧ ∀ y, some ad = some y → y.block ≠ j := fun j hj => by
              rcases hloc8 with h | h
              · exact hdis j (h ▸ hj)
              · have h2 := Option.some.inj (hj.symm.trans h)
                have h3 := hB6.size
                exact ⟨by omega, by omega, fun y hy => by cases hy; omega⟩
            have hblk7 := (Lib.alloc_old w6 (.cells #[.string q] 9) _ hlt6).trans hblk6
            have hblk8 := (hg8.block w5.heap.size (by omega) (fun e => (hdis _ e.symm).2.1 rfl)).trans hblk7
            have hs8 := (hs6.grown hg7 (fun _ _ _ => by simp)).grown hg8 (fun y hy _ e => (hdis _ e.symm).2.2 y hy rfl)
            have hB7 := hB6.trans (below_of_grown hg7 (fun k hk => by cases hk) hB6.size)
            have hB8 := hB7.trans (below_of_grown hg8 (fun k hk => (hdis k hk).1) hB7.size)
            have HF := Lib.hid (And.intro (And.intro (hown8) hblk8) (And.intro (And.intro hs8 hB8) (And.intro (And.intro hlen hdis8) (And.intro hal hx))))
            clear hown8 hblk8 hs8 hB8 hlen hdis8 hal hx hg8 hloc8 hblk6 hs6 hown6 hB6 hg7 hq hdone hdis hsa hlt6 hadl6 hblk7 hB7
            go_wp2
            obtain ⟨⟨hown8, hblk8⟩, ⟨hs8, hB8⟩, ⟨hlen, hdis8⟩, hal, hx⟩ := HF.out
            obtain ⟨⟨hq, _⟩, _, hdone, _⟩ := HQ.out
            have hil2 := (List.getElem?_eq_some_iff.1 hx).1
            go_roundw
            case rel => exact ⟨out2 ++ [q], o8, c8, k + 1, by rw [hlen], by go_num, hkl, by rw [hlen]; exact hown8, hblk8, hs8, Lib.hid ⟨hal.more (List.mem_of_getElem? hx) HX.out.1.2 (List.mem_of_getElem? hq) HQO.out (by omega), by rw [List.getElem?_append_left hil2]; exact hx, fun m r hm hr => by
                by_cases hmk : m = k
                · subst hmk; rw [hq] at hr; cases hr; simp
                · exact List.mem_append_left _ (hdone m r (by omega) hr), by rw [hlen]; exact hdis8⟩, hB8⟩
            case measure => simp [intOf]; omega
        · obtain rfl : k = ll.length := by omega
          have HE := Lib.hid (And.intro hown2 hBx)
          clear hown2 hBx hblk hs7
          go_wp2
          obtain ⟨hown2, hBx⟩ := HE.out
          obtain ⟨hal, hx, hdone, hdis⟩ := HI.out
          obtain ⟨⟨_, hparS⟩, ⟨_, hol⟩, ⟨hk, _⟩, _, _⟩ := HX.out
          have hl24 : out2.length ≤ 24 := by
            have := len_sub out2 (T.map Sha.sha) hal.nodup (fun s hs => gok_ahd HG.out.1 HG.out.2.2 (hal.reach s hs))
            rw [List.length_map] at this
            have := HG.out.2.1
            omega
          have hil2 := (List.getElem?_eq_some_iff.1 hx).1
          go_roundg (25 - (i + 1))
          case measure => omega
          case rel => exact ⟨out2, i + 1, o2, c2, by first | rfl | trivial, by go_num, by omega, hown2, Lib.hid ⟨hal.next hx (show pls (srcOf T) x = ll by unfold pls; rw [hparS]; rfl) (fun q hq => by
              obtain ⟨m, hm⟩ := List.getElem?_of_mem hq
              exact hdone m q (List.getElem?_eq_some_iff.1 hm).1 hm), hl24, rfl⟩, hBx⟩
    · obtain rfl : i = out.length := by omega
      have hss : Ss wr oo out := by
        obtain ⟨o', c', e1, h, _⟩ := own_ss hown rfl
        injection e1 with e1
        rw [e1]
        exact h
      have HE := Lib.hid (And.intro hss (And.intro hal hol))
      clear hss hal hol hown hk
      go_wp2
      exact bodyPost_ret (v := .tuple #[.slice oo out.length co, .bool true]) (by simp [results, Try.results21, go_sem]) rfl ⟨out, oo, co, rfl, HE.out.1, HE.out.2.1.nodup, HE.out.2.1.all, HE.out.2.2, hB⟩
end Go.Proofs.Ytkjgbldooflodaa
namespace Go.Proofs.Ytkjgbldooflodaa
open Go.RowKit Cm Mp
set_option maxRecDepth 100000
set_option linter.unusedVariables false
set_option linter.unusedSimpArgs false
/-- It could be told next. -/
def Rdy (S : ByteArray → Option ByteArray) (V out : List ByteArray) (y : ByteArray) : Prop := ∀ s ∈ V, y ∈ pls S s → s ∈ out
/-- What the reference tells: each one the least of those that could be told. -/
structure Grd (S : ByteArray → Option ByteArray) (V out : List ByteArray) : Prop where
  nodup : out.Nodup
  sub : ∀ x ∈ out, x ∈ V
  rdy : ∀ (i : Nat) x, out[i]? = some x → ∀ s ∈ V, x ∈ pls S s → s ∈ out.take i
  least : Lst S V out
theorem Grd.nil (S : ByteArray → Option ByteArray) (V : List ByteArray) : Grd S V [] := ⟨List.nodup_nil, (fun x hx => by cases hx), (fun i x hx => by simp at hx), fun i x hx => by simp at hx⟩
/-- The best one of the first i. -/
structure Bst (S : ByteArray → Option ByteArray) (V out : List ByteArray) (i : Nat) (found : Bool) (best : ByteArray) : Prop where
  yes : found = true → best ∈ V ∧ best ∉ out ∧ Rdy S V out best ∧ ∀ (j : Nat) y, j < i → V[j]? = some y → y ∉ out → Rdy S V out y → ¬ ltS y best
  no : found = false → ∀ (j : Nat) y, j < i → V[j]? = some y → y ∉ out → ¬ Rdy S V out y
theorem Bst.start (S : ByteArray → Option ByteArray) (V out : List ByteArray) (b : ByteArray) : Bst S V out 0 false b := ⟨(fun h => by cases h), fun _ j y hj => absurd hj (Nat.not_lt_zero _)⟩
theorem Bst.skip {S : ByteArray → Option ByteArray} {V out : List ByteArray} {i : Nat} {f : Bool} {b x : ByteArray} (h : Bst S V out i f b) (hx : V[i]? = some x) (hn : x ∈ out ∨ ¬ Rdy S V out x) : Bst S V out (i + 1) f b := by
  refine ⟨fun hf => ?_, fun hf j y hj hy hyo hr => ?_⟩
  · obtain ⟨h1, h2, h3, h4⟩ := h.yes hf
    refine ⟨h1, h2, h3, fun j y hj hy hyo hr => ?_⟩
    by_cases hji : j = i
    · subst hji; rw [hx] at hy; cases hy
      exact (hn.elim (fun e => absurd e hyo) (fun e => absurd hr e))
    · exact h4 j y (by omega) hy hyo hr
  · by_cases hji : j = i
    · subst hji; rw [hx] at hy; cases hy
      exact (hn.elim (fun e => absurd e hyo) (fun e => absurd hr e))
    · exact h.no hf j y (by omega) hy hyo hr
theorem Bst.pass {S : ByteArray → Option ByteArray} {V out : List ByteArray} {i : Nat} {b x : ByteArray} (h : Bst S V out i true b) (hx : V[i]? = some x) (hl : ¬ ltS x b) : Bst S V out (i + 1) true b := by
  obtain ⟨h1, h2, h3, h4⟩ := h.yes rfl
  refine ⟨fun _ => ⟨h1, h2, h3, fun j y hj hy hyo hr => ?_⟩, fun hf => by cases hf⟩
  by_cases hji : j = i
  · subst hji; rw [hx] at hy; cases hy; exact hl
  · exact h4 j y (by omega) hy hyo hr
theorem Bst.take {S : ByteArray → Option ByteArray} {V out : List ByteArray} {i : Nat} {f : Bool} {b x : ByteArray} (h : Bst S V out i f b) (hx : V[i]? = some x) (hxo : x ∉ out) (hr : Rdy S V out x) (hl : f = true → ltS x b) : Bst S V out (i + 1) true x := by
  refine ⟨fun _ => ⟨List.mem_of_getElem? hx, hxo, hr, fun j y hj hy hyo hyr => ?_⟩, fun hf => by cases hf⟩
  by_cases hji : j = i
  · subst hji; rw [hx] at hy; cases hy; exact irrS _
  · cases f with
    | true => exact fun hlt => (h.yes rfl).2.2.2 j y (by omega) hy hyo hyr (List.lt_trans hlt (hl rfl))
    | false => exact absurd hyr (h.no rfl j y (by omega) hy hyo)
theorem Grd.more {S : ByteArray → Option ByteArray} {V out : List ByteArray} {b : ByteArray} (h : Grd S V out) (hb : Bst S V out V.length true b) : Grd S V (out ++ [b]) := by
  obtain ⟨h1, h2, h3, h4⟩ := hb.yes rfl
  refine ⟨?_, fun x hx => ?_, fun i x hx s hs hxs => ?_, h.least.step fun y hy hyo hr => ?_⟩
  · rw [List.nodup_append]
    exact ⟨h.nodup, by simp, fun x hx y hy => by rw [List.mem_singleton] at hy; rw [hy]; intro e; exact h2 (e ▸ hx)⟩
  · rw [List.mem_append, List.mem_singleton] at hx
    rcases hx with hx | rfl
    · exact h.sub x hx
    · exact h1
  · by_cases hi : i < out.length
    · rw [List.getElem?_append_left hi] at hx
      rw [List.take_append_of_le_length (Nat.le_of_lt hi)]
      exact h.rdy i x hx s hs hxs
    · rw [List.getElem?_append_right (by omega)] at hx
      have h5 := (List.getElem?_eq_some_iff.1 hx).1
      have h6 : i = out.length := by simp at h5; omega
      subst h6
      rw [Nat.sub_self] at hx
      obtain rfl : b = x := by simpa using hx
      rw [List.take_left]
      exact h3 s hs hxs
  · obtain ⟨j, hj⟩ := List.getElem?_of_mem hy
    exact h4 j y (List.getElem?_eq_some_iff.1 hj).1 hj hyo hr
set_option maxHeartbeats 1000000 in
theorem rahead_any (o : Option Addr) (T : List ByteArray) (c : Nat) (p : ByteArray) (w : World) (h : Ss w o T) (hG : GOK T) (hl : T.length ≤ 24) (hp : p ∈ T.map Sha.sha) :
    Calls Try.prog 22 #[.slice o T.length c, .string p] w fun e w' => ∃ (V out : List ByteArray) (oo : Option Addr) (co : Nat), e = .returned (.tuple #[.slice oo out.length co, .bool true]) ∧ Ss w' oo out ∧ V.Nodup ∧ (∀ q, q ∈ V ↔ Ahd (srcOf T) p q) ∧ Grd (srcOf T) V out ∧ (out.length = V.length ∨ ∀ y ∈ V, y ∉ out → ¬ Rdy (srcOf T) V out y) ∧ Below w.heap.size w w' := by
  obtain ⟨i0, hi0, hz0, hz1, hz2⟩ := info_parts (P := Try.prog) (e := 9) (z := .string ⟨#[]⟩) (size := 1) (bytes := 16) (by kernel_rfl)
  have hq := rall_any o T c p w h hG hl hp
  go_enter Try.func22, Try.ntmps22
  go_wp2_with (fail)
  go_at_call 21
  with_reducible refine hq.mono ?_
  rintro e w1 ⟨V, ov, cv, rfl, hsv, hvn, hva, hvl, hB1⟩
  have hs1 := h.below hB1
  have HV := Lib.hid (And.intro (And.intro hvn hva) (And.intro hG (And.intro hl hp)))
  clear hvn hva hG hl hp h hq
  go_wp2
  go_loopg [8] (V.length + 1) (fun g v wx => ∃ (out : List ByteArray) (oo : Option Addr) (co : Nat), v = .slice oo out.length co ∧ wx.ownsRow w1.heap.size 9 1 (.slice oo out.length co) out.length (out.map Value.string) ∧ Hid (Grd (srcOf T) V out ∧ g = V.length + 1 - out.length) ∧ Below w1.heap.size w1 wx)
  case atStart => exact ⟨[], none, 0, rfl, World.ownsRow_nil _ _ _ _, Lib.hid ⟨Grd.nil _ _, by simp⟩, Below.refl _ _⟩
  case round =>
    obtain ⟨out, oo, co, rfl, hown, HA, hB⟩ := hrel
    obtain ⟨hgd, hg⟩ := HA.out
    have hol : out.length ≤ V.length := len_sub out V hgd.nodup hgd.sub
    by_cases hlt : out.length < V.length
    · have f1 : (out.length : Int) < V.length := by omega
      have hsso : Ss wr oo out := by
        obtain ⟨o', c', e1, h, _⟩ := own_ss hown rfl
        injection e1 with e1
        rw [e1]
        exact h
      obtain ⟨wo, rfl⟩ : ∃ wo : World, wo = wr := ⟨_, rfl⟩
      have HG := Lib.hid (And.intro (And.intro hgd hg) hown)
      clear hgd hg hol hown
      go_wp2
      go_loopw [9, 10, 11] (fun vb vf vi wx => ∃ (b : ByteArray) (f : Bool) (i : Nat), vb = .string b ∧ vf = .bool f ∧ vi = .int .i64 i ∧ i ≤ V.length ∧ Hid (Bst (srcOf T) V out i f b) ∧ Below wo.heap.size wo wx) (fun _ _ vi _ => V.length - (intOf vi).toNat)
      case atStart => exact ⟨_, _, 0, rfl, rfl, by first | rfl | trivial, Nat.zero_le _, Lib.hid (Bst.start _ _ _ _), Below.refl _ _⟩
      case round =>
        obtain ⟨b, f, i, rfl, rfl, rfl, hi, HB, hBo⟩ := hrel
        obtain ⟨wm, rfl⟩ : ∃ wm : World, wm = wr := ⟨_, rfl⟩
        have hB1m : Below w1.heap.size w1 wm := hB.trans (hBo.mono hB.size)
        by_cases hiV : i < V.length
        · obtain ⟨av, rfl⟩ := ss_some hsv hiV
          obtain ⟨x, hx⟩ : ∃ x, V[i]? = some x := ⟨V[i], List.getElem?_eq_getElem hiV⟩
          have cx := (hsv.below hB1m).at hx
          have i16 : (i : Int) < V.length := by omega
          have hVl := hvl
          have i17 : IntKind.i64.wrap ((i : Int) + 1) = (i : Int) + 1 := wrap_fit _ (by omega) (by omega)
          have hh := has_any oo out co x wm (hsso.below hBo) (by omega)
          have HX := Lib.hid hx
          clear hx
          by_cases hxo : x ∈ out
          · rw [(inB_iff x out).2 hxo] at hh
            have HB2 := Lib.hid (HB.out.skip HX.out (.inl hxo))
            clear hxo
            go_wp2_with (go_at_call 40; with_reducible refine hh.mono ?_; rintro e w6 ⟨rfl, hb6⟩)
            have hB6 := hBo.trans (hb6.mono hBo.size)
            go_roundw
            case rel => exact ⟨b, f, i + 1, by first | rfl | trivial, by first | rfl | trivial, by go_num, hiV, HB2, hB6⟩
            case measure => simp [intOf]; omega
          · rw [show inB x out = false from Bool.eq_false_iff.2 (fun e => hxo ((inB_iff _ _).1 e))] at hh
            have HXO := Lib.hid hxo
            clear hxo
            go_wp2_with (go_at_call 40; with_reducible refine hh.mono ?_; rintro e w6 ⟨rfl, hb6⟩)
            have hB6 := hBo.trans (hb6.mono hBo.size)
            have hB16 := hB.trans (hB6.mono hB.size)
            go_loopw [12, 13] (fun vf vk wx => ∃ (fr : Bool) (k : Nat), vf = .bool fr ∧ vk = .int .i64 k ∧ k ≤ V.length ∧ Hid (fr = true ↔ ∀ (m : Nat) s, m < k → V[m]? = some s → x ∈ pls (srcOf T) s → s ∈ out) ∧ Below w6.heap.size w6 wx) (fun _ vk _ => V.length - (intOf vk).toNat)
            case atStart => exact ⟨true, 0, by first | rfl | trivial, by first | rfl | trivial, Nat.zero_le _, Lib.hid ⟨fun _ m s hm => absurd hm (Nat.not_lt_zero _), fun _ => rfl⟩, Below.refl _ _⟩
            case round =>
              obtain ⟨fr, k, rfl, rfl, hk, HF, hBk⟩ := hrel
              obtain ⟨wk, rfl⟩ : ∃ wk : World, wk = wr := ⟨_, rfl⟩
              have hB1k : Below w1.heap.size w1 wk := hB16.trans (hBk.mono hB16.size)
              have hBok : Below wo.heap.size wo wk := hB6.trans (hBk.mono hB6.size)
              by_cases hkV : k < V.length
              · obtain ⟨s, hs⟩ : ∃ s, V[k]? = some s := ⟨V[k], List.getElem?_eq_getElem hkV⟩
                have cs := (hsv.below hB1k).at hs
                have hsK := gok_ahd HV.out.2.1 HV.out.2.2.2 ((HV.out.1.2 s).1 (List.mem_of_getElem? hs))
                obtain ⟨cc, hcc⟩ : ∃ c, getC (srcOf T) s = some c := by
                  obtain ⟨l, h1, _⟩ := gok_par HV.out.2.1 hsK
                  unfold par at h1
                  cases hg : getC (srcOf T) s with
                  | none => rw [hg] at h1; cases h1
                  | some c => exact ⟨c, rfl⟩
                have hpls : pls (srcOf T) s = cc.par := by unfold pls par; rw [hcc]; rfl
                have hp2 : cc.par.length ≤ 2 := (par_two (S := srcOf T) (x := s) (by unfold par; rw [hcc]; rfl)).1
                have hq := rget_some o T c s cc wk (hs1.below hB1k) (by have := HV.out.2.2.1; omega) (fun t ht => by have := HV.out.2.1.size' ht; omega) hcc
                obtain ⟨rr, ll, mm⟩ := cc
                dsimp only at hq hpls hp2
                have k16 : (k : Int) < V.length := by omega
                have k17 : IntKind.i64.wrap ((k : Int) + 1) = (k : Int) + 1 := wrap_fit _ (by omega) (by omega)
                have HS := Lib.hid (And.intro hs hpls)
                clear hs hsK hcc hpls
                go_wp2_with (fail)
                go_at_call 19
                with_reducible refine hq.mono ?_
                rintro e w7 ⟨ol, cp, rfl, hs7, hfr7, hb7⟩
                have hbl := (Below.refl w7.heap.size w7).alloc (Nat.le_refl _) (.cells #[.string rr, .slice ol ll.length cp, .string mm] 24)
                have hblk := heap_alloc_new w7 (.cells #[.string rr, .slice ol ll.length cp, .string mm] 24)
                have hB18 := (hB1k.trans (hb7.mono hB1k.size)).trans (hbl.mono (hB1k.trans (hb7.mono hB1k.size)).size)
                have hBo8 := (hBok.trans (hb7.mono hBok.size)).trans (hbl.mono (hBok.trans (hb7.mono hBok.size)).size)
                have hB68 := (hBk.trans (hb7.mono hBk.size)).trans (hbl.mono (hBk.trans (hb7.mono hBk.size)).size)
                have hs8 := hs7.below hbl
                have hsz8 : (w7.alloc (.cells #[.string rr, .slice ol ll.length cp, .string mm] 24)).heap.size = w7.heap.size + 1 := by simp
                have t1 : (w7.alloc (.cells #[.string rr, .slice ol ll.length cp, .string mm] 24)).cell? ⟨w7.heap.size, 1, none⟩ = some (.slice ol ll.length cp) := by rw [Lib.cell_of_heap hblk]; rfl
                have t2 := (hsv.below hB18).at HX.out
                have t3 := (hsv.below hB18).at HS.out.1
                obtain ⟨w8, hw8⟩ : ∃ w8, w8 = w7.alloc (.cells #[.string rr, .slice ol ll.length cp, .string mm] 24) := ⟨_, rfl⟩
                have HW8 := Lib.hid hw8
                have FAR : ∀ w', Below w8.heap.size w8 w' → (w'.cell? ⟨w7.heap.size, 1, none⟩ = some (.slice ol ll.length cp) ∧ w'.cell? (av.add i) = some (.string x) ∧ w'.cell? (av.add k) = some (.string s)) ∧ Ss w' ol ll ∧ Ss w' oo out ∧ Below w6.heap.size w6 w' := fun w' h' => by
                  rw [hw8] at h'
                  have g1 := hB18.trans (h'.mono hB18.size)
                  have g2 := hBo8.trans (h'.mono hBo8.size)
                  exact ⟨⟨(h'.cell (p := ⟨w7.heap.size, 1, none⟩) (by rw [hsz8]; exact Nat.lt_succ_self _)).trans t1, (hsv.below g1).at HX.out, (hsv.below g1).at HS.out.1⟩, hs8.below h', hsso.below g2, hB68.trans (h'.mono hB68.size)⟩
                have HAS1 : ∀ n, Calls Try.prog 40 #[.slice ol ll.length cp, .string x] ((w7.alloc (.cells #[.string rr, .slice ol ll.length cp, .string mm] 24)).drewN n) fun e w'' => e = .returned (.bool (inB x ll)) ∧ (w7.alloc (.cells #[.string rr, .slice ol ll.length cp, .string mm] 24)).drewN n = w'' := fun n => has_still ol ll cp x _ (FAR _ (by rw [hw8]; exact below_drewN (Below.refl _ _) n)).2.1 (by omega)
                have HAS2 : ∀ n, Calls Try.prog 40 #[.slice oo out.length co, .string s] ((w7.alloc (.cells #[.string rr, .slice ol ll.length cp, .string mm] 24)).drewN n) fun e w'' => e = .returned (.bool (inB s out)) ∧ (w7.alloc (.cells #[.string rr, .slice ol ll.length cp, .string mm] 24)).drewN n = w'' := fun n => has_still oo out co s _ (FAR _ (by rw [hw8]; exact below_drewN (Below.refl _ _) n)).2.2.1 (by omega)
                have hstep : ∀ fr' : Bool, (fr' = true ↔ fr = true ∧ (x ∈ ll → s ∈ out)) → (fr' = true ↔ ∀ (m : Nat) s, m < k + 1 → V[m]? = some s → x ∈ pls (srcOf T) s → s ∈ out) := fun fr' h => by
                  rw [h, HF.out]
                  constructor
                  · rintro ⟨h1, h2⟩ m r hm hr hxr
                    by_cases hmk : m = k
                    · subst hmk
                      rw [HS.out.1] at hr
                      cases hr
                      rw [HS.out.2] at hxr
                      exact h2 hxr
                    · exact h1 m r (by omega) hr hxr
                  · intro h1
                    exact ⟨fun m r hm hr hxr => h1 m r (by omega) hr hxr, fun hxl => h1 k s (by omega) HS.out.1 (by rw [HS.out.2]; exact hxl)⟩
                have HST := Lib.hid hstep
                have HFAR := Lib.hid FAR
                clear hq hs7 hfr7 hbl hblk hstep FAR hB18 hBo8 hB68 hs8 hsz8 hB1k hBok hBk
                by_cases hxl : x ∈ ll
                · rw [(inB_iff x ll).2 hxl] at HAS1
                  by_cases hso : s ∈ out
                  · rw [(inB_iff s out).2 hso] at HAS2
                    have HFR := Lib.hid (HST.out fr ⟨fun h => ⟨h, fun _ => hso⟩, fun h => h.1⟩)
                    clear hxl hso HST HF hw8
                    go_wp2
                    go_quiet ((first | (go_at_call 40; with_reducible first | exact q_add_left (HAS1 _) | exact q_left (HAS1 _)) | (go_at_call 40; with_reducible first | exact q_add_left (HAS2 _) | exact q_left (HAS2 _))))
                    all_goals (
                      go_wp2
                      go_roundw
                      (case rel => exact ⟨fr, k + 1, by first | rfl | trivial, by go_num, hkV, HFR, (HFAR.out _ (by rw [HW8.out]; first | exact below_drewN (Below.refl _ _) _ | exact (Below.refl _ _).drew)).2.2.2⟩)
                      (case measure => simp [intOf]; omega))
                  · rw [show inB s out = false from Bool.eq_false_iff.2 (fun e => hso ((inB_iff _ _).1 e))] at HAS2
                    have HFR := Lib.hid (HST.out false ⟨(fun h => by cases h), fun h => absurd (h.2 hxl) hso⟩)
                    clear hxl hso HST HF hw8
                    go_wp2
                    go_quiet ((first | (go_at_call 40; with_reducible first | exact q_add_left (HAS1 _) | exact q_left (HAS1 _)) | (go_at_call 40; with_reducible first | exact q_add_left (HAS2 _) | exact q_left (HAS2 _))))
                    all_goals (
                      go_wp2
                      go_roundw
                      (case rel => exact ⟨false, k + 1, by first | rfl | trivial, by go_num, hkV, HFR, (HFAR.out _ (by rw [HW8.out]; first | exact below_drewN (Below.refl _ _) _ | exact (Below.refl _ _).drew)).2.2.2⟩)
                      (case measure => simp [intOf]; omega))
                · rw [show inB x ll = false from Bool.eq_false_iff.2 (fun e => hxl ((inB_iff _ _).1 e))] at HAS1
                  have HFR := Lib.hid (HST.out fr ⟨fun h => ⟨h, fun e => absurd e hxl⟩, fun h => h.1⟩)
                  clear hxl HST HF hw8
                  go_wp2
                  go_quiet ((first | (go_at_call 40; with_reducible first | exact q_add_left (HAS1 _) | exact q_left (HAS1 _)) | (go_at_call 40; with_reducible first | exact q_add_left (HAS2 _) | exact q_left (HAS2 _))))
                  all_goals (
                    go_wp2
                    go_roundw
                    (case rel => exact ⟨fr, k + 1, by first | rfl | trivial, by go_num, hkV, HFR, (HFAR.out _ (by rw [HW8.out]; first | exact below_drewN (Below.refl _ _) _ | exact (Below.refl _ _).drew)).2.2.2⟩)
                    (case measure => simp [intOf]; omega))
              · obtain rfl : k = V.length := by omega
                have cxk := (hsv.below hB1k).at HX.out
                have hrdy : fr = true ↔ Rdy (srcOf T) V out x := by
                  rw [HF.out]
                  constructor
                  · intro h1 s hs hxs
                    obtain ⟨m, hm⟩ := List.getElem?_of_mem hs
                    exact h1 m s (List.getElem?_eq_some_iff.1 hm).1 hm hxs
                  · exact fun h1 m s _ hm hxs => h1 s (List.mem_of_getElem? hm) hxs
                have HR := Lib.hid hrdy
                clear hrdy HF hB1k
                cases fr
                · have HBN := Lib.hid (HB.out.skip HX.out (.inr (fun e => by have := HR.out.2 e; cases this)))
                  go_wp2
                  try go_quiet (fail)
                  all_goals (
                    try go_wp2
                    go_roundw
                    (case rel => exact ⟨_, _, i + 1, by first | rfl | trivial, by first | rfl | trivial, by go_num, hiV, HBN, by first | exact hBok | exact hBok.drew | exact below_drewN hBok _⟩)
                    (case measure => simp [intOf]; omega))
                · have hr := HR.out.1 rfl
                  cases f
                  · have HBN := Lib.hid (HB.out.take HX.out HXO.out hr (fun e => by cases e))
                    clear hr
                    go_wp2
                    try go_quiet (fail)
                    all_goals (
                      try go_wp2
                      go_roundw
                      (case rel => exact ⟨_, _, i + 1, by first | rfl | trivial, by first | rfl | trivial, by go_num, hiV, HBN, by first | exact hBok | exact hBok.drew | exact below_drewN hBok _⟩)
                      (case measure => simp [intOf]; omega))
                  · obtain ⟨bo, hbo⟩ : ∃ bo, Op.bytesLess x.toList b.toList = bo := ⟨_, rfl⟩
                    have hiff : bo = true ↔ ltS x b := by
                      rw [← hbo, Go.Proofs.bytesLess_eq, ByteArray.toList_eq, ByteArray.toList_eq]
                      simp [ltS]
                    cases bo
                    · have HBN := Lib.hid (HB.out.pass HX.out (fun e => by have := hiff.2 e; cases this))
                      clear hr hiff
                      go_wp2
                      try go_quiet (fail)
                      all_goals (
                        try go_wp2
                        go_roundw
                        (case rel => exact ⟨_, _, i + 1, by first | rfl | trivial, by first | rfl | trivial, by go_num, hiV, HBN, by first | exact hBok | exact hBok.drew | exact below_drewN hBok _⟩)
                        (case measure => simp [intOf]; omega))
                    · have HBN := Lib.hid (HB.out.take HX.out HXO.out hr (fun _ => hiff.1 rfl))
                      clear hr hiff
                      go_wp2
                      try go_quiet (fail)
                      all_goals (
                        try go_wp2
                        go_roundw
                        (case rel => exact ⟨_, _, i + 1, by first | rfl | trivial, by first | rfl | trivial, by go_num, hiV, HBN, by first | exact hBok | exact hBok.drew | exact below_drewN hBok _⟩)
                        (case measure => simp [intOf]; omega))
        · obtain rfl : i = V.length := by omega
          have hVl := hvl
          cases f
          · have hfin : ∀ y ∈ V, y ∉ out → ¬ Rdy (srcOf T) V out y := fun y hy hyo => by
              obtain ⟨j, hj⟩ := List.getElem?_of_mem hy
              exact HB.out.no rfl j y (List.getElem?_eq_some_iff.1 hj).1 hj hyo
            have HF := Lib.hid (And.intro hfin (And.intro (hsso.below hBo) (hB1.trans (hB1m.mono hB1.size))))
            clear hfin
            go_wp2
            exact bodyPost_ret (v := .tuple #[.slice oo out.length co, .bool true]) (by simp [results, Try.results22, go_sem]) rfl ⟨V, out, oo, co, rfl, HF.out.2.1, HV.out.1.1, HV.out.1.2, HG.out.1.1, .inr HF.out.1, HF.out.2.2⟩
          · have hownm := HG.out.2.kept (gb_of_below hBo none) (Classical.em _)
            have hownb := hownm.kept (World.grownBy_alloc wm (.cells #[.string b] 9) none) (Classical.em _)
            have hm1 : out.length + 1 ≤ maxLen := by unfold maxLen; omega
            have hm2 : (out.length + 1) * 16 ≤ 140737488355328 := by omega
            have hm3 : w1.heap.size ≤ (wm.alloc (.cells #[.string b] 9)).heap.size := by have := hB1m.size; simp; omega
            have hgm := HG.out.1.1.more HB.out
            have HGM := Lib.hid (And.intro hgm hownm)
            clear hgm hownm
            go_wp2_with (at_builtin; go_loud (refine wpList_appAt rfl (.tmp 92) (.tmp 94) 22 rfl w1.heap.size 9 i0 (.string ⟨#[]⟩) 16 Try.underlying22 hi0 hz0 hz1 hz2 rfl (.slice oo out.length co) out.length _ rfl hownb (some ⟨wm.heap.size, 0, none⟩) [b] 1 rfl 1 rfl (fun e => by cases e) (ss_new wm b _) hm1 hm2 hm3 ?_))
            intro v8 w8 hown8 hg8 hloc8
            replace hown8 : w8.ownsRow w1.heap.size 9 1 v8 (out.length + 1) ((out ++ [b]).map Value.string) := by rw [List.map_append]; exact hown8
            have hlen : (out ++ [b]).length = out.length + 1 := by simp
            obtain ⟨o8, c8, hv8, _⟩ := own_ss hown8 hlen.symm
            rw [hlen] at hv8
            subst hv8
            have hga : wm.grownBy (wm.alloc (.cells #[.string b] 9)) none := World.grownBy_alloc _ _ none
            have b7 := hB1m.trans (below_of_grown hga (fun k hk => by cases hk) hB1m.size)
            have b8 := b7.trans (below_of_grown hg8 (fun k hk => (own_lt' HGM.out.2 k hk).1) b7.size)
            have HF := Lib.hid (And.intro hown8 (And.intro b8 hlen))
            clear hown8 hg8 hloc8 hga b7 b8 hlen hownb hm3
            go_wp2
            obtain ⟨hown8, b8, hlen⟩ := HF.out
            have hgk := HG.out.1.2
            go_roundg (V.length + 1 - (out.length + 1))
            case measure => omega
            case rel => exact ⟨out ++ [b], o8, c8, by rw [hlen], by rw [hlen]; exact hown8, Lib.hid ⟨HGM.out.1, by rw [hlen]⟩, b8⟩
    · have f1 : ¬ ((out.length : Int) < V.length) := by omega
      have heq : out.length = V.length := by omega
      have hss : Ss wr oo out := by
        obtain ⟨o', c', e1, h, _⟩ := own_ss hown rfl
        injection e1 with e1
        rw [e1]
        exact h
      have HF := Lib.hid (And.intro (And.intro heq hss) (And.intro hgd (hB1.trans (hB.mono hB1.size))))
      clear heq hss hgd hown hg hol
      go_wp2
      exact bodyPost_ret (v := .tuple #[.slice oo out.length co, .bool true]) (by simp [results, Try.results22, go_sem]) rfl ⟨V, out, oo, ⟨co, rfl⟩, HF.out.1.2, HV.out.1.1, HV.out.1.2, HF.out.2.1, .inl HF.out.1.1, HF.out.2.2⟩
end Go.Proofs.Ytkjgbldooflodaa
namespace Go.Proofs.Ytkjgbldooflodaa
open Go.RowKit Cm Mp
set_option maxRecDepth 100000
set_option linter.unusedVariables false
set_option linter.unusedSimpArgs false
/-- None of the others is ahead of... : p is ahead of none of the others. -/
def Lastp (S : ByteArray → Option ByteArray) (B : List ByteArray) (p : ByteArray) : Prop := ∀ k ∈ B, k ≠ p → ¬ Ahd S k p
/-- The best one of the first i. -/
structure Bsr (S : ByteArray → Option ByteArray) (B : List ByteArray) (i : Nat) (found : Bool) (best : ByteArray) : Prop where
  yes : found = true → best ∈ B ∧ Lastp S B best ∧ ∀ (j : Nat) y, j < i → B[j]? = some y → Lastp S B y → ¬ ltS y best
  no : found = false → best = ⟨#[]⟩ ∧ ∀ (j : Nat) y, j < i → B[j]? = some y → ¬ Lastp S B y
theorem Bsr.start (S : ByteArray → Option ByteArray) (B : List ByteArray) : Bsr S B 0 false ⟨#[]⟩ := ⟨(fun h => by cases h), fun _ => ⟨rfl, fun j y hj => absurd hj (Nat.not_lt_zero _)⟩⟩
theorem Bsr.skip {S : ByteArray → Option ByteArray} {B : List ByteArray} {i : Nat} {f : Bool} {b x : ByteArray} (h : Bsr S B i f b) (hx : B[i]? = some x) (hn : ¬ Lastp S B x) : Bsr S B (i + 1) f b := by
  refine ⟨fun hf => ?_, fun hf => ⟨(h.no hf).1, fun j y hj hy hr => ?_⟩⟩
  · obtain ⟨h1, h3, h4⟩ := h.yes hf
    refine ⟨h1, h3, fun j y hj hy hr => ?_⟩
    by_cases hji : j = i
    · subst hji; rw [hx] at hy; cases hy; exact absurd hr hn
    · exact h4 j y (by omega) hy hr
  · by_cases hji : j = i
    · subst hji; rw [hx] at hy; cases hy; exact hn hr
    · exact (h.no hf).2 j y (by omega) hy hr
theorem Bsr.pass {S : ByteArray → Option ByteArray} {B : List ByteArray} {i : Nat} {b x : ByteArray} (h : Bsr S B i true b) (hx : B[i]? = some x) (hl : ¬ ltS x b) : Bsr S B (i + 1) true b := by
  obtain ⟨h1, h3, h4⟩ := h.yes rfl
  refine ⟨fun _ => ⟨h1, h3, fun j y hj hy hr => ?_⟩, fun hf => by cases hf⟩
  by_cases hji : j = i
  · subst hji; rw [hx] at hy; cases hy; exact hl
  · exact h4 j y (by omega) hy hr
theorem Bsr.take {S : ByteArray → Option ByteArray} {B : List ByteArray} {i : Nat} {f : Bool} {b x : ByteArray} (h : Bsr S B i f b) (hx : B[i]? = some x) (hr : Lastp S B x) (hl : f = true → ltS x b) : Bsr S B (i + 1) true x := by
  refine ⟨fun _ => ⟨List.mem_of_getElem? hx, hr, fun j y hj hy hyr => ?_⟩, fun hf => by cases hf⟩
  by_cases hji : j = i
  · subst hji; rw [hx] at hy; cases hy; exact irrS _
  · cases f with
    | true => exact fun hlt => (h.yes rfl).2.2 j y (by omega) hy hyr (List.lt_trans hlt (hl rfl))
    | false => exact absurd hyr ((h.no rfl).2 j y (by omega) hy)
set_option maxHeartbeats 1000000 in
theorem rbase_any (o : Option Addr) (T : List ByteArray) (c : Nat) (p q : ByteArray) (w : World) (h : Ss w o T) (hG : GOK T) (hl : T.length ≤ 24) (hp : p ∈ T.map Sha.sha) (hqm : q ∈ T.map Sha.sha) :
    Calls Try.prog 27 #[.slice o T.length c, .string p, .string q] w fun e w' => ∃ (B : List ByteArray) (f : Bool) (b : ByteArray), e = .returned (.tuple #[.string b, .bool f, .bool true]) ∧ B.Nodup ∧ (∀ x, x ∈ B ↔ Ahd (srcOf T) p x ∧ Ahd (srcOf T) q x) ∧ Bsr (srcOf T) B B.length f b ∧ Below w.heap.size w w' := by
  obtain ⟨i0, hi0, hz0, hz1, hz2⟩ := info_parts (P := Try.prog) (e := 9) (z := .string ⟨#[]⟩) (size := 1) (bytes := 16) (by kernel_rfl)
  have hq1 := rall_any o T c p w h hG hl hp
  go_enter Try.func27, Try.ntmps27
  go_wp2_with (fail)
  go_at_call 21
  with_reducible refine hq1.mono ?_
  rintro e w1 ⟨X, ox, cx, rfl, hsx, hxn, hxa, hxl, hB1⟩
  have hq2 := rall_any o T c q w1 (h.below hB1) hG hl hqm
  have HX := Lib.hid (And.intro hxn (And.intro hxa hxl))
  clear hxn hxa hxl hq1
  go_wp2_with (fail)
  go_at_call 21
  with_reducible refine hq2.mono ?_
  rintro e w2 ⟨Y, oy, cy, rfl, hsy, hyn, hya, hyl, hB2⟩
  have hsx2 := hsx.below hB2
  have hT2 := (h.below hB1).below hB2
  have HY := Lib.hid (And.intro (And.intro hyn hya) (And.intro hyl (And.intro hG (And.intro hl (And.intro hp hqm)))))
  clear hyn hya hyl hq2 hG hl hp hqm hsx h
  go_wp2
  go_loopw [13, 14] (fun v vi wx => ∃ (Bt : List ByteArray) (o2 : Option Addr) (c2 i : Nat), v = .slice o2 Bt.length c2 ∧ vi = .int .i64 i ∧ i ≤ X.length ∧ wx.ownsRow w2.heap.size 9 1 (.slice o2 Bt.length c2) Bt.length (Bt.map Value.string) ∧ Hid (Bt = (X.take i).filter fun x => inB x Y) ∧ Below w2.heap.size w2 wx) (fun _ vi _ => X.length - (intOf vi).toNat)
  case atStart => exact ⟨[], none, 0, 0, rfl, by first | rfl | trivial, Nat.zero_le _, World.ownsRow_nil _ _ _ _, Lib.hid (by simp), Below.refl _ _⟩
  case round =>
    obtain ⟨Bt, o3, c3, i, rfl, rfl, hi, hown, HB, hB⟩ := hrel
    obtain ⟨wm, rfl⟩ : ∃ wm : World, wm = wr := ⟨_, rfl⟩
    by_cases hiX : i < X.length
    · obtain ⟨ax, rfl⟩ := ss_some hsx2 hiX
      obtain ⟨x, hx⟩ : ∃ x, X[i]? = some x := ⟨X[i], List.getElem?_eq_getElem hiX⟩
      have cx0 := (hsx2.below hB).at hx
      have hXl := HX.out.2.2
      have i16 : (i : Int) < X.length := by omega
      have i17 : IntKind.i64.wrap ((i : Int) + 1) = (i : Int) + 1 := wrap_fit _ (by omega) (by omega)
      have hh := has_still oy Y cy x wm (hsy.below hB) (by have := HY.out.2.1; omega)
      have htk : X.take (i + 1) = X.take i ++ [x] := by rw [List.take_add_one, hx]; rfl
      have HTK := Lib.hid htk
      have hbl : Bt.length ≤ 24 := by
        have h1 := List.length_filter_le (fun x => inB x Y) (X.take i)
        rw [← HB.out, List.length_take] at h1
        omega
      clear hx htk hXl
      cases hxy : inB x Y
      · rw [hxy] at hh
        have HB2 := Lib.hid (show Bt = (X.take (i + 1)).filter fun x => inB x Y by rw [HTK.out, List.filter_append, ← HB.out]; simp [hxy])
        clear hxy
        go_wp2_with (go_at_call 40; with_reducible refine hh.mono ?_; rintro e w6 ⟨rfl, rfl⟩)
        go_roundw
        case rel => exact ⟨Bt, o3, c3, i + 1, by first | rfl | trivial, by go_num, hiX, hown, HB2, hB⟩
        case measure => simp [intOf]; omega
      · rw [hxy] at hh
        have HB2 := Lib.hid (show Bt ++ [x] = (X.take (i + 1)).filter fun x => inB x Y by rw [HTK.out, List.filter_append, ← HB.out]; simp [hxy])
        have hownb := hown.kept (World.grownBy_alloc wm (.cells #[.string x] 9) none) (Classical.em _)
        have hm1 : Bt.length + 1 ≤ maxLen := by unfold maxLen; omega
        have hm2 : (Bt.length + 1) * 16 ≤ 140737488355328 := by omega
        have hm3 : w2.heap.size ≤ (wm.alloc (.cells #[.string x] 9)).heap.size := by have := hB.size; simp; omega
        have HO := Lib.hid (And.intro hown hB)
        clear hxy hown
        go_wp2_with (first | (go_at_call 40; with_reducible refine hh.mono ?_; rintro e w6 ⟨rfl, rfl⟩) | (at_builtin; go_loud (refine wpList_appAt rfl (.tmp 52) (.tmp 57) 22 rfl w2.heap.size 9 i0 (.string ⟨#[]⟩) 16 Try.underlying22 hi0 hz0 hz1 hz2 rfl (.slice o3 Bt.length c3) Bt.length _ rfl hownb (some ⟨wm.heap.size, 0, none⟩) [x] 1 rfl 1 rfl (fun e => by cases e) (ss_new wm x _) hm1 hm2 hm3 ?_)))
        intro v8 w8 hown8 hg8 hloc8
        replace hown8 : w8.ownsRow w2.heap.size 9 1 v8 (Bt.length + 1) ((Bt ++ [x]).map Value.string) := by rw [List.map_append]; exact hown8
        have hlen : (Bt ++ [x]).length = Bt.length + 1 := by simp
        obtain ⟨o8, c8, hv8, _⟩ := own_ss hown8 hlen.symm
        rw [hlen] at hv8
        subst hv8
        have hga : wm.grownBy (wm.alloc (.cells #[.string x] 9)) none := World.grownBy_alloc _ _ none
        have b7 := hB.trans (below_of_grown hga (fun k hk => by cases hk) hB.size)
        have b8 := b7.trans (below_of_grown hg8 (fun k hk => (own_lt' HO.out.1 k hk).1) b7.size)
        have HF := Lib.hid (And.intro hown8 (And.intro b8 hlen))
        clear hown8 hg8 hloc8 hga b7 b8 hlen hownb hm3
        go_wp2
        obtain ⟨hown8, b8, hlen⟩ := HF.out
        go_roundw
        case rel => exact ⟨Bt ++ [x], o8, c8, i + 1, by rw [hlen], by go_num, hiX, by rw [hlen]; exact hown8, HB2, b8⟩
        case measure => simp [intOf]; omega
    · obtain rfl : i = X.length := by omega
      have hmem : ∀ x, x ∈ Bt ↔ Ahd (srcOf T) p x ∧ Ahd (srcOf T) q x := fun x => by
        rw [HB.out, List.take_length, List.mem_filter, HX.out.2.1, inB_iff, HY.out.1.2]
      have hnd : Bt.Nodup := by rw [HB.out, List.take_length]; exact HX.out.1.filter _
      have hbl : Bt.length ≤ 24 := by
        have h1 := List.length_filter_le (fun x => inB x Y) (X.take X.length)
        have := HX.out.2.2
        rw [← HB.out, List.length_take] at h1
        omega
      have hsb : Ss wm o3 Bt := by
        obtain ⟨o', c', e1, h, _⟩ := own_ss hown rfl
        injection e1 with e1
        rw [e1]
        exact h
      have HM := Lib.hid (And.intro hmem hnd)
      clear hmem hnd hown
      go_wp2
      go_loopw [15, 16, 17] (fun vb vf vi wx => ∃ (b : ByteArray) (f : Bool) (i : Nat), vb = .string b ∧ vf = .bool f ∧ vi = .int .i64 i ∧ i ≤ Bt.length ∧ Hid (Bsr (srcOf T) Bt i f b) ∧ Below wm.heap.size wm wx) (fun _ _ vi _ => Bt.length - (intOf vi).toNat)
      case atStart => exact ⟨_, _, 0, rfl, rfl, by first | rfl | trivial, Nat.zero_le _, Lib.hid (Bsr.start _ _), Below.refl _ _⟩
      case round =>
        obtain ⟨b, f, i, rfl, rfl, rfl, hi, HR, hBo⟩ := hrel
        obtain ⟨wo, rfl⟩ : ∃ wo : World, wo = wr := ⟨_, rfl⟩
        by_cases hiB : i < Bt.length
        · obtain ⟨ab, rfl⟩ := ss_some hsb hiB
          obtain ⟨x, hx⟩ : ∃ x, Bt[i]? = some x := ⟨Bt[i], List.getElem?_eq_getElem hiB⟩
          have cx0 := (hsb.below hBo).at hx
          have i16 : (i : Int) < Bt.length := by omega
          have i17 : IntKind.i64.wrap ((i : Int) + 1) = (i : Int) + 1 := wrap_fit _ (by omega) (by omega)
          have HXx := Lib.hid hx
          clear hx
          go_wp2
          go_loopw [18, 19] (fun vl vk wx => ∃ (la : Bool) (k : Nat), vl = .bool la ∧ vk = .int .i64 k ∧ k ≤ Bt.length ∧ Hid (la = true ↔ ∀ (m : Nat) s, m < k → Bt[m]? = some s → m ≠ i → ¬ Ahd (srcOf T) s x) ∧ Below wm.heap.size wm wx) (fun _ vk _ => Bt.length - (intOf vk).toNat)
          case atStart => exact ⟨true, 0, by first | rfl | trivial, by first | rfl | trivial, Nat.zero_le _, Lib.hid ⟨fun _ m s hm => absurd hm (Nat.not_lt_zero _), fun _ => rfl⟩, hBo⟩
          case round =>
            obtain ⟨la, k, rfl, rfl, hk, HL, hBk⟩ := hrel
            obtain ⟨wk, rfl⟩ : ∃ wk : World, wk = wr := ⟨_, rfl⟩
            by_cases hkB : k < Bt.length
            · have k16 : (k : Int) < Bt.length := by omega
              have k17 : IntKind.i64.wrap ((k : Int) + 1) = (k : Int) + 1 := wrap_fit _ (by omega) (by omega)
              by_cases hki : k = i
              · have e1 : ((k : Int) == i) = true := beq_iff_eq.2 (by omega)
                have HL2 := Lib.hid (show la = true ↔ ∀ (m : Nat) s, m < k + 1 → Bt[m]? = some s → m ≠ i → ¬ Ahd (srcOf T) s x from by
                  rw [HL.out]
                  exact ⟨fun h m s hm hs hmi => h m s (by omega) hs hmi, fun h m s hm hs hmi => h m s (by omega) hs hmi⟩)
                clear hki
                go_wp2
                go_roundw
                case rel => exact ⟨la, k + 1, by first | rfl | trivial, by go_num, hkB, HL2, hBk⟩
                case measure => simp [intOf]; omega
              · have e1 : ((k : Int) == i) = false := beq_eq_false_iff_ne.2 (by omega)
                obtain ⟨s, hs⟩ : ∃ s, Bt[k]? = some s := ⟨Bt[k], List.getElem?_eq_getElem hkB⟩
                have cs := (hsb.below hBk).at hs
                have hsK := gok_ahd HY.out.2.2.1 HY.out.2.2.2.2.1 ((HM.out.1 s).1 (List.mem_of_getElem? hs)).1
                have hq3 := rall_any o T c s wk ((hT2.below hB).below hBk) HY.out.2.2.1 HY.out.2.2.2.1 hsK
                have hstep : ∀ la' : Bool, (la' = true ↔ la = true ∧ ¬ Ahd (srcOf T) s x) → (la' = true ↔ ∀ (m : Nat) r, m < k + 1 → Bt[m]? = some r → m ≠ i → ¬ Ahd (srcOf T) r x) := fun la' h => by
                  rw [h, HL.out]
                  constructor
                  · rintro ⟨h1, h2⟩ m r hm hr hmi
                    by_cases hmk : m = k
                    · subst hmk; rw [hs] at hr; cases hr; exact h2
                    · exact h1 m r (by omega) hr hmi
                  · intro h1
                    exact ⟨fun m r hm hr hmi => h1 m r (by omega) hr hmi, h1 k s (by omega) hs hki⟩
                have HST := Lib.hid hstep
                clear hstep hs hsK hki HL
                go_wp2_with (fail)
                go_at_call 21
                with_reducible refine hq3.mono ?_
                rintro e w7 ⟨U, ou, cu, rfl, hsu, hun, hua, hul, hb7⟩
                have hBk7 := hBk.trans (hb7.mono hBk.size)
                have cx7 := (hsb.below hBk7).at HXx.out
                have hh := has_still ou U cu x w7 hsu (by omega)
                have HU := Lib.hid hua
                clear hua hun hq3
                cases hxu : inB x U
                · rw [hxu] at hh
                  have HL2 := Lib.hid (HST.out la ⟨fun h => ⟨h, fun e => by have := (inB_iff x U).2 ((HU.out x).2 e); rw [hxu] at this; cases this⟩, fun h => h.1⟩)
                  clear hxu
                  go_wp2_with (go_at_call 40; with_reducible refine hh.mono ?_; rintro e w8 ⟨rfl, rfl⟩)
                  go_roundw
                  case rel => exact ⟨la, k + 1, by first | rfl | trivial, by go_num, hkB, HL2, hBk7⟩
                  case measure => simp [intOf]; omega
                · rw [hxu] at hh
                  have HL2 := Lib.hid (HST.out false ⟨(fun h => by cases h), fun h => absurd ((HU.out x).1 ((inB_iff x U).1 hxu)) h.2⟩)
                  clear hxu
                  go_wp2_with (go_at_call 40; with_reducible refine hh.mono ?_; rintro e w8 ⟨rfl, rfl⟩)
                  go_roundw
                  case rel => exact ⟨false, k + 1, by first | rfl | trivial, by go_num, hkB, HL2, hBk7⟩
                  case measure => simp [intOf]; omega
            · obtain rfl : k = Bt.length := by omega
              have cxk := (hsb.below hBk).at HXx.out
              have hlast : la = true ↔ Lastp (srcOf T) Bt x := by
                rw [HL.out]
                constructor
                · intro h1 s hs hsx
                  obtain ⟨m, hm⟩ := List.getElem?_of_mem hs
                  refine h1 m s (List.getElem?_eq_some_iff.1 hm).1 hm (fun e => ?_)
                  subst e
                  rw [HXx.out] at hm
                  cases hm
                  exact hsx rfl
                · intro h1 m s _ hm hmi
                  refine h1 s (List.mem_of_getElem? hm) (fun e => ?_)
                  subst e
                  obtain ⟨h2, h3⟩ := List.getElem?_eq_some_iff.1 hm
                  obtain ⟨h4, h5⟩ := List.getElem?_eq_some_iff.1 HXx.out
                  exact hmi ((List.getElem_inj HM.out.2).1 (h3.trans h5.symm))
              have HLS := Lib.hid hlast
              clear hlast HL
              cases la
              · have HBN := Lib.hid (HR.out.skip HXx.out (fun e => by have := HLS.out.2 e; cases this))
                go_wp2
                try go_quiet (fail)
                all_goals (
                  try go_wp2
                  go_roundw
                  (case rel => exact ⟨_, _, i + 1, by first | rfl | trivial, by first | rfl | trivial, by go_num, hiB, HBN, by first | exact hBk | exact hBk.drew | exact below_drewN hBk _⟩)
                  (case measure => simp [intOf]; omega))
              · have hr := HLS.out.1 rfl
                cases f
                · have HBN := Lib.hid (HR.out.take HXx.out hr (fun e => by cases e))
                  clear hr
                  go_wp2
                  try go_quiet (fail)
                  all_goals (
                    try go_wp2
                    go_roundw
                    (case rel => exact ⟨_, _, i + 1, by first | rfl | trivial, by first | rfl | trivial, by go_num, hiB, HBN, by first | exact hBk | exact hBk.drew | exact below_drewN hBk _⟩)
                    (case measure => simp [intOf]; omega))
                · obtain ⟨bo, hbo⟩ : ∃ bo, Op.bytesLess x.toList b.toList = bo := ⟨_, rfl⟩
                  have hiff : bo = true ↔ ltS x b := by
                    rw [← hbo, Go.Proofs.bytesLess_eq, ByteArray.toList_eq, ByteArray.toList_eq]
                    simp [ltS]
                  cases bo
                  · have HBN := Lib.hid (HR.out.pass HXx.out (fun e => by have := hiff.2 e; cases this))
                    clear hr hiff
                    go_wp2
                    try go_quiet (fail)
                    all_goals (
                      try go_wp2
                      go_roundw
                      (case rel => exact ⟨_, _, i + 1, by first | rfl | trivial, by first | rfl | trivial, by go_num, hiB, HBN, by first | exact hBk | exact hBk.drew | exact below_drewN hBk _⟩)
                      (case measure => simp [intOf]; omega))
                  · have HBN := Lib.hid (HR.out.take HXx.out hr (fun _ => hiff.1 rfl))
                    clear hr hiff
                    go_wp2
                    try go_quiet (fail)
                    all_goals (
                      try go_wp2
                      go_roundw
                      (case rel => exact ⟨_, _, i + 1, by first | rfl | trivial, by first | rfl | trivial, by go_num, hiB, HBN, by first | exact hBk | exact hBk.drew | exact below_drewN hBk _⟩)
                      (case measure => simp [intOf]; omega))
        · obtain rfl : i = Bt.length := by omega
          have hB8 := hB1.trans (hB2.mono hB1.size)
          have hB9 := hB8.trans (hB.mono hB8.size)
          have hB10 := hB9.trans (hBo.mono hB9.size)
          go_wp2
          exact bodyPost_ret (v := .tuple #[.string b, .bool f, .bool true]) (by simp [results, Try.results27, go_sem]) rfl ⟨Bt, f, b, rfl, HM.out.2, HM.out.1, HR.out, hB10⟩
end Go.Proofs.Ytkjgbldooflodaa
namespace Go.Proofs.Ytkjgbldooflodaa
open Go.RowKit Cm Mp
set_option maxRecDepth 100000
set_option linter.unusedVariables false
set_option linter.unusedSimpArgs false
theorem not_take {l : List ByteArray} (hn : l.Nodup) {n : Nat} {x : ByteArray} (hx : l[n]? = some x) : x ∉ l.take n := fun h => by
  obtain ⟨j, hj⟩ := List.getElem?_of_mem h
  rw [List.getElem?_take] at hj
  by_cases hjn : j < n
  · rw [if_pos hjn] at hj
    obtain ⟨h1, h2⟩ := List.getElem?_eq_some_iff.1 hj
    obtain ⟨h3, h4⟩ := List.getElem?_eq_some_iff.1 hx
    have := (List.getElem_inj hn).1 (h2.trans h4.symm)
    omega
  · rw [if_neg hjn] at hj; cases hj
theorem told_grd {S : ByteArray → Option ByteArray} {p : ByteArray} {V out1 out2 : List ByteArray} (hA : Acy S p) (hVn : V.Nodup) (hV : ∀ q, q ∈ V ↔ Ahd S p q) (h1 : Told S p out1) (h1s : ∀ x ∈ out1, Ahd S p x) (h2 : Grd S V out2)
    (h3 : out2.length = V.length ∨ ∀ y ∈ V, y ∉ out2 → ¬ Rdy S V out2 y) : out1 = out2 := by
  have hl1 : out1.length = V.length := by
    have e1 := len_sub out1 V h1.nodup (fun s hs => (hV s).2 (h1s s hs))
    have e2 := len_sub V out1 hVn (fun s hs => h1.all s ((hV s).1 hs))
    omega
  have hl2 : out2.length = V.length := by
    rcases h3 with h3 | h3
    · exact h3
    · obtain ⟨rk, M, m1, m2⟩ := hA
      have key : ∀ n, ∀ y ∈ V, M - rk y ≤ n → y ∈ out2 := by
        intro n
        induction n with
        | zero =>
          intro y hy hn
          refine Classical.byContradiction fun hyo => h3 y hy hyo fun s hs hys => ?_
          unfold pls at hys
          cases hl : par S s with
          | none => rw [hl] at hys; cases hys
          | some l =>
            rw [hl] at hys
            have e1 := m2 s ((hV s).1 hs) l hl y hys
            have e2 := m1 s ((hV s).1 hs)
            omega
        | succ n ih =>
          intro y hy hn
          refine Classical.byContradiction fun hyo => h3 y hy hyo fun s hs hys => ih s hs ?_
          unfold pls at hys
          cases hl : par S s with
          | none => rw [hl] at hys; cases hys
          | some l =>
            rw [hl] at hys
            have e1 := m2 s ((hV s).1 hs) l hl y hys
            have e2 := m1 s ((hV s).1 hs)
            omega
      have e1 := len_sub out2 V h2.nodup h2.sub
      have e2 := len_sub V out2 hVn (fun s hs => key _ s hs (Nat.le_refl _))
      omega
  have hpre : ∀ n, out1.take n = out2.take n := by
    intro n
    induction n with
    | zero => rfl
    | succ n ih =>
      by_cases hn : n < V.length
      · obtain ⟨x, hx⟩ : ∃ x, out1[n]? = some x := ⟨out1[n]'(by omega), List.getElem?_eq_getElem (by omega)⟩
        obtain ⟨y, hy⟩ : ∃ y, out2[n]? = some y := ⟨out2[n]'(by omega), List.getElem?_eq_getElem (by omega)⟩
        have hxA := h1s x (List.mem_of_getElem? hx)
        have hyV := h2.sub y (List.mem_of_getElem? hy)
        have e1 : ¬ ltS y x := h1.least n x hx y ((hV y).1 hyV) (by rw [ih]; exact not_take h2.nodup hy) (fun s hs hys => by rw [ih]; exact h2.rdy n y hy s ((hV s).2 hs) hys)
        have e2 : ¬ ltS x y := h2.least n y hy x ((hV x).2 hxA) (by rw [← ih]; exact not_take h1.nodup hx) (fun s hs hxs => by rw [← ih]; exact h1.rdy n x hx s ((hV s).1 hs) hxs)
        have e3 := ltS_total e1 e2
        rw [List.take_add_one, List.take_add_one, ih, hx, hy, e3]
      · rw [List.take_of_length_le (by omega), List.take_of_length_le (by omega)]
        rw [List.take_of_length_le (by omega), List.take_of_length_le (by omega)] at ih
        exact ih
  have := hpre V.length
  rw [List.take_of_length_le (by omega), List.take_of_length_le (by omega)] at this
  exact this
theorem up_from {S : ByteArray → Option ByteArray} {R : ByteArray → Prop} {x : ByteArray} (h : Up S R x) : ∃ k, R k ∧ Up S (fun s => s = k) x := by
  induction h with
  | one hk hl hq => exact ⟨_, hk, .one rfl hl hq⟩
  | step _ hl hq ih =>
    obtain ⟨k, h1, h2⟩ := ih
    exact ⟨k, h1, .step h2 hl hq⟩
theorem up_ahd {S : ByteArray → Option ByteArray} {k x : ByteArray} (h : Up S (fun s => s = k) x) : Ahd S k x := by
  induction h with
  | one hk hl hq => subst hk; exact .step .refl hl hq
  | step _ hl hq ih => exact .step ih hl hq
theorem last_iff {T : List ByteArray} (hG : GOK T) (hn : NoClash T) {a b x : ByteArray} {B : List ByteArray} (ha : a ∈ T.map Sha.sha) (hB : ∀ x, x ∈ B ↔ Ahd (srcOf T) a x ∧ Ahd (srcOf T) b x) : (x ∈ B ∧ Lastp (srcOf T) B x) ↔ Bs (srcOf T) a b x := by
  constructor
  · rintro ⟨h1, h2⟩
    refine ⟨(hB x).1 h1, fun hu => ?_⟩
    obtain ⟨k, hk, hux⟩ := up_from hu
    have hkx := up_ahd hux
    by_cases hkk : k = x
    · subst hkk
      exact no_round hG hn (gok_ahd hG ha hk.1) (up_mono (fun s hs => by subst hs; exact .refl) hux)
    · exact h2 k ((hB k).2 hk) hkk hkx
  · rintro ⟨h1, h2⟩
    refine ⟨(hB x).2 h1, fun k hk hkx hka => ?_⟩
    rcases ahd_up (R := fun s => Ahd (srcOf T) a s ∧ Ahd (srcOf T) b s) ((hB k).1 hk) hka with e | e
    · exact hkx e.symm
    · exact h2 e
theorem base_one {T : List ByteArray} (hG : GOK T) (hn : NoClash T) {a b c d : ByteArray} {B : List ByteArray} {ok f : Bool} (ha : a ∈ T.map Sha.sha) (hB : ∀ x, x ∈ B ↔ Ahd (srcOf T) a x ∧ Ahd (srcOf T) b x) (ho : BaseOut (srcOf T) a b c ok) (hr : Bsr (srcOf T) B B.length f d) : c = d ∧ ok = f := by
  have hi := fun x => last_iff hG hn (x := x) ha hB
  rcases ho with ⟨rfl, h1, h2⟩ | ⟨rfl, rfl, h1⟩
  · cases f with
    | true =>
      obtain ⟨r1, r2, r3⟩ := hr.yes rfl
      have hcB := (hi c).2 h1
      obtain ⟨j, hj⟩ := List.getElem?_of_mem hcB.1
      exact ⟨ltS_total (r3 j c (List.getElem?_eq_some_iff.1 hj).1 hj hcB.2) (h2 d ((hi d).1 ⟨r1, r2⟩)), rfl⟩
    | false =>
      have hcB := (hi c).2 h1
      obtain ⟨j, hj⟩ := List.getElem?_of_mem hcB.1
      exact absurd hcB.2 ((hr.no rfl).2 j c (List.getElem?_eq_some_iff.1 hj).1 hj)
  · cases f with
    | true =>
      obtain ⟨r1, r2, r3⟩ := hr.yes rfl
      exact absurd ((hi d).1 ⟨r1, r2⟩) (h1 d)
    | false => exact ⟨(hr.no rfl).1.symm, rfl⟩
end Go.Proofs.Ytkjgbldooflodaa
namespace Go.Proofs.Ytkjgbldooflodaa
open Go.RowKit Cm Mp
set_option maxRecDepth 100000
set_option linter.unusedVariables false
set_option linter.unusedSimpArgs false
theorem same_any (o1 o2 : Option Addr) (l m : List ByteArray) (c1 c2 : Nat) (w : World) (h1 : Ss w o1 l) (h2 : Ss w o2 m) (hl : l.length ≤ 1000000) :
    Calls Try.prog 24 #[.slice o1 l.length c1, .slice o2 m.length c2] w fun e w' => ∃ bo, e = .returned (.bool bo) ∧ (l = m → bo = true) ∧ Below w.heap.size w w' := by
  by_cases hlm : l.length = m.length
  · have f1 : ((l.length : Int) != m.length) = false := by rw [bne_eq_false_iff_eq]; omega
    have HLM := Lib.hid hlm
    clear hlm
    go_enter Try.func24, Try.ntmps24
    go_wp2
    go_loopw [14] (fun v wx => ∃ i : Nat, v = .int .i64 i ∧ i ≤ l.length ∧ Hid (∀ (j : Nat) x y, j < i → l[j]? = some x → m[j]? = some y → x = y) ∧ w = wx) (fun v _ => l.length - (intOf v).toNat)
    case atStart => exact ⟨0, by first | rfl | trivial, Nat.zero_le _, Lib.hid (fun j x y hj => absurd hj (Nat.not_lt_zero _)), by first | rfl | trivial⟩
    case round =>
      obtain ⟨i, rfl, hi, HI, hw⟩ := hrel
      subst hw
      by_cases hil : i < l.length
      · obtain ⟨a, rfl⟩ := ss_some h1 hil
        obtain ⟨x, hx⟩ : ∃ x, l[i]? = some x := ⟨l[i], List.getElem?_eq_getElem hil⟩
        have him : i < m.length := by have := HLM.out; omega
        obtain ⟨b, rfl⟩ := ss_some h2 him
        obtain ⟨y, hy⟩ : ∃ y, m[i]? = some y := ⟨m[i], List.getElem?_eq_getElem him⟩
        have cx := h1.at hx
        have cy := h2.at hy
        have i16 : (i : Int) < l.length := by omega
        have i18 : (i : Int) < m.length := by omega
        have i17 : IntKind.i64.wrap ((i : Int) + 1) = (i : Int) + 1 := wrap_fit _ (by omega) (by omega)
        have HX := Lib.hid (And.intro hx hy)
        clear hx hy
        by_cases hxy : x = y
        · have hnl := eq_list hxy
          have HXY := Lib.hid hxy
          clear hxy
          go_wp2
          go_roundw
          case rel => exact ⟨i + 1, by go_num, hil, Lib.hid (fun j u v hj hu hv => by
              by_cases hji : j = i
              · subst hji; rw [HX.out.1] at hu; rw [HX.out.2] at hv; cases hu; cases hv; exact HXY.out
              · exact HI.out j u v (by omega) hu hv), by first | rfl | trivial⟩
          case measure => simp [intOf]; omega
        · have hnl := ne_list hxy
          have HXY := Lib.hid hxy
          clear hxy
          go_wp2
          go_ret
          exact ⟨false, by first | rfl | (simp; done), fun e => by
            exfalso
            have h3 := HX.out.1
            rw [e, HX.out.2] at h3
            exact HXY.out (Option.some.inj h3).symm, Below.refl _ _⟩
      · obtain rfl : i = l.length := by omega
        go_wp2
        go_ret
        exact ⟨true, by first | rfl | (simp; done), fun _ => rfl, Below.refl _ _⟩
  · have f1 : ((l.length : Int) != m.length) = true := bne_iff_ne.2 (by omega)
    have HLM := Lib.hid hlm
    clear hlm
    go_enter Try.func24, Try.ntmps24
    go_wp2
    go_ret
    exact ⟨false, by first | rfl | (simp; done), fun e => absurd (by rw [e]) HLM.out, Below.refl _ _⟩
end Go.Proofs.Ytkjgbldooflodaa
namespace Go.Proofs.Ytkjgbldooflodaa
open Go.RowKit Cm Mp
set_option maxRecDepth 100000
set_option linter.unusedVariables false
set_option linter.unusedSimpArgs false
set_option maxHeartbeats 1000000 in
theorem commitGraph_walk (L : List (List Int)) (o : Option Addr) (c : Nat) (n0 n1 : Int) (w : World) (hL : LL w o L) (hll : ∀ l ∈ L, l.length ≤ 9223372036854775807) (hLl : L.length ≤ 9223372036854775807) :
    Calls Try.prog 7 #[.slice o L.length c, .agg #[.int .i64 n0, .int .i64 n1]] w fun e w' => e = .returned (.bool true) ∧ Below w.heap.size w w' := by
  have hb1 : Below w.heap.size w (w.alloc (.cells #[.int .i64 n0, .int .i64 n1] 57)) := (Below.refl _ _).alloc (Nat.le_refl _) _
  have hblk := heap_alloc_new w (.cells #[.int .i64 n0, .int .i64 n1] 57)
  have HCELLS := Lib.hid (show ∀ w' : World, w'.heap[w.heap.size]? = some (.cells #[.int .i64 n0, .int .i64 n1] 57 (0, 0)) → w'.cell? ⟨w.heap.size, 0, none⟩ = some (.int .i64 n0) ∧ w'.cell? ⟨w.heap.size, 1, none⟩ = some (.int .i64 n1) from fun w' hk => ⟨by rw [Lib.cell_of_heap hk]; rfl, by rw [Lib.cell_of_heap hk]; rfl⟩)
  by_cases h24 : 24 < L.length
  · have g1 : (L.length : Int) > 24 := by omega
    go_enter Try.func7, Try.ntmps7
    go_wp2_with (go_at_call 9; refine (awake_any _).mono ?_; rintro e w1 ⟨rfl, hb2⟩)
    go_ret
    exact ⟨rfl, hb1.trans (hb2.mono hb1.size)⟩
  · have g1 : decide ((24 : Int) < L.length) = false := decide_eq_false (by omega)
    by_cases h0 : L.length = 0
    · have g2 : ((L.length : Int) == 0) = true := beq_iff_eq.2 (by omega)
      clear h0 h24
      go_enter Try.func7, Try.ntmps7
      go_wp2_with (go_at_call 9; refine (awake_any _).mono ?_; rintro e w1 ⟨rfl, hb2⟩)
      go_ret
      exact ⟨rfl, hb1.trans (hb2.mono hb1.size)⟩
    · have g2 : ((L.length : Int) == 0) = false := beq_eq_false_iff_ne.2 (by omega)
      obtain ⟨r0, j0, m0, m1, m2, m3, m4, hj0⟩ := at_mod n0 L.length (by omega) (by omega)
      obtain ⟨r1, j1, m5, m6, m7, m8, m9, hj1⟩ := at_mod n1 L.length (by omega) (by omega)
      go_enter Try.func7, Try.ntmps7
      go_wp2_with (fail)
      go_at_call 9
      refine (awake_any _).mono ?_
      rintro e w1 ⟨rfl, hb2⟩
      have hB1 := hb1.trans (hb2.mono hb1.size)
      have hL1 := (hL.below hb1).below hb2
      have hblk1 := (hb2.block w.heap.size (by simp)).trans hblk
      clear hb1 hb2 hblk hL
      go_wp2_with (fail)
      go_at_call 26
      refine (graph_any o L c w1 hL1 (by omega) hll).mono ?_
      rintro e w2 ⟨T, o1, c1, o2, c2, rfl, hTl, hG, hs1, hs2, hb2⟩
      have hB2 := hB1.trans (hb2.mono hB1.size)
      have hblk2 := (hb2.block w.heap.size (Array.getElem?_eq_some_iff.1 hblk1).1).trans hblk1
      have HG := Lib.hid (And.intro hG hTl)
      have HS1 := Lib.hid (And.intro hs1 hs2)
      clear hb2 hB1 hblk1 hL1 hG hTl hs1 hs2
      go_wp2_with (fail)
      go_at_call 13
      with_reducible refine (newheap_any o1 T c1 w2 HS1.out.1 (fun t ht => by have := HG.out.1.size ht; omega) (by have := HG.out.2; omega)).mono ?_
      rintro e w3 ⟨hb, mb, ns, rfl, hh, hm, hS, hb3⟩
      have hB3 := hB2.trans (hb3.mono hB2.size)
      have hblk3 := (hb3.block w.heap.size (Array.getElem?_eq_some_iff.1 hblk2).1).trans hblk2
      obtain ⟨k0, k1⟩ := HCELLS.out w3 hblk3
      have ht3 := HS1.out.1.below hb3
      have hp3 := HS1.out.2.below hb3
      have hTl := HG.out.2
      have hT24 : T.length ≤ 24 := by omega
      obtain ⟨pa, hpa⟩ : ∃ x, (T.map Sha.sha)[j0]? = some x := ⟨_, List.getElem?_eq_getElem (by rw [List.length_map, hTl]; exact hj0)⟩
      obtain ⟨pb, hpb⟩ : ∃ x, (T.map Sha.sha)[j1]? = some x := ⟨_, List.getElem?_eq_getElem (by rw [List.length_map, hTl]; exact hj1)⟩
      obtain ⟨a2, rfl⟩ := ss_some hp3 (i := j0) (by rw [List.length_map, hTl]; exact hj0)
      have ca := hp3.at hpa
      have cb := hp3.at hpb
      have n0 : (j0 : Int) < T.length := by omega
      have n1 : (j1 : Int) < T.length := by omega
      have HP := Lib.hid (And.intro (List.mem_of_getElem? hpa) (List.mem_of_getElem? hpb))
      clear hb3 hB2 hblk2 hTl hpa hpb hp3
      go_wp2_with (fail)
      go_quiet (fail)
      all_goals (
        obtain ⟨wq, hwq⟩ : ∃ wq, wq = w3.drewN nq := ⟨_, rfl⟩
        rw [← hwq]
        have hBq : Below w.heap.size w wq := by rw [hwq]; exact below_drewN hB3 nq
        have hb3q : Below w3.heap.size w3 wq := by rw [hwq]; exact below_drewN (Below.refl _ _) nq
        have hSq := hS.below hb3q hS.lt.1 hS.lt.2
        have htq := ht3.below hb3q
        clear hwq hb3q hS ht3 hB3 hblk3 k0 k1 ca cb m0 m1 m2 m3 m4 m5 m6 m7 m8 m9 n0 n1 hll HCELLS hh hm
        have q1 := ahead_src HG.out.1 hT24 hb mb ns pa wq hSq HP.out.1
        unfold hp at q1
        go_wp2_with (fail)
        go_at_call 20
        with_reducible refine q1.mono ?_
        rintro e w4 ⟨out, ox, cx, rfl, hsx, hxa, hxl, htold, hb4⟩
        have hB4 := hBq.trans (hb4.mono hBq.size)
        have hS4 := hSq.below hb4 hSq.lt.1 hSq.lt.2
        have ht4 := htq.below hb4
        have q2 := rahead_any o1 T c1 pa w4 ht4 HG.out.1 hT24 HP.out.1
        have HT := Lib.hid (And.intro htold (And.intro hxa hxl))
        clear htold hxa hxl hb4 hSq htq hBq q1
        go_wp2_with (fail)
        go_at_call 22
        with_reducible refine q2.mono ?_
        rintro e w5 ⟨V, out2, oy, cy, rfl, hsy, hVn, hVa, hgd, hcm, hb5⟩
        have hB5 := hB4.trans (hb5.mono hB4.size)
        have hS5 := hS4.below hb5 hS4.lt.1 hS4.lt.2
        have ht5 := ht4.below hb5
        have hsx5 := hsx.below hb5
        have HONE := Lib.hid (show NoClash T → out = out2 from fun hn => told_grd (acy_src HG.out.1 hn HP.out.1) hVn hVa (HT.out.1 (acy_src HG.out.1 hn HP.out.1)) HT.out.2.1 hgd hcm)
        have q3 := base_src HG.out.1 hT24 hb mb ns pa pb w5 hS5 HP.out.1 HP.out.2
        unfold hp at q3
        clear hVn hVa hgd hcm hb5 hS4 ht4 hsx hB4 q2
        go_wp2_with (fail)
        go_at_call 23
        with_reducible refine q3.mono ?_
        rintro e w6 ⟨cc, ok, rfl, hbo, hb6⟩
        have hB6 := hB5.trans (hb6.mono hB5.size)
        have hS6 := hS5.below hb6 hS5.lt.1 hS5.lt.2
        have ht6 := ht5.below hb6
        have hsx6 := hsx5.below hb6
        have hsy6 := hsy.below hb6
        have q4 := rbase_any o1 T c1 pa pb w6 ht6 HG.out.1 hT24 HP.out.1 HP.out.2
        have HBO := Lib.hid hbo
        clear hbo hb6 hS5 ht5 hsx5 hsy hB5 q3
        go_wp2_with (fail)
        go_at_call 27
        with_reducible refine q4.mono ?_
        rintro e w7 ⟨B, yes, dd, rfl, hBn, hBm, hbr, hb7⟩
        have hB7 := hB6.trans (hb7.mono hB6.size)
        have hS7 := hS6.below hb7 hS6.lt.1 hS6.lt.2
        have ht7 := ht6.below hb7
        have hsx7 := hsx6.below hb7
        have hsy7 := hsy6.below hb7
        have HBA := Lib.hid (show NoClash T → cc = dd ∧ ok = yes from fun hn => base_one HG.out.1 hn HP.out.1 hBm HBO.out hbr)
        have q5 := is_src HG.out.1 hT24 hb mb ns pb pa w7 hS7 (prints_size HP.out.2) HP.out.1
        unfold hp at q5
        clear hBn hBm hbr hb7 hS6 ht6 hsx6 hsy6 hB6 q4
        go_wp2_with (fail)
        go_at_call 28
        with_reducible refine q5.mono ?_
        rintro e w8 ⟨bo, rfl, hbi, hb8⟩
        have hB8 := hB7.trans (hb8.mono hB7.size)
        have ht8 := ht7.below hb8
        have hsx8 := hsx7.below hb8
        have hsy8 := hsy7.below hb8
        have q6 := rall_any o1 T c1 pa w8 ht8 HG.out.1 hT24 HP.out.1
        have HBI := Lib.hid hbi
        clear hbi hb8 hS7 ht7 hsx7 hsy7 hB7 q5
        go_wp2_with (fail)
        go_at_call 21
        with_reducible refine q6.mono ?_
        rintro e w9 ⟨U, ou, cu, rfl, hsu, hUn, hUa, hUl, hb9⟩
        have hB9 := hB8.trans (hb9.mono hB8.size)
        have ht9 := ht8.below hb9
        have hsx9 := hsx8.below hb9
        have hsy9 := hsy8.below hb9
        have HU := Lib.hid (And.intro hUa hUl)
        clear hUn hUa hUl hb9 ht8 hsx8 hsy8 hB8 q6
        go_wp2
        go_loopw [24, 119] (fun v vi wx => ∃ (th : Bool) (i : Nat), v = .bool th ∧ vi = .int .i64 i ∧ i ≤ U.length ∧ Hid (th = true ↔ ∃ j, j < i ∧ U[j]? = some pb) ∧ w9 = wx) (fun _ vi _ => U.length - (intOf vi).toNat)
        case atStart => exact ⟨false, 0, by first | rfl | trivial, by first | rfl | trivial, Nat.zero_le _, Lib.hid ⟨(fun h => by cases h), fun ⟨j, hj, _⟩ => absurd hj (Nat.not_lt_zero _)⟩, by first | rfl | trivial⟩
        case round =>
          obtain ⟨th, i, rfl, rfl, hi, HTH, hw⟩ := hrel
          subst hw
          by_cases hiU : i < U.length
          · obtain ⟨au, rfl⟩ := ss_some hsu hiU
            obtain ⟨x, hx⟩ : ∃ x, U[i]? = some x := ⟨U[i], List.getElem?_eq_getElem hiU⟩
            have cx0 := hsu.at hx
            have hUl := HU.out.2
            have i16 : (i : Int) < U.length := by omega
            have i17 : IntKind.i64.wrap ((i : Int) + 1) = (i : Int) + 1 := wrap_fit _ (by omega) (by omega)
            have hnext : ∀ th' : Bool, (th' = true ↔ th = true ∨ x = pb) → (th' = true ↔ ∃ j, j < i + 1 ∧ U[j]? = some pb) := fun th' h => by
              rw [h, HTH.out]
              constructor
              · rintro (⟨j, hj, hjp⟩ | rfl)
                · exact ⟨j, by omega, hjp⟩
                · exact ⟨i, by omega, hx⟩
              · rintro ⟨j, hj, hjp⟩
                by_cases hji : j = i
                · subst hji; rw [hx] at hjp; exact .inr (Option.some.inj hjp)
                · exact .inl ⟨j, by omega, hjp⟩
            have HNX := Lib.hid hnext
            clear hnext hx hUl HTH
            by_cases hxp : x = pb
            · have hnl := eq_list hxp
              have HN2 := Lib.hid (HNX.out true ⟨fun _ => .inr hxp, fun _ => rfl⟩)
              clear hxp
              cases th
              all_goals (
                go_wp2
                go_roundw
                (case rel => exact ⟨true, i + 1, by first | rfl | trivial, by go_num, hiU, HN2, by first | rfl | trivial⟩)
                (case measure => simp [intOf]; omega))
            · have hnl := ne_list hxp
              have HN2 := Lib.hid (HNX.out th ⟨.inl, fun h => h.elim id (fun e => absurd e hxp)⟩)
              clear hxp
              cases th
              all_goals (
                go_wp2
                go_roundw
                (case rel => exact ⟨_, i + 1, by first | rfl | trivial, by go_num, hiU, HN2, by first | rfl | trivial⟩)
                (case measure => simp [intOf]; omega))
          · obtain rfl : i = U.length := by omega
            obtain rfl : th = bo := by
              have e1 : th = true ↔ bo = true := by
                rw [HTH.out, HBI.out, ← HU.out.1]
                exact ⟨fun ⟨j, _, hj⟩ => List.mem_of_getElem? hj, fun h => by
                  obtain ⟨j, hj⟩ := List.getElem?_of_mem h
                  exact ⟨j, (List.getElem?_eq_some_iff.1 hj).1, hj⟩⟩
              cases th <;> cases bo <;> simp_all
            have q7 := same_any ox oy out out2 cx cy w9 hsx9 hsy9 HT.out.2.2
            clear hsx9 hsy9 hsu HTH
            go_wp2_with (fail)
            go_at_call 24
            with_reducible refine q7.mono ?_
            rintro e w10 ⟨bs, rfl, hbs, hb10⟩
            have hB10 := hB9.trans (hb10.mono hB9.size)
            have ht10 := ht9.below hb10
            have HBS := Lib.hid hbs
            clear hbs hb10 q7 hB9 ht9
            cases bs
            · have hbad : ¬ NoClash T := fun hn => by have := HBS.out (HONE.out hn); cases this
              have hba : Below w10.heap.size w10 (w10.alloc (.cells #[.slice o1 T.length c1] 22)) := (Below.refl _ _).alloc (Nat.le_refl _) _
              have q8 := clash_true w10.heap.size o1 T c1 1 (w10.alloc (.cells #[.slice o1 T.length c1] 22)) (cell_new0 w10 _ _) (ht10.below hba) HG.out.1 hT24 hbad
              have hBz := hB10.alloc hB10.size (.cells #[.slice o1 T.length c1] 22)
              clear hbad hba ht10 hB10
              go_wp2_with (go_at_call 25; with_reducible refine q8.mono ?_; rintro e w11 ⟨rfl, hb11⟩)
              go_ret
              exact ⟨by first | rfl | (simp; done), hBz.trans (hb11.mono hBz.size)⟩
            · by_cases hcd : cc = dd
              · have hnl := eq_list hcd
                by_cases hoy : ok = yes
                · subst hoy
                  clear hcd
                  go_wp2
                  go_ret
                  exact ⟨by first | rfl | (simp; done), hB10⟩
                · have hoy2 : (ok == yes) = false := by simpa using hoy
                  have HOY := Lib.hid hoy
                  clear hoy hcd
                  have hbad : ¬ NoClash T := fun hn => HOY.out (HBA.out hn).2
                  have hba : Below w10.heap.size w10 (w10.alloc (.cells #[.slice o1 T.length c1] 22)) := (Below.refl _ _).alloc (Nat.le_refl _) _
                  have q8 := clash_true w10.heap.size o1 T c1 1 (w10.alloc (.cells #[.slice o1 T.length c1] 22)) (cell_new0 w10 _ _) (ht10.below hba) HG.out.1 hT24 hbad
                  have hBz := hB10.alloc hB10.size (.cells #[.slice o1 T.length c1] 22)
                  clear hbad hba ht10 hB10
                  go_wp2_with (go_at_call 25; with_reducible refine q8.mono ?_; rintro e w11 ⟨rfl, hb11⟩)
                  go_ret
                  exact ⟨by first | rfl | (simp; done), hBz.trans (hb11.mono hBz.size)⟩
              · have hnl := ne_list hcd
                have HCD := Lib.hid hcd
                clear hcd
                have hbad : ¬ NoClash T := fun hn => HCD.out (HBA.out hn).1
                have hba : Below w10.heap.size w10 (w10.alloc (.cells #[.slice o1 T.length c1] 22)) := (Below.refl _ _).alloc (Nat.le_refl _) _
                have q8 := clash_true w10.heap.size o1 T c1 1 (w10.alloc (.cells #[.slice o1 T.length c1] 22)) (cell_new0 w10 _ _) (ht10.below hba) HG.out.1 hT24 hbad
                have hBz := hB10.alloc hB10.size (.cells #[.slice o1 T.length c1] 22)
                clear hbad hba ht10 hB10
                go_wp2_with (go_at_call 25; with_reducible refine q8.mono ?_; rintro e w11 ⟨rfl, hb11⟩)
                go_ret
                exact ⟨by first | rfl | (simp; done), hBz.trans (hb11.mono hBz.size)⟩)
end Go.Proofs.Ytkjgbldooflodaa
