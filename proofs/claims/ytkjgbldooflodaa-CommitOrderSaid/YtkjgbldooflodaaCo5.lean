/-
  The walk of the law CommitOrder.
-/
import Derived.Test.YtkjgbldooflodaaCo4
import Derived.Test.YtkjgbldooflodaaCn8
namespace Go.Proofs.Ytkjgbldooflodaa
open Go.RowKit Cm Mp
set_option maxRecDepth 100000
set_option linter.unusedVariables false
set_option linter.unusedSimpArgs false
theorem acy_src {T : List ByteArray} (hG : GOK T) (hn : NoClash T) {p : ByteArray} (hp : p ∈ T.map Sha.sha) : Acy (srcOf T) p := by
  have hlt : ∀ s, s ∈ T.map Sha.sha → (T.map Sha.sha).findIdx (fun x => decide (x = s)) < (T.map Sha.sha).length := fun s hs => List.findIdx_lt_length_of_exists ⟨s, hs, by simp⟩
  refine ⟨fun s => (T.map Sha.sha).findIdx (fun x => decide (x = s)), (T.map Sha.sha).length, fun s hs => Nat.le_of_lt (hlt s (gok_ahd hG hp hs)), fun s hs l hl q hq => ?_⟩
  have h1 := hlt s (gok_ahd hG hp hs)
  have h2 := List.findIdx_getElem (w := h1)
  have h3 := of_decide_eq_true h2
  rw [List.getElem_map] at h3
  have hi : (T.map Sha.sha).findIdx (fun x => decide (x = s)) < T.length := by simpa using h1
  obtain ⟨j, u, hj, hu, rfl⟩ := gok_less hG hn (List.getElem?_eq_getElem hi) (by rw [h3]; exact hl) hq
  dsimp only
  rcases Nat.lt_or_ge ((T.map Sha.sha).findIdx fun x => decide (x = s)) ((T.map Sha.sha).findIdx fun x => decide (x = Sha.sha u)) with h | h
  · exfalso
    have hjl : j < (T.map Sha.sha).findIdx fun x => decide (x = Sha.sha u) := by omega
    have h4 := List.not_of_lt_findIdx hjl
    rw [List.getElem_map] at h4
    obtain ⟨h5, h6⟩ := List.getElem?_eq_some_iff.1 hu
    rw [h6] at h4
    simp at h4
  · rcases Nat.lt_or_ge ((T.map Sha.sha).findIdx fun x => decide (x = Sha.sha u)) ((T.map Sha.sha).findIdx fun x => decide (x = s)) with h' | h'
    · exact h'
    · exfalso
      have hjl : j < (T.map Sha.sha).findIdx fun x => decide (x = Sha.sha u) := by omega
      have h4 := List.not_of_lt_findIdx hjl
      rw [List.getElem_map] at h4
      obtain ⟨h5, h6⟩ := List.getElem?_eq_some_iff.1 hu
      rw [h6] at h4
      simp at h4
theorem ahead_src {T : List ByteArray} (hG : GOK T) (hTl : T.length ≤ 24) (hb mb ns : Nat) (a : ByteArray) (w : World) (hS : Src w hb mb ns (srcOf T)) (ha : a ∈ T.map Sha.sha) :
    Calls Try.prog 20 #[hp hb, .string a] w fun e w' => ATold (srcOf T) a w e w' :=
  ahead_any (srcOf T) (T.map Sha.sha) hb mb ns a w hS src_keys (by rw [List.length_map]; omega) (fun s t h => by have := hG.size (src_mem h).1; omega) (fun s hs => prints_size hs) (gok_whole hG ha) (prints_size ha)
theorem clash_true (g : Nat) (o : Option Addr) (T : List ByteArray) (c c2 : Nat) (w : World) (hg : w.cell? ⟨g, 0, none⟩ = some (.slice o T.length c)) (hs : Ss w o T) (hG : GOK T) (hl : T.length ≤ 24) (hbad : ¬ NoClash T) :
    Calls Try.prog 25 #[.slice (some ⟨g, 0, none⟩) 1 c2] w fun e w' => e = .returned (.bool true) ∧ Below w.heap.size w w' :=
  (clash_any g o T c c2 w hg hs (fun t ht => by have := hG.size ht; omega) (by omega)).mono (by
    rintro e w' ⟨bo, rfl, h1, h2⟩
    cases bo
    · exact absurd (h1 rfl) hbad
    · exact ⟨rfl, h2⟩)
/-- The places told so far. -/
structure Plc (out : List ByteArray) (i : Nat) (f : ByteArray → Option Int) : Prop where
  of : ∀ s k, f s = some k → ∃ j : Nat, k = j ∧ j < i ∧ out[j]? = some s
  has : ∀ (j : Nat) s, j < i → out[j]? = some s → f s = some (j : Int)
theorem Plc.step {out : List ByteArray} {i : Nat} {f : ByteArray → Option Int} {s : ByteArray} (h : Plc out i f) (hs : out[i]? = some s) (hn : f s = none) : Plc out (i + 1) (upd f s i) := by
  refine ⟨fun x k hk => ?_, fun j x hj hx => ?_⟩
  · unfold upd at hk
    by_cases hxs : x = s
    · rw [if_pos hxs] at hk
      cases hk
      exact ⟨i, rfl, by omega, by rw [hxs]; exact hs⟩
    · rw [if_neg hxs] at hk
      obtain ⟨j, h1, h2, h3⟩ := h.of x k hk
      exact ⟨j, h1, by omega, h3⟩
  · unfold upd
    by_cases hji : j = i
    · subst hji
      rw [hs] at hx
      cases hx
      rw [if_pos rfl]
    · have h1 := h.has j x (by omega) hx
      have hxs : x ≠ s := fun e => by rw [e, hn] at h1; cases h1
      rw [if_neg hxs]
      exact h1
set_option maxHeartbeats 2000000 in
theorem commitOrder_walk (L : List (List Int)) (o : Option Addr) (c : Nat) (n0 : Int) (w : World) (hL : LL w o L) (hll : ∀ l ∈ L, l.length ≤ 9223372036854775807) (hLl : L.length ≤ 9223372036854775807) {P Q : Prop} (_ : P) (_ : Q) :
    Calls Try.prog 6 #[.slice o L.length c, .int .i64 n0] w fun e w' => e = .returned (.bool true) ∧ Below w.heap.size w w' := by
  by_cases h24 : 24 < L.length
  · have g1 : (L.length : Int) > 24 := by omega
    go_enter Try.func6, Try.ntmps6
    go_wp2_with (go_at_call 9; refine (awake_any _).mono ?_; rintro e w1 ⟨rfl, hb2⟩)
    go_ret
    exact ⟨rfl, hb2⟩
  · have g1 : decide ((24 : Int) < L.length) = false := decide_eq_false (by omega)
    by_cases h0 : L.length = 0
    · have g2 : ((L.length : Int) == 0) = true := beq_iff_eq.2 (by omega)
      clear h0 h24
      go_enter Try.func6, Try.ntmps6
      go_wp2_with (go_at_call 9; refine (awake_any _).mono ?_; rintro e w1 ⟨rfl, hb2⟩)
      go_ret
      exact ⟨rfl, hb2⟩
    · have g2 : ((L.length : Int) == 0) = false := beq_eq_false_iff_ne.2 (by omega)
      obtain ⟨r0, j0, m0, m1, m2, m3, m4, hj0⟩ := at_mod n0 L.length (by omega) (by omega)
      go_enter Try.func6, Try.ntmps6
      go_wp2_with (fail)
      go_at_call 9
      refine (awake_any _).mono ?_
      rintro e w1 ⟨rfl, hB1⟩
      have hL1 := hL.below hB1
      clear hL
      go_wp2_with (fail)
      go_at_call 26
      refine (graph_any o L c w1 hL1 (by omega) hll).mono ?_
      rintro e w2 ⟨T, o1, c1, o2, c2, rfl, hTl, hG, hs1, hs2, hb2⟩
      have hB2 := hB1.trans (hb2.mono hB1.size)
      have HG := Lib.hid (And.intro hG hTl)
      have HS1 := Lib.hid (And.intro hs1 hs2)
      clear hb2 hB1 hL1 hG hTl hs1 hs2
      go_wp2_with (fail)
      go_at_call 13
      with_reducible refine (newheap_any o1 T c1 w2 HS1.out.1 (fun t ht => by have := HG.out.1.size ht; omega) (by have := HG.out.2; omega)).mono ?_
      rintro e w3 ⟨hb, mb, ns, rfl, hh, hm, hS, hb3⟩
      have hB3 := hB2.trans (hb3.mono hB2.size)
      have ht3 := HS1.out.1.below hb3
      have hp3 := HS1.out.2.below hb3
      have hTl := HG.out.2
      have hT24 : T.length ≤ 24 := by omega
      obtain ⟨pa, hpa⟩ : ∃ x, (T.map Sha.sha)[j0]? = some x := ⟨_, List.getElem?_eq_getElem (by rw [List.length_map, hTl]; exact hj0)⟩
      obtain ⟨a2, rfl⟩ := ss_some hp3 (i := j0) (by rw [List.length_map, hTl]; exact hj0)
      have ca := hp3.at hpa
      have n0' : (j0 : Int) < T.length := by omega
      have HP := Lib.hid (List.mem_of_getElem? hpa)
      clear hb3 hB2 hTl hpa hp3
      have q1 := ahead_src HG.out.1 hT24 hb mb ns pa w3 hS HP.out
      unfold hp at q1
      go_wp2_with (fail)
      go_at_call 20
      with_reducible refine q1.mono ?_
      rintro e w4 ⟨out, ox, cx, rfl, hsx, hxa, hxl, htold, hb4⟩
      have hB4 := hB3.trans (hb4.mono hB3.size)
      have hS4 := hS.below hb4 hS.lt.1 hS.lt.2
      have ht4 := ht3.below hb4
      have HT := Lib.hid (And.intro htold (And.intro hxa hxl))
      clear htold hxa hxl hb4 hS ht3 hB3 hh hm ca m0 m1 m2 m3 m4 n0' hll q1
      by_cases ho : out = []
      · subst ho
        have hbad : ¬ NoClash T := fun hn => by
          have := (HT.out.1 (acy_src HG.out.1 hn HP.out)).first
          simp at this
        have hba : Below w4.heap.size w4 (w4.alloc (.cells #[.slice o1 T.length c1] 22)) := (Below.refl _ _).alloc (Nat.le_refl _) _
        have q4 := clash_true w4.heap.size o1 T c1 1 (w4.alloc (.cells #[.slice o1 T.length c1] 22)) (cell_new0 w4 _ _) (ht4.below hba) HG.out.1 hT24 hbad
        have hBz := hB4.alloc hB4.size (.cells #[.slice o1 T.length c1] 22)
        clear hsx hS4 ht4 hB4 hba hbad
        go_wp2_with (go_at_call 25; with_reducible refine q4.mono ?_; rintro e w9 ⟨rfl, hb9⟩)
        go_ret
        exact ⟨rfl, hBz.trans (hb9.mono hBz.size)⟩
      · have hol : 0 < out.length := List.length_pos_iff.2 ho
        obtain ⟨y, hy⟩ : ∃ y, out[0]? = some y := ⟨out[0], List.getElem?_eq_getElem hol⟩
        obtain ⟨ax, rfl⟩ := ss_some hsx hol
        have cy0 := hsx.at hy
        have cy : w4.cell? ax = some (.string y) := cy0
        have f1 : ((out.length : Int) == 0) = false := beq_eq_false_iff_ne.2 (by omega)
        have f2 : (0 : Int) < out.length := by omega
        have HY := Lib.hid hy
        clear hy cy0 ho
        by_cases hya : y = pa
        · subst hya
          have hmm := @run_makeMap Try.prog
          have hM0 : MF (w4.alloc (.map #[] 0)) w4.heap.size 0 (imap fun _ => none) := MF.made w4
          have hBa : Below w4.heap.size w4 (w4.alloc (.map #[] 0)) := (Below.refl _ _).alloc (Nat.le_refl _) _
          go_wp2
          go_loopw [81] (fun v wx => ∃ (i : Nat) (f : ByteArray → Option Int), v = .int .i64 i ∧ i ≤ out.length ∧ MF wx w4.heap.size i (imap f) ∧ Below w4.heap.size w4 wx ∧ Hid (Plc out i f)) (fun v _ => out.length - (intOf v).toNat)
          case atStart => exact ⟨0, fun _ => none, by first | rfl | trivial, Nat.zero_le _, hM0, hBa, Lib.hid ⟨(fun s k hk => by cases hk), fun j s hj => absurd hj (Nat.not_lt_zero _)⟩⟩
          case round =>
            clear hM0 hBa
            obtain ⟨i, f, rfl, hi, hM, hBw, HPl⟩ := hrel
            obtain ⟨wo, rfl⟩ : ∃ wo : World, wo = wr := ⟨_, rfl⟩
            have hB5 := hB4.trans (hBw.mono hB4.size)
            have ht5 := ht4.below hBw
            have hxs := hsx.below hBw
            by_cases hil : i < out.length
            · obtain ⟨s, hs⟩ : ∃ s, out[i]? = some s := ⟨out[i], List.getElem?_eq_getElem hil⟩
              have cs := hxs.at hs
              have hs32 := prints_size (gok_ahd HG.out.1 HP.out (HT.out.2.1 s (List.mem_of_getElem? hs)))
              have i16 : (i : Int) < out.length := by omega
              have hxl := HT.out.2.2
              have i17 : IntKind.i64.wrap ((i : Int) + 1) = (i : Int) + 1 := wrap_fit _ (by omega) (by omega)
              have hlk := hM.get 54 3 Try.underlying54 (zeroI wo) s hs32 true
              have HSx := Lib.hid hs
              cases hfs : f s with
              | none =>
                replace hlk : (Instr.lookup 54 (.map (some w4.heap.size)) (.string s) true).run Try.prog wo = .ok (.tuple #[.int .i64 0, .bool false]) wo := by
                  rw [show imap f s = none by unfold imap; rw [hfs]; rfl] at hlk
                  exact hlk
                obtain ⟨w6, hup, hM6, hg6⟩ := hM.put 54 3 Try.underlying54 (by unfold maxLen; omega) s hs32 (.int .i64 i)
                rw [imap_upd] at hM6
                have hB6 := hBw.trans (below_of_grown hg6 (fun k hk => by cases hk; exact Nat.le_refl _) hBw.size)
                have HPl6 := Lib.hid (HPl.out.step hs hfs)
                clear hs hfs hM hBw hB5 ht5 hxs hg6 hxl
                go_wp2
                go_roundw
                case rel => exact ⟨i + 1, _, by go_num, hil, hM6, hB6, HPl6⟩
                case measure => simp [intOf]; omega
              | some k =>
                replace hlk : (Instr.lookup 54 (.map (some w4.heap.size)) (.string s) true).run Try.prog wo = .ok (.tuple #[.int .i64 k, .bool true]) wo := by
                  rw [show imap f s = some (.int .i64 k) by unfold imap; rw [hfs]; rfl] at hlk
                  exact hlk
                have hbad : ¬ NoClash T := fun hn => by
                  have hnd := (HT.out.1 (acy_src HG.out.1 hn HP.out)).nodup
                  obtain ⟨j, _, hj, hjs⟩ := HPl.out.of s k hfs
                  obtain ⟨h1, h2⟩ := List.getElem?_eq_some_iff.1 hjs
                  obtain ⟨h3, h4⟩ := List.getElem?_eq_some_iff.1 hs
                  have := (List.getElem_inj hnd).1 (h2.trans h4.symm)
                  omega
                have hba : Below wo.heap.size wo (wo.alloc (.cells #[.slice o1 T.length c1] 22)) := (Below.refl _ _).alloc (Nat.le_refl _) _
                have q4 := clash_true wo.heap.size o1 T c1 1 (wo.alloc (.cells #[.slice o1 T.length c1] 22)) (cell_new0 wo _ _) (ht5.below hba) HG.out.1 hT24 hbad
                have hBz := hB5.alloc hB5.size (.cells #[.slice o1 T.length c1] 22)
                clear hs hfs hM hBw hB5 ht5 hxs hba hbad hsx hS4 ht4 hB4
                go_wp2_with (go_at_call 25; with_reducible refine q4.mono ?_; rintro e w9 ⟨rfl, hb9⟩)
                go_ret
                exact ⟨rfl, hBz.trans (hb9.mono hBz.size)⟩
            · obtain rfl : i = out.length := by omega
              have hS5 := hS4.below hBw hS4.lt.1 hS4.lt.2
              clear hsx hS4 ht4 hB4
              go_wp2
              go_loopw [102] (fun v wx => ∃ (i : Nat), v = .int .i64 i ∧ i ≤ out.length ∧ Below wo.heap.size wo wx) (fun v _ => out.length - (intOf v).toNat)
              case atStart => exact ⟨0, by first | rfl | trivial, Nat.zero_le _, Below.refl _ _⟩
              case round =>
                obtain ⟨i, rfl, hi, hBv⟩ := hrel
                obtain ⟨wv, rfl⟩ : ∃ wv : World, wv = wr := ⟨_, rfl⟩
                have hB6 := hB5.trans (hBv.mono hB5.size)
                by_cases hil : i < out.length
                · obtain ⟨s, hs⟩ : ∃ s, out[i]? = some s := ⟨out[i], List.getElem?_eq_getElem hil⟩
                  have cs := (hxs.below hBv).at hs
                  have hsK := gok_ahd HG.out.1 HP.out (HT.out.2.1 s (List.mem_of_getElem? hs))
                  obtain ⟨cc, hcc⟩ : ∃ c, getC (srcOf T) s = some c := by
                    obtain ⟨l, h1, _⟩ := gok_par HG.out.1 hsK
                    unfold par at h1
                    cases hg : getC (srcOf T) s with
                    | none => rw [hg] at h1; cases h1
                    | some c => exact ⟨c, rfl⟩
                  have hpls : pls (srcOf T) s = cc.par := by unfold pls par; rw [hcc]; rfl
                  have hparS : par (srcOf T) s = some cc.par := by unfold par; rw [hcc]; rfl
                  have hq6 := cget_some hb mb ns (srcOf T) s cc wv (hS5.below hBv hS5.lt.1 hS5.lt.2) (prints_size hsK) (fun t ht => by have := HG.out.1.size (src_mem ht).1; omega) hcc
                  obtain ⟨_, hparK⟩ := gok_par HG.out.1 hsK
                  have hpar32 : ∀ q ∈ cc.par, q.size ≤ maxLen := fun q hq => by
                    obtain ⟨l, h1, h2⟩ := gok_par HG.out.1 hsK
                    unfold par at h1
                    rw [hcc] at h1
                    cases h1
                    exact prints_size (h2 q hq)
                  have hp2 : cc.par.length ≤ 2 := (par_two (S := srcOf T) (x := s) (by unfold par; rw [hcc]; rfl)).1
                  obtain ⟨rr, ll, mm⟩ := cc
                  dsimp only at hq6 hpls hpar32 hp2 hparS
                  have i16 : (i : Int) < out.length := by omega
                  have hxl := HT.out.2.2
                  have i17 : IntKind.i64.wrap ((i : Int) + 1) = (i : Int) + 1 := wrap_fit _ (by omega) (by omega)
                  have HSx := Lib.hid (And.intro hs (And.intro hpls (And.intro hpar32 hparS)))
                  unfold hp at hq6
                  clear hs hsK hcc hpls hpar32 hxl hparK hparS
                  go_wp2_with (fail)
                  go_at_call 18
                  with_reducible refine hq6.mono ?_
                  rintro e w6 ⟨ol, cp, rfl, hss6, hn6, hcp6, _, hb6⟩
                  have hbl6 := (Below.refl w6.heap.size w6).alloc (Nat.le_refl _) (.cells #[.string rr, .slice ol ll.length cp, .string mm] 24)
                  have hblk6 := heap_alloc_new w6 (.cells #[.string rr, .slice ol ll.length cp, .string mm] 24)
                  have t1 : (w6.alloc (.cells #[.string rr, .slice ol ll.length cp, .string mm] 24)).cell? ⟨w6.heap.size, 1, none⟩ = some (.slice ol ll.length cp) := by rw [Lib.cell_of_heap hblk6]; rfl
                  have hss7 := hss6.below hbl6
                  have hBv7 : Below wo.heap.size wo (w6.alloc (.cells #[.string rr, .slice ol ll.length cp, .string mm] 24)) := (hBv.trans (hb6.mono hBv.size)).trans (hbl6.mono (hBv.trans (hb6.mono hBv.size)).size)
                  clear hq6 hss6 hb6 hbl6 hblk6 hn6 hcp6
                  obtain ⟨w7, hw7⟩ : ∃ w7, w7 = w6.alloc (.cells #[.string rr, .slice ol ll.length cp, .string mm] 24) := ⟨_, rfl⟩
                  rw [← hw7] at hss7 hBv7
                  have HW7 := Lib.hid hw7
                  clear hw7
                  go_wp2
                  go_loopw [122] (fun z wx => ∃ k : Nat, z = .int .i64 k ∧ k ≤ ll.length ∧ Below w7.heap.size w7 wx) (fun z _ => ll.length - (intOf z).toNat)
                  case atStart => exact ⟨0, by first | rfl | trivial, Nat.zero_le _, by rw [HW7.out]; exact Below.refl _ _⟩
                  case round =>
                    obtain ⟨k, rfl, hk, hBx⟩ := hrel
                    obtain ⟨wx, rfl⟩ : ∃ wx : World, wx = wr := ⟨_, rfl⟩
                    have hBvx : Below wo.heap.size wo wx := hBv7.trans (hBx.mono hBv7.size)
                    by_cases hkl : k < ll.length
                    · obtain ⟨ad, rfl⟩ := ss_some hss7 hkl
                      obtain ⟨q, hq⟩ : ∃ q, ll[k]? = some q := ⟨ll[k], List.getElem?_eq_getElem hkl⟩
                      have cq := (hss7.below hBx).at hq
                      obtain ⟨hs, hpls, hpar32, hparS⟩ := HSx.out
                      have hql := List.mem_of_getElem? hq
                      have hq32 := hpar32 q hql
                      have k16 : (k : Int) < ll.length := by omega
                      have k17 : IntKind.i64.wrap ((k : Int) + 1) = (k : Int) + 1 := wrap_fit _ (by omega) (by omega)
                      have hlk := (hM.below hBvx hM.lt).get 54 3 Try.underlying54 (zeroI wx) q hq32 true
                      have htx := ht5.below hBvx
                      have hBq := hB5.trans (hBvx.mono hB5.size)
                      have hqp : q ∈ pls (srcOf T) s := by rw [hpls]; exact hql
                      cases hfq : f q with
                      | none =>
                        replace hlk : (Instr.lookup 54 (.map (some w4.heap.size)) (.string q) true).run Try.prog wx = .ok (.tuple #[.int .i64 0, .bool false]) wx := by
                          rw [show imap f q = none by unfold imap; rw [hfq]; rfl] at hlk
                          exact hlk
                        have hbad : ¬ NoClash T := fun hn => by
                          have hqo := (HT.out.1 (acy_src HG.out.1 hn HP.out)).all q (.step (HT.out.2.1 s (List.mem_of_getElem? hs)) hparS hql)
                          obtain ⟨j, hj⟩ := List.getElem?_of_mem hqo
                          have := HPl.out.has j q (List.getElem?_eq_some_iff.1 hj).1 hj
                          rw [hfq] at this
                          cases this
                        have hba : Below wx.heap.size wx (wx.alloc (.cells #[.slice o1 T.length c1] 22)) := (Below.refl _ _).alloc (Nat.le_refl _) _
                        have q4 := clash_true wx.heap.size o1 T c1 1 (wx.alloc (.cells #[.slice o1 T.length c1] 22)) (cell_new0 wx _ _) (htx.below hba) HG.out.1 hT24 hbad
                        have hBz := hBq.alloc hBq.size (.cells #[.slice o1 T.length c1] 22)
                        clear hs hpls hpar32 hparS hql hq hqp hfq hba hbad htx hBq hBvx hBx hBv7 hss7 hM hB5 ht5 hxs hS5 hBv hB6 hBw
                        go_wp2_with (go_at_call 25; with_reducible refine q4.mono ?_; rintro e w9 ⟨rfl, hb9⟩)
                        go_ret
                        exact ⟨rfl, hBz.trans (hb9.mono hBz.size)⟩
                      | some kk =>
                        obtain ⟨j, rfl, hj, hjq⟩ := HPl.out.of q kk hfq
                        replace hlk : (Instr.lookup 54 (.map (some w4.heap.size)) (.string q) true).run Try.prog wx = .ok (.tuple #[.int .i64 j, .bool true]) wx := by
                          rw [show imap f q = some (.int .i64 j) by unfold imap; rw [hfq]; rfl] at hlk
                          exact hlk
                        by_cases hji : j ≤ i
                        · have e1 : decide ((j : Int) ≤ i) = true := decide_eq_true (by omega)
                          have hbad : ¬ NoClash T := fun hn => by
                            have := (HT.out.1 (acy_src HG.out.1 hn HP.out)).ord i j s q hs hqp hjq
                            omega
                          have hba : Below wx.heap.size wx (wx.alloc (.cells #[.slice o1 T.length c1] 22)) := (Below.refl _ _).alloc (Nat.le_refl _) _
                          have q4 := clash_true wx.heap.size o1 T c1 1 (wx.alloc (.cells #[.slice o1 T.length c1] 22)) (cell_new0 wx _ _) (htx.below hba) HG.out.1 hT24 hbad
                          have hBz := hBq.alloc hBq.size (.cells #[.slice o1 T.length c1] 22)
                          clear hs hpls hpar32 hparS hql hq hqp hfq hba hbad htx hBq hBvx hBx hBv7 hss7 hM hB5 ht5 hxs hS5 hBv hB6 hBw hjq
                          go_wp2_with (go_at_call 25; with_reducible refine q4.mono ?_; rintro e w9 ⟨rfl, hb9⟩)
                          go_ret
                          exact ⟨rfl, hBz.trans (hb9.mono hBz.size)⟩
                        · have e1 : decide ((j : Int) ≤ i) = false := decide_eq_false (by omega)
                          clear hs hpls hpar32 hparS hql hq hqp hfq htx hBq hBv7 hss7 hM hB5 ht5 hxs hS5 hBv hB6 hBw hjq
                          go_wp2
                          go_roundw
                          case rel => exact ⟨k + 1, by go_num, hkl, hBx⟩
                          case measure => simp [intOf]; omega
                    · obtain rfl : k = ll.length := by omega
                      clear hBv7 hss7 hM hB5 ht5 hxs hS5 hBv hB6 hBw
                      go_wp2
                      go_roundw
                      case rel => exact ⟨i + 1, by go_num, hil, hBvx⟩
                      case measure => simp [intOf]; omega
                · obtain rfl : i = out.length := by omega
                  go_wp2
                  go_ret
                  exact ⟨by first | rfl | (simp; done), hB6⟩
        · have hbad : ¬ NoClash T := fun hn => by
            have := (HT.out.1 (acy_src HG.out.1 hn HP.out)).first
            rw [HY.out] at this
            exact hya (Option.some.inj this)
          have hnl := ne_list hya
          have hba : Below w4.heap.size w4 (w4.alloc (.cells #[.slice o1 T.length c1] 22)) := (Below.refl _ _).alloc (Nat.le_refl _) _
          have q4 := clash_true w4.heap.size o1 T c1 1 (w4.alloc (.cells #[.slice o1 T.length c1] 22)) (cell_new0 w4 _ _) (ht4.below hba) HG.out.1 hT24 hbad
          have hBz := hB4.alloc hB4.size (.cells #[.slice o1 T.length c1] 22)
          clear hsx hS4 ht4 hB4 hba hbad hya
          go_wp2_with (go_at_call 25; with_reducible refine q4.mono ?_; rintro e w9 ⟨rfl, hb9⟩)
          go_ret
          exact ⟨rfl, hBz.trans (hb9.mono hBz.size)⟩
end Go.Proofs.Ytkjgbldooflodaa
