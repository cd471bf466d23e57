/-
  The walk of the reference's Back.
-/
import Derived.Test.YtgfjfpghjjknlaaDoorClT
import Derived.Test.YtgfjfpghjjknlaaDoorClO
import Derived.Test.YtgfjfpghjjknlaaDoorClQ
import Derived.Test.YtgfjfpghjjknlaaDoorClR
import Derived.Deep.CutRange
import Derived.Deep.CutBlock
namespace Go.Proofs.YtgfjfpghjjknlaaDoor
open Go.RowKit Cl
set_option maxRecDepth 100000
set_option linter.unusedVariables false
set_option linter.unusedSimpArgs false
theorem str_second (q : ByteArray) (h : 2 ≤ q.size) : ∃ (d e : UInt8) (r : ByteArray), q.data.toList = d :: e :: r.data.toList ∧ q.extract 2 q.size = r ∧ r.size + 2 = q.size ∧ ∀ w : World, (Instr.index 9 (.string q) (.int .i64 1)).run Tryd.prog w = .ok (.int .u8 (e.toNat : Int)) w := by
  obtain ⟨d, r1, hqd, hr1, hrz1, hd⟩ := str_first q (by omega)
  obtain ⟨e, r2, hqe, hr2, hrz2, he⟩ := str_first r1 (by omega)
  have hq2 : q.data.toList = d :: e :: r2.data.toList := by rw [hqd, hqe]
  have hx : (q.extract 2 q.size).data.toList = r2.data.toList := by rw [Lib.extract_to_end, hq2]; rfl
  refine ⟨d, e, q.extract 2 q.size, by rw [hx]; exact hq2, rfl, by simp; omega, fun w => ?_⟩
  have h1 : 1 < q.size := by omega
  rw [run_index_byteAt (P := Tryd.prog) (t := 9) rfl q 1 1 rfl h1 w]
  unfold byteAt
  rw [dif_pos h1]
  have e2 : q.data.toList[1]? = some e := by rw [hq2]; rfl
  have e3 : q[1]'h1 = e := (List.getElem?_eq_some_iff.1 e2).2
  rw [e3]
set_option maxHeartbeats 8000000 in
theorem rback_any (s : ByteArray) (w : World) (hs : s.size ≤ 1000000000) :
    Calls Tryd.prog 23 #[.string s] w fun e w' => ValsOut (vals 1 9223372036854775808 Esc.unesc s.data.toList) w e w' := by
  obtain ⟨i0, hi0, hz0, hz1, hz2⟩ := info_parts (P := Tryd.prog) (e := 23) (z := .agg #[.int .i64 0, .int .i64 0, .string ⟨#[]⟩]) (size := 3) (bytes := 32) (by kernel_rfl)
  obtain ⟨sp, hsp⟩ : ∃ sp, sp = vals 1 9223372036854775808 Esc.unesc s.data.toList := ⟨_, rfl⟩
  rw [← hsp]
  have HSP := Lib.hid hsp
  clear hsp
  have hl0 : s.data.toList.length = s.size := rfl
  go_enter Tryd.func23, Tryd.ntmps23
  go_wp2
  go_loopw [0, 4] (fun z v wr => ∃ (cur : ByteArray) (acc : List V) (k : Nat), z = .string cur ∧ wr.ownsRow w.heap.size 23 3 v acc.length (vcells acc) ∧ acc.length ≤ 64 ∧ Hid (tuple acc = true) ∧ cur.size ≤ k ∧ cur.size ≤ s.size ∧
      Hid (decF 1 9223372036854775808 Esc.unesc s.data.toList.length s.data.toList = (decF 1 9223372036854775808 Esc.unesc k cur.data.toList).map fun vs => acc ++ vs) ∧ Below w.heap.size w wr)
    (fun z _ _ => strSize z)
  case atStart =>
    refine ⟨s, [], s.size, rfl, ⟨rfl, .inl ⟨rfl, rfl⟩⟩, by simp, Lib.hid rfl, Nat.le_refl _, Nat.le_refl _, Lib.hid ?_, Below.refl _ _⟩
    rw [hl0]
    cases decF 1 9223372036854775808 Esc.unesc s.size s.data.toList <;> simp
  case round =>
    obtain ⟨cur, acc, k, rfl, hown, hlen, HT, hk, hcs, HD, hB⟩ := hrel
    have hBs := hB.size
    have hcl : cur.data.toList.length = cur.size := rfl
    by_cases hc0 : cur.size = 0
    · have hspec : sp = some acc := by rw [HSP.out]; exact vals_done HD.out (List.eq_nil_of_length_eq_zero hc0) hlen
      subst hspec
      obtain ⟨o, c, hv, hsl⟩ := own_sl hown rfl
      subst hv
      have hc1 : ¬ (cur.size : Int) > 0 := by omega
      clear hown
      go_wp2
      exact bodyPost_ret (v := .tuple #[.slice o acc.length c, .bool true]) (by simp [results, Tryd.results23, go_sem]) rfl ⟨o, c, acc, true, rfl, hsl, hB, fun _ => rfl, fun h => by cases h⟩
    · obtain ⟨b, q, hcq, hq, hqz, hb⟩ := str_first cur (by omega)
      have hix := fun w => index_first (P := Tryd.prog) (t := 9) rfl cur b (by omega) hb w
      have hc1 : (cur.size : Int) > 0 := by omega
      have hq2 := hq.symm
      clear hb hq
      have HC := Lib.hid hcq
      clear hcq
      obtain ⟨n, hn⟩ : ∃ n : Nat, n = b.toNat := ⟨_, rfl⟩
      have hn256 : n < 256 := by have := b.toNat_lt; omega
      have hnw : IntKind.i64.wrap (n : Int) = (n : Int) := i64_wrap_in _ (by omega) (by omega)
      rw [← hn] at hix
      obtain ⟨kk, hkk⟩ : ∃ kk : Int, kk = (n : Int) - 1 := ⟨_, rfl⟩
      have hkw : IntKind.i64.wrap ((n : Int) - 1) = kk := by rw [hkk]; exact i64_wrap_in _ (by omega) (by omega)
      have HN := Lib.hid (show kk = (b.toNat : Int) - 1 by omega)
      clear hn hkk
      have hcd : decide (0 < cur.size) = true := decide_eq_true (by omega)
      obtain ⟨wo, hwo⟩ : ∃ wo : World, wo = wr := ⟨_, rfl⟩
      subst hwo
      go_upto_block 2 with fail
      go_cut [0] from 6 to 112 (fun z wx => ∃ (q2 : ByteArray) (x : V), z = .string q2 ∧ VAt wx wo.heap.size x ∧ Hid (decV 9223372036854775808 Esc.unesc kk q.data.toList = some (x, q2.data.toList)) ∧ q2.size ≤ q.size ∧ Below wo.heap.size wo wx ∧ wo.heap.size < wx.heap.size)
      case first =>
        have hvx : VAt (wo.alloc (.cells #[.int .i64 kk, .int .i64 0, .string ⟨#[]⟩] 23)) wo.heap.size ⟨kk, 0, ⟨#[]⟩⟩ := heap_alloc_new wo _
        have hBx : Below wo.heap.size wo (wo.alloc (.cells #[.int .i64 kk, .int .i64 0, .string ⟨#[]⟩] 23)) := (Below.refl _ _).alloc (Nat.le_refl _) _
        have hlx : wo.heap.size < (wo.alloc (.cells #[.int .i64 kk, .int .i64 0, .string ⟨#[]⟩] 23)).heap.size := by simp
        have hno : decV 9223372036854775808 Esc.unesc kk q.data.toList = none → sp = none := fun h => by rw [HSP.out]; exact vals_bad HD.out HC.out (by rw [← HN.out]; exact h)
        have HNO := Lib.hid hno
        clear hno hown
        have hql : q.data.toList.length = q.size := rfl
        have hB2 : Below w.heap.size w (wo.alloc (.cells #[.int .i64 kk, .int .i64 0, .string ⟨#[]⟩] 23)) := hB.alloc hBs _
        clear hlen hk hix hnw hkw
        generalize hwa : wo.alloc (.cells #[.int .i64 kk, .int .i64 0, .string ⟨#[]⟩] 23) = wa at hvx hBx hlx hB2 ⊢
        clear hwa
        have hf1 := hvx.free 1
        have hf2 := hvx.free 2
        obtain ⟨v0, v1, v2⟩ := hvx.cells
        dsimp only at v0 v1 v2
        by_cases hn1 : kk = 1
        · subst hn1
          by_cases h8 : (q.size : Int) < 8
          · have hspec : sp = none := HNO.out (by unfold decV; rw [if_pos (by decide), if_pos (by omega)])
            subst hspec
            go_wp2
            exact bodyPost_ret (v := .tuple #[.slice none 0 0, .bool false]) (by simp [results, Tryd.results23, go_sem]) rfl ⟨none, 0, [], false, rfl, ⟨fun h => absurd rfl h, fun a ha => by cases ha⟩, hB2, (fun h => by cases h), fun _ => ⟨rfl, rfl⟩⟩
          · have hnum := fun w => rnumber_any q w (by omega) (by omega)
            obtain ⟨X, hX⟩ : ∃ X : Nat, X = num (q.data.toList.take 8) := ⟨_, rfl⟩
            have hXl : X < 18446744073709551616 := by rw [hX]; exact num_lt _
            rw [← hX] at hnum
            have hbt : Go.bits .xor .u64 (X : Int) 9223372036854775808 = ((turned 9223372036854775808 X : Nat) : Int) := bits_turn2 X 9223372036854775808 hXl (by decide)
            obtain ⟨T, hT⟩ : ∃ T : Nat, T = turned 9223372036854775808 X := ⟨_, rfl⟩
            rw [← hT] at hbt
            obtain ⟨N, hN⟩ : ∃ N : Int, IntKind.i64.wrap (T : Int) = N := ⟨_, rfl⟩
            obtain ⟨r, hr⟩ : ∃ r : ByteArray, q.extract 8 q.size = r := ⟨_, rfl⟩
            have hdec : decV 9223372036854775808 Esc.unesc 1 q.data.toList = some (⟨1, N, ⟨#[]⟩⟩, r.data.toList) := by
              unfold decV
              rw [if_pos (by decide), if_neg (by omega), ← hX, ← hr, Lib.extract_to_end, ← hN, ← hT]
            have hrz : r.size ≤ q.size := by rw [← hr]; simp
            have HDE := Lib.hid hdec
            clear hX hdec hT
            go_wp2_with (fail)
            go_at_call 39
            refine (hnum _).mono ?_
            rintro e w5 ⟨rfl, rfl⟩
            go_wp2_with (fail)
            go_meet
            case rel => exact ⟨r, ⟨1, N, ⟨#[]⟩⟩, rfl, hvx.setN N, HDE, hrz, hBx.setCell (p := ⟨wo.heap.size, 1, none⟩) (Nat.le_refl _) _, by simpa [World.setCell] using hlx⟩
        · by_cases hn2 : kk = 2
          · subst hn2
            by_cases h8 : (q.size : Int) < 1
            · have hspec : sp = none := HNO.out (by unfold decV; rw [if_neg (by decide), if_pos (by decide), if_pos (by omega)])
              subst hspec
              go_wp2
              exact bodyPost_ret (v := .tuple #[.slice none 0 0, .bool false]) (by simp [results, Tryd.results23, go_sem]) rfl ⟨none, 0, [], false, rfl, ⟨fun h => absurd rfl h, fun a ha => by cases ha⟩, hB2, (fun h => by cases h), fun _ => ⟨rfl, rfl⟩⟩
            · obtain ⟨d, r, hqd, hr, hrz, hd⟩ := str_first q (by omega)
              have hix2 := fun w => index_first (P := Tryd.prog) (t := 9) rfl q d (by omega) hd w
              have hr2 := hr.symm
              have hd256 := d.toNat_lt
              have hdw : IntKind.i64.wrap (d.toNat : Int) = (d.toNat : Int) := i64_wrap_in _ (by omega) (by omega)
              have hdec : decV 9223372036854775808 Esc.unesc 2 q.data.toList = some (⟨2, (d.toNat : Int), ⟨#[]⟩⟩, r.data.toList) := by
                unfold decV
                rw [if_neg (by decide), if_pos (by decide), if_neg (by omega), hqd]
                show some ((⟨2, ((num [d] : Nat) : Int), ⟨#[]⟩⟩ : V), r.data.toList) = _
                rw [num1]
              have HDE := Lib.hid hdec
              clear hqd hr hd hdec
              go_wp2_with (fail)
              go_meet
              case rel => exact ⟨r, ⟨2, (d.toNat : Int), ⟨#[]⟩⟩, rfl, hvx.setN (d.toNat : Int), HDE, by omega, hBx.setCell (p := ⟨wo.heap.size, 1, none⟩) (Nat.le_refl _) _, by simpa [World.setCell] using hlx⟩
          · by_cases hn34 : kk = 3 ∨ kk = 4
            · have H34 := Lib.hid hn34
              have hdv : decV 9223372036854775808 Esc.unesc kk q.data.toList = (Esc.unesc q.data.toList).map fun p => (⟨kk, 0, ⟨p.1.toArray⟩⟩, p.2) := by
                unfold decV
                rw [if_neg (by omega), if_neg (by omega), if_pos (by omega)]
              have HDV := Lib.hid hdv
              clear hdv
              have ek3 : kk = 3 → (kk == 3) = true := fun h => by rw [h]; rfl
              rcases hn34 with hk3 | hk3
              all_goals (
                go_wp2_with (fail)
                clear v0 v1 v2 hf1 hf2 ek3 hk3
                go_loopw [0, 6, 7] (fun z v e wi => ∃ (q1 : ByteArray) (bs : List UInt8) (en : Bool), z = .string q1 ∧ e = .bool en ∧ BRow wi wo.heap.size v bs ∧ bs.length + q1.size ≤ q.size ∧ VAt wi wo.heap.size ⟨kk, 0, ⟨#[]⟩⟩ ∧ Below wo.heap.size wo wi ∧ wo.heap.size < wi.heap.size ∧
                    Hid (Esc.unesc q.data.toList = if en then some (bs, q1.data.toList) else (Esc.unesc q1.data.toList).map fun p => (bs ++ p.1, p.2)))
                  (fun z _ _ _ => strSize z)
                (case atStart =>
                  exact ⟨q, [], false, rfl, rfl, BRow.nil _ _, by simp, hvx, hBx, hlx, Lib.hid (by cases Esc.unesc q.data.toList <;> simp)⟩)
                (case round =>
                  obtain ⟨q1, bs, en, rfl, rfl, hownb, hsz, hv, hB1, hl1, HU⟩ := hrel
                  have hBw : Below w.heap.size w wr := hB.trans (hB1.mono hBs)
                  have hq1l : q1.data.toList.length = q1.size := rfl
                  have hs1 := hB1.size
                  cases en
                  · rw [if_neg (by decide)] at HU
                    by_cases h0 : q1.size = 0
                    · have hspec : sp = none := HNO.out (by rw [HDV.out, HU.out, List.eq_nil_of_length_eq_zero (show q1.data.toList.length = 0 from h0)]; rfl)
                      subst hspec
                      have g1 : ((q1.size : Int) == 0) = true := by rw [h0]; rfl
                      have g2 : (q1.size : Int) = 0 := by omega
                      go_wp2
                      exact bodyPost_ret (v := .tuple #[.slice none 0 0, .bool false]) (by simp [results, Tryd.results23, go_sem]) rfl ⟨none, 0, [], false, rfl, ⟨fun h => absurd rfl h, fun a ha => by cases ha⟩, hBw, (fun h => by cases h), fun _ => ⟨rfl, rfl⟩⟩
                    · have g1 : ((q1.size : Int) == 0) = false := beq_eq_false_iff_ne.2 (by omega)
                      have g2 : ¬ (q1.size : Int) = 0 := by omega
                      obtain ⟨d, r1, hqd, hr1, hrz1, hd⟩ := str_first q1 (by omega)
                      have hix0 := fun w => index_first (P := Tryd.prog) (t := 9) rfl q1 d (by omega) hd w
                      have hr1' := hr1.symm
                      obtain ⟨m, hm⟩ : ∃ m : Nat, m = d.toNat := ⟨_, rfl⟩
                      have hm256 : m < 256 := by have := d.toNat_lt; omega
                      rw [← hm] at hix0
                      have HM := Lib.hid hm
                      have HQ1 := Lib.hid hqd
                      clear hm hqd hr1 hd
                      by_cases hm0 : m = 0
                      · have hd0 : d = 0 := UInt8.toNat_inj.1 (by rw [← HM.out, hm0]; rfl)
                        subst hm0
                        by_cases h2 : q1.size < 2
                        · have hr0 : r1.data.toList = [] := List.eq_nil_of_length_eq_zero (by show r1.size = 0; omega)
                          have hspec : sp = none := HNO.out (by rw [HDV.out, HU.out, HQ1.out, hr0]; rfl)
                          subst hspec
                          have g3 : (q1.size : Int) < 2 := by omega
                          clear hr0
                          go_wp2
                          exact bodyPost_ret (v := .tuple #[.slice none 0 0, .bool false]) (by simp [results, Tryd.results23, go_sem]) rfl ⟨none, 0, [], false, rfl, ⟨fun h => absurd rfl h, fun a ha => by cases ha⟩, hBw, (fun h => by cases h), fun _ => ⟨rfl, rfl⟩⟩
                        · have g3 : ¬ (q1.size : Int) < 2 := by omega
                          obtain ⟨d2, e, r2, hq2e, hr2, hrz2, hix1⟩ := str_second q1 (by omega)
                          have hq2f : q1.data.toList = 0 :: e :: r2.data.toList := by
                            have h := hq2e
                            rw [HQ1.out] at h
                            injection h with h1 h2
                            rw [hq2e, ← h1, hd0]
                          have HQ2 := Lib.hid hq2f
                          clear hq2e hq2f
                          obtain ⟨m2, hm2⟩ : ∃ m : Nat, m = e.toNat := ⟨_, rfl⟩
                          rw [← hm2] at hix1
                          have HM2 := Lib.hid hm2
                          have hm2l : m2 < 256 := by have := e.toNat_lt; omega
                          clear hm2 hd0
                          by_cases he0 : m2 = 0
                          · have he : e = 0 := UInt8.toNat_inj.1 (by rw [← HM2.out, he0]; rfl)
                            subst he0
                            have hU2 : Esc.unesc q.data.toList = some (bs, r2.data.toList) := by
                              rw [HU.out, HQ2.out, he, Esc.unesc, if_pos rfl, if_pos rfl]
                              simp
                            have HU2 := Lib.hid hU2
                            clear he hU2
                            go_wp2
                            go_roundw
                            (case rel => exact ⟨r2, bs, true, rfl, rfl, hownb, by omega, hv, hB1, hl1, by rw [if_pos rfl]; exact HU2⟩)
                            (case measure => show r2.size < q1.size; omega)
                          · by_cases he255 : m2 = 255
                            · have he : e = 255 := UInt8.toNat_inj.1 (by rw [← HM2.out, he255]; rfl)
                              subst he255
                              have hU2 : Esc.unesc q.data.toList = (Esc.unesc r2.data.toList).map fun p => ((bs ++ [0]) ++ p.1, p.2) := by
                                rw [HU.out, HQ2.out, he, Esc.unesc, if_pos rfl, if_neg (by decide), if_pos rfl]
                                cases Esc.unesc r2.data.toList <;> simp
                              have HU2 := Lib.hid hU2
                              clear he hU2
                              go_wp2_with (at_builtin; go_loud (refine wpList_appB rfl _ _ rfl wo.heap.size _ _ rfl (hownb.alloc _) ⟨wr.heap.size, 0, none⟩ 1 1 [0] rfl rfl ?c1 ?c2 ?c3 ?_))
                              (case c1 => first | exact news_new wr [0] _ rfl | exact fun j u hu => hu)
                              (case c2 => omega)
                              (case c3 => exact Nat.le_trans hs1 (by simp))
                              intro v8 w8 hown8 hgrow8
                              have hB8 := (hB1.alloc hs1 (.cells #[.int .u8 0] 5)).grown hgrow8 (Nat.le_trans hs1 (by simp)) hownb.ge
                              have hv8 : VAt w8 wo.heap.size ⟨kk, 0, ⟨#[]⟩⟩ := (hgrow8.block wo.heap.size (by simp; omega) (hownb.not_v hv)).trans ((Lib.alloc_old _ _ _ hv.lt).trans hv)
                              have hl8 : (bs ++ [0]).length = bs.length + 1 := by simp
                              clear hgrow8 hownb hv hB1
                              go_wp2
                              go_roundw
                              (case rel => exact ⟨r2, bs ++ [0], false, rfl, rfl, hown8, by omega, hv8, hB8, hv8.lt, by rw [if_neg (by decide)]; exact HU2⟩)
                              (case measure => show r2.size < q1.size; omega)
                            · have hspec : sp = none := HNO.out (by
                                have n1 : ¬ e = 0 := fun h => he0 (by rw [HM2.out, h]; rfl)
                                have n2 : ¬ e = 255 := fun h => he255 (by rw [HM2.out, h]; rfl)
                                rw [HDV.out, HU.out, HQ2.out, Esc.unesc, if_pos rfl, if_neg n1, if_neg n2]
                                rfl)
                              subst hspec
                              have g4 : ((m2 : Int) == 0) = false := beq_eq_false_iff_ne.2 (by omega)
                              have g5 : ((m2 : Int) == 255) = false := beq_eq_false_iff_ne.2 (by omega)
                              have g6 : ¬ (m2 : Int) = 0 := by omega
                              have g8 : ((m2 : Int) != 0) = true := by unfold bne; rw [g4]; rfl
                              have g9 : ((m2 : Int) != 255) = true := by unfold bne; rw [g5]; rfl
                              have g7 : ¬ (m2 : Int) = 255 := by omega
                              go_wp2
                              exact bodyPost_ret (v := .tuple #[.slice none 0 0, .bool false]) (by simp [results, Tryd.results23, go_sem]) rfl ⟨none, 0, [], false, rfl, ⟨fun h => absurd rfl h, fun a ha => by cases ha⟩, hBw, (fun h => by cases h), fun _ => ⟨rfl, rfl⟩⟩
                      · have hd0 : d ≠ 0 := fun h => hm0 (by rw [HM.out, h]; rfl)
                        have g4 : ((m : Int) == 0) = false := beq_eq_false_iff_ne.2 (by omega)
                        have g6 : ¬ (m : Int) = 0 := by omega
                        have hU2 : Esc.unesc q.data.toList = (Esc.unesc r1.data.toList).map fun p => ((bs ++ [d]) ++ p.1, p.2) := by
                          rw [HU.out, HQ1.out, Esc.unesc_cons d _ hd0]
                          cases Esc.unesc r1.data.toList <;> simp
                        have HU2 := Lib.hid hU2
                        clear hU2 hd0
                        go_wp2_with (at_builtin; go_loud (refine wpList_appB rfl _ _ rfl wo.heap.size _ _ rfl (hownb.alloc _) ⟨wr.heap.size, 0, none⟩ 1 1 [d] rfl rfl ?c1 ?c2 ?c3 ?_))
                        (case c1 => exact news_new wr [d] _ (by rw [HM.out]; rfl))
                        (case c2 => omega)
                        (case c3 => exact Nat.le_trans hs1 (by simp))
                        intro v8 w8 hown8 hgrow8
                        have hB8 := (hB1.alloc hs1 (.cells #[.int .u8 m] 5)).grown hgrow8 (Nat.le_trans hs1 (by simp)) hownb.ge
                        have hv8 : VAt w8 wo.heap.size ⟨kk, 0, ⟨#[]⟩⟩ := (hgrow8.block wo.heap.size (by simp; omega) (hownb.not_v hv)).trans ((Lib.alloc_old _ _ _ hv.lt).trans hv)
                        have hl8 : (bs ++ [d]).length = bs.length + 1 := by simp
                        clear hgrow8 hownb hv hB1
                        go_wp2
                        go_roundw
                        (case rel => exact ⟨r1, bs ++ [d], false, rfl, rfl, hown8, by omega, hv8, hB8, hv8.lt, by rw [if_neg (by decide)]; exact HU2⟩)
                        (case measure => show r1.size < q1.size; omega)
                  · rw [if_pos rfl] at HU
                    have hst := brow_string hownb
                    have hf2 := hv.free 2
                    obtain ⟨v0, v1, v2⟩ := hv.cells
                    have hdec : decV 9223372036854775808 Esc.unesc kk q.data.toList = some (⟨kk, 0, ⟨bs.toArray⟩⟩, q1.data.toList) := by
                      rw [HDV.out, HU.out]
                      rfl
                    have HDE := Lib.hid hdec
                    clear hdec
                    dsimp only at v0 v1 v2
                    go_wp2_with (fail)
                    go_meet
                    (case rel => exact ⟨q1, ⟨kk, 0, ⟨bs.toArray⟩⟩, rfl, hv.setS ⟨bs.toArray⟩, HDE, by omega, hB1.setCell (p := ⟨wo.heap.size, 2, none⟩) (Nat.le_refl _) _, by simpa [World.setCell] using hl1⟩)))
            · have hdec : decV 9223372036854775808 Esc.unesc kk q.data.toList = some (⟨kk, 0, ⟨#[]⟩⟩, q.data.toList) := by
                unfold decV
                rw [if_neg (by omega), if_neg (by omega), if_neg (by omega)]
              have HDE := Lib.hid hdec
              have g3 : ¬ kk = 3 := fun h => hn34 (.inl h)
              have g4 : ¬ kk = 4 := fun h => hn34 (.inr h)
              have b1 : (kk == 1) = false := by simp; omega
              have b2 : (kk == 2) = false := by simp; omega
              have b3 : (kk == 3) = false := by simp; omega
              have b4 : (kk == 4) = false := by simp; omega
              clear hdec hn34 hn1 hn2 g3 g4
              go_wp2_with (fail)
              go_meet
              case rel => exact ⟨q, ⟨kk, 0, ⟨#[]⟩⟩, rfl, hvx, HDE, Nat.le_refl _, hBx, hlx⟩
      case rest =>
        obtain ⟨q2, x, rfl, hv, HDE, hq2z, hBc, hlc⟩ := hcut
        have hown2 : wc.ownsRow w.heap.size 23 3 u4 acc.length (vcells acc) := World.ownsRow.kept (row := none) hown (grow_below hBc _) (by
          cases h : u4.ownBlock with
          | none => exact .inl rfl
          | some k => exact .inr (by simp))
        have hB2 : Below w.heap.size w wc := hB.trans (hBc.mono hBs)
        have hs2 := hB2.size
        have hDE : decV 9223372036854775808 Esc.unesc ((b.toNat : Int) - 1) q.data.toList = some (x, q2.data.toList) := by rw [← HN.out]; exact HDE.out
        have HDE2 := Lib.hid hDE
        clear hDE hown hB hBc hix hq2
        obtain ⟨v0, v1, v2⟩ := hv.cells
        go_wp2_with (at_builtin; go_loud (refine wpList_append_own _ rfl _ _ 27 rfl w.heap.size 23 i0 (.agg #[.int .i64 0, .int .i64 0, .string ⟨#[]⟩]) 3 32 Tryd.underlying27 hi0 hz0 hz1 hz2 rfl (by decide) _ _ _ rfl (hown2.alloc _) ⟨wc.heap.size, 0, none⟩ 1 1 [.int .i64 x.k, .int .i64 x.n, .string x.s] rfl rfl ?c1 ?c2 ?c3 ?c4 ?c5 ?_))
        case c1 => exact World.news_of_block (cs := #[.int .i64 x.k, .int .i64 x.n, .string x.s]) (t := 23) (fr := (0, 0)) (heap_alloc_new wc _)
        case c2 => simp [Value.oneCell']
        case c3 => unfold maxLen; omega
        case c4 => omega
        case c5 => exact Nat.le_trans hs2 (by simp)
        intro v' w6 hown6 hgrow _
        have hB6 : Below w.heap.size w w6 := (hB2.alloc hs2 _).grown hgrow (Nat.le_trans hs2 (by simp)) (fun k hk => (hown2.lt k hk).1)
        have e : vcells (acc ++ [x]) = vcells acc ++ [.int .i64 x.k, .int .i64 x.n, .string x.s] := vcells_snoc acc x
        have hlen6 : (acc ++ [x]).length = acc.length + 1 := by simp
        rw [← e] at hown6
        clear e
        obtain ⟨o6, c6, hv6, hsl6⟩ := own_sl hown6 hlen6.symm
        have htu := rtuple_any (acc ++ [x]) c6 o6 w6 hsl6 (by omega)
        rw [hlen6] at htu hv6
        subst hv6
        have HW := Lib.hid hlen6
        obtain ⟨tb, htb⟩ : ∃ t, t = tuple (acc ++ [x]) := ⟨_, rfl⟩
        rw [← htb] at htu
        have HTB := Lib.hid htb
        clear htb hlen6 hgrow hown2 v0 v1 v2 hsl6
        go_wp2_with (fail)
        go_at_call 36
        refine htu.mono ?_
        rintro e w7 ⟨rfl, hb7⟩
        have hB7 := hB6.trans (hb7.mono hB6.size)
        have hown7 : w7.ownsRow w.heap.size 23 3 (.slice o6 (acc.length + 1) c6) (acc.length + 1) (vcells (acc ++ [x])) := World.ownsRow.kept (row := none) hown6 (grow_below hb7 _) (by
          cases h : (Value.slice o6 (acc.length + 1) c6).ownBlock with
          | none => exact .inl rfl
          | some k => exact .inr (by simp))
        clear htu hown6 hb7
        cases tb
        · have hspec : sp = none := by rw [HSP.out]; exact vals_bad2 HD.out HC.out (by rw [hcl]; exact hk) HDE2.out HT.out HTB.out.symm
          subst hspec
          clear hown7
          go_wp2
          exact bodyPost_ret (v := .tuple #[.slice none 0 0, .bool false]) (by simp [results, Tryd.results23, go_sem]) rfl ⟨none, 0, [], false, rfl, ⟨fun h => absurd rfl h, fun a ha => by cases ha⟩, hB7, (fun h => by cases h), fun _ => ⟨rfl, rfl⟩⟩
        · have htl := tuple_last HTB.out.symm
          have hD2 := vals_more HD.out HC.out (by rw [hcl]; exact hk) HDE2.out htl.1
          have HD2 := Lib.hid hD2
          clear hD2
          go_wp2
          go_roundw
          case rel =>
            exact ⟨q2, acc ++ [x], k - 1, rfl, by rw [HW.out]; exact hown7, by rw [HW.out]; omega, Lib.hid HTB.out.symm, by omega, by omega, HD2, hB7⟩
          case measure => show q2.size < cur.size; omega
end Go.Proofs.YtgfjfpghjjknlaaDoor
