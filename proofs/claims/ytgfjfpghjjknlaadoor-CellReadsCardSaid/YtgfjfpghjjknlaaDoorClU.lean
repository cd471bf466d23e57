/-
  The walk of the reference's Read.
-/
import Derived.Test.YtgfjfpghjjknlaaDoorClT
import Derived.Test.YtgfjfpghjjknlaaDoorClO
import Derived.Test.YtgfjfpghjjknlaaDoorClR
import Derived.Deep.CutRange
import Derived.Deep.CutBlock
namespace Go.Proofs.YtgfjfpghjjknlaaDoor
open Go.RowKit Cl
set_option maxRecDepth 100000
set_option linter.unusedVariables false
set_option linter.unusedSimpArgs false
set_option maxHeartbeats 8000000 in
theorem rread_any (s : ByteArray) (w : World) (hs : s.size ≤ 1000000000) :
    Calls Tryd.prog 22 #[.string s] w fun e w' => ValsOut (vals 0 0 plainU s.data.toList) w e w' := by
  obtain ⟨i0, hi0, hz0, hz1, hz2⟩ := info_parts (P := Tryd.prog) (e := 23) (z := .agg #[.int .i64 0, .int .i64 0, .string ⟨#[]⟩]) (size := 3) (bytes := 32) (by kernel_rfl)
  obtain ⟨sp, hsp⟩ : ∃ sp, sp = vals 0 0 plainU s.data.toList := ⟨_, rfl⟩
  rw [← hsp]
  have HSP := Lib.hid hsp
  clear hsp
  have hl0 : s.data.toList.length = s.size := rfl
  go_enter Tryd.func22, Tryd.ntmps22
  go_wp2
  go_loopw [0, 4] (fun z v wr => ∃ (cur : ByteArray) (acc : List V) (k : Nat), z = .string cur ∧ wr.ownsRow w.heap.size 23 3 v acc.length (vcells acc) ∧ acc.length ≤ 64 ∧ Hid (tuple acc = true) ∧ cur.size ≤ k ∧ cur.size ≤ s.size ∧
      Hid (decF 0 0 plainU s.data.toList.length s.data.toList = (decF 0 0 plainU k cur.data.toList).map fun vs => acc ++ vs) ∧ Below w.heap.size w wr)
    (fun z _ _ => strSize z)
  case atStart =>
    refine ⟨s, [], s.size, rfl, ⟨rfl, .inl ⟨rfl, rfl⟩⟩, by simp, Lib.hid rfl, Nat.le_refl _, Nat.le_refl _, Lib.hid ?_, Below.refl _ _⟩
    rw [hl0]
    cases decF 0 0 plainU s.size s.data.toList <;> simp
  case round =>
    obtain ⟨cur, acc, k, rfl, hown, hlen, HT, hk, hcs, HD, hB⟩ := hrel
    have hBs := hB.size
    have hcl : cur.data.toList.length = cur.size := rfl
    by_cases hc0 : cur.size = 0
    · have hspec : sp = some acc := by rw [HSP.out]; exact vals_done HD.out (List.eq_nil_of_length_eq_zero hc0) hlen
      subst hspec
      obtain ⟨o, c, hv, hsl⟩ := own_sl hown rfl
      subst hv
      have hc1 : ¬ (cur.size : Int) > 0 := by omega
      clear hown
      go_wp2
      exact bodyPost_ret (v := .tuple #[.slice o acc.length c, .bool true]) (by simp [results, Tryd.results22, go_sem]) rfl ⟨o, c, acc, true, rfl, hsl, hB, fun _ => rfl, fun h => by cases h⟩
    · obtain ⟨b, q, hcq, hq, hqz, hb⟩ := str_first cur (by omega)
      have hix := fun w => index_first (P := Tryd.prog) (t := 9) rfl cur b (by omega) hb w
      have hc1 : (cur.size : Int) > 0 := by omega
      have hq2 := hq.symm
      clear hb hq
      have HC := Lib.hid hcq
      clear hcq
      obtain ⟨n, hn⟩ : ∃ n : Nat, n = b.toNat := ⟨_, rfl⟩
      have hn256 : n < 256 := by have := b.toNat_lt; omega
      have hnw : IntKind.i64.wrap (n : Int) = (n : Int) := i64_wrap_in _ (by omega) (by omega)
      rw [← hn] at hix
      have HN := Lib.hid hn
      clear hn
      go_upto_block 2 with fail
      go_cut [0] from 6 to 76 (fun z wx => ∃ (q2 : ByteArray) (x : V), z = .string q2 ∧ VAt wx wr.heap.size x ∧ Hid (decV 0 plainU (n : Int) q.data.toList = some (x, q2.data.toList)) ∧ q2.size ≤ q.size ∧ Below wr.heap.size wr wx ∧ wr.heap.size < wx.heap.size)
      case first =>
        have hvx : VAt (wr.alloc (.cells #[.int .i64 (n : Int), .int .i64 0, .string ⟨#[]⟩] 23)) wr.heap.size ⟨(n : Int), 0, ⟨#[]⟩⟩ := heap_alloc_new wr _
        have hBx : Below wr.heap.size wr (wr.alloc (.cells #[.int .i64 (n : Int), .int .i64 0, .string ⟨#[]⟩] 23)) := (Below.refl _ _).alloc (Nat.le_refl _) _
        have hlx : wr.heap.size < (wr.alloc (.cells #[.int .i64 (n : Int), .int .i64 0, .string ⟨#[]⟩] 23)).heap.size := by simp
        have hno : decV 0 plainU (n : Int) q.data.toList = none → sp = none := fun h => by rw [HSP.out]; exact vals_bad HD.out HC.out (by rw [Int.sub_zero, ← HN.out]; exact h)
        have HNO := Lib.hid hno
        clear hno hown
        have hql : q.data.toList.length = q.size := rfl
        have hB2 : Below w.heap.size w (wr.alloc (.cells #[.int .i64 (n : Int), .int .i64 0, .string ⟨#[]⟩] 23)) := hB.alloc hBs _
        clear hlen hk hix hnw
        generalize hwa : wr.alloc (.cells #[.int .i64 (n : Int), .int .i64 0, .string ⟨#[]⟩] 23) = wa at hvx hBx hlx hB2 ⊢
        clear hwa
        have hf1 := hvx.free 1
        have hf2 := hvx.free 2
        obtain ⟨v0, v1, v2⟩ := hvx.cells
        dsimp only at v0 v1 v2
        by_cases hn0 : n = 0
        · subst hn0
          go_wp2_with (fail)
          go_meet
          case rel => exact ⟨q, ⟨0, 0, ⟨#[]⟩⟩, rfl, hvx, Lib.hid rfl, Nat.le_refl _, hBx, hlx⟩
        · by_cases hn1 : n = 1
          · subst hn1
            by_cases h8 : (q.size : Int) < 8
            · have hspec : sp = none := HNO.out (by unfold decV; rw [if_pos (by decide), if_pos (by omega)])
              subst hspec
              go_wp2
              exact bodyPost_ret (v := .tuple #[.slice none 0 0, .bool false]) (by simp [results, Tryd.results22, go_sem]) rfl ⟨none, 0, [], false, rfl, ⟨fun h => absurd rfl h, fun a ha => by cases ha⟩, hB2, (fun h => by cases h), fun _ => ⟨rfl, rfl⟩⟩
            · have hnum := fun w => rnumber_any q w (by omega) (by omega)
              obtain ⟨X, hX⟩ : ∃ X : Nat, X = num (q.data.toList.take 8) := ⟨_, rfl⟩
              have hXl : X < 18446744073709551616 := by rw [hX]; exact num_lt _
              rw [← hX] at hnum
              obtain ⟨N, hN⟩ : ∃ N : Int, IntKind.i64.wrap (X : Int) = N := ⟨_, rfl⟩
              obtain ⟨r, hr⟩ : ∃ r : ByteArray, q.extract 8 q.size = r := ⟨_, rfl⟩
              have hdec : decV 0 plainU ((1 : Nat) : Int) q.data.toList = some (⟨1, N, ⟨#[]⟩⟩, r.data.toList) := by
                unfold decV
                rw [if_pos (by decide), if_neg (by omega), ← hX, ← hr, Lib.extract_to_end, ← hN]
                have : turned 0 X = X := by unfold turned; omega
                rw [this]
              have hrz : r.size ≤ q.size := by rw [← hr]; simp
              have HDE := Lib.hid hdec
              clear hX hdec
              go_wp2_with (fail)
              go_at_call 39
              refine (hnum _).mono ?_
              rintro e w5 ⟨rfl, rfl⟩
              go_wp2_with (fail)
              go_meet
              case rel => exact ⟨r, ⟨1, N, ⟨#[]⟩⟩, rfl, hvx.setN N, HDE, hrz, hBx.setCell (p := ⟨wr.heap.size, 1, none⟩) (Nat.le_refl _) _, by simpa [World.setCell] using hlx⟩
          · by_cases hn2 : n = 2
            · subst hn2
              by_cases h8 : (q.size : Int) < 1
              · have hspec : sp = none := HNO.out (by unfold decV; rw [if_neg (by decide), if_pos (by decide), if_pos (by omega)])
                subst hspec
                go_wp2
                exact bodyPost_ret (v := .tuple #[.slice none 0 0, .bool false]) (by simp [results, Tryd.results22, go_sem]) rfl ⟨none, 0, [], false, rfl, ⟨fun h => absurd rfl h, fun a ha => by cases ha⟩, hB2, (fun h => by cases h), fun _ => ⟨rfl, rfl⟩⟩
              · obtain ⟨d, r, hqd, hr, hrz, hd⟩ := str_first q (by omega)
                have hix2 := fun w => index_first (P := Tryd.prog) (t := 9) rfl q d (by omega) hd w
                have hr2 := hr.symm
                have hd256 := d.toNat_lt
                have hdw : IntKind.i64.wrap (d.toNat : Int) = (d.toNat : Int) := i64_wrap_in _ (by omega) (by omega)
                have hdec : decV 0 plainU ((2 : Nat) : Int) q.data.toList = some (⟨2, (d.toNat : Int), ⟨#[]⟩⟩, r.data.toList) := by
                  unfold decV
                  rw [if_neg (by decide), if_pos (by decide), if_neg (by omega), hqd]
                  show some ((⟨2, ((num [d] : Nat) : Int), ⟨#[]⟩⟩ : V), r.data.toList) = _
                  rw [num1]
                have HDE := Lib.hid hdec
                clear hqd hr hd hdec
                go_wp2_with (fail)
                go_meet
                case rel => exact ⟨r, ⟨2, (d.toNat : Int), ⟨#[]⟩⟩, rfl, hvx.setN (d.toNat : Int), HDE, by omega, hBx.setCell (p := ⟨wr.heap.size, 1, none⟩) (Nat.le_refl _) _, by simpa [World.setCell] using hlx⟩
            · by_cases hn34 : n = 3 ∨ n = 4
              · have H34 := Lib.hid hn34
                by_cases h2 : (q.size : Int) < 2
                · have hspec : sp = none := HNO.out (by
                    unfold decV
                    rw [if_neg (by omega), if_neg (by omega), if_pos (by omega)]
                    unfold plainU
                    rw [if_pos (by omega)]
                    rfl)
                  subst hspec
                  rcases hn34 with rfl | rfl
                  all_goals (
                    go_wp2
                    exact bodyPost_ret (v := .tuple #[.slice none 0 0, .bool false]) (by simp [results, Tryd.results22, go_sem]) rfl ⟨none, 0, [], false, rfl, ⟨fun h => absurd rfl h, fun a ha => by cases ha⟩, hB2, (fun h => by cases h), fun _ => ⟨rfl, rfl⟩⟩)
                · obtain ⟨d, r1, hqd, hr1, hrz1, hd⟩ := str_first q (by omega)
                  obtain ⟨e, r2, hqe, hr2, hrz2, he⟩ := str_first r1 (by omega)
                  have hq2' : q.data.toList = d :: e :: r2.data.toList := by rw [hqd, hqe]
                  have hix0 := fun w => index_first (P := Tryd.prog) (t := 9) rfl q d (by omega) hd w
                  have hix1 : ∀ w : World, (Instr.index 9 (.string q) (.int .i64 1)).run Tryd.prog w = .ok (.int .u8 (e.toNat : Int)) w := fun w => by
                    have h1 : 1 < q.size := by omega
                    rw [run_index_byteAt (P := Tryd.prog) (t := 9) rfl q 1 1 rfl h1 w]
                    unfold byteAt
                    rw [dif_pos h1]
                    have e2 : q.data.toList[1]? = some e := by rw [hq2']; rfl
                    have e3 : q[1]'h1 = e := (List.getElem?_eq_some_iff.1 e2).2
                    rw [e3]
                  have hd256 := d.toNat_lt
                  have he256 := e.toNat_lt
                  obtain ⟨L, hL⟩ : ∃ L : Nat, L = d.toNat * 256 + e.toNat := ⟨_, rfl⟩
                  have m0 : IntKind.i64.wrap (d.toNat : Int) = (d.toNat : Int) := i64_wrap_in _ (by omega) (by omega)
                  have m1 : IntKind.i64.wrap (e.toNat : Int) = (e.toNat : Int) := i64_wrap_in _ (by omega) (by omega)
                  have m2 : IntKind.i64.wrap ((d.toNat : Int) * 256) = (d.toNat : Int) * 256 := i64_wrap_in _ (by omega) (by omega)
                  have m3 : IntKind.i64.wrap ((d.toNat : Int) * 256 + (e.toNat : Int)) = (L : Int) := by rw [hL]; rw [i64_wrap_in _ (by omega) (by omega)]; omega
                  have m4 : IntKind.i64.wrap (2 + (L : Int)) = ((2 + L : Nat) : Int) := by rw [i64_wrap_in _ (by omega) (by omega)]; omega
                  have hnum : num (q.data.toList.take 2) = L := by
                    rw [hq2', hL]
                    exact num_two d e
                  have hdl : (q.data.toList.drop 2).length + 2 = q.size := by rw [List.length_drop]; omega
                  have hpu : decV 0 plainU (n : Int) q.data.toList = if (q.data.toList.drop 2).length < L then none else some (⟨(n : Int), 0, ⟨((q.data.toList.drop 2).take L).toArray⟩⟩, (q.data.toList.drop 2).drop L) := by
                    unfold decV
                    rw [if_neg (by omega), if_neg (by omega), if_pos (by omega)]
                    unfold plainU
                    rw [if_neg (by omega), hnum]
                    split <;> rfl
                  clear hqd hr1 hd hqe hr2 he hrz1 hrz2 hnum
                  by_cases hshort : q.size < 2 + L
                  · have hspec : sp = none := HNO.out (by rw [hpu, if_pos (by omega)])
                    subst hspec
                    have hsi : (q.size : Int) < ((2 + L : Nat) : Int) := by omega
                    clear hpu hdl hq2' hL
                    rcases hn34 with rfl | rfl
                    all_goals (
                      go_wp2
                      go_region
                      all_goals (
                        go_wp2
                        exact bodyPost_ret (v := .tuple #[.slice none 0 0, .bool false]) (by simp [results, Tryd.results22, go_sem]) rfl ⟨none, 0, [], false, rfl, ⟨fun h => absurd rfl h, fun a ha => by cases ha⟩, by first | exact hB2.drew | exact below_drewN hB2 _, (fun h => by cases h), fun _ => ⟨rfl, rfl⟩⟩))
                  · have hsi : ¬ (q.size : Int) < ((2 + L : Nat) : Int) := by omega
                    obtain ⟨t, ht⟩ : ∃ t : ByteArray, t = q.extract 2 (2 + L) := ⟨_, rfl⟩
                    obtain ⟨r, hr⟩ : ∃ r : ByteArray, r = q.extract (2 + L) q.size := ⟨_, rfl⟩
                    have hdec : decV 0 plainU (n : Int) q.data.toList = some (⟨(n : Int), 0, t⟩, r.data.toList) := by
                      rw [hpu, if_neg (by omega)]
                      have e1 : (⟨((q.data.toList.drop 2).take L).toArray⟩ : ByteArray) = t := by
                        refine ByteArray.ext (Array.ext' ?_)
                        rw [ht, Lib.extract_data, show 2 + L - 2 = L by omega]
                      have e2 : (q.data.toList.drop 2).drop L = r.data.toList := by rw [hr, Lib.extract_to_end, List.drop_drop]
                      rw [e1, e2]
                    have hrz : r.size ≤ q.size := by rw [hr]; simp
                    have hs1 : ∀ w : World, (Instr.slice 9 (.string q) (some (.int .i64 2)) (some (.int .i64 ((2 + L : Nat) : Int))) none).run Tryd.prog w = .ok (.string t) w := fun w => by
                      have h := run_slice_string (P := Tryd.prog) w 9 q .i64 .i64 2 ((2 + L : Nat) : Int) Tryd.underlying9 (by omega) (by omega) (by omega)
                      rw [h, ht]
                      rfl
                    have hs2 : ∀ w : World, (Instr.slice 9 (.string q) (some (.int .i64 ((2 + L : Nat) : Int))) none none).run Tryd.prog w = .ok (.string r) w := fun w => by
                      have hle : ((2 + L : Nat) : Int) ≤ q.size := by omega
                      have hge : (0 : Int) ≤ ((2 + L : Nat) : Int) := by omega
                      have h := run_slice_string_l (P := Tryd.prog) (w := w) (t := 9) q Tryd.underlying9 .i64 ((2 + L : Nat) : Int) hge hle
                      rw [hr]
                      exact h
                    have HDE := Lib.hid hdec
                    clear hpu hdl hq2' hL ht hr hdec hshort
                    obtain ⟨L2, hL2⟩ : ∃ x : Nat, x = 2 + L := ⟨_, rfl⟩
                    rw [← hL2] at m4 hsi hs1 hs2
                    clear hL2
                    rcases hn34 with rfl | rfl
                    all_goals (
                      go_wp2
                      go_region
                      all_goals (
                        go_wp2_with (fail)
                        go_meet
                        (case rel => exact ⟨r, ⟨_, 0, t⟩, rfl, (show VAt wa.drew wr.heap.size _ from hvx).setS t, HDE, hrz, hBx.drew.setCell (p := ⟨wr.heap.size, 2, none⟩) (Nat.le_refl _) _, by simpa [World.setCell] using hlx⟩)))
              · have hdec : decV 0 plainU (n : Int) q.data.toList = some (⟨(n : Int), 0, ⟨#[]⟩⟩, q.data.toList) := by
                  unfold decV
                  rw [if_neg (by omega), if_neg (by omega), if_neg (by omega)]
                have HDE := Lib.hid hdec
                have g3 : ¬ n = 3 := fun h => hn34 (.inl h)
                have g4 : ¬ n = 4 := fun h => hn34 (.inr h)
                have b0 : ((n : Int) == 0) = false := by simp; omega
                have b1 : ((n : Int) == 1) = false := by simp; omega
                have b2 : ((n : Int) == 2) = false := by simp; omega
                have b3 : ((n : Int) == 3) = false := by simp; omega
                have b4 : ((n : Int) == 4) = false := by simp; omega
                clear hdec hn34 hn0 hn1 hn2 g3 g4
                go_wp2_with (fail)
                go_meet
                case rel => exact ⟨q, ⟨(n : Int), 0, ⟨#[]⟩⟩, rfl, hvx, HDE, Nat.le_refl _, hBx, hlx⟩
      case rest =>
        obtain ⟨q2, x, rfl, hv, HDE, hq2z, hBc, hlc⟩ := hcut
        have hown2 : wc.ownsRow w.heap.size 23 3 u4 acc.length (vcells acc) := World.ownsRow.kept (row := none) hown (grow_below hBc _) (by
          cases h : u4.ownBlock with
          | none => exact .inl rfl
          | some k => exact .inr (by simp))
        have hB2 : Below w.heap.size w wc := hB.trans (hBc.mono hBs)
        have hs2 := hB2.size
        have hDE : decV 0 plainU ((b.toNat : Int) - 0) q.data.toList = some (x, q2.data.toList) := by rw [Int.sub_zero, ← HN.out]; exact HDE.out
        have HDE2 := Lib.hid hDE
        clear hDE hown hB hBc hix hq2
        obtain ⟨v0, v1, v2⟩ := hv.cells
        go_wp2_with (at_builtin; go_loud (refine wpList_append_own _ rfl _ _ 27 rfl w.heap.size 23 i0 (.agg #[.int .i64 0, .int .i64 0, .string ⟨#[]⟩]) 3 32 Tryd.underlying27 hi0 hz0 hz1 hz2 rfl (by decide) _ _ _ rfl (hown2.alloc _) ⟨wc.heap.size, 0, none⟩ 1 1 [.int .i64 x.k, .int .i64 x.n, .string x.s] rfl rfl ?c1 ?c2 ?c3 ?c4 ?c5 ?_))
        case c1 => exact World.news_of_block (cs := #[.int .i64 x.k, .int .i64 x.n, .string x.s]) (t := 23) (fr := (0, 0)) (heap_alloc_new wc _)
        case c2 => simp [Value.oneCell']
        case c3 => unfold maxLen; omega
        case c4 => omega
        case c5 => exact Nat.le_trans hs2 (by simp)
        intro v' w6 hown6 hgrow _
        have hB6 : Below w.heap.size w w6 := (hB2.alloc hs2 _).grown hgrow (Nat.le_trans hs2 (by simp)) (fun k hk => (hown2.lt k hk).1)
        have e : vcells (acc ++ [x]) = vcells acc ++ [.int .i64 x.k, .int .i64 x.n, .string x.s] := vcells_snoc acc x
        have hlen6 : (acc ++ [x]).length = acc.length + 1 := by simp
        rw [← e] at hown6
        clear e
        obtain ⟨o6, c6, hv6, hsl6⟩ := own_sl hown6 hlen6.symm
        have htu := rtuple_any (acc ++ [x]) c6 o6 w6 hsl6 (by omega)
        rw [hlen6] at htu hv6
        subst hv6
        have HW := Lib.hid hlen6
        obtain ⟨tb, htb⟩ : ∃ t, t = tuple (acc ++ [x]) := ⟨_, rfl⟩
        rw [← htb] at htu
        have HTB := Lib.hid htb
        clear htb hlen6 hgrow hown2 v0 v1 v2 hsl6
        go_wp2_with (fail)
        go_at_call 36
        refine htu.mono ?_
        rintro e w7 ⟨rfl, hb7⟩
        have hB7 := hB6.trans (hb7.mono hB6.size)
        have hown7 : w7.ownsRow w.heap.size 23 3 (.slice o6 (acc.length + 1) c6) (acc.length + 1) (vcells (acc ++ [x])) := World.ownsRow.kept (row := none) hown6 (grow_below hb7 _) (by
          cases h : (Value.slice o6 (acc.length + 1) c6).ownBlock with
          | none => exact .inl rfl
          | some k => exact .inr (by simp))
        clear htu hown6 hb7
        cases tb
        · have hspec : sp = none := by rw [HSP.out]; exact vals_bad2 HD.out HC.out (by rw [hcl]; exact hk) HDE2.out HT.out HTB.out.symm
          subst hspec
          clear hown7
          go_wp2
          exact bodyPost_ret (v := .tuple #[.slice none 0 0, .bool false]) (by simp [results, Tryd.results22, go_sem]) rfl ⟨none, 0, [], false, rfl, ⟨fun h => absurd rfl h, fun a ha => by cases ha⟩, hB7, (fun h => by cases h), fun _ => ⟨rfl, rfl⟩⟩
        · have htl := tuple_last HTB.out.symm
          have hD2 := vals_more HD.out HC.out (by rw [hcl]; exact hk) HDE2.out htl.1
          have HD2 := Lib.hid hD2
          clear hD2
          go_wp2
          go_roundw
          case rel =>
            exact ⟨q2, acc ++ [x], k - 1, rfl, by rw [HW.out]; exact hown7, by rw [HW.out]; omega, Lib.hid HTB.out.symm, by omega, by omega, HD2, hB7⟩
          case measure => show q2.size < cur.size; omega
end Go.Proofs.YtgfjfpghjjknlaaDoor
