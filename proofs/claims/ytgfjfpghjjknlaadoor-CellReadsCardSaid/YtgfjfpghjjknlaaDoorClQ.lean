/-
  The walk of the reference's Key. (Printed by genclp.py.)
-/
import Derived.Test.YtgfjfpghjjknlaaDoorClP
namespace Go.Proofs.YtgfjfpghjjknlaaDoor
open Go.RowKit Cl
set_option maxRecDepth 100000
set_option linter.unusedVariables false
set_option linter.unusedSimpArgs false
theorem esc_snoc (l : List UInt8) (b : UInt8) : Esc.esc (l ++ [b]) = Esc.esc l ++ (if b = 0 then [0, 255] else [b]) := by unfold Esc.esc; rw [List.flatMap_append]; simp
theorem BRow.not_v {w : World} {B g : Nat} {v : Value} {bs : List UInt8} {x : V} (h : BRow w B v bs) (hv : VAt w g x) : some g ≠ v.ownBlock := by
  intro e
  rcases h.2 with ⟨rfl, h0⟩ | ⟨g', cap, cur, rfl, _, hg, _⟩
  · cases e
  · simp only [Value.ownBlock, Option.some.injEq] at e
    rw [← e, hv] at hg
    simp at hg
set_option maxHeartbeats 8000000 in
theorem rkey_any (l : List V) (c : Nat) (o : Option Addr) (w : World) (h : Sl w o l) (hl : l.length ≤ 140737488351232) (hn : ∀ v ∈ l, In64 v.n) :
    Calls Tryd.prog 18 #[.slice o l.length c] w fun e w' => e = .returned (.tuple #[.string (if tuple l then ⟨(keyB l).toArray⟩ else ⟨#[]⟩), .bool (tuple l)]) ∧ Below w.heap.size w w' := by
  obtain ⟨tb, htb⟩ : ∃ b, b = tuple l := ⟨_, rfl⟩
  have ht := rtuple_any l c o w h hl
  rw [← htb]
  rw [← htb] at ht
  cases tb
  · clear htb hn hl h
    go_enter Tryd.func18, Tryd.ntmps18
    go_wp2_with (fail)
    go_at_call 36
    refine ht.mono ?_
    rintro e w1 ⟨rfl, hb1⟩
    go_wp2
    exact bodyPost_ret (v := .tuple #[.string ⟨#[]⟩, .bool false]) (by simp [results, Tryd.results18, go_sem]) rfl ⟨rfl, hb1⟩
  · have hT : tuple l = true := htb.symm
    clear htb
    have hT2 : l.length ≤ 64 ∧ l.all right = true := by unfold tuple at hT; simpa using hT
    have hlen : l.length ≤ 64 := hT2.1
    have HR := Lib.hid hT2.2
    have HN := Lib.hid hn
    clear hT hT2 hn
    rw [if_pos rfl]
    go_enter Tryd.func18, Tryd.ntmps18
    go_wp2_with (fail)
    go_at_call 36
    refine ht.mono ?_
    rintro e w1 ⟨rfl, hB1⟩
    have hsl1 := h.below hB1
    clear ht h
    go_wp2
    go_loopw [4, 5] (fun v j wr => ∃ i : Nat, i ≤ l.length ∧ j = .int .i64 i ∧ BRow wr w1.heap.size v (tupW 1 9223372036854775808 W1 (l.take i)) ∧ Below w1.heap.size w1 wr)
      (fun _ j _ => l.length - (intOf j).toNat)
    case atStart => exact ⟨0, by omega, rfl, BRow.nil _ _, Below.refl _ _⟩
    case round =>
      obtain ⟨i, hi, rfl, hown, hB⟩ := hrel
      have hsz := hB.size
      by_cases hil : i < l.length
      · obtain ⟨a, rfl⟩ := hsl1.1 (by intro e; rw [e] at hil; exact absurd hil (by simp))
        obtain ⟨x, hx⟩ : ∃ x, l[i]? = some x := ⟨l[i], List.getElem?_eq_getElem hil⟩
        obtain ⟨c0, c1, c2⟩ := ((hsl1.2 a rfl).below hB (hsl1.2 a rfl).1).2 i x hx
        have i16 : (i : Int) < l.length := by omega
        have i17 : IntKind.i64.wrap ((i : Int) + 1) = (i : Int) + 1 := i64_wrap_in _ (by omega) (by omega)
        have hrx : right x = true := List.all_eq_true.1 HR.out x (List.mem_of_getElem? hx)
        have hnx : In64 x.n := HN.out x (List.mem_of_getElem? hx)
        have hk04 : 0 ≤ x.k ∧ x.k ≤ 4 := by
          have h := hrx
          unfold right at h
          by_cases h0 : x.k = 0
          · omega
          · rw [if_neg h0] at h
            by_cases h1 : x.k = 1
            · omega
            · rw [if_neg h1] at h
              by_cases h2 : x.k = 2
              · omega
              · rw [if_neg h2] at h
                by_cases h3 : x.k = 3 ∨ x.k = 4
                · omega
                · rw [if_neg h3] at h; cases h
        have hA := tupW_length (fk := 1) (turn := 9223372036854775808) (W := W1) esc_W1 (l.take i) (by
          rw [List.all_eq_true]
          intro v hv
          exact List.all_eq_true.1 HR.out v (List.mem_of_mem_take hv))
        have hA2 : (tupW 1 9223372036854775808 W1 (l.take i)).length ≤ 128640 := by
          have : (l.take i).length ≤ 64 := by rw [List.length_take]; omega
          omega
        have hsn := tup_snoc (fk := 1) (turn := 9223372036854775808) (W := W1) hx
        obtain ⟨A, hAe⟩ : ∃ A, A = tupW 1 9223372036854775808 W1 (l.take i) := ⟨_, rfl⟩
        rw [← hAe] at hown hA2 hsn
        obtain ⟨kb, hkb⟩ : ∃ kb : UInt8, kb = UInt8.ofNat (x.k + 1).toNat := ⟨_, rfl⟩
        have hkw : IntKind.u8.wrap (x.k + 1) = (kb.toNat : Int) := by rw [hkb, IntKind.wrap_u8, ofNat_toNat]; omega
        have hkw1 : IntKind.i64.wrap (x.k + 1) = x.k + 1 := i64_wrap_in _ (by omega) (by omega)
        have hvw : valW 1 9223372036854775808 W1 x = kb :: (if x.k = 1 then bytes8 (turned 9223372036854775808 (Go.Proofs.YtgfjfpghjjknlaaDoor.u64 x.n)) else if x.k = 2 then [UInt8.ofNat x.n.toNat] else if x.k = 3 ∨ x.k = 4 then W1 x.s.data.toList else []) := by rw [hkb]; rfl
        rw [hvw] at hsn
        have HS := Lib.hid (And.intro hsn (And.intro hrx (And.intro hnx hk04)))
        clear hsn hvw hAe hA hkb hx hrx hnx hk04
        have hvx : VAt (wr.alloc (.cells #[.int .i64 x.k, .int .i64 x.n, .string x.s] 23)) wr.heap.size x := heap_alloc_new wr _
        obtain ⟨x0, x1, x2⟩ := hvx.cells
        go_wp2_with (at_builtin; go_loud (refine wpList_appB rfl _ _ rfl w1.heap.size _ _ rfl ((hown.alloc _).alloc _) ⟨wr.heap.size + 1, 0, none⟩ 1 1 [kb] rfl rfl ?c1 ?c2 ?c3 ?_))
        case c1 => have := news_new (wr.alloc (.cells #[.int .i64 x.k, .int .i64 x.n, .string x.s] 23)) [kb] #[.int .u8 kb.toNat] rfl; simpa using this
        case c2 => omega
        case c3 => exact Nat.le_trans hsz (by simp; omega)
        intro v5 w5 hown5 hgrow5
        have hB5 : Below w1.heap.size w1 w5 := ((hB.alloc hsz (.cells #[.int .i64 x.k, .int .i64 x.n, .string x.s] 23)).alloc (Nat.le_trans hsz (by simp)) (.cells #[.int .u8 kb.toNat] 5)).grown hgrow5 (Nat.le_trans hsz (by simp; omega)) hown.ge
        have hv5 : VAt w5 wr.heap.size x := (hgrow5.block wr.heap.size (by simp; omega) (fun e => by have := hown.lt _ e.symm; omega)).trans ((Lib.alloc_old _ _ _ (by simp)).trans hvx)
        have hne5 : some wr.heap.size ≠ v5.ownBlock := by
          intro e
          rcases hown5.2 with ⟨rfl, h0⟩ | ⟨g, cap, cur, rfl, _, hg, _⟩
          · cases e
          · simp only [Value.ownBlock, Option.some.injEq] at e
            rw [← e, hv5] at hg
            simp at hg
        have hs5 := hB5.size
        clear hgrow5 hown hvx x0 x1 x2 hB c0 c1 c2 hkw hkw1
        obtain ⟨x0, x1, x2⟩ := hv5.cells
        by_cases hk1 : x.k = 1
        · have hu : Go.bits .xor .u64 (IntKind.u64.wrap x.n) 9223372036854775808 = ((turned 9223372036854775808 (Go.Proofs.YtgfjfpghjjknlaaDoor.u64 x.n) : Nat) : Int) := bits_turn x.n 9223372036854775808 (by decide)
          have hX : turned 9223372036854775808 (Go.Proofs.YtgfjfpghjjknlaaDoor.u64 x.n) < 18446744073709551616 := turned_lt _ _
          obtain ⟨X, hXe⟩ : ∃ X, X = turned 9223372036854775808 (Go.Proofs.YtgfjfpghjjknlaaDoor.u64 x.n) := ⟨_, rfl⟩
          rw [← hXe] at hu hX
          have HX := Lib.hid hXe
          clear hXe
          go_wp2_with (fail)
          go_at_call 37
          refine (eight_any X hX w5).mono ?_
          rintro e w6 ⟨⟨v6, rfl, hown6⟩, hb6⟩
          have hl8 := bytes8_length X
          obtain ⟨g, cg, rfl, hge, hlt, hnews⟩ := hown6.slice (by intro e; rw [e] at hl8; cases hl8)
          rw [hl8]
          have hB6 := hB5.trans (hb6.mono hs5)
          have hown65 := hown5.below hb6
          have hl5 : (A ++ [kb]).length = A.length + 1 := by simp
          clear hown5 hown6
          go_wp2_with (at_builtin; go_loud (refine wpList_appB rfl _ _ rfl w1.heap.size _ _ rfl hown65 ⟨g, 0, none⟩ 8 cg (bytes8 X) rfl hl8 hnews ?c1 ?c2 ?_))
          case c1 => omega
          case c2 => exact hB6.size
          intro v7 w7 hown7 hgrow7
          have hB7 := hB6.grown hgrow7 hB6.size hown65.ge
          clear hnews hgrow7 hown65
          go_wp2
          go_roundw
          case rel =>
            refine ⟨i + 1, hil, by go_num, ?_, hB7⟩
            rw [HS.out.1, if_pos hk1, ← HX.out]
            simpa using hown7
          case measure => simp [intOf]; omega
        · by_cases hk2 : x.k = 2
          · obtain ⟨y, hy⟩ : ∃ y : UInt8, y = UInt8.ofNat x.n.toNat := ⟨_, rfl⟩
            have hn2 : x.n = 0 ∨ x.n = 1 := by
              have h := HS.out.2.1
              unfold right at h
              rw [if_neg (by omega), if_neg hk1, if_pos hk2] at h
              simp at h
              exact h.1
            have hnw : IntKind.u8.wrap x.n = (y.toNat : Int) := by rw [IntKind.wrap_u8, hy, ofNat_toNat]; omega
            have HY := Lib.hid hy
            have hl5 : (A ++ [kb]).length = A.length + 1 := by simp
            clear hy hn2
            go_wp2_with (at_builtin; go_loud (refine wpList_appB rfl _ _ rfl w1.heap.size _ _ rfl (hown5.alloc _) ⟨w5.heap.size, 0, none⟩ 1 1 [y] rfl rfl ?c1 ?c2 ?c3 ?_))
            case c1 => exact news_new w5 [y] _ rfl
            case c2 => omega
            case c3 => exact Nat.le_trans hs5 (by simp)
            intro v7 w7 hown7 hgrow7
            have hB7 := (hB5.alloc hs5 (.cells #[.int .u8 y.toNat] 5)).grown hgrow7 (Nat.le_trans hs5 (by simp)) hown5.ge
            clear hgrow7 hown5
            go_wp2
            go_roundw
            case rel =>
              refine ⟨i + 1, hil, by go_num, ?_, hB7⟩
              rw [HS.out.1, if_neg hk1, if_pos hk2, ← HY.out]
              simpa using hown7
            case measure => simp [intOf]; omega
          · by_cases hk34 : x.k = 3 ∨ x.k = 4
            · have hs1000 : x.s.size ≤ 1000 := by
                have h := HS.out.2.1
                unfold right at h
                rw [if_neg (by omega), if_neg hk1, if_neg hk2, if_pos hk34] at h
                simp at h
                exact h.2
              have hsl : x.s.data.toList.length = x.s.size := rfl
              have HK := Lib.hid hk34
              have hl5 : (A ++ [kb]).length = A.length + 1 := by simp
              have hE := Esc.esc_length x.s.data.toList
              rcases hk34 with hk3 | hk3
              all_goals (
                go_wp2
                obtain ⟨wo, hwo⟩ : ∃ wo : World, wo = w5 := ⟨_, rfl⟩
                rw [← hwo]
                rw [← hwo] at hv5 hB5 hs5 hown5
                obtain ⟨bx, hbx⟩ : ∃ b : Nat, b = wr.heap.size := ⟨_, rfl⟩
                rw [← hbx] at hv5
                rw [← hbx]
                clear hwo hbx x0 x1 x2 hk3
                go_loopw [4, 7] (fun v j wi => ∃ k : Nat, k ≤ x.s.size ∧ j = .int .i64 k ∧ BRow wi w1.heap.size v (A ++ [kb] ++ Esc.esc (x.s.data.toList.take k)) ∧ VAt wi bx x ∧ Below w1.heap.size w1 wi)
                  (fun _ j _ => x.s.size - (intOf j).toNat)
                (case atStart => exact ⟨0, by omega, rfl, by simpa [Esc.esc] using hown5, hv5, hB5⟩)
                (case round =>
                  obtain ⟨k, hk, rfl, hown, hv, hB⟩ := hrel
                  have hsz := hB.size
                  obtain ⟨z0, z1, z2⟩ := hv.cells
                  have hEk : (Esc.esc (x.s.data.toList.take k)).length ≤ 2000 := by
                    have h1 := Esc.esc_length (x.s.data.toList.take k)
                    have h2 : (x.s.data.toList.take k).length ≤ 1000 := by rw [List.length_take]; omega
                    omega
                  have hlA : (A ++ [kb] ++ Esc.esc (x.s.data.toList.take k)).length ≤ 130650 := by simp only [List.length_append, List.length_cons, List.length_nil]; omega
                  by_cases hks : k < x.s.size
                  · obtain ⟨b, hb⟩ : ∃ b : UInt8, b = x.s[k] := ⟨_, rfl⟩
                    have hxv : byteAt x.s k = (b.toNat : Int) := by unfold byteAt; rw [dif_pos hks, hb]
                    have hix := fun w => run_index_byteAt (P := Tryd.prog) (t := 9) rfl x.s (k : Int) k rfl hks w
                    rw [hxv] at hix
                    have htk : Esc.esc (x.s.data.toList.take (k + 1)) = Esc.esc (x.s.data.toList.take k) ++ (if b = 0 then [0, 255] else [b]) := by
                      rw [List.take_succ_eq_append_getElem (by rw [hsl]; exact hks), esc_snoc]
                      rw [hb]; rfl
                    have k1 : IntKind.i64.wrap ((k : Int) + 1) = (k : Int) + 1 := i64_wrap_in _ (by omega) (by omega)
                    have k2 : (k : Int) < x.s.size := by omega
                    obtain ⟨E0, hE0⟩ : ∃ E0, E0 = A ++ [kb] ++ Esc.esc (x.s.data.toList.take k) := ⟨_, rfl⟩
                    have hE1 : A ++ [kb] ++ Esc.esc (x.s.data.toList.take (k + 1)) = E0 ++ (if b = 0 then [0, 255] else [b]) := by rw [htk, hE0]; simp only [List.append_assoc]
                    rw [← hE0] at hown hlA
                    have HE := Lib.hid hE1
                    clear hb hxv htk hE1 hE0
                    go_wp2_with (at_builtin; go_loud (refine wpList_appB rfl _ _ rfl w1.heap.size _ _ rfl (hown.alloc _) ⟨wr.heap.size, 0, none⟩ 1 1 [b] rfl rfl ?c1 ?c2 ?c3 ?_))
                    (case c1 => exact news_new wr [b] _ rfl)
                    (case c2 => omega)
                    (case c3 => exact Nat.le_trans hsz (by simp))
                    intro v8 w8 hown8 hgrow8
                    have hB8 := (hB.alloc hsz (.cells #[.int .u8 b.toNat] 5)).grown hgrow8 (Nat.le_trans hsz (by simp)) hown.ge
                    have hv8 : VAt w8 bx x := (hgrow8.block bx (by have := hv.lt; simp; omega) (hown.not_v hv)).trans ((Lib.alloc_old _ _ _ hv.lt).trans hv)
                    have hs8 := hB8.size
                    have hl8 : (E0 ++ [b]).length = E0.length + 1 := by simp
                    clear hgrow8 z0 z1 z2 hown hB hv
                    obtain ⟨z0, z1, z2⟩ := hv8.cells
                    by_cases hb0 : (b.toNat : Int) = 0
                    · have hbz : b = 0 := UInt8.toNat_inj.1 (by show b.toNat = 0; omega)
                      have HB := Lib.hid hbz
                      clear hbz
                      go_wp2_with (at_builtin; go_loud (refine wpList_appB rfl _ _ rfl w1.heap.size _ _ rfl (hown8.alloc _) ⟨w8.heap.size, 0, none⟩ 1 1 [255] rfl rfl ?c1 ?c2 ?c3 ?_))
                      (case c1 => exact news_new w8 [255] _ rfl)
                      (case c2 => omega)
                      (case c3 => exact Nat.le_trans hs8 (by simp))
                      intro v9 w9 hown9 hgrow9
                      have hB9 := (hB8.alloc hs8 (.cells #[.int .u8 255] 5)).grown hgrow9 (Nat.le_trans hs8 (by simp)) hown8.ge
                      have hv9 : VAt w9 bx x := (hgrow9.block bx (by have := hv8.lt; simp; omega) (hown8.not_v hv8)).trans ((Lib.alloc_old _ _ _ hv8.lt).trans hv8)
                      clear hgrow9 hown8
                      go_wp2
                      go_roundw
                      (case rel =>
                        refine ⟨k + 1, hks, by go_num, ?_, hv9, hB9⟩
                        rw [HE.out, if_pos HB.out]
                        rw [HB.out] at hown9
                        simpa using hown9)
                      (case measure => simp [intOf]; omega)
                    · have hbz : ¬ b = 0 := fun e => hb0 (by rw [e]; rfl)
                      have HB := Lib.hid hbz
                      clear hbz
                      go_wp2
                      go_roundw
                      (case rel =>
                        refine ⟨k + 1, hks, by go_num, ?_, hv8, hB8⟩
                        rw [HE.out, if_neg HB.out]
                        exact hown8)
                      (case measure => simp [intOf]; omega)
                  · obtain rfl : k = x.s.size := by omega
                    rw [List.take_of_length_le (show x.s.data.toList.length ≤ x.s.size from Nat.le_refl _)] at hown hlA
                    go_wp2_with (at_builtin; go_loud (refine wpList_appB rfl _ _ rfl w1.heap.size _ _ rfl (hown.alloc _) ⟨wr.heap.size, 0, none⟩ 2 2 [0, 0] rfl rfl ?c1 ?c2 ?c3 ?_))
                    (case c1 => exact news_new wr [0, 0] _ rfl)
                    (case c2 => omega)
                    (case c3 => exact Nat.le_trans hsz (by simp))
                    intro v8 w8 hown8 hgrow8
                    have hB8 := (hB.alloc hsz (.cells #[.int .u8 0, .int .u8 0] 5)).grown hgrow8 (Nat.le_trans hsz (by simp)) hown.ge
                    clear hgrow8 hown hB hv z0 z1 z2 hk
                    go_wp2
                    go_roundw
                    (case rel =>
                      refine ⟨i + 1, hil, by go_num, ?_, hB8⟩
                      rw [HS.out.1, if_neg hk1, if_neg hk2, if_pos HK.out]
                      unfold W1
                      simpa using hown8)
                    (case measure => simp [intOf]; omega)))
            · have hk0 : x.k = 0 := by have := HS.out.2.2.2; omega
              have HK := Lib.hid hk34
              have hown7 := hown5
              have hB7 := hB5
              clear hk34
              go_wp2
              go_roundw
              case rel =>
                refine ⟨i + 1, hil, by go_num, ?_, hB7⟩
                rw [HS.out.1, if_neg hk1, if_neg hk2, if_neg HK.out]
                simpa using hown7
              case measure => simp [intOf]; omega
      · obtain rfl : i = l.length := by omega
        rw [List.take_length] at hown
        have hst := brow_string hown
        go_wp2
        exact bodyPost_ret (v := .tuple #[.string ⟨(tupW 1 9223372036854775808 W1 l).toArray⟩, .bool true]) (by simp [results, Tryd.results18, go_sem]) rfl ⟨rfl, hB1.trans (hB.mono hB1.size)⟩
end Go.Proofs.YtgfjfpghjjknlaaDoor
