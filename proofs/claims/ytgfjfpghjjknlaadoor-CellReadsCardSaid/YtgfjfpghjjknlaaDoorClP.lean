/-
  The walk of the reference's Write. (Printed by genclp.py.)
-/
import Derived.Test.YtgfjfpghjjknlaaDoorClO
namespace Go.Proofs.YtgfjfpghjjknlaaDoor
open Go.RowKit Cl
set_option maxRecDepth 100000
set_option linter.unusedVariables false
set_option linter.unusedSimpArgs false
theorem BRow.lt {w : World} {B : Nat} {v : Value} {bs : List UInt8} (h : BRow w B v bs) : ∀ k, v.ownBlock = some k → k < w.heap.size := fun k hk => (World.ownsRow.lt h k hk).2
theorem slice_map_length : ∀ (v : V), v.s.data.toList.length = v.s.size := fun _ => rfl
set_option maxHeartbeats 8000000 in
theorem rwrite_any (l : List V) (c : Nat) (o : Option Addr) (w : World) (h : Sl w o l) (hl : l.length ≤ 140737488351232) (hn : ∀ v ∈ l, In64 v.n) :
    Calls Tryd.prog 17 #[.slice o l.length c] w fun e w' => e = .returned (.tuple #[.string (if tuple l then ⟨(writeB l).toArray⟩ else ⟨#[]⟩), .bool (tuple l)]) ∧ Below w.heap.size w w' := by
  obtain ⟨tb, htb⟩ : ∃ b, b = tuple l := ⟨_, rfl⟩
  have ht := rtuple_any l c o w h hl
  rw [← htb]
  rw [← htb] at ht
  cases tb
  · clear htb hn hl h
    go_enter Tryd.func17, Tryd.ntmps17
    go_wp2_with (fail)
    go_at_call 36
    refine ht.mono ?_
    rintro e w1 ⟨rfl, hb1⟩
    go_wp2
    exact bodyPost_ret (v := .tuple #[.string ⟨#[]⟩, .bool false]) (by simp [results, Tryd.results17, go_sem]) rfl ⟨rfl, hb1⟩
  · have hT : tuple l = true := htb.symm
    clear htb
    have hT2 : l.length ≤ 64 ∧ l.all right = true := by unfold tuple at hT; simpa using hT
    have hlen : l.length ≤ 64 := hT2.1
    have HR := Lib.hid hT2.2
    have HN := Lib.hid hn
    clear hT hT2 hn
    rw [if_pos rfl]
    go_enter Tryd.func17, Tryd.ntmps17
    go_wp2_with (fail)
    go_at_call 36
    refine ht.mono ?_
    rintro e w1 ⟨rfl, hB1⟩
    have hsl1 := h.below hB1
    clear ht h
    go_wp2
    go_loopw [4, 5] (fun v j wr => ∃ i : Nat, i ≤ l.length ∧ j = .int .i64 i ∧ BRow wr w1.heap.size v (tupW 0 0 W0 (l.take i)) ∧ Below w1.heap.size w1 wr)
      (fun _ j _ => l.length - (intOf j).toNat)
    case atStart => exact ⟨0, by omega, rfl, BRow.nil _ _, Below.refl _ _⟩
    case round =>
      obtain ⟨i, hi, rfl, hown, hB⟩ := hrel
      have hsz := hB.size
      by_cases hil : i < l.length
      · obtain ⟨a, rfl⟩ := hsl1.1 (by intro e; rw [e] at hil; exact absurd hil (by simp))
        obtain ⟨x, hx⟩ : ∃ x, l[i]? = some x := ⟨l[i], List.getElem?_eq_getElem hil⟩
        obtain ⟨c0, c1, c2⟩ := ((hsl1.2 a rfl).below hB (hsl1.2 a rfl).1).2 i x hx
        have i16 : (i : Int) < l.length := by omega
        have i17 : IntKind.i64.wrap ((i : Int) + 1) = (i : Int) + 1 := i64_wrap_in _ (by omega) (by omega)
        have hrx : right x = true := List.all_eq_true.1 HR.out x (List.mem_of_getElem? hx)
        have hnx : In64 x.n := HN.out x (List.mem_of_getElem? hx)
        have hk04 : 0 ≤ x.k ∧ x.k ≤ 4 := by
          have h := hrx
          unfold right at h
          by_cases h0 : x.k = 0
          · omega
          · rw [if_neg h0] at h
            by_cases h1 : x.k = 1
            · omega
            · rw [if_neg h1] at h
              by_cases h2 : x.k = 2
              · omega
              · rw [if_neg h2] at h
                by_cases h3 : x.k = 3 ∨ x.k = 4
                · omega
                · rw [if_neg h3] at h; cases h
        have hA := tupW_length (fk := 0) (turn := 0) (W := W0) (fun l => by rw [W0_length]; omega) (l.take i) (by
          rw [List.all_eq_true]
          intro v hv
          exact List.all_eq_true.1 HR.out v (List.mem_of_mem_take hv))
        have hA2 : (tupW 0 0 W0 (l.take i)).length ≤ 128640 := by
          have : (l.take i).length ≤ 64 := by rw [List.length_take]; omega
          omega
        have hsn := tup_snoc (fk := 0) (turn := 0) (W := W0) hx
        obtain ⟨A, hAe⟩ : ∃ A, A = tupW 0 0 W0 (l.take i) := ⟨_, rfl⟩
        rw [← hAe] at hown hA2 hsn
        obtain ⟨kb, hkb⟩ : ∃ kb : UInt8, kb = UInt8.ofNat (x.k + 0).toNat := ⟨_, rfl⟩
        have hkw : IntKind.u8.wrap (x.k) = (kb.toNat : Int) := by rw [hkb, IntKind.wrap_u8, ofNat_toNat]; omega
        have hvw : valW 0 0 W0 x = kb :: (if x.k = 1 then bytes8 (turned 0 (Go.Proofs.YtgfjfpghjjknlaaDoor.u64 x.n)) else if x.k = 2 then [UInt8.ofNat x.n.toNat] else if x.k = 3 ∨ x.k = 4 then W0 x.s.data.toList else []) := by rw [hkb]; rfl
        rw [hvw] at hsn
        have HS := Lib.hid (And.intro hsn (And.intro hrx (And.intro hnx hk04)))
        clear hsn hvw hAe hA hkb hx hrx hnx hk04
        have hvx : VAt (wr.alloc (.cells #[.int .i64 x.k, .int .i64 x.n, .string x.s] 23)) wr.heap.size x := heap_alloc_new wr _
        obtain ⟨x0, x1, x2⟩ := hvx.cells
        go_wp2_with (at_builtin; go_loud (refine wpList_appB rfl _ _ rfl w1.heap.size _ _ rfl ((hown.alloc _).alloc _) ⟨wr.heap.size + 1, 0, none⟩ 1 1 [kb] rfl rfl ?c1 ?c2 ?c3 ?_))
        case c1 => have := news_new (wr.alloc (.cells #[.int .i64 x.k, .int .i64 x.n, .string x.s] 23)) [kb] #[.int .u8 kb.toNat] rfl; simpa using this
        case c2 => omega
        case c3 => exact Nat.le_trans hsz (by simp; omega)
        intro v5 w5 hown5 hgrow5
        have hB5 : Below w1.heap.size w1 w5 := ((hB.alloc hsz (.cells #[.int .i64 x.k, .int .i64 x.n, .string x.s] 23)).alloc (Nat.le_trans hsz (by simp)) (.cells #[.int .u8 kb.toNat] 5)).grown hgrow5 (Nat.le_trans hsz (by simp; omega)) hown.ge
        have hv5 : VAt w5 wr.heap.size x := (hgrow5.block wr.heap.size (by simp; omega) (fun e => by have := hown.lt _ e.symm; omega)).trans ((Lib.alloc_old _ _ _ (by simp)).trans hvx)
        have hne5 : some wr.heap.size ≠ v5.ownBlock := by
          intro e
          rcases hown5.2 with ⟨rfl, h0⟩ | ⟨g, cap, cur, rfl, _, hg, _⟩
          · cases e
          · simp only [Value.ownBlock, Option.some.injEq] at e
            rw [← e, hv5] at hg
            simp at hg
        have hs5 := hB5.size
        clear hgrow5 hown hvx x0 x1 x2 hB c0 c1 c2 hkw
        obtain ⟨x0, x1, x2⟩ := hv5.cells
        by_cases hk1 : x.k = 1
        · have hu : IntKind.u64.wrap x.n = ((turned 0 (Go.Proofs.YtgfjfpghjjknlaaDoor.u64 x.n) : Nat) : Int) := by rw [IntKind.wrap_u64]; unfold turned Go.Proofs.YtgfjfpghjjknlaaDoor.u64; omega
          have hX : turned 0 (Go.Proofs.YtgfjfpghjjknlaaDoor.u64 x.n) < 18446744073709551616 := turned_lt _ _
          obtain ⟨X, hXe⟩ : ∃ X, X = turned 0 (Go.Proofs.YtgfjfpghjjknlaaDoor.u64 x.n) := ⟨_, rfl⟩
          rw [← hXe] at hu hX
          have HX := Lib.hid hXe
          clear hXe
          go_wp2_with (fail)
          go_at_call 37
          refine (eight_any X hX w5).mono ?_
          rintro e w6 ⟨⟨v6, rfl, hown6⟩, hb6⟩
          have hl8 := bytes8_length X
          obtain ⟨g, cg, rfl, hge, hlt, hnews⟩ := hown6.slice (by intro e; rw [e] at hl8; cases hl8)
          rw [hl8]
          have hB6 := hB5.trans (hb6.mono hs5)
          have hown65 := hown5.below hb6
          have hl5 : (A ++ [kb]).length = A.length + 1 := by simp
          clear hown5 hown6
          go_wp2_with (at_builtin; go_loud (refine wpList_appB rfl _ _ rfl w1.heap.size _ _ rfl hown65 ⟨g, 0, none⟩ 8 cg (bytes8 X) rfl hl8 hnews ?c1 ?c2 ?_))
          case c1 => omega
          case c2 => exact hB6.size
          intro v7 w7 hown7 hgrow7
          have hB7 := hB6.grown hgrow7 hB6.size hown65.ge
          clear hnews hgrow7 hown65
          go_wp2
          go_roundw
          case rel =>
            refine ⟨i + 1, hil, by go_num, ?_, hB7⟩
            rw [HS.out.1, if_pos hk1, ← HX.out]
            simpa using hown7
          case measure => simp [intOf]; omega
        · by_cases hk2 : x.k = 2
          · obtain ⟨y, hy⟩ : ∃ y : UInt8, y = UInt8.ofNat x.n.toNat := ⟨_, rfl⟩
            have hn2 : x.n = 0 ∨ x.n = 1 := by
              have h := HS.out.2.1
              unfold right at h
              rw [if_neg (by omega), if_neg hk1, if_pos hk2] at h
              simp at h
              exact h.1
            have hnw : IntKind.u8.wrap x.n = (y.toNat : Int) := by rw [IntKind.wrap_u8, hy, ofNat_toNat]; omega
            have HY := Lib.hid hy
            have hl5 : (A ++ [kb]).length = A.length + 1 := by simp
            clear hy hn2
            go_wp2_with (at_builtin; go_loud (refine wpList_appB rfl _ _ rfl w1.heap.size _ _ rfl (hown5.alloc _) ⟨w5.heap.size, 0, none⟩ 1 1 [y] rfl rfl ?c1 ?c2 ?c3 ?_))
            case c1 => exact news_new w5 [y] _ rfl
            case c2 => omega
            case c3 => exact Nat.le_trans hs5 (by simp)
            intro v7 w7 hown7 hgrow7
            have hB7 := (hB5.alloc hs5 (.cells #[.int .u8 y.toNat] 5)).grown hgrow7 (Nat.le_trans hs5 (by simp)) hown5.ge
            clear hgrow7 hown5
            go_wp2
            go_roundw
            case rel =>
              refine ⟨i + 1, hil, by go_num, ?_, hB7⟩
              rw [HS.out.1, if_neg hk1, if_pos hk2, ← HY.out]
              simpa using hown7
            case measure => simp [intOf]; omega
          · by_cases hk34 : x.k = 3 ∨ x.k = 4
            · have hs1000 : x.s.size ≤ 1000 := by
                have h := HS.out.2.1
                unfold right at h
                rw [if_neg (by omega), if_neg hk1, if_neg hk2, if_pos hk34] at h
                simp at h
                exact h.2
              have hsl : x.s.data.toList.length = x.s.size := rfl
              have HK := Lib.hid hk34
              have hl5 : (A ++ [kb]).length = A.length + 1 := by simp
              have q1 : Int.tdiv (x.s.size : Int) 256 = (x.s.size : Int) / 256 := Int.tdiv_eq_ediv_of_nonneg (by omega)
              have q2 : Int.tmod (x.s.size : Int) 256 = (x.s.size : Int) % 256 := Int.tmod_eq_emod_of_nonneg (by omega)
              obtain ⟨y1, hy1⟩ : ∃ y : UInt8, y = UInt8.ofNat (x.s.size / 256) := ⟨_, rfl⟩
              obtain ⟨y2, hy2⟩ : ∃ y : UInt8, y = UInt8.ofNat (x.s.size % 256) := ⟨_, rfl⟩
              have q3 : IntKind.i64.wrap ((x.s.size : Int) / 256) = (x.s.size : Int) / 256 := i64_wrap_in _ (by omega) (by omega)
              have q4 : IntKind.i64.wrap ((x.s.size : Int) % 256) = (x.s.size : Int) % 256 := i64_wrap_in _ (by omega) (by omega)
              have q5 : IntKind.u8.wrap ((x.s.size : Int) / 256) = (y1.toNat : Int) := by rw [IntKind.wrap_u8, hy1, ofNat_toNat]; omega
              have q6 : IntKind.u8.wrap ((x.s.size : Int) % 256) = (y2.toNat : Int) := by rw [IntKind.wrap_u8, hy2, ofNat_toNat]; omega
              have HY := Lib.hid (And.intro hy1 hy2)
              clear hy1 hy2
              rcases hk34 with hk3 | hk3
              all_goals (
                go_wp2_with (at_builtin; go_loud (refine wpList_appB rfl _ _ rfl w1.heap.size _ _ rfl (hown5.alloc _) ⟨w5.heap.size, 0, none⟩ 2 2 [y1, y2] rfl rfl ?c1 ?c2 ?c3 ?_))
                (case c1 => exact news_new w5 [y1, y2] _ rfl)
                (case c2 => omega)
                (case c3 => exact Nat.le_trans hs5 (by simp))
                intro v7 w7 hown7 hgrow7
                have hB7 := (hB5.alloc hs5 (.cells #[.int .u8 y1.toNat, .int .u8 y2.toNat] 5)).grown hgrow7 (Nat.le_trans hs5 (by simp)) hown5.ge
                have hv7 : VAt w7 wr.heap.size x := (hgrow7.block wr.heap.size (by have := hv5.lt; simp; omega) hne5).trans ((Lib.alloc_old _ _ _ hv5.lt).trans hv5)
                have hs7 := hB7.size
                have hl7 : (A ++ [kb] ++ [y1, y2]).length = A.length + 3 := by simp
                clear hgrow7 x0 x1 x2
                obtain ⟨x0, x1, x2⟩ := hv7.cells
                go_wp2_with (at_builtin; go_loud (refine wpList_appS rfl _ _ rfl w1.heap.size _ _ rfl hown7 x.s rfl ?d1 ?d2 ?_))
                (case d1 => simp only [List.length_append, List.length_cons, List.length_nil] at hl7 ⊢; omega)
                (case d2 => exact hs7)
                intro v8 w8 hown8 hgrow8
                have hB8 := hB7.grown hgrow8 hs7 hown7.ge
                clear hgrow8 hown7 hown5
                go_wp2
                go_roundw
                (case rel =>
                  refine ⟨i + 1, hil, by go_num, ?_, hB8⟩
                  rw [HS.out.1, if_neg hk1, if_neg hk2, if_pos HK.out]
                  unfold W0
                  rw [hsl, ← HY.out.1, ← HY.out.2]
                  simpa using hown8)
                (case measure => simp [intOf]; omega))
            · have hk0 : x.k = 0 := by have := HS.out.2.2.2; omega
              have HK := Lib.hid hk34
              have hown7 := hown5
              have hB7 := hB5
              clear hk34
              go_wp2
              go_roundw
              case rel =>
                refine ⟨i + 1, hil, by go_num, ?_, hB7⟩
                rw [HS.out.1, if_neg hk1, if_neg hk2, if_neg HK.out]
                simpa using hown7
              case measure => simp [intOf]; omega
      · obtain rfl : i = l.length := by omega
        rw [List.take_length] at hown
        have hst := brow_string hown
        go_wp2
        exact bodyPost_ret (v := .tuple #[.string ⟨(tupW 0 0 W0 l).toArray⟩, .bool true]) (by simp [results, Tryd.results17, go_sem]) rfl ⟨rfl, hB1.trans (hB.mono hB1.size)⟩
end Go.Proofs.YtgfjfpghjjknlaaDoor
