/-
  The walks of the reference's digit, Hex and Raw.
-/
import Derived.Test.YtkggemkaddkdfaaDoorDig1
import Derived.Deep.AppendLies
namespace Go.Proofs.YtkggemkaddkdfaaDoor
open Go.RowKit
set_option maxRecDepth 100000
set_option linter.unusedVariables false
set_option linter.unusedSimpArgs false
theorem rdigit_any (c : UInt8) (n : Int) (hn : n = (c.toNat : Int)) (w : World) :
    Calls Tryd.prog 15 #[.int .u8 n] w fun e w' => e = .returned (.int .i64 (Dg.dg c)) ∧ w' = w := by
  subst hn
  have hc := c.toNat_lt
  generalize HN : (c.toNat : Int) = n
  by_cases h1 : 48 ≤ n
  · by_cases h2 : n ≤ 57
    · have hd : Dg.dg c = n - 48 := by unfold Dg.dg; rw [if_pos (by omega)]; omega
      rw [hd]
      have e1 : IntKind.u8.wrap (n - 48) = n - 48 := by rw [IntKind.wrap_u8]; omega
      have e2 : IntKind.i64.wrap (n - 48) = n - 48 := i64_wrap_in _ (by omega) (by omega)
      clear HN
      go_enter Tryd.func15, Tryd.ntmps15
      go_wp2
      go_ret
      exact ⟨rfl, rfl⟩
    · by_cases h3 : 97 ≤ n
      · by_cases h4 : n ≤ 102
        · have hd : Dg.dg c = n - 97 + 10 := by unfold Dg.dg; rw [if_neg (by omega), if_pos (by omega)]; omega
          rw [hd]
          have e1 : IntKind.u8.wrap (n - 97) = n - 97 := by rw [IntKind.wrap_u8]; omega
          have e2 : IntKind.i64.wrap (n - 97) = n - 97 := i64_wrap_in _ (by omega) (by omega)
          have e3 : IntKind.i64.wrap (n - 97 + 10) = n - 97 + 10 := i64_wrap_in _ (by omega) (by omega)
          clear HN
          go_enter Tryd.func15, Tryd.ntmps15
          go_wp2
          go_ret
          exact ⟨rfl, rfl⟩
        · have hd : Dg.dg c = -1 := by unfold Dg.dg; rw [if_neg (by omega), if_neg (by omega)]
          rw [hd]
          clear HN
          go_enter Tryd.func15, Tryd.ntmps15
          go_wp2
          go_ret
          exact ⟨rfl, rfl⟩
      · have hd : Dg.dg c = -1 := by unfold Dg.dg; rw [if_neg (by omega), if_neg (by omega)]
        rw [hd]
        clear HN
        go_enter Tryd.func15, Tryd.ntmps15
        go_wp2
        go_ret
        exact ⟨rfl, rfl⟩
  · have hd : Dg.dg c = -1 := by unfold Dg.dg; rw [if_neg (by omega), if_neg (by omega)]
    rw [hd]
    clear HN
    go_enter Tryd.func15, Tryd.ntmps15
    go_wp2
    go_ret
    exact ⟨rfl, rfl⟩
theorem run_index_u8 {P : Program} {t : TypeId} (hu : P.underlying t = some .string) (b : ByteArray) (x : Int) (i : Nat) (hx : x = i) (h : i < b.size) (w : World) :
    (Instr.index t (.string b) (.int .u8 x)).run P w = .ok (.int .u8 (Sha.byteAt b i)) w := by
  subst hx
  simp [run_index_string (P := P) w t b .u8 i hu, Sha.byteAt, h]
theorem digit_at (n : Nat) (h : n < 16) : Sha.byteAt hexDigits n = ((Hx.d n).toNat : Int) := by
  have : ∀ n : Fin 16, Sha.byteAt hexDigits n.1 = ((Hx.d n.1).toNat : Int) := by decide
  exact this ⟨n, h⟩
theorem str_nums (l : List UInt8) : strOfNums (l.map fun b => (b.toNat : Int)) = ⟨l.toArray⟩ := by
  unfold strOfNums
  congr 1
  congr 1
  rw [List.map_map]
  have : ((fun n : Int => UInt8.ofNat n.toNat) ∘ fun b : UInt8 => (b.toNat : Int)) = id := by
    funext b
    simp
  rw [this, List.map_id]
set_option maxHeartbeats 4000000 in
theorem rhex_any (s : ByteArray) (w : World) (hs : s.size ≤ 70368744177663) :
    Calls Tryd.prog 8 #[.string s] w fun e w' => e = .returned (.string (Hx.str s)) ∧ Below w.heap.size w w' := by
  obtain ⟨i0, hi0, hz0, hz1, hz2⟩ := info_parts (P := Tryd.prog) (e := 5) (z := .int .u8 0) (size := 1) (bytes := 1) (by kernel_rfl)
  go_enter Tryd.func8, Tryd.ntmps8
  go_wp2
  go_loopw [4, 5] (fun v j wr => ∃ i : Nat, i ≤ s.size ∧ j = .int .i64 i ∧ wr.ownsRow w.heap.size 5 1 v (2 * i) (((Hx.hex (s.data.toList.take i)).map fun b => (b.toNat : Int)).map (Value.int .u8)) ∧ Below w.heap.size w wr)
    (fun _ j _ => s.size - (intOf j).toNat)
  case atStart => exact ⟨0, by omega, rfl, ⟨rfl, .inl ⟨rfl, rfl⟩⟩, Below.refl _ _⟩
  case round =>
    obtain ⟨i, hi, rfl, hown, hB⟩ := hrel
    by_cases hil : i < s.size
    · obtain ⟨x, hx⟩ : ∃ x : UInt8, x = s[i] := ⟨_, rfl⟩
      have hxv : Sha.byteAt s i = (x.toNat : Int) := by unfold Sha.byteAt; rw [dif_pos hil, hx]
      have hix := fun w => run_index_byteAt (P := Tryd.prog) (t := 9) rfl s (i : Int) i rfl hil w
      rw [hxv] at hix
      have hx256 := x.toNat_lt
      have hts : s.data.toList.take (i + 1) = s.data.toList.take i ++ [x] := by
        rw [hx, List.take_succ_eq_append_getElem (by simpa using hil)]; rfl
      have HT := Lib.hid hts
      clear hts hxv hx
      have hn1 : x.toNat / 16 < 16 := by omega
      have hn2 : x.toNat % 16 < 16 := by omega
      have d1 := fun w => run_index_u8 (P := Tryd.prog) (t := 9) rfl hexDigits ((x.toNat : Int) / 16) (x.toNat / 16) (by omega) (by show _ < 16; omega) w
      have d2 := fun w => run_index_u8 (P := Tryd.prog) (t := 9) rfl hexDigits ((x.toNat : Int) % 16) (x.toNat % 16) (by omega) (by show _ < 16; omega) w
      rw [digit_at _ (by omega)] at d1 d2
      have q1 : Int.tdiv (x.toNat : Int) 16 = (x.toNat : Int) / 16 := Int.tdiv_eq_ediv_of_nonneg (by omega)
      have q2 : Int.tmod (x.toNat : Int) 16 = (x.toNat : Int) % 16 := Int.tmod_eq_emod_of_nonneg (by omega)
      have q3 : IntKind.u8.wrap ((x.toNat : Int) / 16) = (x.toNat : Int) / 16 := by rw [IntKind.wrap_u8]; omega
      have q4 : IntKind.u8.wrap ((x.toNat : Int) % 16) = (x.toNat : Int) % 16 := by rw [IntKind.wrap_u8]; omega
      have q5 : (x.toNat : Int) / 16 < 16 := by omega
      have q6 : (x.toNat : Int) % 16 < 16 := by omega
      have q7 : 0 ≤ (x.toNat : Int) / 16 := by omega
      have q8 : 0 ≤ (x.toNat : Int) % 16 := by omega
      have q9 : ((x.toNat : Int) / 16).toNat = x.toNat / 16 := by omega
      have q10 : ((x.toNat : Int) % 16).toNat = x.toNat % 16 := by omega
      unfold hexDigits at d1 d2
      have hBs := hB.size
      have i16 : (i : Int) < s.size := by omega
      generalize HL : ((Hx.hex (s.data.toList.take i)).map fun b => (b.toNat : Int)) = hl at hown
      replace HL := Lib.hid HL
      go_wp2
      go_region_held3 (fun _ => True) (exact trivial)
        (go_loud (refine step_append_lies _ (by rfl) _ _ _ (by rfl) w.heap.size 5 i0 _ 1 1 Tryd.underlying30 hi0 hz0 hz1 hz2 rfl (by omega) u4 (2 * i) _ (by rfl) ((hown.alloc _).drew) ⟨wr.heap.size, 0, none⟩ 2 2 [.int .u8 (Hx.d (x.toNat / 16)).toNat, .int .u8 (Hx.d (x.toNat % 16)).toNat] (by rfl) (by rfl) (World.news_of_block (cs := #[.int .u8 (Hx.d (x.toNat / 16)).toNat, .int .u8 (Hx.d (x.toNat % 16)).toNat]) (t := 5) (fr := (0, 0)) (heap_alloc_new wr _)) (by simp [Value.oneCell']) (by omega) (by unfold maxLen; omega) (by omega) (by simp; omega) (wr.heap.size + 1) (by simp) ?_; intro gg cap w1 hown1 hgrow hat hlt))
      all_goals (
        go_wp2
        go_roundw
        (case rel =>
          refine ⟨i + 1, by omega, by go_num, ?_, ((hB.alloc hB.size _).drew).grown hgrow (Nat.le_trans hB.size (by simp)) (fun k hk => (hown.lt k hk).1)⟩
          rw [show 2 * (i + 1) = 2 * i + 2 by omega, HT.out, Hx.hex_snoc]
          simp only [List.map_append, List.map_cons, List.map_nil]
          rw [HL.out]
          simpa using hown1)
        (case measure => simp [intOf]; omega))
    · obtain rfl : i = s.size := by omega
      have hall : s.data.toList.take s.size = s.data.toList := List.take_of_length_le (Nat.le_refl _)
      rw [hall] at hown
      have hst := ownsRow_string (P := Tryd.prog) (src := 30) (e := 5) (dst := 9) rfl rfl rfl hown
      have hfin : strOfNums ((Hx.hex s.data.toList).map fun b => (b.toNat : Int)) = Hx.str s := by
        exact str_nums _
      rw [hfin] at hst
      go_wp2
      go_ret
      exact ⟨rfl, hB⟩
theorem unhex_val (x y : UInt8) (hx : Dg.isD x = true) (hy : Dg.isD y = true) : IntKind.u8.wrap (Dg.dg x * 16 + Dg.dg y) = ((UInt8.ofNat (Dg.dg x * 16 + Dg.dg y).toNat).toNat : Int) := by
  have bx := Dg.dg_ge hx
  have ey := Dg.dg_ge hy
  rw [IntKind.wrap_u8]
  simp
  omega
theorem unhex_even_length : ∀ (n : Nat) (l : List UInt8), l.length = 2 * n → (Dg.unhex l).length = n := by
  intro n
  induction n with
  | zero => intro l h; rw [List.eq_nil_of_length_eq_zero h]; rfl
  | succ n ih =>
    intro l h
    match l, h with
    | a :: b :: r, h =>
      simp only [List.length_cons] at h
      simp only [Dg.unhex, List.length_cons]
      rw [ih r (by omega)]
set_option maxHeartbeats 4000000 in
theorem rraw_any (s : ByteArray) (w : World) (hs : s.size ≤ 70368744177663) :
    Calls Tryd.prog 7 #[.string s] w fun e w' => e = .returned (.tuple #[.string (Dg.raw s), .bool (Dg.good s.data.toList)]) ∧ Below w.heap.size w w' := by
  obtain ⟨i0, hi0, hz0, hz1, hz2⟩ := info_parts (P := Tryd.prog) (e := 5) (z := .int .u8 0) (size := 1) (bytes := 1) (by kernel_rfl)
  have hl : s.data.toList.length = s.size := rfl
  obtain ⟨g, hg⟩ : ∃ g, g = Dg.good s.data.toList := ⟨_, rfl⟩
  obtain ⟨r, hr⟩ : ∃ r, r = Dg.raw s := ⟨_, rfl⟩
  rw [← hg, ← hr]
  have HG := Lib.hid (And.intro hg hr)
  clear hg hr
  by_cases hp : s.size % 2 = 1
  · have h1 : Int.tmod (s.size : Int) 2 = 1 := by rw [Int.tmod_eq_emod_of_nonneg (by omega)]; omega
    have hgg : g = false := by rw [HG.out.1]; unfold Dg.good; rw [hl, hp]; rfl
    have hrr : r = ⟨#[]⟩ := by rw [HG.out.2]; unfold Dg.raw; rw [← HG.out.1, hgg]; rfl
    subst hgg hrr
    go_enter Tryd.func7, Tryd.ntmps7
    go_wp2
    exact bodyPost_ret (v := .tuple #[.string ⟨#[]⟩, .bool false]) (by simp [results, Tryd.results7, go_sem]) rfl ⟨rfl, Below.refl _ _⟩
  · have h1 : Int.tmod (s.size : Int) 2 = 0 := by rw [Int.tmod_eq_emod_of_nonneg (by omega)]; omega
    have HE := Lib.hid (show s.size % 2 = 0 by omega)
    clear hp
    go_enter Tryd.func7, Tryd.ntmps7
    go_wp2
    go_loopw [4, 5] (fun v j wr => ∃ i : Nat, i ≤ s.size ∧ j = .int .i64 i ∧ Hid (i % 2 = 0 ∧ (s.data.toList.take i).all Dg.isD = true) ∧ wr.ownsRow w.heap.size 5 1 v (i / 2) (((Dg.unhex (s.data.toList.take i)).map fun b => (b.toNat : Int)).map (Value.int .u8)) ∧ Below w.heap.size w wr)
      (fun _ j _ => s.size - (intOf j).toNat)
    case atStart => exact ⟨0, by omega, rfl, Lib.hid ⟨rfl, rfl⟩, ⟨rfl, .inl ⟨rfl, rfl⟩⟩, Below.refl _ _⟩
    case round =>
      obtain ⟨i, hi, rfl, HI, hown, hB⟩ := hrel
      have hBs := hB.size
      by_cases hil : i < s.size
      · have hil1 : i + 1 < s.size := by have := HI.out.1; have := HE.out; omega
        obtain ⟨x, hx⟩ : ∃ x : UInt8, x = s[i] := ⟨_, rfl⟩
        obtain ⟨y, hy⟩ : ∃ y : UInt8, y = s[i + 1] := ⟨_, rfl⟩
        have hxv : Sha.byteAt s i = (x.toNat : Int) := by unfold Sha.byteAt; rw [dif_pos hil, hx]
        have hyv : Sha.byteAt s (i + 1) = (y.toNat : Int) := by unfold Sha.byteAt; rw [dif_pos hil1, hy]
        have hix := fun w => run_index_byteAt (P := Tryd.prog) (t := 9) rfl s (i : Int) i rfl hil w
        have hiy := fun w => run_index_byteAt (P := Tryd.prog) (t := 9) rfl s ((i : Int) + 1) (i + 1) (by omega) hil1 w
        rw [hxv] at hix
        rw [hyv] at hiy
        have i1 : IntKind.i64.wrap ((i : Int) + 1) = (i : Int) + 1 := i64_wrap_in _ (by omega) (by omega)
        have i2 : IntKind.i64.wrap ((i : Int) + 2) = (i : Int) + 2 := i64_wrap_in _ (by omega) (by omega)
        have i16 : (i : Int) < s.size := by omega
        have i17 : (i : Int) + 1 < s.size := by omega
        have HX := Lib.hid (And.intro hx hy)
        clear hx hy hxv hyv
        have bad : ∀ (k : Nat) (hk : k < s.size), Dg.isD s[k] = false → g = false ∧ r = ⟨#[]⟩ := by
          intro k hk hd
          have e : g = false := by
            rw [HG.out.1]; unfold Dg.good
            have : s.data.toList.all Dg.isD = false := by
              rw [List.all_eq_false]
              exact ⟨s[k], by exact Array.mem_toList_iff.2 (Array.getElem_mem hk), by simpa using hd⟩
            rw [this]; simp
          exact ⟨e, by rw [HG.out.2]; unfold Dg.raw; rw [← HG.out.1, e]; rfl⟩
        by_cases hxd : Dg.isD x = true
        · by_cases hyd : Dg.isD y = true
          · have bx := Dg.dg_ge hxd
            have ey := Dg.dg_ge hyd
            have HD := Lib.hid (And.intro hxd hyd)
            obtain ⟨p, hpp⟩ : ∃ p, p = Dg.dg x := ⟨_, rfl⟩
            obtain ⟨q, hqq⟩ : ∃ q, q = Dg.dg y := ⟨_, rfl⟩
            rw [← hpp] at bx
            rw [← hqq] at ey
            have HP := Lib.hid (And.intro hpp hqq)
            have cx : ∀ w, Calls Tryd.prog 15 #[.int .u8 (x.toNat : Int)] w fun e w' => e = .returned (.int .i64 p) ∧ w = w' := fun w => by rw [hpp]; exact (rdigit_any x _ rfl w).mono fun e w' h => ⟨h.1, h.2.symm⟩
            have cy : ∀ w, Calls Tryd.prog 15 #[.int .u8 (y.toNat : Int)] w fun e w' => e = .returned (.int .i64 q) ∧ w = w' := fun w => by rw [hqq]; exact (rdigit_any y _ rfl w).mono fun e w' h => ⟨h.1, h.2.symm⟩
            clear hpp hqq hxd hyd bad
            have np : ¬ p < 0 := by omega
            have nq : ¬ q < 0 := by omega
            have m1 : IntKind.i64.wrap (p * 16) = p * 16 := i64_wrap_in _ (by omega) (by omega)
            have m2 : IntKind.i64.wrap (p * 16 + q) = p * 16 + q := i64_wrap_in _ (by omega) (by omega)
            obtain ⟨b, hb⟩ : ∃ b : UInt8, b = UInt8.ofNat (p * 16 + q).toNat := ⟨_, rfl⟩
            have m3 : IntKind.u8.wrap (p * 16 + q) = (b.toNat : Int) := by rw [hb, HP.out.1, HP.out.2]; exact unhex_val x y HD.out.1 HD.out.2
            have HBB := Lib.hid hb
            clear hb
            generalize HL : ((Dg.unhex (s.data.toList.take i)).map fun b => (b.toNat : Int)) = hl' at hown
            replace HL := Lib.hid HL
            go_wp2_with (first | (go_at_call 15; with_reducible refine (cx _).mono ?_; rintro e w5 ⟨rfl, rfl⟩) | (go_at_call 15; with_reducible refine (cy _).mono ?_; rintro e w5 ⟨rfl, rfl⟩))
            go_region_held3 (fun _ => True) (exact trivial) ((first | (go_at_call 15; with_reducible refine (cx _).mono ?_; rintro e w5 ⟨rfl, rfl⟩) | (go_at_call 15; with_reducible refine (cy _).mono ?_; rintro e w5 ⟨rfl, rfl⟩) | go_loud (refine step_append_lies _ (by rfl) _ _ _ (by rfl) w.heap.size 5 i0 _ 1 1 Tryd.underlying30 hi0 hz0 hz1 hz2 rfl (by omega) u4 (i / 2) _ (by rfl) ((hown.alloc _).drew) ⟨wr.heap.size, 0, none⟩ 1 1 [.int .u8 b.toNat] (by rfl) (by rfl) (World.news_of_block (cs := #[.int .u8 b.toNat]) (t := 5) (fr := (0, 0)) (heap_alloc_new wr _)) (by simp [Value.oneCell']) (by omega) (by unfold maxLen; omega) (by omega) (by simp; omega) (wr.heap.size + 1) (by simp) ?_; intro gg cap w1 hown1 hgrow hat hlt)))
            all_goals (
              go_wp2
              go_roundw
              (case rel =>
                have hxs := HX.out.1
                have hys := HX.out.2
                have i2e := HI.out.1
                have ht : s.data.toList.take (i + 2) = s.data.toList.take i ++ [x, y] := by
                  rw [show i + 2 = i + 1 + 1 by omega, List.take_succ_eq_append_getElem (by rw [hl]; omega), List.take_succ_eq_append_getElem (by rw [hl]; omega), List.append_assoc, hxs, hys]
                  rfl
                refine ⟨i + 2, by omega, by go_num, Lib.hid ⟨by omega, ?_⟩, ?_, ((hB.alloc hB.size _).drew).grown hgrow (Nat.le_trans hB.size (by simp)) (fun k hk => (hown.lt k hk).1)⟩
                · rw [ht, List.all_append, HI.out.2, List.all_cons, List.all_cons, HD.out.1, HD.out.2]; rfl
                · rw [show (i + 2) / 2 = i / 2 + 1 by omega, ht, Dg.unhex_snoc (i / 2) _ (by rw [List.length_take, hl]; omega), List.map_append, HL.out, ← HP.out.1, ← HP.out.2, ← HBB.out]
                  simpa using hown1)
              (case measure => simp [intOf]; omega))
          · have hb := bad (i + 1) hil1 (by rw [← HX.out.2]; simpa using hyd)
            obtain ⟨rfl, rfl⟩ := hb
            have bx := Dg.dg_ge hxd
            obtain ⟨p, hpp⟩ : ∃ p, p = Dg.dg x := ⟨_, rfl⟩
            obtain ⟨q, hqq⟩ : ∃ q, q = Dg.dg y := ⟨_, rfl⟩
            rw [← hpp] at bx
            have ey : q < 0 := by
              rw [hqq]
              unfold Dg.isD at hyd
              rw [decide_eq_true_eq] at hyd
              omega
            have cx : ∀ w, Calls Tryd.prog 15 #[.int .u8 (x.toNat : Int)] w fun e w' => e = .returned (.int .i64 p) ∧ w = w' := fun w => by rw [hpp]; exact (rdigit_any x _ rfl w).mono fun e w' h => ⟨h.1, h.2.symm⟩
            have cy : ∀ w, Calls Tryd.prog 15 #[.int .u8 (y.toNat : Int)] w fun e w' => e = .returned (.int .i64 q) ∧ w = w' := fun w => by rw [hqq]; exact (rdigit_any y _ rfl w).mono fun e w' h => ⟨h.1, h.2.symm⟩
            clear hpp hqq hxd hyd bad
            have np : ¬ p < 0 := by omega
            go_wp2_with (first | (go_at_call 15; with_reducible refine (cx _).mono ?_; rintro e w5 ⟨rfl, rfl⟩) | (go_at_call 15; with_reducible refine (cy _).mono ?_; rintro e w5 ⟨rfl, rfl⟩))
            exact bodyPost_ret (v := .tuple #[.string ⟨#[]⟩, .bool false]) (by simp [results, Tryd.results7, go_sem]) rfl ⟨rfl, hB⟩
        · have hb := bad i hil (by rw [← HX.out.1]; simpa using hxd)
          obtain ⟨rfl, rfl⟩ := hb
          obtain ⟨p, hpp⟩ : ∃ p, p = Dg.dg x := ⟨_, rfl⟩
          have bx : p < 0 := by
            rw [hpp]
            unfold Dg.isD at hxd
            rw [decide_eq_true_eq] at hxd
            omega
          have cx : ∀ w, Calls Tryd.prog 15 #[.int .u8 (x.toNat : Int)] w fun e w' => e = .returned (.int .i64 p) ∧ w = w' := fun w => by rw [hpp]; exact (rdigit_any x _ rfl w).mono fun e w' h => ⟨h.1, h.2.symm⟩
          clear hpp hxd bad
          go_wp2_with (first | (go_at_call 15; with_reducible refine (cx _).mono ?_; rintro e w5 ⟨rfl, rfl⟩))
          exact bodyPost_ret (v := .tuple #[.string ⟨#[]⟩, .bool false]) (by simp [results, Tryd.results7, go_sem]) rfl ⟨rfl, hB⟩
      · obtain rfl : i = s.size := by omega
        have hall : s.data.toList.take s.size = s.data.toList := List.take_of_length_le (Nat.le_refl _)
        rw [hall] at hown HI
        have hst := ownsRow_string (P := Tryd.prog) (src := 30) (e := 5) (dst := 9) rfl rfl rfl hown
        rw [str_nums] at hst
        have hgg : g = true := by rw [HG.out.1]; unfold Dg.good; rw [hl, HI.out.1, HI.out.2]; rfl
        have hrr : r = ⟨(Dg.unhex s.data.toList).toArray⟩ := by rw [HG.out.2]; unfold Dg.raw; rw [← HG.out.1, hgg]; rfl
        go_wp2
        exact bodyPost_ret (v := .tuple #[.string ⟨(Dg.unhex s.data.toList).toArray⟩, .bool true]) (by simp [results, Tryd.results7, go_sem]) rfl ⟨by rw [hgg, hrr], hB⟩
end Go.Proofs.YtkggemkaddkdfaaDoor
