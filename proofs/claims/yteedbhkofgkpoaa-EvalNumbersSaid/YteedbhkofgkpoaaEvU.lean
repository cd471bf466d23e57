/-
  The walk of the law EvalNumbers.
-/
import Derived.Test.YteedbhkofgkpoaaEvS
import Derived.Test.YteedbhkofgkpoaaEvT
namespace Go.Proofs.Yteedbhkofgkpoaa
open Go.RowKit Ev
set_option maxRecDepth 100000
set_option linter.unusedVariables false
set_option linter.unusedSimpArgs false
def S8 (i : Nat) : ByteArray := [(⟨#[43]⟩ : ByteArray), (⟨#[45]⟩ : ByteArray), (⟨#[42]⟩ : ByteArray), (⟨#[47]⟩ : ByteArray), (⟨#[37]⟩ : ByteArray), (⟨#[61]⟩ : ByteArray), (⟨#[60]⟩ : ByteArray), (⟨#[62, 61]⟩ : ByteArray)].getD i emp
abbrev obj8 : Obj := .cells #[.string ⟨#[43]⟩, .string ⟨#[45]⟩, .string ⟨#[42]⟩, .string ⟨#[47]⟩, .string ⟨#[37]⟩, .string ⟨#[61]⟩, .string ⟨#[60]⟩, .string ⟨#[62, 61]⟩] 9
theorem s8_cell (w : World) (i : Nat) (hi : i < 8) (s : ByteArray) (hs : s = S8 i) : (w.alloc obj8).cell? ⟨w.heap.size, i, none⟩ = some (.string s) := by
  rw [Lib.cell_of_heap (heap_alloc_new w _), hs]
  match i, hi with
  | 0, _ => rfl
  | 1, _ => rfl
  | 2, _ => rfl
  | 3, _ => rfl
  | 4, _ => rfl
  | 5, _ => rfl
  | 6, _ => rfl
  | 7, _ => rfl
def AllOps (a b : Int) : Prop := ∀ i, i < 8 → ∃ k v f, Wk k (S8 i) a b v f ∧ Rk k (S8 i) a b v f
set_option maxHeartbeats 4000000 in
theorem numbers_of (a b : Int) (w : World) (hops : AllOps a b) (v1 v3 v4 : Vl) (f1 f3 f4 : Int) (H1 : Wk 0 ⟨#[43]⟩ a b v1 f1)
    (hA : (f1 = 0 ∧ ∃ s, v1 = num s ∧ Wk 1 ⟨#[45]⟩ s b (num a) 0) ∨ (f1 = 22 ∧ v1 = nul)) (H3 : Wk 3 ⟨#[47]⟩ a b v3 f3) (H4 : Wk 4 ⟨#[37]⟩ a b v4 f4)
    (hB : (b = 0 ∧ f3 = 23 ∧ f4 = 23 ∧ v3 = nul ∧ v4 = nul) ∨ (b = -1 ∧ f3 = 22 ∧ f4 = 0 ∧ v3 = nul ∧ v4 = num 0) ∨ (f3 = 0 ∧ f4 = 0 ∧ ∃ q r p, v3 = num q ∧ v4 = num r ∧ Wk 2 ⟨#[42]⟩ q b (num p) 0 ∧ Wk 0 ⟨#[43]⟩ p r (num a) 0)) :
    Calls Try.prog 5 #[.int .i64 a, .int .i64 b] w fun e w' => e = .returned (.bool true) ∧ Below w.heap.size w w' := by
  go_enter Try.func5, Try.ntmps5
  go_wp2_with (fail)
  go_at_call 8
  refine (awake_any _).mono ?_
  rintro e w1 ⟨rfl, hB1⟩
  go_wp2
  go_loopw [26] (fun k wr => ∃ i : Nat, i ≤ 8 ∧ k = .int .i64 i ∧ Below (w1.alloc obj8).heap.size (w1.alloc obj8) wr) (fun k _ => 8 - (intOf k).toNat)
  case atStart => exact ⟨0, by omega, rfl, Below.refl _ _⟩
  case round =>
    obtain ⟨i, hi, rfl, hBr⟩ := hrel
    by_cases hi8 : i < 8
    · obtain ⟨k, v, f, hwk, hrk⟩ := hops i hi8
      obtain ⟨s, hs⟩ : ∃ s, s = S8 i := ⟨_, rfl⟩
      have hcell := (hBr.cell (p := ⟨w1.heap.size, i, none⟩) (by simp)).trans (s8_cell w1 i hi8 s hs)
      rw [← hs] at hwk hrk
      obtain ⟨hb, hw⟩ := hwk
      unfold Rk at hrk
      clear hs hops H1 hA H3 H4 hB
      go_wp2_with (fail)
      go_at_call 17
      refine (hb _).mono ?_
      rintro e w2 ⟨⟨g, rfl, hX⟩, hC⟩
      have hB2 := hBr.trans (hC.mono hBr.size)
      clear hcell hC
      go_wp2_with (fail)
      go_at_call 14
      refine (hw g w2 hX).mono ?_
      rintro e w3 ⟨rfl, hC⟩
      have hB3 := hB2.trans (hC.mono hB2.size)
      have hal : Below w3.heap.size w3 (w3.alloc (.cells #[.int .i64 v.k, .int .i64 v.n, .string v.s] 38)) := (Below.refl _ _).alloc (Nat.le_refl _) _
      have hL := Lies.new w3 v
      have hB4 := hB3.trans (hal.mono hB3.size)
      clear hX hC hB2 hB3 hal
      go_wp2_with (fail)
      go_at_call 17
      refine (hb _).mono ?_
      rintro e w4 ⟨⟨g', rfl, hX⟩, hC⟩
      have hB5 := hB4.trans (hC.mono hB4.size)
      have hL5 := hL.below hC
      clear hC hB4 hL
      go_wp2_with (fail)
      go_at_call 15
      refine (hrk g' w4 hX).mono ?_
      rintro e w5 ⟨rfl, hC⟩
      have hB6 := hB5.trans (hC.mono hB5.size)
      have hL6 := hL5.below hC
      have hL7 := hL6.alloc (.cells #[.int .i64 v.k, .int .i64 v.n, .string v.s] 38)
      have hB7 := hB6.alloc hB6.size (.cells #[.int .i64 v.k, .int .i64 v.n, .string v.s] 38)
      clear hX hC hB5 hL5 hB6 hL6
      have c0 := hL7.c0
      have c1 := hL7.c1
      have c2 := hL7.c2
      have l1 := hL7.lt
      clear hb hw hrk
      go_wp2
      go_roundw
      case rel => exact ⟨i + 1, by omega, by go_num, hB7⟩
      case measure => simp [intOf]; omega
    · obtain rfl : i = 8 := by omega
      clear hops hi hi8
      have hBr' := (hB1.alloc hB1.size obj8).trans (hBr.mono (by have := hB1.size; simp; omega))
      clear hB1 hBr
      rcases hA with ⟨rfl, s, rfl, H2⟩ | ⟨rfl, rfl⟩
      · simp only [nul, num] at H1 H2
        obtain ⟨hb, hw⟩ := H1
        dsimp only at hw
        go_wp2_with (fail)
        go_at_call 17
        refine (hb _).mono ?_
        rintro e w11a ⟨⟨g, rfl, hX⟩, hC⟩
        have hB11a := hBr'.trans (hC.mono hBr'.size)
        clear hC hBr' hb
        go_wp2_with (fail)
        go_at_call 14
        refine (hw g w11a hX).mono ?_
        rintro e w11b ⟨rfl, hC⟩
        have hB11b := hB11a.trans (hC.mono hB11a.size)
        have hB11 := hB11b.alloc hB11b.size (.cells #[.int .i64 1, .int .i64 s, .string emp] 38)
        have hL11 := Lies.new w11b ⟨1, s, emp⟩
        clear hC hX hB11a hB11b hw
        have hL11c0 := hL11.c0
        have hL11c1 := hL11.c1
        have hL11c2 := hL11.c2
        have hL11lt := hL11.lt
        dsimp only at hL11c0 hL11c1 hL11c2
        obtain ⟨hb, hw⟩ := H2
        dsimp only at hw
        go_wp2_with (fail)
        go_at_call 17
        refine (hb _).mono ?_
        rintro e w12a ⟨⟨g, rfl, hX⟩, hC⟩
        have hB12a := hB11.trans (hC.mono hB11.size)
        clear hC hB11 hb
        go_wp2_with (fail)
        go_at_call 14
        refine (hw g w12a hX).mono ?_
        rintro e w12b ⟨rfl, hC⟩
        have hB12b := hB12a.trans (hC.mono hB12a.size)
        have hB12 := hB12b.alloc hB12b.size (.cells #[.int .i64 1, .int .i64 a, .string emp] 38)
        have hL12 := Lies.new w12b ⟨1, a, emp⟩
        clear hC hX hB12a hB12b hw
        clear hL11c0 hL11c1 hL11c2 hL11lt
        have hL12c0 := hL12.c0
        have hL12c1 := hL12.c1
        have hL12c2 := hL12.c2
        have hL12lt := hL12.lt
        dsimp only at hL12c0 hL12c1 hL12c2
        rcases hB with ⟨rfl, rfl, rfl, rfl, rfl⟩ | ⟨rfl, rfl, rfl, rfl, rfl⟩ | ⟨rfl, rfl, q, r, p, rfl, rfl, H5, H6⟩
        · simp only [nul, num] at H3 H4
          obtain ⟨hb, hw⟩ := H3
          dsimp only at hw
          go_wp2_with (fail)
          go_at_call 17
          refine (hb _).mono ?_
          rintro e w13a ⟨⟨g, rfl, hX⟩, hC⟩
          have hB13a := hB12.trans (hC.mono hB12.size)
          clear hC hB12 hb
          go_wp2_with (fail)
          go_at_call 14
          refine (hw g w13a hX).mono ?_
          rintro e w13b ⟨rfl, hC⟩
          have hB13b := hB13a.trans (hC.mono hB13a.size)
          have hB13 := hB13b.alloc hB13b.size (.cells #[.int .i64 0, .int .i64 0, .string emp] 38)
          have hL13 := Lies.new w13b ⟨0, 0, emp⟩
          clear hC hX hB13a hB13b hw
          obtain ⟨hb, hw⟩ := H4
          dsimp only at hw
          go_wp2_with (fail)
          go_at_call 17
          refine (hb _).mono ?_
          rintro e w14a ⟨⟨g, rfl, hX⟩, hC⟩
          have hB14a := hB13.trans (hC.mono hB13.size)
          replace hL13 := hL13.below hC
          clear hC hB13 hb
          go_wp2_with (fail)
          go_at_call 14
          refine (hw g w14a hX).mono ?_
          rintro e w14b ⟨rfl, hC⟩
          have hB14b := hB14a.trans (hC.mono hB14a.size)
          replace hL13 := hL13.below hC
          have hB14 := hB14b.alloc hB14b.size (.cells #[.int .i64 0, .int .i64 0, .string emp] 38)
          replace hL13 := hL13.alloc (.cells #[.int .i64 0, .int .i64 0, .string emp] 38)
          have hL14 := Lies.new w14b ⟨0, 0, emp⟩
          clear hC hX hB14a hB14b hw
          have hL14c0 := hL14.c0
          have hL14c1 := hL14.c1
          have hL14c2 := hL14.c2
          have hL14lt := hL14.lt
          dsimp only at hL14c0 hL14c1 hL14c2
          go_wp2
          go_ret
          exact ⟨by simp, hB14⟩
        · simp only [nul, num] at H3 H4
          obtain ⟨hb, hw⟩ := H3
          dsimp only at hw
          go_wp2_with (fail)
          go_at_call 17
          refine (hb _).mono ?_
          rintro e w15a ⟨⟨g, rfl, hX⟩, hC⟩
          have hB15a := hB12.trans (hC.mono hB12.size)
          clear hC hB12 hb
          go_wp2_with (fail)
          go_at_call 14
          refine (hw g w15a hX).mono ?_
          rintro e w15b ⟨rfl, hC⟩
          have hB15b := hB15a.trans (hC.mono hB15a.size)
          have hB15 := hB15b.alloc hB15b.size (.cells #[.int .i64 0, .int .i64 0, .string emp] 38)
          have hL15 := Lies.new w15b ⟨0, 0, emp⟩
          clear hC hX hB15a hB15b hw
          obtain ⟨hb, hw⟩ := H4
          dsimp only at hw
          go_wp2_with (fail)
          go_at_call 17
          refine (hb _).mono ?_
          rintro e w16a ⟨⟨g, rfl, hX⟩, hC⟩
          have hB16a := hB15.trans (hC.mono hB15.size)
          replace hL15 := hL15.below hC
          clear hC hB15 hb
          go_wp2_with (fail)
          go_at_call 14
          refine (hw g w16a hX).mono ?_
          rintro e w16b ⟨rfl, hC⟩
          have hB16b := hB16a.trans (hC.mono hB16a.size)
          replace hL15 := hL15.below hC
          have hB16 := hB16b.alloc hB16b.size (.cells #[.int .i64 1, .int .i64 0, .string emp] 38)
          replace hL15 := hL15.alloc (.cells #[.int .i64 1, .int .i64 0, .string emp] 38)
          have hL16 := Lies.new w16b ⟨1, 0, emp⟩
          clear hC hX hB16a hB16b hw
          have hL16c0 := hL16.c0
          have hL16c1 := hL16.c1
          have hL16c2 := hL16.c2
          have hL16lt := hL16.lt
          dsimp only at hL16c0 hL16c1 hL16c2
          go_wp2
          go_ret
          exact ⟨by simp, hB16⟩
        · simp only [nul, num] at H3 H4 H5 H6
          obtain ⟨hb, hw⟩ := H3
          dsimp only at hw
          go_wp2_with (fail)
          go_at_call 17
          refine (hb _).mono ?_
          rintro e w17a ⟨⟨g, rfl, hX⟩, hC⟩
          have hB17a := hB12.trans (hC.mono hB12.size)
          clear hC hB12 hb
          go_wp2_with (fail)
          go_at_call 14
          refine (hw g w17a hX).mono ?_
          rintro e w17b ⟨rfl, hC⟩
          have hB17b := hB17a.trans (hC.mono hB17a.size)
          have hB17 := hB17b.alloc hB17b.size (.cells #[.int .i64 1, .int .i64 q, .string emp] 38)
          have hL17 := Lies.new w17b ⟨1, q, emp⟩
          clear hC hX hB17a hB17b hw
          obtain ⟨hb, hw⟩ := H4
          dsimp only at hw
          go_wp2_with (fail)
          go_at_call 17
          refine (hb _).mono ?_
          rintro e w18a ⟨⟨g, rfl, hX⟩, hC⟩
          have hB18a := hB17.trans (hC.mono hB17.size)
          replace hL17 := hL17.below hC
          clear hC hB17 hb
          go_wp2_with (fail)
          go_at_call 14
          refine (hw g w18a hX).mono ?_
          rintro e w18b ⟨rfl, hC⟩
          have hB18b := hB18a.trans (hC.mono hB18a.size)
          replace hL17 := hL17.below hC
          have hB18 := hB18b.alloc hB18b.size (.cells #[.int .i64 1, .int .i64 r, .string emp] 38)
          replace hL17 := hL17.alloc (.cells #[.int .i64 1, .int .i64 r, .string emp] 38)
          have hL18 := Lies.new w18b ⟨1, r, emp⟩
          clear hC hX hB18a hB18b hw
          have hL17c0 := hL17.c0
          have hL17c1 := hL17.c1
          have hL17c2 := hL17.c2
          have hL17lt := hL17.lt
          dsimp only at hL17c0 hL17c1 hL17c2
          obtain ⟨hb, hw⟩ := H5
          dsimp only at hw
          go_wp2_with (fail)
          go_at_call 17
          refine (hb _).mono ?_
          rintro e w20a ⟨⟨g, rfl, hX⟩, hC⟩
          have hB20a := hB18.trans (hC.mono hB18.size)
          replace hL18 := hL18.below hC
          clear hC hB18 hb
          go_wp2_with (fail)
          go_at_call 14
          refine (hw g w20a hX).mono ?_
          rintro e w20b ⟨rfl, hC⟩
          have hB20b := hB20a.trans (hC.mono hB20a.size)
          replace hL18 := hL18.below hC
          have hB20 := hB20b.alloc hB20b.size (.cells #[.int .i64 1, .int .i64 p, .string emp] 38)
          replace hL18 := hL18.alloc (.cells #[.int .i64 1, .int .i64 p, .string emp] 38)
          have hL20 := Lies.new w20b ⟨1, p, emp⟩
          clear hC hX hB20a hB20b hw
          clear hL17c0 hL17c1 hL17c2 hL17lt
          have hL18c0 := hL18.c0
          have hL18c1 := hL18.c1
          have hL18c2 := hL18.c2
          have hL18lt := hL18.lt
          dsimp only at hL18c0 hL18c1 hL18c2
          have hL20c0 := hL20.c0
          have hL20c1 := hL20.c1
          have hL20c2 := hL20.c2
          have hL20lt := hL20.lt
          dsimp only at hL20c0 hL20c1 hL20c2
          obtain ⟨hb, hw⟩ := H6
          dsimp only at hw
          go_wp2_with (fail)
          go_at_call 17
          refine (hb _).mono ?_
          rintro e w21a ⟨⟨g, rfl, hX⟩, hC⟩
          have hB21a := hB20.trans (hC.mono hB20.size)
          clear hC hB20 hb
          go_wp2_with (fail)
          go_at_call 14
          refine (hw g w21a hX).mono ?_
          rintro e w21b ⟨rfl, hC⟩
          have hB21b := hB21a.trans (hC.mono hB21a.size)
          have hB21 := hB21b.alloc hB21b.size (.cells #[.int .i64 1, .int .i64 a, .string emp] 38)
          have hL21 := Lies.new w21b ⟨1, a, emp⟩
          clear hC hX hB21a hB21b hw
          clear hL18c0 hL18c1 hL18c2 hL18lt
          clear hL20c0 hL20c1 hL20c2 hL20lt
          have hL21c0 := hL21.c0
          have hL21c1 := hL21.c1
          have hL21c2 := hL21.c2
          have hL21lt := hL21.lt
          dsimp only at hL21c0 hL21c1 hL21c2
          go_wp2
          go_ret
          exact ⟨by simp, hB21⟩
      · simp only [nul, num] at H1
        obtain ⟨hb, hw⟩ := H1
        dsimp only at hw
        go_wp2_with (fail)
        go_at_call 17
        refine (hb _).mono ?_
        rintro e w22a ⟨⟨g, rfl, hX⟩, hC⟩
        have hB22a := hBr'.trans (hC.mono hBr'.size)
        clear hC hBr' hb
        go_wp2_with (fail)
        go_at_call 14
        refine (hw g w22a hX).mono ?_
        rintro e w22b ⟨rfl, hC⟩
        have hB22b := hB22a.trans (hC.mono hB22a.size)
        have hB22 := hB22b.alloc hB22b.size (.cells #[.int .i64 0, .int .i64 0, .string emp] 38)
        have hL22 := Lies.new w22b ⟨0, 0, emp⟩
        clear hC hX hB22a hB22b hw
        have hL22c0 := hL22.c0
        have hL22c1 := hL22.c1
        have hL22c2 := hL22.c2
        have hL22lt := hL22.lt
        dsimp only at hL22c0 hL22c1 hL22c2
        rcases hB with ⟨rfl, rfl, rfl, rfl, rfl⟩ | ⟨rfl, rfl, rfl, rfl, rfl⟩ | ⟨rfl, rfl, q, r, p, rfl, rfl, H5, H6⟩
        · simp only [nul, num] at H3 H4
          obtain ⟨hb, hw⟩ := H3
          dsimp only at hw
          go_wp2_with (fail)
          go_at_call 17
          refine (hb _).mono ?_
          rintro e w23a ⟨⟨g, rfl, hX⟩, hC⟩
          have hB23a := hB22.trans (hC.mono hB22.size)
          clear hC hB22 hb
          go_wp2_with (fail)
          go_at_call 14
          refine (hw g w23a hX).mono ?_
          rintro e w23b ⟨rfl, hC⟩
          have hB23b := hB23a.trans (hC.mono hB23a.size)
          have hB23 := hB23b.alloc hB23b.size (.cells #[.int .i64 0, .int .i64 0, .string emp] 38)
          have hL23 := Lies.new w23b ⟨0, 0, emp⟩
          clear hC hX hB23a hB23b hw
          obtain ⟨hb, hw⟩ := H4
          dsimp only at hw
          go_wp2_with (fail)
          go_at_call 17
          refine (hb _).mono ?_
          rintro e w24a ⟨⟨g, rfl, hX⟩, hC⟩
          have hB24a := hB23.trans (hC.mono hB23.size)
          replace hL23 := hL23.below hC
          clear hC hB23 hb
          go_wp2_with (fail)
          go_at_call 14
          refine (hw g w24a hX).mono ?_
          rintro e w24b ⟨rfl, hC⟩
          have hB24b := hB24a.trans (hC.mono hB24a.size)
          replace hL23 := hL23.below hC
          have hB24 := hB24b.alloc hB24b.size (.cells #[.int .i64 0, .int .i64 0, .string emp] 38)
          replace hL23 := hL23.alloc (.cells #[.int .i64 0, .int .i64 0, .string emp] 38)
          have hL24 := Lies.new w24b ⟨0, 0, emp⟩
          clear hC hX hB24a hB24b hw
          have hL24c0 := hL24.c0
          have hL24c1 := hL24.c1
          have hL24c2 := hL24.c2
          have hL24lt := hL24.lt
          dsimp only at hL24c0 hL24c1 hL24c2
          go_wp2
          go_ret
          exact ⟨by simp, hB24⟩
        · simp only [nul, num] at H3 H4
          obtain ⟨hb, hw⟩ := H3
          dsimp only at hw
          go_wp2_with (fail)
          go_at_call 17
          refine (hb _).mono ?_
          rintro e w25a ⟨⟨g, rfl, hX⟩, hC⟩
          have hB25a := hB22.trans (hC.mono hB22.size)
          clear hC hB22 hb
          go_wp2_with (fail)
          go_at_call 14
          refine (hw g w25a hX).mono ?_
          rintro e w25b ⟨rfl, hC⟩
          have hB25b := hB25a.trans (hC.mono hB25a.size)
          have hB25 := hB25b.alloc hB25b.size (.cells #[.int .i64 0, .int .i64 0, .string emp] 38)
          have hL25 := Lies.new w25b ⟨0, 0, emp⟩
          clear hC hX hB25a hB25b hw
          obtain ⟨hb, hw⟩ := H4
          dsimp only at hw
          go_wp2_with (fail)
          go_at_call 17
          refine (hb _).mono ?_
          rintro e w26a ⟨⟨g, rfl, hX⟩, hC⟩
          have hB26a := hB25.trans (hC.mono hB25.size)
          replace hL25 := hL25.below hC
          clear hC hB25 hb
          go_wp2_with (fail)
          go_at_call 14
          refine (hw g w26a hX).mono ?_
          rintro e w26b ⟨rfl, hC⟩
          have hB26b := hB26a.trans (hC.mono hB26a.size)
          replace hL25 := hL25.below hC
          have hB26 := hB26b.alloc hB26b.size (.cells #[.int .i64 1, .int .i64 0, .string emp] 38)
          replace hL25 := hL25.alloc (.cells #[.int .i64 1, .int .i64 0, .string emp] 38)
          have hL26 := Lies.new w26b ⟨1, 0, emp⟩
          clear hC hX hB26a hB26b hw
          have hL26c0 := hL26.c0
          have hL26c1 := hL26.c1
          have hL26c2 := hL26.c2
          have hL26lt := hL26.lt
          dsimp only at hL26c0 hL26c1 hL26c2
          go_wp2
          go_ret
          exact ⟨by simp, hB26⟩
        · simp only [nul, num] at H3 H4 H5 H6
          obtain ⟨hb, hw⟩ := H3
          dsimp only at hw
          go_wp2_with (fail)
          go_at_call 17
          refine (hb _).mono ?_
          rintro e w27a ⟨⟨g, rfl, hX⟩, hC⟩
          have hB27a := hB22.trans (hC.mono hB22.size)
          clear hC hB22 hb
          go_wp2_with (fail)
          go_at_call 14
          refine (hw g w27a hX).mono ?_
          rintro e w27b ⟨rfl, hC⟩
          have hB27b := hB27a.trans (hC.mono hB27a.size)
          have hB27 := hB27b.alloc hB27b.size (.cells #[.int .i64 1, .int .i64 q, .string emp] 38)
          have hL27 := Lies.new w27b ⟨1, q, emp⟩
          clear hC hX hB27a hB27b hw
          obtain ⟨hb, hw⟩ := H4
          dsimp only at hw
          go_wp2_with (fail)
          go_at_call 17
          refine (hb _).mono ?_
          rintro e w28a ⟨⟨g, rfl, hX⟩, hC⟩
          have hB28a := hB27.trans (hC.mono hB27.size)
          replace hL27 := hL27.below hC
          clear hC hB27 hb
          go_wp2_with (fail)
          go_at_call 14
          refine (hw g w28a hX).mono ?_
          rintro e w28b ⟨rfl, hC⟩
          have hB28b := hB28a.trans (hC.mono hB28a.size)
          replace hL27 := hL27.below hC
          have hB28 := hB28b.alloc hB28b.size (.cells #[.int .i64 1, .int .i64 r, .string emp] 38)
          replace hL27 := hL27.alloc (.cells #[.int .i64 1, .int .i64 r, .string emp] 38)
          have hL28 := Lies.new w28b ⟨1, r, emp⟩
          clear hC hX hB28a hB28b hw
          have hL27c0 := hL27.c0
          have hL27c1 := hL27.c1
          have hL27c2 := hL27.c2
          have hL27lt := hL27.lt
          dsimp only at hL27c0 hL27c1 hL27c2
          obtain ⟨hb, hw⟩ := H5
          dsimp only at hw
          go_wp2_with (fail)
          go_at_call 17
          refine (hb _).mono ?_
          rintro e w30a ⟨⟨g, rfl, hX⟩, hC⟩
          have hB30a := hB28.trans (hC.mono hB28.size)
          replace hL28 := hL28.below hC
          clear hC hB28 hb
          go_wp2_with (fail)
          go_at_call 14
          refine (hw g w30a hX).mono ?_
          rintro e w30b ⟨rfl, hC⟩
          have hB30b := hB30a.trans (hC.mono hB30a.size)
          replace hL28 := hL28.below hC
          have hB30 := hB30b.alloc hB30b.size (.cells #[.int .i64 1, .int .i64 p, .string emp] 38)
          replace hL28 := hL28.alloc (.cells #[.int .i64 1, .int .i64 p, .string emp] 38)
          have hL30 := Lies.new w30b ⟨1, p, emp⟩
          clear hC hX hB30a hB30b hw
          clear hL27c0 hL27c1 hL27c2 hL27lt
          have hL28c0 := hL28.c0
          have hL28c1 := hL28.c1
          have hL28c2 := hL28.c2
          have hL28lt := hL28.lt
          dsimp only at hL28c0 hL28c1 hL28c2
          have hL30c0 := hL30.c0
          have hL30c1 := hL30.c1
          have hL30c2 := hL30.c2
          have hL30lt := hL30.lt
          dsimp only at hL30c0 hL30c1 hL30c2
          obtain ⟨hb, hw⟩ := H6
          dsimp only at hw
          go_wp2_with (fail)
          go_at_call 17
          refine (hb _).mono ?_
          rintro e w31a ⟨⟨g, rfl, hX⟩, hC⟩
          have hB31a := hB30.trans (hC.mono hB30.size)
          clear hC hB30 hb
          go_wp2_with (fail)
          go_at_call 14
          refine (hw g w31a hX).mono ?_
          rintro e w31b ⟨rfl, hC⟩
          have hB31b := hB31a.trans (hC.mono hB31a.size)
          have hB31 := hB31b.alloc hB31b.size (.cells #[.int .i64 1, .int .i64 a, .string emp] 38)
          have hL31 := Lies.new w31b ⟨1, a, emp⟩
          clear hC hX hB31a hB31b hw
          clear hL28c0 hL28c1 hL28c2 hL28lt
          clear hL30c0 hL30c1 hL30c2 hL30lt
          have hL31c0 := hL31.c0
          have hL31c1 := hL31.c1
          have hL31c2 := hL31.c2
          have hL31lt := hL31.lt
          dsimp only at hL31c0 hL31c1 hL31c2
          go_wp2
          go_ret
          exact ⟨by simp, hB31⟩
theorem allOps (a b : Int) (ha : In64 a) (hb : In64 b) : AllOps a b := by
  intro i hi
  have h : ∃ k, S8 i = binS k ∧ (k < 5 ∨ k = 7 ∨ k = 9 ∨ k = 12) := by
    match i, hi with
    | 0, _ => exact ⟨0, rfl, by omega⟩
    | 1, _ => exact ⟨1, rfl, by omega⟩
    | 2, _ => exact ⟨2, rfl, by omega⟩
    | 3, _ => exact ⟨3, rfl, by omega⟩
    | 4, _ => exact ⟨4, rfl, by omega⟩
    | 5, _ => exact ⟨7, rfl, by omega⟩
    | 6, _ => exact ⟨9, rfl, by omega⟩
    | 7, _ => exact ⟨12, rfl, by omega⟩
  obtain ⟨k, hs, hk⟩ := h
  rw [hs]
  exact ⟨k, (workX (.bin k (.int a) (.int b))).1, (workX (.bin k (.int a) (.int b))).2, wk_of k (by omega) a b ha hb _ _ rfl, rk_of k hk a b ha hb _ _ rfl⟩
theorem wk_num (k : Nat) (hk : k < 5) (x y : Int) (hx : In64 x) (hy : In64 y) : Wk k (binS k) x y (numd k x y).1 (numd k x y).2 :=
  wk_of k (by omega) x y hx hy _ _ (nums_worked k hk x y)
theorem evalNumbers_walk (a b : Int) (w : World) (ha1 : -9223372036854775808 ≤ a) (ha2 : a ≤ 9223372036854775807) (hb1 : -9223372036854775808 ≤ b) (hb2 : b ≤ 9223372036854775807) :
    Calls Try.prog 5 #[.int .i64 a, .int .i64 b] w fun e w' => e = .returned (.bool true) ∧ Below w.heap.size w w' := by
  have ha : In64 a := ⟨ha1, ha2⟩
  have hb : In64 b := ⟨hb1, hb2⟩
  refine numbers_of a b w (allOps a b ha hb) _ _ _ _ _ _ (wk_num 0 (by omega) a b ha hb) ?_ (wk_num 3 (by omega) a b ha hb) (wk_num 4 (by omega) a b ha hb) ?_
  · rcases plainA a b ha with ⟨hs, e1, e2⟩ | e1
    · have h := wk_num 1 (by omega) (a + b) b hs hb
      rw [e2] at h
      exact .inl ⟨by rw [e1], a + b, by rw [e1], h⟩
    · exact .inr ⟨by rw [e1], by rw [e1]⟩
  · rcases plainB a b ha hb with ⟨h, e3, e4⟩ | ⟨h, e3, e4⟩ | ⟨q, r, p, hq, hr, hp, e3, e4, e5, e6⟩
    · exact .inl ⟨h, by rw [e3], by rw [e4], by rw [e3], by rw [e4]⟩
    · exact .inr (.inl ⟨h, by rw [e3], by rw [e4], by rw [e3], by rw [e4]⟩)
    · have h5 := wk_num 2 (by omega) q b hq hb
      rw [e5] at h5
      have h6 := wk_num 0 (by omega) p r hp hr
      rw [e6] at h6
      exact .inr (.inr ⟨by rw [e3], by rw [e4], q, r, p, by rw [e3], by rw [e4], h5, h6⟩)
end Go.Proofs.Yteedbhkofgkpoaa
