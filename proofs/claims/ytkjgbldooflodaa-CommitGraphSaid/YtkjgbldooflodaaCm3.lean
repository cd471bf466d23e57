/-
  The walk of commit.Read.
-/
import Derived.Test.YtkjgbldooflodaaCm1
import Derived.Deep.RegionHeld3
import Derived.Deep.AppendLies
namespace Go.Proofs.Ytkjgbldooflodaa
open Go.RowKit Cm
set_option maxRecDepth 100000
set_option linter.unusedVariables false
set_option linter.unusedSimpArgs false
namespace Cm
/-- What is left of bytes behind i parents. -/
def rest (b : ByteArray) (i : Nat) : ByteArray := b.extract (34 + 32 * i) b.size
theorem extract_twice (b : ByteArray) (i j k : Nat) (h : i + k ≤ b.size) : (b.extract i b.size).extract j k = b.extract (i + j) (i + k) := by
  apply list_ext
  rw [Lib.extract_data, Lib.extract_data, Lib.extract_data, List.take_of_length_le (l := b.data.toList.drop i) (by rw [List.length_drop]; exact Nat.le_refl _), List.drop_drop]
  congr 1
  omega
theorem rest_size (b : ByteArray) (i : Nat) (h : 34 + 32 * i ≤ b.size) : (rest b i).size + (34 + 32 * i) = b.size := by
  unfold rest
  rw [extract_size _ _ _ (Nat.le_refl _)]
  omega
theorem rest_cut (b : ByteArray) (i : Nat) (h : 66 + 32 * i ≤ b.size) : (rest b i).extract 0 32 = b.extract (34 + 32 * i) (66 + 32 * i) := by
  unfold rest
  rw [extract_twice b _ _ _ (by omega)]
  congr 1
  omega
theorem rest_tail (b : ByteArray) (i k : Nat) (h : 34 + 32 * i + k ≤ b.size) : (rest b i).extract k (rest b i).size = b.extract (34 + 32 * i + k) b.size := by
  have hz := rest_size b i (by omega)
  have := extract_twice b (34 + 32 * i) k (rest b i).size (by omega)
  unfold rest at this hz ⊢
  rw [this]
  congr 1
  omega
theorem rest_next (b : ByteArray) (i : Nat) (h : 66 + 32 * i ≤ b.size) : (rest b i).extract 32 (rest b i).size = rest b (i + 1) := by
  rw [rest_tail b i 32 (by omega)]
  unfold rest
  congr 1
theorem rest_by8 (b : ByteArray) (i j : Nat) : by8 (rest b i) j = by8 b (34 + 32 * i + j) := by
  unfold by8 rest
  rw [Lib.extract_data, List.take_of_length_le (l := b.data.toList.drop (34 + 32 * i)) (by rw [List.length_drop]; exact Nat.le_refl _)]
  rw [List.getD_eq_getElem?_getD, List.getD_eq_getElem?_getD, List.getElem?_drop]
theorem pars_succ (b : ByteArray) (n : Nat) : pars b (n + 1) = pars b n ++ [b.extract (34 + 32 * n) (66 + 32 * n)] := by unfold pars; rw [List.range_succ, List.map_append]; rfl
/-- No commit. -/
def none3 : C := ⟨⟨#[]⟩, [], ⟨#[]⟩⟩
end Cm
theorem run_index_by8 {P : Program} {t : TypeId} (hu : P.underlying t = some .string) (b : ByteArray) (x : Int) (i : Nat) (hx : x = i) (h : i < b.size) (w : World) :
    (Instr.index t (.string b) (.int .i64 x)).run P w = .ok (.int .u8 ((by8 b i).toNat : Int)) w := by
  subst hx
  have := run_index_string (P := P) w t b .i64 i hu
  simp [this, h]
  unfold by8
  have h2 : i < b.data.toList.length := h
  rw [List.getD_eq_getElem?_getD, List.getElem?_eq_getElem h2]
  rfl
theorem wrap_fit (x : Int) (h0 : -9223372036854775808 ≤ x) (h1 : x ≤ 9223372036854775807) : IntKind.i64.wrap x = x := by rw [IntKind.wrap_i64]; omega
theorem or_i64 (x y : Nat) (hx : x < 256) (hy : y < 256) : Go.bits .or .i64 ((x : Int) * 256) (y : Int) = ((x * 256 + y : Nat) : Int) := by
  have h1 : Go.bits .or .i64 ((x : Int) * 256) (y : Int) = IntKind.i64.wrap ((BitVec.ofInt 64 ((x : Int) * 256) ||| BitVec.ofInt 64 (y : Int)).toNat : Int) := rfl
  have h2 : (x : Int) * 256 = ((x * 256 : Nat) : Int) := by omega
  rw [h1, h2, BitVec.ofInt_natCast, BitVec.ofInt_natCast, BitVec.toNat_or, BitVec.toNat_ofNat, BitVec.toNat_ofNat]
  have h3 : x * 256 % 2 ^ 64 = x <<< 8 := by rw [Nat.shiftLeft_eq]; omega
  have h4 : y % 2 ^ 64 = y := by omega
  rw [h4, h3, ← Nat.shiftLeft_add_eq_or_of_lt (by omega), Nat.shiftLeft_eq]
  exact wrap_fit _ (by omega) (by omega)
theorem block_set {w : World} {g i : Nat} {cs : Array Value} {t : TypeId} {fr : Nat × Nat} (h : w.heap[g]? = some (.cells cs t fr)) (v : Value) : (w.setCell ⟨g, i, none⟩ v).heap[g]? = some (.cells (cs.setIfInBounds i v) t fr) := by
  simp [World.setCell, Array.getElem?_modify, h]
theorem block_set3 {w : World} {g : Nat} {a b c x y z : Value} {t : TypeId} {fr : Nat × Nat} (h : w.heap[g]? = some (.cells #[a, b, c] t fr)) : (((w.setCell ⟨g, 0, none⟩ x).setCell ⟨g, 1, none⟩ y).setCell ⟨g, 2, none⟩ z).heap[g]? = some (.cells #[x, y, z] t fr) :=
  block_set (block_set (block_set h x) y) z
theorem right_len (n : Nat) (r : ByteArray) (l : List ByteArray) (m : ByteArray) (o : Option Addr) (c : Nat) (w : World) (hnl : n = l.length) (h : Ss w o l) (hn : o = none → c = 0) (hl : l.length ≤ 1000) (hm : m.size ≤ 140737488351232) :
    Calls Try.prog 29 #[.agg #[.string r, .slice o n c, .string m]] w fun e w' => e = .returned (.bool (right ⟨r, l, m⟩)) ∧ Below w.heap.size w w' := by
  subst hnl
  exact cright_any r l m o c w h hn hl hm
theorem Ss.set {w : World} {o : Option Addr} {l : List ByteArray} (h : Ss w o l) (p : Addr) (v : Value) (hne : ∀ x, o = some x → x.block ≠ p.block) : Ss (w.setCell p v) o l :=
  ⟨h.1, fun a ha => ⟨fun hn => by have := (h.2 a ha).1 hn; simpa [World.setCell] using this, fun i x hx => by
    have hb := Below.heap_setCell w p v a.block (hne a ha)
    exact (World.cell?_of_block (by rw [addr_add_block]; exact hb)).trans ((h.2 a ha).2 i x hx)⟩⟩
/-- What reading a commit hands back. -/
def CmtOut (a : Option C) (w : World) (e : Ending) (w' : World) : Prop :=
  ∃ (c : C) (o : Option Addr) (cp : Nat) (ok : Bool), e = .returned (.tuple #[.agg #[.string c.root, .slice o c.par.length cp, .string c.msg], .bool ok]) ∧ Ss w' o c.par ∧ (o = none → cp = 0) ∧ c.par.length ≤ cp ∧ (∀ x, o = some x → w.heap.size ≤ x.block) ∧ Below w.heap.size w w' ∧
    (ok = true → a = some c) ∧ (ok = false → a = none ∧ c = none3)
theorem CmtOut.none {w w' : World} {e : Ending} (he : e = .returned (.tuple #[.agg #[.string ⟨#[]⟩, .slice none 0 0, .string ⟨#[]⟩], .bool false])) (hb : Below w.heap.size w w') : CmtOut none w e w' :=
  ⟨none3, .none, 0, false, he, Ss.nil, fun _ => rfl, Nat.le_refl _, (fun x hx => by cases hx), hb, (fun h => by cases h), fun _ => ⟨rfl, rfl⟩⟩
set_option maxHeartbeats 4000000 in
theorem read_any (b : ByteArray) (w : World) (hb : b.size ≤ 1000000) : Calls Try.prog 14 #[.string b] w fun e w' => CmtOut (readC b) w e w' := by
  obtain ⟨i0, hi0, hz0, hz1, hz2⟩ := info_parts (P := Try.prog) (e := 9) (z := .string ⟨#[]⟩) (size := 1) (bytes := 16) (by kernel_rfl)
  obtain ⟨ans, hans⟩ : ∃ x, x = readC b := ⟨_, rfl⟩
  rw [← hans]
  by_cases h34 : b.size < 34
  · have e0 : ans = none := by rw [hans]; unfold readC whole; rw [decide_eq_false (by omega)]; simp
    have e1 : (b.size : Int) < 34 := by omega
    subst e0
    clear hans h34
    go_enter Try.func14, Try.ntmps14
    go_wp2
    exact bodyPost_ret (v := .tuple #[.agg #[.string ⟨#[]⟩, .slice none 0 0, .string ⟨#[]⟩], .bool false]) (by simp [results, Try.results14, go_sem]) rfl (CmtOut.none rfl ((Below.refl _ _).alloc (Nat.le_refl _) _))
  · have e1 : ¬ (b.size : Int) < 34 := by omega
    have ix0 := fun w => run_index_by8 (P := Try.prog) (t := 9) Try.underlying9 b 0 0 rfl (by omega) w
    have ix33 := fun w => run_index_by8 (P := Try.prog) (t := 9) Try.underlying9 b 33 33 rfl (by omega) w
    by_cases h67 : by8 b 0 = 67
    · have e2 : (((by8 b 0).toNat : Int) != 67) = false := by rw [h67]; rfl
      obtain ⟨z, hz⟩ : ∃ z : Int, z = (by8 b 0).toNat := ⟨_, rfl⟩
      obtain ⟨N, hN⟩ : ∃ N : Nat, N = (by8 b 33).toNat := ⟨_, rfl⟩
      rw [← hz] at ix0 e2
      rw [← hN] at ix33
      have hN256 : N < 256 := by rw [hN]; exact (by8 b 33).toNat_lt
      obtain ⟨R, hR⟩ : ∃ R, R = b.extract 1 33 := ⟨_, rfl⟩
      obtain ⟨q0, hq0⟩ : ∃ q, q = rest b 0 := ⟨_, rfl⟩
      have sl1 : ∀ w : World, (Instr.slice 9 (.string b) (some (.int .i64 1)) (some (.int .i64 33)) none).run Try.prog w = .ok (.string R) w := fun w => by
        have h := run_slice_string (P := Try.prog) w 9 b .i64 .i64 1 33 Try.underlying9 (by omega) (by omega) (by omega)
        rw [h, hR]
        rfl
      have sl2 : ∀ w : World, (Instr.slice 9 (.string b) (some (.int .i64 34)) none none).run Try.prog w = .ok (.string q0) w := fun w => by
        have h := run_slice_string_l (P := Try.prog) (w := w) (t := 9) b Try.underlying9 .i64 34 (by omega) (by omega)
        rw [h, hq0]
        rfl
      have hqz : q0.size + 34 = b.size := by rw [hq0]; exact rest_size b 0 (by omega)
      have wr1 : IntKind.i64.wrap ((N : Int) * 32) = (N : Int) * 32 := wrap_fit _ (by omega) (by omega)
      have wr2 : IntKind.i64.wrap ((N : Int) * 32 + 2) = (N : Int) * 32 + 2 := wrap_fit _ (by omega) (by omega)
      have wr0 : IntKind.i64.wrap (N : Int) = N := wrap_fit _ (by omega) (by omega)
      by_cases hn2 : 2 < N
      · have e3 : decide ((N : Int) > 2) = true := decide_eq_true (by omega)
        have e0 : ans = none := by rw [hans]; unfold readC whole; rw [← hN, decide_eq_false (show ¬ N ≤ 2 by omega)]; simp
        subst e0
        clear hans h34 hz hN hR hq0
        go_enter Try.func14, Try.ntmps14
        go_wp2
        exact bodyPost_ret (v := .tuple #[.agg #[.string ⟨#[]⟩, .slice none 0 0, .string ⟨#[]⟩], .bool false]) (by simp [results, Try.results14, go_sem]) rfl (CmtOut.none rfl (((Below.refl _ _).alloc (Nat.le_refl _) _).alloc (by simp) _))
      · have e3 : decide ((N : Int) > 2) = false := decide_eq_false (by omega)
        by_cases hsh : q0.size < N * 32 + 2
        · have e4 : decide ((q0.size : Int) < (N : Int) * 32 + 2) = true := decide_eq_true (by omega)
          have e0 : ans = none := by rw [hans]; unfold readC whole; rw [← hN, decide_eq_false (show ¬ 36 + 32 * N ≤ b.size by omega)]; simp
          subst e0
          clear hans h34 hz hN hR hq0 hsh
          go_enter Try.func14, Try.ntmps14
          go_wp2
          exact bodyPost_ret (v := .tuple #[.agg #[.string ⟨#[]⟩, .slice none 0 0, .string ⟨#[]⟩], .bool false]) (by simp [results, Try.results14, go_sem]) rfl (CmtOut.none rfl (((Below.refl _ _).alloc (Nat.le_refl _) _).alloc (by simp) _))
        · have e4 : decide ((q0.size : Int) < (N : Int) * 32 + 2) = false := decide_eq_false (by omega)
          have hwh : whole b = true := by
            unfold whole
            rw [← hN, h67]
            simp
            omega
          have hlong : 36 + 32 * N ≤ b.size := by omega
          have HC := Lib.hid (And.intro (And.intro hans hwh) (And.intro hN hR))
          have HQ0 := Lib.hid hq0
          clear hans hwh hN hR hz h67 hsh hq0
          go_enter Try.func14, Try.ntmps14
          go_wp2
          go_loopw [0, 36] (fun v x wr => ∃ (i : Nat) (o : Option Addr) (cp : Nat), i ≤ N ∧ v = .string (rest b i) ∧ x = .int .i64 i ∧
              wr.heap[w.heap.size]? = some (.cells #[.string ⟨#[]⟩, .slice none 0 0, .string ⟨#[]⟩] 24 (0, 0)) ∧
              wr.heap[w.heap.size + 1]? = some (.cells #[.string R, .slice o i cp, .string ⟨#[]⟩] 24 (0, 0)) ∧
              wr.ownsRow (w.heap.size + 2) 9 1 (.slice o i cp) i ((pars b i).map Value.string) ∧ Below w.heap.size w wr)
            (fun _ x _ => N - (intOf x).toNat)
          case atStart =>
            refine ⟨0, none, 0, Nat.zero_le _, by rw [HQ0.out], rfl, ?_, ?_, World.ownsRow_nil _ _ _ _, (((Below.refl _ _).alloc (Nat.le_refl _) _).alloc (by simp) _)⟩
            · rw [Lib.alloc_old _ _ _ (by simp)]
              exact heap_alloc_new w _
            · have := heap_alloc_new (w.alloc (.cells #[.string ⟨#[]⟩, .slice none 0 0, .string ⟨#[]⟩] 24)) (.cells #[.string R, .slice none 0 0, .string ⟨#[]⟩] 24)
              simpa using this
          case round =>
            obtain ⟨i, o, cp, hi, rfl, rfl, hh0, hh1, hown, hB⟩ := hrel
            have hsz : w.heap.size + 1 < wr.heap.size := (Array.getElem?_eq_some_iff.1 hh1).1
            have k0 : wr.cell? ⟨w.heap.size + 1, 0, none⟩ = some (.string R) := by rw [Lib.cell_of_heap hh1]; rfl
            have k1 : wr.cell? ⟨w.heap.size + 1, 1, none⟩ = some (.slice o i cp) := by rw [Lib.cell_of_heap hh1]; rfl
            by_cases hiN : i < N
            · have i16 : (i : Int) < N := by omega
              have hbz : 66 + 32 * i ≤ b.size := by omega
              obtain ⟨Q, hQ⟩ : ∃ Q, Q = rest b i := ⟨_, rfl⟩
              obtain ⟨Q', hQ'⟩ : ∃ Q', Q' = rest b (i + 1) := ⟨_, rfl⟩
              obtain ⟨Pi, hPi⟩ : ∃ Pi, Pi = b.extract (34 + 32 * i) (66 + 32 * i) := ⟨_, rfl⟩
              have hQz : 32 ≤ Q.size := by have := rest_size b i (by omega); rw [← hQ] at this; omega
              have sl3 : ∀ w : World, (Instr.slice 9 (.string Q) none (some (.int .i64 32)) none).run Try.prog w = .ok (.string Pi) w := fun w => by
                have h := run_slice_string_h (P := Try.prog) (w := w) (t := 9) Q Try.underlying9 .i64 32 (by omega) (by omega)
                rw [h, hPi, ← rest_cut b i hbz, ← hQ]
                rfl
              have sl4 : ∀ w : World, (Instr.slice 9 (.string Q) (some (.int .i64 32)) none none).run Try.prog w = .ok (.string Q') w := fun w => by
                have h := run_slice_string_l (P := Try.prog) (w := w) (t := 9) Q Try.underlying9 .i64 32 (by omega) (by omega)
                rw [h, hQ', ← rest_next b i hbz, ← hQ]
                rfl
              rw [← hQ]
              have HP := Lib.hid (And.intro hPi hQ')
              clear hPi hQ' hQ
              go_wp2
              have hld := ldB_eq
              simp only [show ∀ x : Operand, Op.load 22 x = ldB 22 x from fun _ => rfl]
              go_region_held3 (fun _ => True) (exact trivial)
                (go_loud (refine step_append_lies _ (by rfl) _ _ _ (by rfl) (w.heap.size + 2) 9 i0 _ 1 16 Try.underlying22 hi0 hz0 hz1 hz2 rfl (by omega) (.slice o i cp) i _ (by rfl) ((hown.alloc _).drew) ⟨wr.heap.size, 0, none⟩ 1 1 [.string Pi] (by rfl) (by rfl) (World.news_of_block (cs := #[.string Pi]) (t := 9) (fr := (0, 0)) (heap_alloc_new wr _)) (by simp [Value.oneCell']) (by omega) (by unfold maxLen; omega) (by omega) (by simp; omega) (wr.heap.size + 1) (by simp) ?_; intro gg cap w1 hown1 hgrow hat hlt; have hBl : Below (w.heap.size + 2) wr w1 := ((Below.refl _ _).alloc (by omega) _).drew.grown hgrow (by simp; omega) (fun j hj => (hown.lt j hj).1); have hk1 := (hBl.block (w.heap.size + 1) (by omega)).trans hh1; have k5 : w1.cell? ⟨w.heap.size + 1, 1, none⟩ = some (.slice o i cp) := (by (rw [Lib.cell_of_heap hk1]; rfl)); have k6 : w1.frozen? ⟨w.heap.size + 1, 1, none⟩ = false := (by simp [World.frozen?, hk1])))
              all_goals (
                go_wp2
                go_roundw
                (case rel =>
                  have hbs := block_set hk1 (i := 1) (.slice (some ⟨gg, 0, none⟩) (i + 1) cap)
                  refine ⟨i + 1, some ⟨gg, 0, none⟩, cap, hiN, by rw [HP.out.2], by go_num, ?_, hbs, ?_, ?_⟩
                  · rw [Below.heap_setCell _ _ _ _ (show w.heap.size ≠ w.heap.size + 1 by omega)]
                    exact (hBl.block w.heap.size (by omega)).trans hh0
                  · rw [pars_succ, List.map_append, ← HP.out.1]
                    exact ownsRow_setCell_below hown1 (show w.heap.size + 1 < w.heap.size + 2 by omega) _
                  · exact (hB.trans (hBl.mono (by omega))).setCell (by show w.heap.size ≤ w.heap.size + 1; omega) _)
                (case measure => simp [intOf]; omega))
            · obtain rfl : i = N := by omega
              obtain ⟨Q, hQ⟩ : ∃ Q, Q = rest b i := ⟨_, rfl⟩
              obtain ⟨M, hM⟩ : ∃ M, M = b.extract (36 + 32 * i) b.size := ⟨_, rfl⟩
              have hQz := rest_size b i (by omega)
              rw [← hQ] at hQz
              have ia := fun w => run_index_by8 (P := Try.prog) (t := 9) Try.underlying9 Q 0 0 rfl (by omega) w
              have ib := fun w => run_index_by8 (P := Try.prog) (t := 9) Try.underlying9 Q 1 1 rfl (by omega) w
              obtain ⟨x, hx⟩ : ∃ x : Nat, x = (by8 Q 0).toNat := ⟨_, rfl⟩
              obtain ⟨y, hy⟩ : ∃ y : Nat, y = (by8 Q 1).toNat := ⟨_, rfl⟩
              have hx8 : x < 256 := by rw [hx]; exact (by8 Q 0).toNat_lt
              have hy8 : y < 256 := by rw [hy]; exact (by8 Q 1).toNat_lt
              rw [← hx] at ia
              rw [← hy] at ib
              have sl5 : ∀ w : World, (Instr.slice 9 (.string Q) (some (.int .i64 2)) none none).run Try.prog w = .ok (.string M) w := fun w => by
                have h := run_slice_string_l (P := Try.prog) (w := w) (t := 9) Q Try.underlying9 .i64 2 (by omega) (by omega)
                rw [h, hM, show 36 + 32 * i = 34 + 32 * i + 2 by omega, ← rest_tail b i 2 (by omega), ← hQ]
                rfl
              have hMz : M.size + 2 = Q.size := by rw [hM, extract_size _ _ _ (Nat.le_refl _)]; omega
              have hnum : num b (34 + 32 * i) = x * 256 + y := by
                unfold num
                rw [hx, hy, hQ, rest_by8, rest_by8]
                rfl
              have hor := or_i64 x y hx8 hy8
              have HM := Lib.hid (And.intro hM hnum)
              rw [← hQ]
              clear hM hnum hx hy hQ
              go_wp2
              go_quiet (fail)
              all_goals (
                obtain ⟨wq, hwq⟩ : ∃ wq, wq = wr.drewN nq := ⟨_, rfl⟩
                rw [← hwq]
                have hBq : Below w.heap.size w wq := by rw [hwq]; exact below_drewN hB nq
                have q0h : wq.heap[w.heap.size]? = some (.cells #[.string ⟨#[]⟩, .slice none 0 0, .string ⟨#[]⟩] 24 (0, 0)) := by rw [hwq]; exact ((below_drewN (Below.refl wr.heap.size wr) nq).block _ (by omega)).trans hh0
                have q1h : wq.heap[w.heap.size + 1]? = some (.cells #[.string R, .slice o i cp, .string ⟨#[]⟩] 24 (0, 0)) := by rw [hwq]; exact ((below_drewN (Below.refl wr.heap.size wr) nq).block _ (by omega)).trans hh1
                have hownq : wq.ownsRow (w.heap.size + 2) 9 1 (.slice o i cp) i ((pars b i).map Value.string) := by
                  rw [hwq]
                  clear hwq
                  induction nq with
                  | zero => exact hown
                  | succ n ih => exact ih.drew
                have HWQ := Lib.hid hwq
                clear hwq
                have hw2 := ownsRow_setCell_below hownq (show (⟨w.heap.size + 1, 2, none⟩ : Addr).block < w.heap.size + 2 by show w.heap.size + 1 < _; omega) (.string M)
                obtain ⟨o', c', heq, hss, hnn, hoo, hlc⟩ := own_ss (l := pars b i) hw2 (pars_length b i).symm
                injection heq with e5 e6 e7
                subst e5 e7
                clear e6
                rw [pars_length] at hlc
                have m2 : wq.cell? ⟨w.heap.size + 1, 2, none⟩ = some (.string ⟨#[]⟩) := by rw [Lib.cell_of_heap q1h]; rfl
                have n2 : wq.frozen? ⟨w.heap.size + 1, 2, none⟩ = false := by simp [World.frozen?, q1h]
                have q2h := block_set q1h (i := 2) (.string M)
                have hBs : Below w.heap.size w (wq.setCell ⟨w.heap.size + 1, 2, none⟩ (.string M)) := hBq.setCell (by show w.heap.size ≤ w.heap.size + 1; omega) _
                have q3h : (wq.setCell ⟨w.heap.size + 1, 2, none⟩ (.string M)).heap[w.heap.size]? = some (.cells #[.string ⟨#[]⟩, .slice none 0 0, .string ⟨#[]⟩] 24 (0, 0)) := by rw [Below.heap_setCell _ _ _ _ (show w.heap.size ≠ w.heap.size + 1 by omega)]; exact q0h
                have p0 : wq.cell? ⟨w.heap.size + 1, 0, none⟩ = some (.string R) := by rw [Lib.cell_of_heap q1h]; rfl
                have p1 : wq.cell? ⟨w.heap.size + 1, 1, none⟩ = some (.slice o i cp) := by rw [Lib.cell_of_heap q1h]; rfl
                have r0 : wq.cell? ⟨w.heap.size, 0, none⟩ = some (.string ⟨#[]⟩) := by rw [Lib.cell_of_heap q0h]; rfl
                have r1 : wq.cell? ⟨w.heap.size, 1, none⟩ = some (.slice none 0 0) := by rw [Lib.cell_of_heap q0h]; rfl
                have r2 : wq.cell? ⟨w.heap.size, 2, none⟩ = some (.string ⟨#[]⟩) := by rw [Lib.cell_of_heap q0h]; rfl
                have g0 : wq.frozen? ⟨w.heap.size, 0, none⟩ = false := by simp [World.frozen?, q0h]
                have g1 : wq.frozen? ⟨w.heap.size, 1, none⟩ = false := by simp [World.frozen?, q0h]
                have g2 : wq.frozen? ⟨w.heap.size, 2, none⟩ = false := by simp [World.frozen?, q0h]
                have hcall := fun w h => right_len i R (pars b i) M o cp w (pars_length b i).symm h hnn (by rw [pars_length]; omega) (by omega)
                have Q2 := Lib.hid q2h
                have Q3 := Lib.hid q3h
                have HSS := Lib.hid hss
                have HOO := Lib.hid hoo
                by_cases hm : M.size = x * 256 + y
                · have e8 : ((M.size : Int) != (x : Int) * 256 + (y : Int)) = false := by rw [bne_eq_false_iff_eq]; omega
                  have hcut : cut b = ⟨R, pars b i, M⟩ := by
                    unfold cut
                    rw [← HC.out.2.1, ← HC.out.2.2, ← HM.out.1]
                  have e0 : ans = if right ⟨R, pars b i, M⟩ = true then some ⟨R, pars b i, M⟩ else none := by
                    rw [HC.out.1.1]
                    unfold readC
                    rw [hcut, ← HC.out.2.1, HM.out.2]
                    simp only [HC.out.1.2, hm, true_and]
                  obtain ⟨rt, hrt⟩ : ∃ rt, rt = right ⟨R, pars b i, M⟩ := ⟨_, rfl⟩
                  rw [← hrt] at e0 hcall
                  have E0 := Lib.hid e0
                  clear hm q2h q3h q0h q1h hss hw2 hownq hown hh0 hh1 e0 hcut hrt hoo
                  go_wp2_with (go_at_call 29; refine (hcall _ HSS.out).mono ?_; rintro e w5 ⟨rfl, hb5⟩; have h5a := (hb5.block w.heap.size (Array.getElem?_eq_some_iff.1 Q3.out).1).trans Q3.out; have h5b := (hb5.block (w.heap.size + 1) (Array.getElem?_eq_some_iff.1 Q2.out).1).trans Q2.out; have H5a := Lib.hid h5a; have s0 : w5.cell? ⟨w.heap.size + 1, 0, none⟩ = some (.string R) := (by (rw [Lib.cell_of_heap h5b]; rfl)); have s1 : w5.cell? ⟨w.heap.size + 1, 1, none⟩ = some (.slice o i cp) := (by (rw [Lib.cell_of_heap h5b]; rfl)); have s2 : w5.cell? ⟨w.heap.size + 1, 2, none⟩ = some (.string M) := (by (rw [Lib.cell_of_heap h5b]; rfl)); have t0 : w5.cell? ⟨w.heap.size, 0, none⟩ = some (.string ⟨#[]⟩) := (by (rw [Lib.cell_of_heap h5a]; rfl)); have t1 : w5.cell? ⟨w.heap.size, 1, none⟩ = some (.slice none 0 0) := (by (rw [Lib.cell_of_heap h5a]; rfl)); have t2 : w5.cell? ⟨w.heap.size, 2, none⟩ = some (.string ⟨#[]⟩) := (by (rw [Lib.cell_of_heap h5a]; rfl)); have v0 : w5.frozen? ⟨w.heap.size, 0, none⟩ = false := (by simp [World.frozen?, h5a]); have v1 : w5.frozen? ⟨w.heap.size, 1, none⟩ = false := (by simp [World.frozen?, h5a]); have v2 : w5.frozen? ⟨w.heap.size, 2, none⟩ = false := (by simp [World.frozen?, h5a]); have hB5 := Below.trans hBs (hb5.mono hBs.size); clear h5a h5b; cases rt)
                  · have hfin := block_set3 (x := .string ⟨#[]⟩) (y := .slice none 0 0) (z := .string ⟨#[]⟩) H5a.out
                    have d0 := Lib.cell_of_heap hfin 0
                    have d1 := Lib.cell_of_heap hfin 1
                    have d2 := Lib.cell_of_heap hfin 2
                    have e0 : ans = none := by rw [E0.out]; rfl
                    subst e0
                    clear hfin
                    go_wp2
                    exact bodyPost_ret (v := .tuple #[.agg #[.string ⟨#[]⟩, .slice none 0 0, .string ⟨#[]⟩], .bool false]) (by simp [results, Try.results14, go_sem, d0, d1, d2]) rfl (CmtOut.none rfl (((hB5.setCell (Nat.le_refl _) _).setCell (Nat.le_refl _) _).setCell (Nat.le_refl _) _))
                  · have hfin := block_set3 (x := .string R) (y := .slice o i cp) (z := .string M) H5a.out
                    have d0 := Lib.cell_of_heap hfin 0
                    have d1 := Lib.cell_of_heap hfin 1
                    have d2 := Lib.cell_of_heap hfin 2
                    have hne : ∀ x, o = some x → x.block ≠ w.heap.size := fun x hx => by have := (HOO.out x hx).1; omega
                    have hse := (((HSS.out.below hb5).set ⟨w.heap.size, 0, none⟩ (.string R) hne).set ⟨w.heap.size, 1, none⟩ (.slice o i cp) hne).set ⟨w.heap.size, 2, none⟩ (.string M) hne
                    have Hse := Lib.hid hse
                    clear hfin hse
                    go_wp2
                    exact bodyPost_ret (v := .tuple #[.agg #[.string R, .slice o i cp, .string M], .bool true]) (by simp [results, Try.results14, go_sem, d0, d1, d2]) rfl ⟨⟨R, pars b i, M⟩, o, cp, true, by (show _ = Ending.returned (.tuple #[.agg #[.string R, .slice o (pars b i).length cp, .string M], .bool true])); rw [pars_length], Hse.out, hnn, by (show (pars b i).length ≤ cp); rw [pars_length]; exact hlc, fun x hx => by (have := (HOO.out x hx).1; omega), (((hB5.setCell (Nat.le_refl _) _).setCell (Nat.le_refl _) _).setCell (Nat.le_refl _) _), fun _ => by rw [E0.out]; rfl, fun h => by cases h⟩
                · have e8 : ((M.size : Int) != (x : Int) * 256 + (y : Int)) = true := bne_iff_ne.2 (by omega)
                  have e0 : ans = none := by
                    rw [HC.out.1.1]
                    unfold readC
                    rw [if_neg]
                    rintro ⟨_, h, _⟩
                    rw [← HC.out.2.1, HM.out.2] at h
                    refine hm ?_
                    rw [← h, HM.out.1]
                    unfold cut
                    rw [← HC.out.2.1]
                  have hfin := block_set3 (x := .string ⟨#[]⟩) (y := .slice none 0 0) (z := .string ⟨#[]⟩) Q3.out
                  have d0 := Lib.cell_of_heap hfin 0
                  have d1 := Lib.cell_of_heap hfin 1
                  have d2 := Lib.cell_of_heap hfin 2
                  clear hm hcall q2h q3h q0h q1h hss hw2 hownq hown hh0 hh1 hoo hfin
                  subst e0
                  go_wp2
                  exact bodyPost_ret (v := .tuple #[.agg #[.string ⟨#[]⟩, .slice none 0 0, .string ⟨#[]⟩], .bool false]) (by simp [results, Try.results14, go_sem, d0, d1, d2]) rfl (CmtOut.none rfl (((hBs.setCell (Nat.le_refl _) _).setCell (Nat.le_refl _) _).setCell (Nat.le_refl _) _)))
    · have e2 : (((by8 b 0).toNat : Int) != 67) = true := bne_iff_ne.2 (fun h => h67 (UInt8.toNat_inj.1 (by have : (67 : UInt8).toNat = 67 := rfl; omega)))
      have e0 : ans = none := by
        rw [hans]
        unfold readC whole
        rw [show (by8 b 0 == 67) = false by simpa using h67]
        simp
      obtain ⟨z, hz⟩ : ∃ z : Int, z = (by8 b 0).toNat := ⟨_, rfl⟩
      rw [← hz] at ix0 e2
      subst e0
      clear hans h34 hz h67 ix33
      go_enter Try.func14, Try.ntmps14
      go_wp2
      exact bodyPost_ret (v := .tuple #[.agg #[.string ⟨#[]⟩, .slice none 0 0, .string ⟨#[]⟩], .bool false]) (by simp [results, Try.results14, go_sem]) rfl (CmtOut.none rfl ((Below.refl _ _).alloc (Nat.le_refl _) _))
end Go.Proofs.Ytkjgbldooflodaa
