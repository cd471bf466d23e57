/-
  The walk of the reference's above: is a power of x above a prime times a power of 2?
-/
import Derived.Test.YtkggemkaddkdfaaRoots1
import Derived.BigQuiet
namespace Go.Proofs.Ytkggemkaddkdfaa
open Go.RowKit
set_option maxRecDepth 100000
theorem u64_wrap_in (x : Int) (h0 : 0 ≤ x) (h1 : x ≤ 18446744073709551615) : IntKind.u64.wrap x = x := by rw [IntKind.wrap_u64]; omega
theorem n64_set {w : World} {base g cap n : Nat} {e : TypeId} {l : List Nat} (h : w.ownsRow base e 1 (.slice (some ⟨g, 0, none⟩) n cap) n (n64 l)) (j x : Nat) :
    (w.setCell ⟨g, j, none⟩ (.int .u64 (x : Int))).ownsRow base e 1 (.slice (some ⟨g, 0, none⟩) n cap) n (n64 (l.set j x)) := by
  have h1 := row_set (l := l.map fun (n : Nat) => (n : Int)) h j (x : Int)
  unfold n64
  rw [List.map_set]
  exact h1
theorem n64_far {w : World} {base g cap n g' : Nat} {e : TypeId} {xs : List Value} (h : w.ownsRow base e 1 (.slice (some ⟨g, 0, none⟩) n cap) n xs) (hne : g ≠ g') (j : Nat) (v : Value) :
    (w.setCell ⟨g', j, none⟩ v).ownsRow base e 1 (.slice (some ⟨g, 0, none⟩) n cap) n xs :=
  h.kept (grownBy_setC w g' j v) (by simp [Value.ownBlock]; exact hne)
theorem own_made_u64 (W : World) (base : Nat) (e : TypeId) (m : Nat) (hb : base ≤ W.heap.size) (hm : m ≤ maxLen) :
    (W.alloc (.cells (madeCells #[.int .u64 0] m) e)).ownsRow base e 1 (.slice (some ⟨W.heap.size, 0, none⟩) m m) m (n64 (List.replicate m 0)) := by
  refine ⟨by simp [n64], .inr ⟨W.heap.size, m, _, rfl, hb, heap_alloc_new W _, Nat.le_refl _, hm, ?_, ?_⟩⟩
  · have := congrArg List.length (toList_madeCells_one (.int .u64 0) m)
    simpa using this
  · rw [toList_madeCells_one]; simp [n64]
theorem set_lt {l : List Nat} (h : ∀ a ∈ l, a < 65536) (k y : Nat) (hy : y < 65536) : ∀ a ∈ l.set k y, a < 65536 := fun a ha => by
  rcases List.mem_or_eq_of_mem_set ha with h1 | h1
  · exact h a h1
  · omega
theorem getD_lt {l : List Nat} (h : ∀ a ∈ l, a < 65536) (k : Nat) : l.getD k 0 < 65536 := by
  rw [List.getD_eq_getElem?_getD]
  by_cases hk : k < l.length
  · rw [List.getElem?_eq_getElem hk]; exact h _ (List.getElem_mem hk)
  · rw [List.getElem?_eq_none (by omega)]; simp
theorem getD_set_ne (l : List Nat) (k j y : Nat) (h : k ≠ j) : (l.set k y).getD j 0 = l.getD j 0 := by
  simp [List.getD_eq_getElem?_getD, List.getElem?_set_ne h]
/-- What the product's loops know of the row r: its parts are small, those behind are none, and its number. -/
def Mul (R : List Nat) (n k X : Nat) : Prop := R.length = n ∧ (∀ a ∈ R, a < 65536) ∧ (∀ j, k ≤ j → R.getD j 0 = 0) ∧ Rt.V R = X
def MulC (R : List Nat) (n k c e X : Nat) : Prop := R.length = n ∧ (∀ a ∈ R, a < 65536) ∧ (∀ j, k ≤ j → R.getD j 0 = 0) ∧ Rt.V R + c * 65536 ^ e = X ∧ c < 65536
def Small (M : List Nat) (n X : Nat) : Prop := M.length = n ∧ (∀ a ∈ M, a < 65536) ∧ Rt.V M = X
set_option maxHeartbeats 4000000 in
theorem above_any (x power p : Nat) (w : World) (hx : x < 137438953472) (hp1 : 1 ≤ power) (hp3 : power ≤ 3) (hp : p ≤ 100000) :
    Calls Try.prog 21 #[.int .u64 x, .int .i64 power, .int .u64 p] w fun e w' => e = .returned (.bool (Rt.above x power p)) ∧ Below w.heap.size w w' := by
  have hmk : ∀ (n : Nat) (h : n ≤ 1000) (W : World), (Instr.makeSlice 41 (.int .i64 ((n : Int) + 3)) (.int .i64 ((n : Int) + 3))).run Try.prog W = .ok (.slice (some ⟨W.heap.size, 0, none⟩) (n + 3) (n + 3)) (W.alloc (.cells (madeCells #[.int .u64 0] (n + 3)) 35)) :=
    fun n h W => run_make_row' (P := Try.prog) 41 35 (.int .u64 0) 8 rfl (by kernel_rfl) rfl .i64 .i64 (n + 3) (by omega) (by omega) W
  have Hmk := Lib.hid hmk
  clear hmk
  obtain ⟨L, hL⟩ : ∃ L, L = [x % 65536, x / 65536 % 65536, x / 4294967296] := ⟨_, rfl⟩
  have hLs : Small L 3 x := by
    rw [hL]
    refine ⟨rfl, fun a ha => ?_, ?_⟩
    · simp only [List.mem_cons, List.not_mem_nil, or_false] at ha
      rcases ha with rfl | rfl | rfl <;> omega
    · simp only [Rt.V]; omega
  have HL := Lib.hid hL
  have HLs := Lib.hid hLs
  clear hL hLs
  go_enter Try.func21, Try.ntmps21
  go_wp2
  obtain ⟨gl, hgl⟩ : ∃ gl, gl = w.heap.size := ⟨_, rfl⟩
  have hown0 : (w.alloc (.cells #[.int .u64 ((x : Int) % 65536), .int .u64 ((x : Int) / 65536 % 65536), .int .u64 ((x : Int) / 4294967296)] 35)).ownsRow w.heap.size 35 1 (.slice (some ⟨gl, 0, none⟩) 3 3) 3 (n64 L) := by
    refine ⟨by rw [HL.out]; rfl, .inr ⟨gl, 3, _, rfl, by omega, by rw [hgl]; exact heap_alloc_new w _, Nat.le_refl _, by unfold maxLen; omega, rfl, ?_⟩⟩
    rw [HL.out]
    simp [n64]
  have hB0 : Below w.heap.size w (w.alloc (.cells #[.int .u64 ((x : Int) % 65536), .int .u64 ((x : Int) / 65536 % 65536), .int .u64 ((x : Int) / 4294967296)] 35)) := (Below.refl _ _).alloc (Nat.le_refl _) _
  rw [← hgl]
  have hglw : w.heap.size ≤ gl := by omega
  clear hgl
  go_loopw [8, 9] (fun m k wr => ∃ (q n gm cm : Nat) (M : List Nat), q ≤ power ∧ k = .int .i64 q ∧ n = 3 * q ∧ m = .slice (some ⟨gm, 0, none⟩) n cm ∧ wr.ownsRow w.heap.size 35 1 (.slice (some ⟨gm, 0, none⟩) n cm) n (n64 M) ∧ Small M n (x ^ q) ∧
      wr.ownsRow w.heap.size 35 1 (.slice (some ⟨gl, 0, none⟩) 3 3) 3 (n64 L) ∧ Below w.heap.size w wr ∧ 1 ≤ q)
    (fun _ k _ => power - (intOf k).toNat)
  case atStart => exact ⟨1, 3, gl, 3, L, hp1, rfl, rfl, rfl, hown0, by rw [Nat.pow_one]; exact HLs.out, hown0, hB0, Nat.le_refl _⟩
  clear hown0 hB0
  case round =>
    obtain ⟨q, n, gm, cm, M, hq, rfl, hn, rfl, hM, hMs, hLr, hB, hq1⟩ := hrel
    have HMs := Lib.hid hMs
    have Hn := Lib.hid hn
    have hn9 : n ≤ 9 := by omega
    clear hMs hn
    by_cases hqp : q < power
    · have hmk := Hmk.out n (by omega)
      go_wp2
      clear hmk
      obtain ⟨wp, hwp⟩ : ∃ wp, wp = wr.alloc (.cells (madeCells #[.int .u64 0] (n + 3)) 35) := ⟨_, rfl⟩
      have hga := World.grownBy_alloc wr (.cells (madeCells #[.int .u64 0] (n + 3)) 35) none
      have hR0 := own_made_u64 wr w.heap.size 35 (n + 3) hB.size (by unfold maxLen; omega)
      rw [← hwp] at hga hR0
      rw [← hwp]
      have hM2 := hM.kept hga (by simp [Value.ownBlock])
      have hL2 := hLr.kept hga (by simp [Value.ownBlock])
      have hB2 : Below w.heap.size w wp := hB.grown hga hB.size (by simp)
      obtain ⟨gr, hgr⟩ : ∃ gr, gr = wr.heap.size := ⟨_, rfl⟩
      rw [← hgr] at hR0 ⊢
      obtain ⟨n1, n2, n3⟩ : gm ≠ gr ∧ gl ≠ gr ∧ w.heap.size ≤ gr := by
        have l1 := (hM.lt gm rfl).2
        have l2 := (hLr.lt gl rfl).2
        have l3 := hB.size
        omega
      clear hwp hga hM hLr hB hgr
      obtain ⟨X, hX⟩ : ∃ X, X = List.replicate (n + 3) 0 := ⟨_, rfl⟩
      rw [← hX] at hR0
      have hXs : Mul X (n + 3) 3 (Rt.V (M.take 0) * x) := by
        rw [hX]
        exact ⟨by simp, fun a ha => by have := List.eq_of_mem_replicate ha; omega, fun j _ => by simp [List.getD_eq_getElem?_getD, List.getElem?_replicate]; split <;> simp, by simp [Rt.V_replicate, Rt.V]⟩
      clear hX
      go_loopw [11] (fun iv w3 => ∃ (i : Nat) (R : List Nat), i ≤ n ∧ iv = .int .i64 i ∧ w3.ownsRow w.heap.size 35 1 (.slice (some ⟨gr, 0, none⟩) (n + 3) (n + 3)) (n + 3) (n64 R) ∧ Mul R (n + 3) (i + 3) (Rt.V (M.take i) * x) ∧
          w3.ownsRow w.heap.size 35 1 (.slice (some ⟨gm, 0, none⟩) n cm) n (n64 M) ∧ w3.ownsRow w.heap.size 35 1 (.slice (some ⟨gl, 0, none⟩) 3 3) 3 (n64 L) ∧ Below w.heap.size w w3)
        (fun iv _ => n - (intOf iv).toNat)
      case atStart => exact ⟨0, X, by omega, rfl, hR0, hXs, hM2, hL2, hB2⟩
      clear hR0 hXs hM2 hL2 hB2
      case round =>
        obtain ⟨i, R, hi, rfl, hR, hRs, hM, hLr, hB⟩ := hrel
        have HRs := Lib.hid hRs
        clear hRs
        by_cases hin : i < n
        · go_wp2
          obtain ⟨mi, hmi⟩ : ∃ mi, mi = M.getD i 0 := ⟨_, rfl⟩
          have hmi2 : mi < 65536 := by rw [hmi]; exact getD_lt HMs.out.2.1 i
          have cm0 := fun (W : World) (h : W.ownsRow w.heap.size 35 1 (.slice (some ⟨gm, 0, none⟩) n cm) n (n64 M)) => n64_cell h i hin mi hmi
          have Hmi := Lib.hid hmi
          have Hcm := Lib.hid cm0
          clear hmi cm0
          obtain ⟨wo, rfl⟩ : ∃ wo : World, wo = wr := ⟨_, rfl⟩
          go_loopw [12, 13] (fun cv jv w4 => ∃ (j c : Nat) (R4 : List Nat), j ≤ 3 ∧ jv = .int .i64 j ∧ cv = .int .u64 c ∧ MulC R4 (n + 3) (i + 3) c (i + j) (Rt.V (M.take i) * x + mi * 65536 ^ i * Rt.V (L.take j)) ∧
              w4.ownsRow w.heap.size 35 1 (.slice (some ⟨gr, 0, none⟩) (n + 3) (n + 3)) (n + 3) (n64 R4) ∧
              w4.ownsRow w.heap.size 35 1 (.slice (some ⟨gm, 0, none⟩) n cm) n (n64 M) ∧ w4.ownsRow w.heap.size 35 1 (.slice (some ⟨gl, 0, none⟩) 3 3) 3 (n64 L) ∧ Below w.heap.size w w4)
            (fun _ jv _ => 3 - (intOf jv).toNat)
          case atStart => exact ⟨0, 0, R, by omega, rfl, rfl, ⟨HRs.out.1, HRs.out.2.1, HRs.out.2.2.1, by rw [HRs.out.2.2.2]; simp [Rt.V], by omega⟩, hR, hM, hLr, hB⟩
          clear hR hM hLr hB
          case round =>
            obtain ⟨j, c, R4, hj, rfl, rfl, hRC, hR, hM, hLr, hB⟩ := hrel
            have hc65 : c < 65536 := hRC.2.2.2.2
            have HRC := Lib.hid hRC
            clear hRC
            by_cases hj3 : j < 3
            · obtain ⟨lj, hlj⟩ : ∃ lj, lj = L.getD j 0 := ⟨_, rfl⟩
              obtain ⟨rj, hrj⟩ : ∃ rj, rj = R4.getD (i + j) 0 := ⟨_, rfl⟩
              have hlj2 : lj < 65536 := by rw [hlj]; exact getD_lt HLs.out.2.1 j
              have hrj2 : rj < 65536 := by rw [hrj]; exact getD_lt HRC.out.2.1 _
              have hcl := n64_cell hLr j hj3 lj hlj
              have hcr := n64_cell hR (i + j) (by omega) rj hrj
              have hcm := Hcm.out wr hM
              have hb := Rt.mul_bound hrj2 hmi2 hlj2 hc65
              obtain ⟨p1, hp1'⟩ : ∃ p1, p1 = mi * lj := ⟨_, rfl⟩
              obtain ⟨p2, hp2'⟩ : ∃ p2, p2 = rj + p1 := ⟨_, rfl⟩
              obtain ⟨v, hv⟩ : ∃ v, v = p2 + c := ⟨_, rfl⟩
              have hv32 : v < 4294967296 := by rw [hv, hp2', hp1']; exact hb
              have e1 : IntKind.u64.wrap ((mi : Int) * (lj : Int)) = (p1 : Int) := by
                rw [← Int.natCast_mul, ← hp1']; exact u64_wrap_in _ (by omega) (by omega)
              have e2 : IntKind.u64.wrap ((rj : Int) + (p1 : Int)) = (p2 : Int) := by
                rw [← Int.natCast_add, ← hp2']; exact u64_wrap_in _ (by omega) (by omega)
              have e3 : IntKind.u64.wrap ((p2 : Int) + (c : Int)) = (v : Int) := by
                rw [← Int.natCast_add, ← hv]; exact u64_wrap_in _ (by omega) (by omega)
              have m1 := i64_wrap_in ((i : Int) + (j : Int)) (by omega) (by omega)
              have m2 : 0 ≤ (i : Int) + (j : Int) := by omega
              have m3 : (i : Int) + (j : Int) < (n : Int) + 3 := by omega
              have m4 : ((i : Int) + (j : Int)).toNat = i + j := by omega
              have m5 : (i : Int) < (n : Int) := by omega
              have m6 : (j : Int) < 3 := by omega
              have HV : Hid (v = rj + mi * lj + c ∧ lj = L.getD j 0 ∧ rj = R4.getD (i + j) 0) := Lib.hid ⟨by rw [hv, hp2', hp1'], hlj, hrj⟩
              have hj3n : j < 3 := hj3
              clear hb hp1' hp2' hv hlj hrj hj hi hq hqp
              go_wp2
              go_quiet (fail)
              obtain ⟨wx, hwx⟩ : ∃ wx, wx = wr.drewN nq := ⟨_, rfl⟩
              have hR5 := drewN_row hR nq
              have hM5 := drewN_row hM nq
              have hL5 := drewN_row hLr nq
              have hB5 := drewN_below hB nq
              rw [← hwx] at hR5 hM5 hL5 hB5 ⊢
              clear hwx hcl hcr hcm e1 e2 e3 m1 hR hM hLr hB
              have hfr := hR5.frozenAt (i + j)
              have hcr5 := n64_cell hR5 (i + j) (by omega) rj HV.out.2.2
              go_wp2
              go_roundw
              case rel =>
                obtain ⟨hv, hlj, hrj⟩ := HV.out
                refine ⟨j + 1, v / 65536, R4.set (i + j) (v % 65536), by omega, by go_num, by first | rfl | go_num, ?_, ?_, n64_far hM5 n1 _ _, n64_far hL5 n2 _ _, hB5.setCell (p := ⟨gr, i + j, none⟩) n3 _⟩
                · obtain ⟨r1, r2, r3, r4, r5⟩ := HRC.out
                  refine ⟨by rw [List.length_set]; exact r1, set_lt r2 _ _ (by omega), fun k hk => by rw [getD_set_ne _ _ _ _ (by omega)]; exact r3 k hk, ?_, by omega⟩
                  have h1 := Rt.mul_step (r := R4) (l := L) (X := Rt.V (M.take i) * x) (mi := mi) (i := i) (j := j) (c := c) (by rw [r1]; omega) (by rw [HLs.out.1]; exact hj3n) r4
                  rw [← hlj, ← hrj, ← hv] at h1
                  exact h1
                · have h1 := n64_set hR5 (i + j) (v % 65536)
                  first | exact h1 | (rw [Int.natCast_emod] at h1; exact h1)
              case measure => simp [intOf]; omega
            · obtain rfl : j = 3 := by omega
              have hz : R4.getD (i + 3) 0 = 0 := HRC.out.2.2.1 _ (Nat.le_refl _)
              have hcr := n64_cell hR (i + 3) (by omega) 0 hz.symm
              have hfr := hR.frozenAt (i + 3)
              have m5 : (i : Int) < (n : Int) := by omega
              have HZ := Lib.hid hz
              clear hz
              go_wp2
              go_roundw
              case rel =>
                refine ⟨i + 1, R4.set (i + 3) c, hin, by go_num, n64_set hR (i + 3) c, ?_, n64_far hM n1 _ _, n64_far hLr n2 _ _, hB.setCell (p := ⟨gr, i + 3, none⟩) n3 _⟩
                obtain ⟨r1, r2, r3, r4, r5⟩ := HRC.out
                refine ⟨by rw [List.length_set]; exact r1, set_lt r2 _ _ hc65, fun k hk => by rw [getD_set_ne _ _ _ _ (by omega)]; exact r3 k (by omega), ?_⟩
                have h1 := Rt.V_set R4 (i + 3) c (by rw [r1]; omega)
                rw [HZ.out, Nat.zero_mul, Nat.add_zero, r4] at h1
                rw [h1, Rt.V_take M i (by rw [HMs.out.1]; exact hin), Nat.add_mul, ← Hmi.out, List.take_of_length_le (l := L) (by rw [HLs.out.1]; exact Nat.le_refl _), HLs.out.2.2]
              case measure => simp [intOf]; omega
        · obtain rfl : i = n := by omega
          obtain ⟨wo, rfl⟩ : ∃ wo : World, wo = wr := ⟨_, rfl⟩
          go_wp2
          go_roundw
          case rel =>
            refine ⟨q + 1, i + 3, gr, i + 3, R, by omega, by go_num, by have := Hn.out; omega, rfl, hR, ?_, hLr, hB, by omega⟩
            obtain ⟨r1, r2, r3, r4⟩ := HRs.out
            refine ⟨r1, r2, ?_⟩
            rw [r4, List.take_of_length_le (by rw [HMs.out.1]; exact Nat.le_refl _), HMs.out.2.2, Nat.pow_succ]
          case measure => simp [intOf]; omega
    · obtain rfl : q = power := by omega
      obtain ⟨d, hd⟩ : ∃ d, d = 2 * q := ⟨_, rfl⟩
      have hnd : d ≤ n := by have := Hn.out; omega
      have hn1 : 1 ≤ n := by have := Hn.out; omega
      have hdq : (2 : Int) * (q : Int) = (d : Int) := by omega
      have Hd := Lib.hid hd
      clear hd
      obtain ⟨wo, rfl⟩ : ∃ wo : World, wo = wr := ⟨_, rfl⟩
      go_wp2
      go_loop [15, 16, 17] (fun tv rv iv => ∃ (t tp : Nat) (rb : Bool), t ≤ n ∧ iv = .int .i64 ((t : Int) - 1) ∧ tv = .int .u64 tp ∧ rv = .bool rb ∧ Hid (tp = Rt.V (M.drop (max t d)) ∧ rb = ((M.take d).drop t).any fun a => decide (0 < a)))
        (fun _ _ iv => (intOf iv + 1).toNat)
      case atStart => exact ⟨n, 0, false, by omega, rfl, rfl, rfl, Lib.hid ⟨by rw [Nat.max_eq_left hnd, List.drop_eq_nil_of_le (by rw [HMs.out.1]; exact Nat.le_refl _)]; rfl, by rw [List.drop_eq_nil_of_le (by rw [List.length_take, HMs.out.1]; omega)]; rfl⟩⟩
      case round =>
        obtain ⟨t, tp, rb, ht, rfl, rfl, rfl, HT⟩ := hrel
        by_cases ht0 : 0 < t
        · obtain ⟨s, rfl⟩ : ∃ s, t = s + 1 := ⟨t - 1, by omega⟩
          rw [show (((s + 1 : Nat) : Int) - 1) = (s : Int) by omega]
          obtain ⟨ms, hms⟩ : ∃ ms, ms = M.getD s 0 := ⟨_, rfl⟩
          have hms2 : ms < 65536 := by rw [hms]; exact getD_lt HMs.out.2.1 s
          have hcm := n64_cell hM s (by omega) ms hms
          have hsM : s < M.length := by rw [HMs.out.1]; omega
          have hdr : M.drop s = ms :: M.drop (s + 1) := by rw [List.drop_eq_getElem_cons hsM, hms, List.getD_eq_getElem?_getD, List.getElem?_eq_getElem hsM]; rfl
          have Hdr := Lib.hid hdr
          have Hms := Lib.hid hms
          clear hdr hms
          have s0 : (0 : Int) ≤ (s : Int) := by omega
          have s1 : (s : Int) < (n : Int) := by omega
          by_cases hsd : d ≤ s
          · have htp : tp < 65536 ^ 2 := by
              rw [HT.out.1, Nat.max_eq_left (by omega)]
              have h1 := Rt.V_lt (M.drop (s + 1)) fun a ha => HMs.out.2.1 a (List.mem_of_mem_drop ha)
              have h2 : (M.drop (s + 1)).length ≤ 2 := by rw [List.length_drop, HMs.out.1]; have := Hn.out; have := Hd.out; omega
              exact Nat.lt_of_lt_of_le h1 (Nat.pow_le_pow_right (by omega) h2)
            have htp2 : tp < 4294967296 := htp
            clear htp
            go_wp2
            go_round
            case rel =>
              refine ⟨s, tp * 65536 + ms, rb, by omega, by go_num, by first | rfl | go_num, rfl, Lib.hid ⟨?_, ?_⟩⟩
              · rw [Nat.max_eq_left hsd, Hdr.out, HT.out.1, Nat.max_eq_left (by omega)]
                simp only [Rt.V]; omega
              · rw [HT.out.2, List.drop_eq_nil_of_le (by rw [List.length_take]; omega), List.drop_eq_nil_of_le (by rw [List.length_take]; omega)]
            case measure => simp [intOf] <;> omega
          · have hrb : ((M.take d).drop s).any (fun a => decide (0 < a)) = (decide (0 < ms) || rb) := by
              have hsl : s < (M.take d).length := by rw [List.length_take, HMs.out.1]; omega
              rw [HT.out.2, List.drop_eq_getElem_cons hsl, List.any_cons, List.getElem_take, Hms.out, List.getD_eq_getElem?_getD, List.getElem?_eq_getElem hsM]
              rfl
            have Hrb := Lib.hid hrb
            clear hrb
            by_cases hm0 : 0 < ms
            · go_wp2
              go_round
              case rel =>
                refine ⟨s, tp, true, by omega, by go_num, rfl, rfl, Lib.hid ⟨by rw [HT.out.1, Nat.max_eq_right (by omega), Nat.max_eq_right (by omega)], by rw [Hrb.out]; simp [hm0]⟩⟩
              case measure => simp [intOf] <;> omega
            · go_wp2
              go_round
              case rel =>
                refine ⟨s, tp, rb, by omega, by go_num, rfl, rfl, Lib.hid ⟨by rw [HT.out.1, Nat.max_eq_right (by omega), Nat.max_eq_right (by omega)], by rw [Hrb.out]; simp [hm0]⟩⟩
              case measure => simp [intOf] <;> omega
        · obtain rfl : t = 0 := by omega
          have hfin : Rt.above x q p = (decide (p < tp) || (decide (tp = p) && rb)) := by
            obtain ⟨h1, h2⟩ := HT.out
            rw [Nat.max_eq_right (by omega), Hd.out] at h1
            rw [List.drop_zero, Hd.out] at h2
            rw [h1, h2, Rt.above_of HMs.out.2.1 (by rw [HMs.out.1, ← Hd.out]; exact hnd), HMs.out.2.2]
            rfl
          have Hfin := Lib.hid hfin
          clear hfin
          rw [show (((0 : Nat) : Int) - 1) = -1 from rfl]
          by_cases h1 : p < tp
          · have h1b : decide ((p : Int) < (tp : Int)) = true := decide_eq_true (by omega)
            go_wp2
            go_ret
            exact ⟨by rw [Hfin.out]; simp [h1], hB⟩
          · have h1b : decide ((p : Int) < (tp : Int)) = false := decide_eq_false (by omega)
            by_cases h2 : tp = p
            · subst h2
              cases rb
              · go_wp2
                go_ret
                exact ⟨by rw [Hfin.out]; simp, hB⟩
              · go_wp2
                go_ret
                exact ⟨by rw [Hfin.out]; simp, hB⟩
            · have h2b : ((tp : Int) == (p : Int)) = false := beq_eq_false_iff_ne.2 (by omega)
              go_wp2
              go_ret
              exact ⟨by rw [Hfin.out]; simp [h1, h2], hB⟩
end Go.Proofs.Ytkggemkaddkdfaa
