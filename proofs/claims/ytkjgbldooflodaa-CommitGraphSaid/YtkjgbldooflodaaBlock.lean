/-
  The walk of (*state).block, its first half: the sixty-four words of a block.
-/
import Derived.Test.YtkjgbldooflodaaRound
import Derived.Test.YtkjgbldooflodaaSha1
import Derived.StillTailTactics
import Derived.Lib.Hide
import Derived.BigQuiet
import Derived.Deep.DeepCutAuto
namespace Go.Proofs.Ytkjgbldooflodaa
open Go.RowKit
set_option maxRecDepth 100000
theorem run_index_byteAt {P : Program} {t : TypeId} (hu : P.underlying t = some .string) (b : ByteArray) (x : Int) (i : Nat) (hx : x = i) (h : i < b.size) (w : World) :
    (Instr.index t (.string b) (.int .i64 x)).run P w = .ok (.int .u8 (Sha.byteAt b i)) w := by
  subst hx
  simp [run_index_string (P := P) w t b .i64 i hu, Sha.byteAt, h]
theorem i64_wrap_in (x : Int) (h0 : -9223372036854775808 ≤ x) (h1 : x ≤ 9223372036854775807) : IntKind.i64.wrap x = x := by rw [IntKind.wrap_i64]; omega
theorem byteAt_range (b : ByteArray) (i : Nat) : 0 ≤ Sha.byteAt b i ∧ Sha.byteAt b i ≤ 255 := by
  unfold Sha.byteAt
  split
  · rename_i h
    have := (b[i]'h).toNat_lt
    omega
  · omega
theorem right_w (x n : Int) (w : World) (h1 : 1 ≤ n) (h2 : n ≤ 31) :
    Calls Try.prog 62 #[.int .u32 x, .int .i64 n] w fun e w' => e = .returned (.int .u32 (Sha.rotr x n.toNat)) ∧ w' = w :=
  (right_any x n h1 h2 w).mono fun _ _ ⟨h, h'⟩ => ⟨h, h'.symm⟩
/-- A block's words, t of them made. -/
def wat (b : ByteArray) (t : Nat) : List Int := Sha.arr (fun t => Sha.be32 b (4 * t)) Sha.zeros64 t
theorem wat_len (b : ByteArray) (t : Nat) (h : t ≤ 64) : (wat b t).length = 64 := by
  unfold wat; rw [Sha.arr_length _ _ _ (by rw [Sha.zeros64_length]; omega), Sha.zeros64_length]
theorem wat_set (b : ByteArray) (t : Nat) (h : t < 16) : (wat b t).set t (Sha.be32 b (4 * t)) = wat b (t + 1) := by
  have h2 := Sha.arr_set (fun t => Sha.be32 b (4 * t)) Sha.zeros64 t (by rw [Sha.zeros64_length]; omega)
  rwa [if_pos h] at h2
theorem wat_step (b : ByteArray) (t : Nat) (h0 : 16 ≤ t) (h : t < 64) {x2 x7 x15 x16 : Int} (h2 : x2 = (wat b t).getD (t - 2) 0) (h7 : x7 = (wat b t).getD (t - 7) 0)
    (h15 : x15 = (wat b t).getD (t - 15) 0) (h16 : x16 = (wat b t).getD (t - 16) 0) :
    (wat b t).set t ((x16 + Sha.sg0 x15 + x7 + Sha.sg1 x2) % 4294967296) = wat b (t + 1) := by
  unfold wat at *
  rw [Sha.arr_get _ _ _ _ (by omega)] at h2 h7 h15 h16
  have h1 := Sha.arr_set (fun t => Sha.be32 b (4 * t)) Sha.zeros64 t (by rw [Sha.zeros64_length]; omega)
  rw [if_neg (by omega)] at h1
  rw [← h1, h2, h7, h15, h16]
  rfl
set_option maxHeartbeats 4000000 in
theorem block_any (w : World) (g : Nat) (h : List Int) (b : ByteArray) (hh : Blk .u32 117 w g h) (hl : h.length = 8) (hb : b.size = 64) :
    Calls Try.prog 58 #[.pointer (some ⟨g, 0, none⟩), .string b] w fun e w' => e = .returned (.tuple #[]) ∧
      Blk .u32 117 w' g (Sha.compress (fun t => Sha.be32 b (4 * t)) h) ∧ w.grownBy w' (some g) := by
  have Hl := Lib.hid hl
  have Hb := Lib.hid hb
  have hgw := hh.lt
  clear hl hb
  go_enter Try.func58, Try.ntmps58
  go_wp2
  go_loopw [5, 16] (fun _ i wr => ∃ t : Nat, t ≤ 16 ∧ i = .int .i64 t ∧ Blk .u32 125 wr w.heap.size (wat b t) ∧ w.grownBy wr none)
    (fun _ i _ => 16 - (intOf i).toNat)
  case atStart => exact ⟨0, by omega, rfl, (by have h := Blk.new w .u32 125 Sha.zeros64; exact h), World.grownBy_alloc _ _ _⟩
  case round =>
    obtain ⟨t, ht, rfl, hblk, hg⟩ := hrel
    by_cases hlt : t < 16
    · have hsz : 4 * t + 3 < b.size := by have := Hb.out; omega
      have hcell := hblk.cell t (by rw [wat_len _ _ (by omega)]; omega)
      have hfree := hblk.free ⟨w.heap.size, t, none⟩ rfl
      have m0 := i64_wrap_in (4 * (t : Int)) (by omega) (by omega)
      have m1 := i64_wrap_in (4 * (t : Int) + 1) (by omega) (by omega)
      have m2 := i64_wrap_in (4 * (t : Int) + 2) (by omega) (by omega)
      have m3 := i64_wrap_in (4 * (t : Int) + 3) (by omega) (by omega)
      have i0 := fun w => run_index_byteAt (P := Try.prog) (t := 9) rfl b (4 * (t : Int)) (4 * t) (by omega) (by omega) w
      have i1 := fun w => run_index_byteAt (P := Try.prog) (t := 9) rfl b (4 * (t : Int) + 1) (4 * t + 1) (by omega) (by omega) w
      have i2 := fun w => run_index_byteAt (P := Try.prog) (t := 9) rfl b (4 * (t : Int) + 2) (4 * t + 2) (by omega) (by omega) w
      have i3 := fun w => run_index_byteAt (P := Try.prog) (t := 9) rfl b (4 * (t : Int) + 3) (4 * t + 3) (by omega) (by omega) w
      obtain ⟨b00, b01⟩ := byteAt_range b (4 * t)
      obtain ⟨b10, b11⟩ := byteAt_range b (4 * t + 1)
      obtain ⟨b20, b21⟩ := byteAt_range b (4 * t + 2)
      obtain ⟨b30, b31⟩ := byteAt_range b (4 * t + 3)
      have t64 : (t : Int) < 64 := by omega
      go_wp2
      go_still_tail 31, (by kernel_rfl)
      go_wp2
      go_roundw
      case rel =>
        refine ⟨t + 1, by omega, by go_num, ?_, grownBy_drew1 (grownBy_set_new hg _ (.inl (Nat.le_refl _)) _)⟩
        have h1 := (hblk.set t (Sha.be32 b (4 * t))).drew
        rw [wat_set b t hlt] at h1
        exact h1
      case measure => simp [intOf]; omega
    · have H16 := Lib.hid (show t = 16 by omega)
      rename Nat => t0
      go_wp2
      go_loopw [6] (fun i w2 => ∃ t : Nat, 16 ≤ t ∧ t ≤ 64 ∧ i = .int .i64 t ∧ Blk .u32 125 w2 w.heap.size (wat b t) ∧ w.grownBy w2 none)
        (fun i _ => 64 - (intOf i).toNat)
      case atStart => exact ⟨16, by omega, by omega, rfl, by have h := hblk; rw [H16.out] at h; exact h, hg⟩
      clear hblk hg
      case round =>
        obtain ⟨t, ht0, ht, rfl, hblk, hg⟩ := hrel
        by_cases hlt : t < 64
        · have hlen := wat_len b t ht
          obtain ⟨x2, hx2⟩ : ∃ x, x = (wat b t).getD (t - 2) 0 := ⟨_, rfl⟩
          obtain ⟨x7, hx7⟩ : ∃ x, x = (wat b t).getD (t - 7) 0 := ⟨_, rfl⟩
          obtain ⟨x15, hx15⟩ : ∃ x, x = (wat b t).getD (t - 15) 0 := ⟨_, rfl⟩
          obtain ⟨x16, hx16⟩ : ∃ x, x = (wat b t).getD (t - 16) 0 := ⟨_, rfl⟩
          have c2 := hblk.cell_at ((t : Int) - 2) (t - 2) (by omega) (by omega) x2 hx2
          have c15 := hblk.cell_at ((t : Int) - 15) (t - 15) (by omega) (by omega) x15 hx15
          have X := Lib.hid (And.intro hx2 (And.intro hx7 (And.intro hx15 hx16)))
          clear hx2 hx7 hx15 hx16 hlen
          have t64 : (t : Int) < 64 := by omega
          have m2 := i64_wrap_in ((t : Int) - 2) (by omega) (by omega)
          have n2 : (2 : Int) ≤ t := by omega
          have v2 : 0 ≤ (t : Int) - 2 := by omega
          have u2 : (t : Int) - 2 < 64 := by omega
          have m7 := i64_wrap_in ((t : Int) - 7) (by omega) (by omega)
          have n7 : (7 : Int) ≤ t := by omega
          have v7 : 0 ≤ (t : Int) - 7 := by omega
          have u7 : (t : Int) - 7 < 64 := by omega
          have m15 := i64_wrap_in ((t : Int) - 15) (by omega) (by omega)
          have n15 : (15 : Int) ≤ t := by omega
          have v15 : 0 ≤ (t : Int) - 15 := by omega
          have u15 : (t : Int) - 15 < 64 := by omega
          have m16 := i64_wrap_in ((t : Int) - 16) (by omega) (by omega)
          have n16 : (16 : Int) ≤ t := by omega
          have v16 : 0 ≤ (t : Int) - 16 := by omega
          have u16 : (t : Int) - 16 < 64 := by omega
          go_wp2
          go_quiet (fail)
          obtain ⟨w1, hw1⟩ : ∃ w1, w1 = wr.drewN nq := ⟨_, rfl⟩
          rw [← hw1]
          have hblk1 : Blk .u32 125 w1 w.heap.size (wat b t) := by rw [hw1]; exact hblk.drewN nq
          have hg1 : w.grownBy w1 none := by rw [hw1]; exact grownBy_drewN hg nq
          clear c2 c15 hg hw1 hblk
          have hlen := wat_len b t ht
          have c7 := hblk1.cell_at ((t : Int) - 7) (t - 7) (by omega) (by omega) x7 X.out.2.1
          have c16 := hblk1.cell_at ((t : Int) - 16) (t - 16) (by omega) (by omega) x16 X.out.2.2.2
          have ct := hblk1.cell t (by omega)
          generalize (wat b t).getD t 0 = xt at ct
          have hfree := hblk1.free ⟨w.heap.size, t, none⟩ rfl
          clear hlen
          go_wp2
          refine wp_region_still_tail 29 (by kernel_rfl) (by kernel_rfl) ?_
          simp only [List.take_succ_cons, List.take_zero, List.drop_succ_cons, List.drop_zero]
          repeat still_step
          still_call (right_w _ 7 _ (by decide) (by decide))
          repeat still_step
          still_call (right_w _ 18 _ (by decide) (by decide))
          repeat still_step
          still_call (right_w _ 17 _ (by decide) (by decide))
          repeat still_step
          still_call (right_w _ 19 _ (by decide) (by decide))
          repeat still_step
          refine wpStill_nil ?_
          go_wp2
          go_roundw
          case rel =>
            refine ⟨t + 1, by omega, by omega, by go_num, ?_, grownBy_drew1 (grownBy_set_new hg1 _ (.inl (Nat.le_refl _)) _)⟩
            obtain ⟨hx2, hx7, hx15, hx16⟩ := X.out
            have h1 := (hblk1.set t ((x16 + Sha.sg0 x15 + x7 + Sha.sg1 x2) % 4294967296)).drew
            rw [wat_step b t ht0 hlt hx2 hx7 hx15 hx16] at h1
            exact h1
          case measure => simp [intOf]; omega
        · have H64 := Lib.hid (show t = 64 by omega)
          rename Nat => t1
          obtain ⟨wo, rfl⟩ : ∃ wo : World, wo = wr := ⟨_, rfl⟩
          have hbh := hh.grown hg (by simp)
          have hne : g ≠ wo.heap.size := by have := hbh.lt; omega
          have hne2 : w.heap.size ≠ wo.heap.size := by have := hblk.lt; omega
          obtain ⟨h0, h1, h2, h3, h4, h5, h6, h7, rfl⟩ : ∃ h0 h1 h2 h3 h4 h5 h6 h7, h = [h0, h1, h2, h3, h4, h5, h6, h7] := by
            have := Hl.out
            match h, this with
            | [h0, h1, h2, h3, h4, h5, h6, h7], _ => exact ⟨_, _, _, _, _, _, _, _, rfl⟩
          have q0 : wo.cell? ⟨g, 0, none⟩ = some (.int .u32 h0) := hbh.cell 0 (by simp)
          have q1 : wo.cell? ⟨g, 1, none⟩ = some (.int .u32 h1) := hbh.cell 1 (by simp)
          have q2 : wo.cell? ⟨g, 2, none⟩ = some (.int .u32 h2) := hbh.cell 2 (by simp)
          have q3 : wo.cell? ⟨g, 3, none⟩ = some (.int .u32 h3) := hbh.cell 3 (by simp)
          have q4 : wo.cell? ⟨g, 4, none⟩ = some (.int .u32 h4) := hbh.cell 4 (by simp)
          have q5 : wo.cell? ⟨g, 5, none⟩ = some (.int .u32 h5) := hbh.cell 5 (by simp)
          have q6 : wo.cell? ⟨g, 6, none⟩ = some (.int .u32 h6) := hbh.cell 6 (by simp)
          have q7 : wo.cell? ⟨g, 7, none⟩ = some (.int .u32 h7) := hbh.cell 7 (by simp)
          go_wp2
          clear q0 q1 q2 q3 q4 q5 q6 q7
          go_loopw [95] (fun i w3 => ∃ t : Nat, t ≤ 64 ∧ i = .int .i64 t ∧ Blk .u32 117 w3 wo.heap.size (Sha.rounds (wat b 64) [h0, h1, h2, h3, h4, h5, h6, h7] t) ∧ wo.grownBy w3 none)
            (fun i _ => 64 - (intOf i).toNat)
          case atStart => exact ⟨0, by omega, rfl, (by have h := Blk.new wo .u32 117 [h0, h1, h2, h3, h4, h5, h6, h7]; exact h), World.grownBy_alloc _ _ _⟩
          case round =>
            obtain ⟨t, ht3, rfl, hv, hg3⟩ := hrel
            by_cases hlt3 : t < 64
            · obtain ⟨v0, v1, v2, v3, v4, v5, v6, v7, hvv⟩ : ∃ v0 v1 v2 v3 v4 v5 v6 v7, Sha.rounds (wat b 64) [h0, h1, h2, h3, h4, h5, h6, h7] t = [v0, v1, v2, v3, v4, v5, v6, v7] := by
                have := Sha.rounds_length (wat b 64) [h0, h1, h2, h3, h4, h5, h6, h7] rfl t
                match Sha.rounds (wat b 64) [h0, h1, h2, h3, h4, h5, h6, h7] t, this with
                | [v0, v1, v2, v3, v4, v5, v6, v7], _ => exact ⟨_, _, _, _, _, _, _, _, rfl⟩
              rw [hvv] at hv
              have HV := Lib.hid hvv
              clear hvv
              have hwb := hblk.grown hg3 (by simp)
              obtain ⟨x, hx⟩ : ∃ x, x = (wat b t1).getD t 0 := ⟨_, rfl⟩
              have cw := hwb.cell t (by rw [wat_len _ _ ht]; omega)
              rw [← hx] at cw
              have HX := Lib.hid hx
              clear hx
              have p0 : wr.cell? ⟨wo.heap.size, 0, none⟩ = some (.int .u32 v0) := hv.cell 0 (by simp)
              have p1 : wr.cell? ⟨wo.heap.size, 1, none⟩ = some (.int .u32 v1) := hv.cell 1 (by simp)
              have p2 : wr.cell? ⟨wo.heap.size, 2, none⟩ = some (.int .u32 v2) := hv.cell 2 (by simp)
              have p3 : wr.cell? ⟨wo.heap.size, 3, none⟩ = some (.int .u32 v3) := hv.cell 3 (by simp)
              have p4 : wr.cell? ⟨wo.heap.size, 4, none⟩ = some (.int .u32 v4) := hv.cell 4 (by simp)
              have p5 : wr.cell? ⟨wo.heap.size, 5, none⟩ = some (.int .u32 v5) := hv.cell 5 (by simp)
              have p6 : wr.cell? ⟨wo.heap.size, 6, none⟩ = some (.int .u32 v6) := hv.cell 6 (by simp)
              have p7 : wr.cell? ⟨wo.heap.size, 7, none⟩ = some (.int .u32 v7) := hv.cell 7 (by simp)
              have t64 : (t : Int) < 64 := by omega
              have hfr := fun i => hv.free ⟨wo.heap.size, i, none⟩ rfl
              go_wp2
              go_quiet (fail)
              go_wp2
              go_quiet ((first | (go_at_call 62; exact q_add_left (right_any _ _ (by decide) (by decide) _)) | (go_at_call 63; exact q_add_left (round_any _ (by omega) (by omega) _))))
              go_wp2
              go_quiet ((first | (go_at_call 62; exact q_add_left (right_any _ _ (by decide) (by decide) _)) | (go_at_call 63; exact q_add_left (round_any _ (by omega) (by omega) _))))
              go_wp2
              go_roundw
              case rel =>
                refine ⟨t + 1, by omega, by go_num, ?_, ?_⟩
                · rw [show Sha.rounds (wat b 64) [h0, h1, h2, h3, h4, h5, h6, h7] (t + 1) = Sha.rnd (wat b 64) (Sha.rounds (wat b 64) [h0, h1, h2, h3, h4, h5, h6, h7] t) t from rfl, HV.out]
                  have hx := HX.out
                  rw [H64.out] at hx
                  rw [Sha.rnd_eq, ← hx]
                  exact (hv.drewN _).set8 _ _ _ _ _ _ _ _
                · repeat (refine grownBy_set_new ?_ _ (.inl (Nat.le_refl _)) _)
                  exact grownBy_drewN hg3 _
              case measure => simp [intOf]; omega
            · have H64b := Lib.hid (show t = 64 by omega)
              rename Nat => t3
              have hgb := hbh.grown hg3 (by simp)
              obtain ⟨wp, rfl⟩ : ∃ wp : World, wp = wr := ⟨_, rfl⟩
              obtain ⟨vv, hvv⟩ : ∃ vv, vv = Sha.rounds (wat b 64) [h0, h1, h2, h3, h4, h5, h6, h7] t3 := ⟨_, rfl⟩
              have hvl : vv.length = 8 := by rw [hvv]; exact Sha.rounds_length _ _ rfl _
              rw [← hvv] at hv
              have HV := Lib.hid hvv
              have HVL := Lib.hid hvl
              clear hvv hvl
              go_wp2
              go_loopw [174] (fun i w4 => ∃ t : Nat, t ≤ 8 ∧ i = .int .i64 t ∧ Blk .u32 117 w4 g (Sha.add8 [h0, h1, h2, h3, h4, h5, h6, h7] vv t) ∧
                  Blk .u32 117 w4 wo.heap.size vv ∧ w.grownBy w4 (some g))
                (fun i _ => 8 - (intOf i).toNat)
              case atStart => exact ⟨0, by omega, rfl, hgb, hv, ⟨hg3.os.trans hg.os, hg3.tape.trans hg.tape, hg3.output.trans hg.output, Nat.le_trans hg.size hg3.size, fun k hk hne => (hg3.block k (Nat.lt_of_lt_of_le hk hg.size) (by simp)).trans (hg.block k hk (by simp))⟩⟩
              case round =>
                obtain ⟨t, ht4, rfl, hg4, hv4, hw4⟩ := hrel
                by_cases hlt4 : t < 8
                · have c0 := hg4.cell t (by simpa [Sha.add8] using hlt4)
                  have c1 := hv4.cell t (by rw [HVL.out]; exact hlt4)
                  rw [Sha.add8_get _ _ _ hlt4] at c0
                  have hfr := hg4.free ⟨g, t, none⟩ rfl
                  generalize hz : ([h0, h1, h2, h3, h4, h5, h6, h7] : List Int).getD t 0 = z at c0
                  generalize hy : vv.getD t 0 = y at c1
                  have HZ := Lib.hid (And.intro hz hy)
                  clear hz hy
                  have t8 : (t : Int) < 8 := by omega
                  go_wp2
                  go_still_tail 11, (by kernel_rfl)
                  go_wp2
                  go_roundw
                  case rel =>
                    refine ⟨t + 1, by omega, by go_num, ?_, (hv4.far _ (by show wo.heap.size ≠ g; omega) _).drew, grownBy_drew1 (grownBy_set_new hw4 _ (.inr rfl) _)⟩
                    obtain ⟨hz, hy⟩ := HZ.out
                    have hb := (hg4.set t ((z + y) % 4294967296)).drew
                    rw [← hz, ← hy, Sha.add8_set _ _ _ hlt4, hz, hy] at hb
                    exact hb
                  case measure => simp [intOf]; omega
                · obtain rfl : t = 8 := by omega
                  go_wp2
                  go_end0
                  have hh8 : Sha.add8 [h0, h1, h2, h3, h4, h5, h6, h7] vv 8 = Sha.compress (fun t => Sha.be32 b (4 * t)) [h0, h1, h2, h3, h4, h5, h6, h7] := by
                    rw [HV.out, H64b.out]
                    unfold Sha.compress wat Sha.arr
                    rw [show Sha.zeros64.drop 64 = [] from rfl, List.append_nil]
                  rw [hh8] at hg4
                  exact ⟨rfl, hg4, hw4⟩
end Go.Proofs.Ytkjgbldooflodaa
