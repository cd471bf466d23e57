/-
  The walk of the law SplitParts.
-/
import Derived.Test.YtncjggobpmmonaaLaws
import Derived.BigQuiet
import Derived.Deep.RegionHeld3
namespace Go.Proofs.Ytncjggobpmmonaa
open Go.RowKit
set_option maxRecDepth 100000
theorem take_sum (l : List Nat) (i : Nat) (h : i < l.length) : (l.take (i + 1)).sum = (l.take i).sum + l.getD i 0 := by
  rw [List.take_add_one, List.getElem?_eq_getElem h, List.sum_append]
  simp [List.getD_eq_getElem?_getD, List.getElem?_eq_getElem h]
theorem take_sum_le (l : List Nat) (i : Nat) : (l.take i).sum ≤ l.sum := by
  conv => rhs; rw [← List.take_append_drop i l, List.sum_append]
  omega
theorem cut_len (o : Option Addr) (c n : Nat) (ls : List ByteArray) (w : World) (hn : n = ls.length) (hv : Vs w o (ls.map Value.string)) (hlc : ls.length ≤ c) (hf : Fit ls) :
    Calls Try.prog 11 #[.slice o n c] w fun e w' => (∃ v ks, e = .returned v ∧ w'.ownsRow w.heap.size 3 1 v ks.length (ints ks) ∧ Cuts ls ks) ∧ Below w.heap.size w w' := by
  subst hn
  exact cut_any o c ls w hv hlc hf
theorem same_len (o1 o2 : Option Addr) (c1 c2 n1 n2 : Nat) (l1 l2 : List Nat) (w : World) (h1 : n1 = l1.length) (h2 : n2 = l2.length) (hv1 : Vs w o1 (ints l1)) (hv2 : Vs w o2 (ints l2)) (hl : l1.length ≤ 1000) (hl2 : l2.length ≤ 1000) :
    Calls Try.prog 10 #[.slice o1 n1 c1, .slice o2 n2 c2] w fun e w' => e = .returned (.bool (decide (l1 = l2))) ∧ Below w.heap.size w w' := by
  subst h1 h2
  exact same_any o1 o2 c1 c2 l1 l2 w hv1 hv2 hl hl2
theorem slice_from {P : Program} {t : TypeId} (ht : P.underlying t = some (.slice (P.elem t))) (hs : ∀ W, (sizeOf (P.elem t)).run P W = .ok 1 W) (a : Addr) (n c k : Nat) (hk : k ≤ n) (W : World) :
    (Instr.slice t (.slice (some a) n c) (some (.int .i64 (k : Int))) none none).run P W = .ok (.slice (if c = k then some a else some (a.add k)) (n - k) (c - k)) W := by
  rw [run_slice_l (t := t) (a := some a) (len := n) (cap := c) (ht := ht) (kl := .i64) (l := (k : Int)) (h0 := by omega) (h1 := by omega), hs]
  simp [Result.andThen, sliced]
theorem slice_upto {P : Program} {t : TypeId} (ht : P.underlying t = some (.slice (P.elem t))) (hs : ∀ W, (sizeOf (P.elem t)).run P W = .ok 1 W) (a : Addr) (n c k : Nat) (hk : k ≤ n) (hc : n ≤ c) (W : World) :
    (Instr.slice t (.slice (some a) n c) none (some (.int .i64 (k : Int))) none).run P W = .ok (.slice (some a) k c) W := by
  rw [run_slice_h (t := t) (a := some a) (len := n) (cap := c) (ht := ht) (kh := .i64) (h := (k : Int)) (h0 := by omega) (h2 := by omega), hs]
  simp [Result.andThen, sliced, Addr.add]
/-- A slice's end, from k on, as the program makes it. -/
theorem Vs.from_ {w : World} {a : Addr} {xs : List Value} {c : Nat} (h : Vs w (some a) xs) (k : Nat) (hk : k ≤ xs.length) (hc : xs.length ≤ c) : Vs w (if c = k then some a else some (a.add k)) (xs.drop k) := by
  by_cases hck : c = k
  · rw [List.drop_eq_nil_of_le (by omega)]
    exact Vs.nil
  · rw [if_neg hck]
    exact h.drop k
theorem Vs.drew {w : World} {o : Option Addr} {xs : List Value} (h : Vs w o xs) : Vs w.drew o xs := h
def psum (l : List Nat) (i : Nat) : Nat := (l.take i).sum
set_option maxHeartbeats 4000000 in
theorem splitParts_walk (o : Option Addr) (c : Nat) (ls : List ByteArray) (w : World) (hv : Vs w o (ls.map Value.string)) (hlc : ls.length ≤ c) (hz : ∀ i, i < ls.length → (ls.getD i ByteArray.empty).size ≤ 140737488351232) (hn : ls.length ≤ maxLen) :
    Calls Try.prog 4 #[.slice o ls.length c] w fun e w' => e = .returned (.bool true) ∧ Below w.heap.size w w' := by
  go_enter Try.func4, Try.ntmps4
  go_wp2_with (go_at_call 6; refine (awake_any w).mono ?_; rintro e w1 ⟨rfl, hb1⟩)
  have hv1 := hv.below (Nat.le_refl _) hb1
  go_wp2_with (go_at_call 7; refine (few_any o c ls w1 hv1 hz hn).mono ?_; rintro e w2 ⟨⟨b, rfl, hfew⟩, hb2⟩; cases b)
  · go_wp2
    go_ret
    exact ⟨rfl, hb1.trans (hb2.mono hb1.size)⟩
  · obtain ⟨h200, hsz⟩ := hfew (by first | trivial | rfl)
    clear hfew
    have hB2 := hb1.trans (hb2.mono hb1.size)
    have hf : Fit ls := ⟨by omega, hz⟩
    have hv2 := hv.below (Nat.le_refl _) hB2
    clear hb1 hb2 hv1
    go_wp2_with (go_at_call 11; refine (cut_any o c ls w2 hv2 hlc hf).mono ?_; rintro e w3 ⟨⟨v1, k1, rfl, hown1, hcut1⟩, hb3⟩; have hB3 := hB2.trans (hb3.mono hB2.size); obtain ⟨o1, c1, rfl, hc1, hvs1, _⟩ := Vs.own hown1)
    clear hown1 hb3
    have hrange := Lib.hid hcut1.range
    have hks := hcut1.length_le
    have hsum := hcut1.sum
    have hps := take_sum_le k1
    rw [hsum] at hps
    have Hps := Lib.hid hps
    clear hps
    go_loopw [4, 16] (fun v x wr => ∃ i : Nat, i ≤ k1.length ∧ v = .int .i64 (psum k1 i) ∧ x = .int .i64 i ∧ Below w3.heap.size w3 wr)
      (fun _ x _ => k1.length - (intOf x).toNat)
    case atStart => exact ⟨0, by omega, rfl, rfl, Below.refl _ _⟩
    case round =>
      obtain ⟨i, hi, rfl, rfl, hb⟩ := hrel
      have hvs2 := hvs1.below (Nat.le_refl _) hb
      by_cases hil : i < k1.length
      · obtain ⟨a1, rfl⟩ := hvs1.1 (by intro h; have h2 : k1.length = 0 := by { rw [← ints_length, h]; rfl }; omega)
        have hc := hvs2.geti' i hil
        obtain ⟨h1, h16, h2⟩ := hrange.out i hil
        obtain ⟨k, hk⟩ : ∃ k, k = k1.getD i 0 := ⟨_, rfl⟩
        rw [← hk] at hc h1 h16 h2
        have hpi : psum k1 (i + 1) = psum k1 i + k := by rw [hk]; exact take_sum k1 i hil
        have hpb : psum k1 i ≤ ls.length := Hps.out i
        obtain ⟨p, hp⟩ : ∃ p, p = psum k1 i := ⟨_, rfl⟩
        rw [← hp] at hpb hpi ⊢
        have Hpi := Lib.hid hpi
        clear hpi hp hk
        have hlen := i64_wrap_in (x := (k1.length : Int) - 1) (by omega) (by omega)
        by_cases hk2 : k < 2
        · have hlast : i + 1 = k1.length := by
            rcases Nat.lt_or_ge (i + 1) k1.length with h | h
            · have := h2 h; omega
            · omega
          clear h2
          go_wp2
          go_roundw
          case rel => exact ⟨i + 1, hil, by rw [Hpi.out]; go_num, by go_num, hb⟩
          case measure => simp [intOf]; omega
        · clear h2
          go_wp2
          go_roundw
          case rel => exact ⟨i + 1, hil, by rw [Hpi.out]; go_num, by go_num, hb⟩
          case measure => simp [intOf]; omega
      · obtain rfl : i = k1.length := by omega
        have hps : psum k1 k1.length = ls.length := by unfold psum; rw [List.take_length, hsum]
        rw [hps]
        go_wp2
        have hBr := hB3.trans (hb.mono hB3.size)
        have hvr := hv.below (Nat.le_refl _) hBr
        cases hcut1 with
        | nil =>
          go_quiet (fail)
          go_wp2
          go_ret
          first | exact ⟨rfl, drewN_below hBr _⟩ | exact ⟨by simp, drewN_below hBr _⟩
        | @cons _ k0 kt hp hcut2 =>
          obtain ⟨k1, hk1⟩ : ∃ k1, k1 = k0 :: kt := ⟨_, rfl⟩
          have hl1 : k1.length = kt.length + 1 := by rw [hk1]; rfl
          rw [← hk1] at hc1 hvs2 hks ⊢
          have Hk1 := Lib.hid hk1
          obtain ⟨a1, rfl⟩ := hvs1.1 (by simp [ints])
          clear hk1
          have h0 := hp.pos
          have h1 := hp.le
          obtain ⟨a, rfl⟩ := hv.1 (by intro h; simp at h; subst h; simp at h1; omega)
          have hc0 : wr.cell? a1 = some (.int .i64 (k0 : Int)) := hvs2.2 a1 rfl 0 _ (by rw [Hk1.out]; rfl)
          have hvd : Vs wr (if c = k0 then some a else some (a.add k0)) ((ls.drop k0).map Value.string) := by
            rw [List.map_drop]
            exact hvr.from_ k0 (by simpa using h1) (by simpa using hlc)
          have hfd := hf.drop k0
          have hdl : ls.length - k0 = (ls.drop k0).length := by rw [List.length_drop]
          have hvk : Vs wr (if c1 = 1 then some a1 else some (a1.add 1)) (ints kt) := by
            have := hvs2.from_ 1 (by rw [ints_length]; omega) (by rw [ints_length]; exact hc1)
            rw [Hk1.out] at this
            exact this
          have hkt := hcut2.length_le
          have j0 : (0 : Int) ≤ (k0 : Int) := by omega
          have j1 : (k0 : Int) ≤ (ls.length : Int) := by omega
          have j2 : (ls.length : Int) ≤ (c : Int) := by omega
          have j3 : (1 : Int) ≤ (k1.length : Int) := by omega
          have j4 : (k1.length : Int) ≤ (c1 : Int) := by omega
          have j5 : ((k1.length : Int) == 0) = false := beq_eq_false_iff_ne.2 (by omega)
          have j6 : (0 : Int) ≤ (1 : Int) := by omega
          have jA : 0 < k1.length := by omega
          have jB : (0 : Int) < (k1.length : Int) := by omega
          have j7 : ((k0 : Int)).toNat = k0 := by omega
          clear hrange Hps hps hvs1 hvs2
          have hcut1 := Lib.hid hcut2
          clear hcut2
          have hs1 := fun W => slice_from (P := Try.prog) (t := 22) rfl (fun W => by kernel_rfl) a ls.length c k0 h1 W
          have hs2 := fun W => slice_from (P := Try.prog) (t := 27) rfl (fun W => by kernel_rfl) a1 k1.length c1 1 (by omega) W
          rw [show ((1 : Nat) : Int) = 1 from rfl, show k1.length - 1 = kt.length by omega] at hs2
          have Hdl := Lib.hid hdl
          have Hl1 := Lib.hid hl1
          have Hkt := Lib.hid hkt
          have H01 := Lib.hid (And.intro h0 h1)
          clear hdl hl1 hkt j6 hsum hi hil h0 h1 hp
          generalize (if c = k0 then some a else some (a.add k0)) = od at hvd hs1
          generalize (if c1 = 1 then some a1 else some (a1.add 1)) = ok at hvk hs2
          go_region_held3 (fun w' => w'.cell? a1 = some (.int .i64 (k0 : Int))) (first | exact hc0 | assumption | go_keep) (first | (go_at_call 11; go_loud (refine (cut_len _ (c - k0) _ (ls.drop k0) wr.drew Hdl.out hvd.drew (by rw [← Hdl.out]; omega) hfd).mono ?_; rintro e w4 ⟨⟨v2, k2, rfl, hown2, hcut2⟩, hb4⟩; have hc4 : w4.cell? a1 = some (.int .i64 (k0 : Int)) := (hb4.cell (World.block_lt_of_cell? wr.drew a1 hc0)).trans hc0)) | (go_at_call 10; obtain rfl := hcut1.out.one hcut2; obtain ⟨o2, c2, rfl, hc2, hvs2, _⟩ := Vs.own hown2; have hvk4 := hvk.drew.below (Nat.le_refl _) hb4; go_loud (first | (refine (same_len o2 ok c2 (c1 - 1) _ _ kt kt w4 rfl rfl hvs2 hvk4 (by have := Hkt.out; have := Hdl.out; omega) (by have := Hkt.out; have := Hdl.out; omega)).mono ?_; rintro e w5 ⟨rfl, hb5⟩; have hc5 : w5.cell? a1 = some (.int .i64 (k0 : Int)) := (hb5.cell (World.block_lt_of_cell? w4 a1 hc4)).trans hc4) | (refine (same_len o2 ok c2 (c1 - 1) _ _ kt kt w4.drew rfl rfl hvs2.drew hvk4.drew (by have := Hkt.out; have := Hdl.out; omega) (by have := Hkt.out; have := Hdl.out; omega)).mono ?_; rintro e w5 ⟨rfl, hb5⟩; have hc5 : w5.cell? a1 = some (.int .i64 (k0 : Int)) := (hb5.cell (World.block_lt_of_cell? w4.drew a1 hc4)).trans hc4))))
          go_wp2
          go_ret
          have b4 : Below w.heap.size w w4 := (drewN_below hBr 1).trans (hb4.mono hBr.size)
          have b5 : Below w.heap.size w w5 := b4.trans (hb5.mono b4.size)
          first | exact ⟨by simp, b5⟩ | exact ⟨by simp, drewN_below b5 1⟩
end Go.Proofs.Ytncjggobpmmonaa
