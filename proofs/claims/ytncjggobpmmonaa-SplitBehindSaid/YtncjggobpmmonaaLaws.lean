/-
  The walks of awake and of the law SplitCuts.
-/
import Derived.Test.YtncjggobpmmonaaRcut
namespace Go.Proofs.Ytncjggobpmmonaa
open Go.RowKit
set_option maxRecDepth 100000
theorem cuts_one {a : ByteArray} {ks : List Nat} (h : Cuts [a] ks) : ks = [1] := by
  cases h with
  | @cons _ k ks' hp hc =>
    have h1 := hp.pos
    have h2 := hp.le
    simp at h2
    obtain rfl : k = 1 := by omega
    have := hc.one .nil
    rw [this]
theorem awake_any (w : World) : Calls Try.prog 6 #[] w fun e w' => e = .returned (.bool true) ∧ Below w.heap.size w w' := by
  go_enter Try.func6, Try.ntmps6
  have hbA : Below w.heap.size w (w.alloc (.cells #[.string ⟨#[97]⟩] 9)) := (Below.refl _ _).alloc (Nat.le_refl _) _
  have hvA : Vs (w.alloc (.cells #[.string ⟨#[97]⟩] 9)) (some ⟨w.heap.size, 0, none⟩) ([(⟨#[97]⟩ : ByteArray)].map Value.string) := ⟨fun _ => ⟨_, rfl⟩, fun a ha => by injection ha with ha; subst ha; exact World.news_of_block (heap_alloc_new w _)⟩
  have hfA : Fit [(⟨#[97]⟩ : ByteArray)] := ⟨by simp, fun i hi => by
    obtain rfl : i = 0 := by simpa using hi
    exact (by decide : (1 : Nat) ≤ 140737488351232)⟩
  have hzB : (⟨#[97, 98, 99]⟩ : ByteArray).size ≤ 140737488351232 := (by decide : (3 : Nat) ≤ 140737488351232)
  go_wp2_with (first | (go_at_call 8; refine (ends_any _ w1 hzB).mono ?_; rintro e w2 ⟨rfl, hb2⟩) | (go_at_call 9; refine (rends_any _ w2 hzB).mono ?_; rintro e w3 ⟨rfl, hb3⟩) | (go_at_call 11; refine (cut_any (some ⟨w.heap.size, 0, none⟩) 1 [⟨#[97]⟩] _ hvA (Nat.le_refl _) hfA).mono ?_; rintro e w1 ⟨⟨v, ks, rfl, hown, hcut⟩, hb1⟩; obtain rfl := cuts_one hcut; obtain ⟨o, c, rfl, hc, hvs, _⟩ := Vs.own hown; obtain ⟨a, rfl⟩ := hvs.1 (by simp [ints]); have hcell : w1.cell? a = some (.int .i64 1) := hvs.2 a rfl 0 _ rfl))
  go_ret
  have b1 := hbA.trans (hb1.mono hbA.size)
  have b2 := b1.trans (hb2.mono b1.size)
  exact ⟨by simp, b2.trans (hb3.mono b2.size)⟩
theorem splitCuts_walk (o : Option Addr) (c : Nat) (ls : List ByteArray) (w : World) (hv : Vs w o (ls.map Value.string)) (hlc : ls.length ≤ c) (hz : ∀ i, i < ls.length → (ls.getD i ByteArray.empty).size ≤ 140737488351232) (hn : ls.length ≤ maxLen) :
    Calls Try.prog 3 #[.slice o ls.length c] w fun e w' => e = .returned (.bool true) ∧ Below w.heap.size w w' := by
  go_enter Try.func3, Try.ntmps3
  go_wp2_with (go_at_call 6; refine (awake_any w).mono ?_; rintro e w1 ⟨rfl, hb1⟩)
  have hv1 := hv.below (Nat.le_refl _) hb1
  go_wp2_with (go_at_call 7; refine (few_any o c ls w1 hv1 hz hn).mono ?_; rintro e w2 ⟨⟨b, rfl, hfew⟩, hb2⟩; cases b)
  · go_wp2
    go_ret
    exact ⟨rfl, hb1.trans (hb2.mono hb1.size)⟩
  · obtain ⟨h200, hsz⟩ := hfew (by first | trivial | rfl)
    clear hfew
    have hB2 := hb1.trans (hb2.mono hb1.size)
    go_wp2
    have hf : Fit ls := ⟨by omega, hz⟩
    clear hb1 hb2 hv1
    go_loopw [12] (fun x wr => ∃ i : Nat, i ≤ ls.length ∧ x = .int .i64 i ∧ Below w.heap.size w wr)
      (fun x _ => ls.length - (intOf x).toNat)
    case atStart => exact ⟨0, by omega, rfl, hB2⟩
    clear hB2
    case round =>
      obtain ⟨i, hi, rfl, hB⟩ := hrel
      have hv2 := hv.below (Nat.le_refl _) hB
      by_cases hil : i < ls.length
      · obtain ⟨a, rfl⟩ := hv.1 (by intro h; simp at h; subst h; simp at hil)
        have hc := hv2.get i hil
        have hzi := hz i hil
        generalize ls.getD i ByteArray.empty = s at hc hzi
        go_wp2_with (first | (go_at_call 8; refine (ends_any _ wr hzi).mono ?_; rintro e w3 ⟨rfl, hb3⟩) | (go_at_call 9; refine (rends_any _ w3 hzi).mono ?_; rintro e w4 ⟨rfl, hb4⟩))
        go_roundw
        case rel =>
          have b3 := hB.trans (hb3.mono hB.size)
          exact ⟨i + 1, hil, by go_num, b3.trans (hb4.mono b3.size)⟩
        case measure => simp [intOf]; omega
      · go_wp2_with (first | (go_at_call 11; refine (cut_any o c ls wr hv2 hlc hf).mono ?_; rintro e w3 ⟨⟨v1, k1, rfl, hown1, hcut1⟩, hb3⟩; have b3 := hB.trans (hb3.mono hB.size); have hv3 := hv.below (Nat.le_refl _) b3) | (go_at_call 12; refine (rcut_any o c ls w3 hv3 hf).mono ?_; rintro e w4 ⟨⟨v2, k2, rfl, hown2, hcut2⟩, hb4⟩; obtain rfl := hcut1.one hcut2; have hown1' := own_below hown1 hb4; obtain ⟨o1, c1, rfl, hc1, hvs1, _⟩ := Vs.own hown1'; obtain ⟨o2, c2, rfl, hc2, hvs2, _⟩ := Vs.own hown2) | (go_at_call 10; refine (same_any o1 o2 c1 c2 k1 k1 w4 hvs1 hvs2 (by have := hcut1.length_le; omega) (by have := hcut1.length_le; omega)).mono ?_; rintro e w5 ⟨rfl, hb5⟩))
        go_ret
        have b4 := b3.trans (hb4.mono b3.size)
        exact ⟨by simp, b4.trans (hb5.mono b4.size)⟩
end Go.Proofs.Ytncjggobpmmonaa
