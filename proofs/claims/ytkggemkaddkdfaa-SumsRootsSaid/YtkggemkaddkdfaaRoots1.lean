/-
  The walk of the reference's primes.
-/
import Derived.Test.YtkggemkaddkdfaaRoots0
import Derived.Test.YtkggemkaddkdfaaByWords
namespace Go.Proofs.Ytkggemkaddkdfaa
open Go.RowKit
set_option maxRecDepth 100000
/-- Whole numbers as cells of 64 bits. -/
def n64 (l : List Nat) : List Value := (l.map fun (n : Nat) => (n : Int)).map (Value.int .u64)
theorem n64_length (l : List Nat) : (n64 l).length = l.length := by simp [n64]
theorem n64_append (l m : List Nat) : n64 (l ++ m) = n64 l ++ n64 m := by simp [n64]
theorem n64_cell {w : World} {base g cap n : Nat} {e : TypeId} {l : List Nat} (h : w.ownsRow base e 1 (.slice (some ⟨g, 0, none⟩) n cap) n (n64 l)) (j : Nat) (hj : j < n) (x : Nat) (hx : x = l.getD j 0) :
    w.cell? ⟨g, j, none⟩ = some (.int .u64 (x : Int)) :=
  row_cell (l := l.map fun (n : Nat) => (n : Int)) h j hj _ (by
    have hl : l.length = n := by have := h.1; simpa [n64] using this
    rw [hx]; simp [List.getD_eq_getElem?_getD, List.getElem?_eq_getElem (show j < l.length by omega)])
theorem n64_some {w : World} {base n : Nat} {e : TypeId} {v : Value} {xs : List Value} (h : w.ownsRow base e 1 v n xs) (hn : 0 < n) : ∃ g cap, v = .slice (some ⟨g, 0, none⟩) n cap ∧ n ≤ cap ∧ g < w.heap.size := by
  rcases h.2 with ⟨_, h⟩ | ⟨g, cap, cur, rfl, _, hg, hc, _⟩
  · omega
  · exact ⟨g, cap, rfl, hc, (Array.getElem?_eq_some_iff.1 hg).1⟩
theorem n64_slice {w : World} {base n : Nat} {e : TypeId} {v : Value} {xs : List Value} (h : w.ownsRow base e 1 v n xs) : ∃ o cap, v = .slice o n cap := by
  rcases h.2 with ⟨rfl, rfl⟩ | ⟨g, cap, cur, rfl, _⟩
  · exact ⟨none, 0, rfl⟩
  · exact ⟨_, _, rfl⟩
theorem all_take (l : List Nat) (f : Nat → Bool) (j : Nat) (h : j < l.length) : (l.take (j + 1)).all f = ((l.take j).all f && f (l.getD j 0)) := by
  rw [List.take_succ_eq_append_getElem h, List.all_append, List.getD_eq_getElem?_getD, List.getElem?_eq_getElem h]
  simp
set_option maxHeartbeats 2000000 in
theorem primes_any (n K : Nat) (w : World) (hK : (Rt.P K).length = n) (hK2 : K ≤ 1000) (hK3 : 2 ≤ K) :
    Calls Try.prog 20 #[.int .i64 n] w fun e w' => (∃ v, e = .returned v ∧ w'.ownsRow w.heap.size 35 1 v n (n64 (Rt.P K))) ∧ Below w.heap.size w w' := by
  obtain ⟨i0, hi0, hz0, hz1, hz2⟩ := info_parts (P := Try.prog) (e := 35) (z := .int .u64 0) (size := 1) (bytes := 8) (by kernel_rfl)
  have hnK := Rt.P_len K
  rw [hK] at hnK
  have HK := Lib.hid hK
  clear hK
  go_enter Try.func20, Try.ntmps20
  go_wp2
  go_loopw [3, 4] (fun v k wr => ∃ q : Nat, q ≤ K ∧ k = .int .u64 q ∧ wr.ownsRow w.heap.size 35 1 v (Rt.P q).length (n64 (Rt.P q)) ∧ Below w.heap.size w wr ∧ 2 ≤ q)
    (fun _ k _ => K + 3 - (intOf k).toNat)
  case atStart => exact ⟨2, by omega, rfl, ⟨rfl, .inl ⟨rfl, rfl⟩⟩, Below.refl _ _, by omega⟩
  case round =>
    obtain ⟨q, hq, rfl, hown, hB, hq2⟩ := hrel
    obtain ⟨o, cap, rfl⟩ := n64_slice hown
    have hPl := Rt.P_len q
    by_cases hln : (Rt.P q).length < n
    · have hqK : q < K := by
        rcases Nat.lt_or_ge q K with h | h
        · exact h
        · exfalso
          obtain ⟨r, hr⟩ := Rt.P_prefix K (q - K)
          rw [show K + (q - K) = q by omega] at hr
          have := congrArg List.length hr
          rw [List.length_append, HK.out] at this
          omega
      obtain ⟨L, hL⟩ : ∃ L, L = Rt.P q := ⟨_, rfl⟩
      rw [← hL] at hown hln hPl ⊢
      have HL := Lib.hid hL
      have hLm : ∀ p ∈ L, 2 ≤ p ∧ p < q := by rw [hL]; exact Rt.P_lt q
      have HLm := Lib.hid hLm
      clear hL hLm
      go_wp2
      obtain ⟨wo, rfl⟩ : ∃ wo : World, wo = wr := ⟨_, rfl⟩
      go_loop [5, 6] (fun b i => ∃ j : Nat, j ≤ L.length ∧ i = .int .i64 j ∧ b = .bool ((L.take j).all fun p => q % p != 0)) (fun _ i => L.length - (intOf i).toNat)
      case atStart => exact ⟨0, by omega, rfl, rfl⟩
      case round =>
        obtain ⟨j, hj, rfl, rfl⟩ := hrel
        by_cases hjl : j < L.length
        · obtain ⟨g, cap', hv, hcap, hg⟩ := n64_some hown (by omega)
          injection hv with h1 h2 h3
          subst h1 h3
          obtain ⟨p, hp⟩ : ∃ p, p = L.getD j 0 := ⟨_, rfl⟩
          have hc := n64_cell hown j hjl p hp
          have hpm : p ∈ L := by rw [hp, List.getD_eq_getElem?_getD, List.getElem?_eq_getElem hjl]; exact List.getElem_mem hjl
          obtain ⟨hp2, hpq⟩ := HLm.out p hpm
          have hall := all_take L (fun p => q % p != 0) j hjl
          rw [← hp] at hall
          have Hall := Lib.hid hall
          clear hall hpm hp
          obtain ⟨b, hb⟩ : ∃ b, b = (L.take j).all fun p => q % p != 0 := ⟨_, rfl⟩
          rw [← hb] at Hall ⊢
          clear hb
          by_cases hd : q % p = 0
          · have hdb : (((q : Int) % (p : Int)) == 0) = true := by rw [beq_iff_eq]; omega
            have Hd := Lib.hid hd
            clear hd
            go_wp2
            go_round
            case rel => exact ⟨j + 1, hjl, by go_num, by rw [Hall.out, Hd.out]; simp⟩
            case measure => simp [intOf]; omega
          · have hdb : (((q : Int) % (p : Int)) == 0) = false := by rw [beq_eq_false_iff_ne]; omega
            have Hd := Lib.hid hd
            clear hd
            go_wp2
            go_round
            case rel => exact ⟨j + 1, hjl, by go_num, by rw [Hall.out, show (q % p != 0) = true by rw [bne_iff_ne]; exact Hd.out, Bool.and_true]⟩
            case measure => simp [intOf]; omega
        · obtain rfl : j = L.length := by omega
          rw [List.take_length]
          obtain ⟨b, hb⟩ : ∃ b, b = L.all fun p => q % p != 0 := ⟨_, rfl⟩
          rw [← hb]
          have Hb := Lib.hid hb
          clear hb
          cases b with
          | true =>
            go_wp2_with (at_builtin; refine wpList_append_own _ rfl _ _ 41 rfl w.heap.size 35 i0 (.int .u64 0) 1 8 Try.underlying41 hi0 hz0 hz1 hz2 rfl (by decide) _ _ _ rfl (hown.alloc _) ⟨wo.heap.size, 0, none⟩ 1 1 [.int .u64 (q : Int)] rfl rfl ?c1 ?c2 ?c3 ?c4 ?c5 ?_)
            case c2 => simp [Value.oneCell']
            case c3 => unfold maxLen; omega
            case c4 => omega
            case c5 => exact Nat.le_trans hB.size (by simp)
            intro v' w' hown' hgrow _
            go_wp2
            go_roundw
            case rel =>
              have hP : Rt.P (q + 1) = L ++ [q] := by
                simp only [Rt.P]; rw [if_pos ⟨hq2, by rw [← HL.out]; exact Hb.out.symm⟩, ← HL.out]
              refine ⟨q + 1, by omega, by go_num, ?_, (hB.alloc hB.size _).grown hgrow (Nat.le_trans hB.size (by simp)) (fun k hk => (hown.lt k hk).1), by omega⟩
              rw [hP, n64_append, List.length_append]
              exact hown'
            case measure => simp [intOf]; omega
          | false =>
            go_wp2
            go_roundw
            case rel =>
              have hP : Rt.P (q + 1) = L := by
                simp only [Rt.P]; rw [if_neg (by rw [← HL.out, ← Hb.out]; simp), ← HL.out]
              refine ⟨q + 1, by omega, by go_num, ?_, hB, by omega⟩
              rw [hP]
              exact hown
            case measure => simp [intOf]; omega
    · have hPq : Rt.P q = Rt.P K := Rt.P_all hq (by rw [HK.out]; omega)
      rw [hPq, HK.out] at hown
      rw [hPq, HK.out]
      clear hPq hln
      go_wp2
      go_ret
      exact ⟨⟨_, rfl, hown⟩, hB⟩
end Go.Proofs.Ytkggemkaddkdfaa
