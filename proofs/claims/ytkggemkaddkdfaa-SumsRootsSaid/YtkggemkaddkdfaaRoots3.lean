/-
  The walk of the reference's Roots.
-/
import Derived.Test.YtkggemkaddkdfaaRoots2
namespace Go.Proofs.Ytkggemkaddkdfaa
open Go.RowKit
set_option maxRecDepth 100000
def n32 (l : List Nat) : List Value := (l.map fun (n : Nat) => (n : Int)).map (Value.int .u32)
theorem n32_append (l m : List Nat) : n32 (l ++ m) = n32 l ++ n32 m := by simp [n32]
theorem own_below1 {w w' : World} {base n size : Nat} {e : TypeId} {v : Value} {xs : List Value} (h : w.ownsRow base e size v n xs) (hb : Below w.heap.size w w') : w'.ownsRow base e size v n xs :=
  h.kept (row := none) ⟨hb.os, hb.tape, hb.output, hb.size, fun i hi _ => hb.block i hi⟩ (by cases v.ownBlock <;> simp)
theorem ownsRow_ne {w : World} {b1 b2 n1 n2 g c1 : Nat} {e1 e2 : TypeId} {v2 : Value} {xs1 xs2 : List Value} (h1 : w.ownsRow b1 e1 1 (.slice (some ⟨g, 0, none⟩) n1 c1) n1 xs1) (h2 : w.ownsRow b2 e2 1 v2 n2 xs2) (he : e1 ≠ e2) :
    (Value.slice (some ⟨g, 0, none⟩) n1 c1).ownBlock ≠ v2.ownBlock := by
  rcases h2.2 with ⟨rfl, _⟩ | ⟨g2, c2, cur2, rfl, _, hg2, _⟩
  · simp [Value.ownBlock]
  · rcases h1.2 with ⟨h, _⟩ | ⟨g1, c1', cur1, hv, _, hg1, _⟩
    · cases h
    · injection hv with hv
      injection hv with hv
      injection hv with hv
      subst hv
      intro h
      simp only [Value.ownBlock, Option.some.injEq] at h
      subst h
      rw [hg1] at hg2
      simp only [Option.some.injEq, Obj.cells.injEq] at hg2
      exact he hg2.2.1
def rootl (l : List Nat) (power : Nat) : List Nat := l.map fun p => Rt.rt power p 37 % 4294967296
theorem bits64_or (x y : Nat) (hx : x < 18446744073709551616) (hy : y < 18446744073709551616) : Go.bits .or .u64 (x : Int) (y : Int) = ((x ||| y : Nat) : Int) := by
  show IntKind.u64.wrap (((BitVec.ofInt 64 (x : Int)) ||| (BitVec.ofInt 64 (y : Int))).toNat : Int) = _
  rw [BitVec.ofInt_natCast, BitVec.ofInt_natCast, BitVec.toNat_or, BitVec.toNat_ofNat, BitVec.toNat_ofNat]
  have h3 : x ||| y < 2 ^ 64 := Nat.or_lt_two_pow hx hy
  rw [Nat.mod_eq_of_lt hx, Nat.mod_eq_of_lt hy]
  exact u64_wrap_in _ (by omega) (by omega)
theorem root_or (x j : Nat) (hx : x < 137438953472) : Go.bits .or .u64 (x : Int) (IntKind.u64.wrap (2 ^ (36 - j))) = ((x ||| 2 ^ (36 - j) : Nat) : Int) := by
  have h1 : 2 ^ (36 - j) ≤ 2 ^ 36 := Nat.pow_le_pow_right (by omega) (by omega)
  have h2 : ((2 : Int) ^ (36 - j)) = ((2 ^ (36 - j) : Nat) : Int) := by rw [Int.natCast_pow]; rfl
  rw [h2]
  generalize 2 ^ (36 - j) = z at h1
  rw [u64_wrap_in _ (by omega) (by omega)]
  exact bits64_or _ _ (by omega) (by omega)
set_option maxHeartbeats 4000000 in
theorem roots_any (n K power : Nat) (w : World) (hK : (Rt.P K).length = n) (hK2 : K ≤ 1000) (hK3 : 2 ≤ K) (hp1 : 1 ≤ power) (hp3 : power ≤ 3) :
    Calls Try.prog 11 #[.int .i64 n, .int .i64 power] w fun e w' => (∃ v, e = .returned v ∧ w'.ownsRow w.heap.size 28 1 v n (n32 (rootl (Rt.P K) power))) ∧ Below w.heap.size w w' := by
  obtain ⟨i0, hi0, hz0, hz1, hz2⟩ := info_parts (P := Try.prog) (e := 28) (z := .int .u32 0) (size := 1) (bytes := 4) (by kernel_rfl)
  have hnK := Rt.P_len K
  rw [hK] at hnK
  have HK := Lib.hid hK
  go_enter Try.func11, Try.ntmps11
  go_wp2_with (fail)
  go_at_call 20
  refine (primes_any n K w hK hK2 hK3).mono ?_
  rintro e w1 ⟨⟨v, rfl, hP⟩, hB1⟩
  obtain ⟨o, cp, rfl⟩ := n64_slice hP
  obtain ⟨L, hL⟩ : ∃ L, L = Rt.P K := ⟨_, rfl⟩
  rw [← hL] at hP
  have hLm : ∀ p ∈ L, 2 ≤ p ∧ p < K := by rw [hL]; exact Rt.P_lt K
  have hLl : L.length = n := by rw [hL]; exact hK
  have HL := Lib.hid (And.intro hL (And.intro hLm hLl))
  clear hL hLm hLl hK
  go_wp2
  go_loopw [5, 7] (fun ov iv wr => ∃ i : Nat, i ≤ n ∧ iv = .int .i64 i ∧ wr.ownsRow w.heap.size 35 1 (.slice o n cp) n (n64 L) ∧ wr.ownsRow w.heap.size 28 1 ov i (n32 (rootl (L.take i) power)) ∧ Below w.heap.size w wr)
    (fun _ iv _ => n - (intOf iv).toNat)
  case atStart => exact ⟨0, by omega, rfl, hP, ⟨rfl, .inl ⟨rfl, rfl⟩⟩, hB1⟩
  clear hP hB1
  case round =>
    obtain ⟨i, hi, rfl, hP, hO, hB⟩ := hrel
    obtain ⟨oo, co, rfl⟩ := n64_slice hO
    by_cases hin : i < n
    · obtain ⟨g, cap', hv, hcap, hg⟩ := n64_some hP (by omega)
      injection hv with h1 h2 h3
      subst h1 h3
      obtain ⟨p, hp⟩ : ∃ p, p = L.getD i 0 := ⟨_, rfl⟩
      have hpm : p ∈ L := by rw [hp, List.getD_eq_getElem?_getD, List.getElem?_eq_getElem (by rw [HL.out.2.2]; exact hin)]; exact List.getElem_mem _
      have hpK : p < K := (HL.out.2.1 p hpm).2
      have Hp := Lib.hid hp
      clear hp hpm
      go_wp2
      obtain ⟨wo, rfl⟩ : ∃ wo : World, wo = wr := ⟨_, rfl⟩
      go_loopw [8, 9] (fun xv bv w4 => ∃ (j x : Nat), j ≤ 37 ∧ bv = .int .i64 (36 - (j : Int)) ∧ xv = .int .u64 x ∧ Hid (x = Rt.rt power p j) ∧
          w4.ownsRow w.heap.size 35 1 (.slice (some ⟨g, 0, none⟩) n cp) n (n64 L) ∧ w4.ownsRow w.heap.size 28 1 (.slice oo i co) i (n32 (rootl (L.take i) power)) ∧ Below w.heap.size w w4)
        (fun _ bv _ => (intOf bv + 1).toNat)
      case atStart => exact ⟨0, 0, by omega, rfl, rfl, Lib.hid rfl, hP, hO, hB⟩
      clear hP hO hB
      case round =>
        obtain ⟨j, x, hj, rfl, rfl, HX, hP, hO, hB⟩ := hrel
        by_cases hj37 : j < 37
        · have hx37 : x < 137438953472 := by rw [HX.out]; exact Rt.rt_lt power p j
          have hcp := n64_cell hP i hin p Hp.out
          have j0 : 0 ≤ 36 - (j : Int) := by omega
          have j1 : 36 - (j : Int) ≤ 36 := by omega
          go_wp2_with (fail)
          rw [root_or x j hx37]
          obtain ⟨y, hy⟩ : ∃ y, y = x ||| 2 ^ (36 - j) := ⟨_, rfl⟩
          have hy37 : y < 137438953472 := by
            rw [hy]; exact Nat.or_lt_two_pow (n := 37) hx37 (Nat.pow_lt_pow_right (by omega) (by omega))
          rw [← hy]
          have Hy := Lib.hid hy
          clear hy
          go_at_call 21
          refine (above_any y power p wr hy37 hp1 hp3 (by omega)).mono ?_
          rintro e w5 ⟨rfl, hB5⟩
          have hP5 := own_below1 hP hB5
          have hO5 := own_below1 hO hB5
          have hB6 := hB.trans (hB5.mono hB.size)
          have hrt : Rt.rt power p (j + 1) = if Rt.above y power p = true then x else y := by
            simp only [Rt.rt]; rw [← HX.out, ← Hy.out]
          have Hrt := Lib.hid hrt
          clear hrt hcp hP hO hB hB5
          cases hab : Rt.above y power p
          · have Hab := Lib.hid hab
            clear hab
            go_wp2
            go_roundw
            case rel => exact ⟨j + 1, y, by omega, by rw [show (36 - (j : Int) - 1) = 36 - ((j + 1 : Nat) : Int) by omega], rfl, Lib.hid (by rw [Hrt.out, Hab.out]; simp), hP5, hO5, hB6⟩
            case measure => simp [intOf] <;> omega
          · have Hab := Lib.hid hab
            clear hab
            go_wp2
            go_roundw
            case rel => exact ⟨j + 1, x, by omega, by rw [show (36 - (j : Int) - 1) = 36 - ((j + 1 : Nat) : Int) by omega], rfl, Lib.hid (by rw [Hrt.out, Hab.out]; simp), hP5, hO5, hB6⟩
            case measure => simp [intOf] <;> omega
        · obtain rfl : j = 37 := by omega
          obtain ⟨wi, rfl⟩ : ∃ wi : World, wi = wr := ⟨_, rfl⟩
          go_wp2_with (at_builtin; refine wpList_append_own _ rfl _ _ 26 rfl w.heap.size 28 i0 (.int .u32 0) 1 4 Try.underlying26 hi0 hz0 hz1 hz2 rfl (by decide) _ _ _ rfl (hO.alloc _) ⟨wi.heap.size, 0, none⟩ 1 1 [.int .u32 ((x : Int) % 4294967296)] rfl rfl ?c1 ?c2 ?c3 ?c4 ?c5 ?_)
          case c1 => exact World.news_of_block (heap_alloc_new wi _)
          case c2 => simp [Value.oneCell']
          case c3 => unfold maxLen; omega
          case c4 => omega
          case c5 => exact Nat.le_trans hB.size (by simp)
          intro v' w' hown' hgrow _
          go_wp2
          go_roundw
          case rel =>
            refine ⟨i + 1, hin, by go_num, ?_, ?_, (hB.alloc hB.size _).grown hgrow (Nat.le_trans hB.size (by simp)) (fun k hk => (hO.lt k hk).1)⟩
            · exact (hP.alloc _).kept hgrow (.inr (ownsRow_ne hP hO (by decide)))
            · rw [List.take_succ_eq_append_getElem (by rw [HL.out.2.2]; exact hin)]
              unfold rootl at hown' ⊢
              rw [List.map_append, n32_append]
              have he : L[i]'(by rw [HL.out.2.2]; exact hin) = p := by rw [Hp.out, List.getD_eq_getElem?_getD, List.getElem?_eq_getElem (by rw [HL.out.2.2]; exact hin)]; rfl
              have hx2 : ((x : Int) % 4294967296) = ((Rt.rt power p 37 % 4294967296 : Nat) : Int) := by rw [HX.out]; omega
              rw [he]
              simp only [List.map_cons, List.map_nil, n32]
              rw [← hx2]
              exact hown'
          case measure => simp [intOf] <;> omega
    · obtain rfl : i = n := by omega
      go_wp2
      go_ret
      refine ⟨⟨_, rfl, ?_⟩, hB⟩
      rw [List.take_of_length_le (by rw [HL.out.2.2]; exact Nat.le_refl _), HL.out.1] at hO
      exact hO
end Go.Proofs.Ytkggemkaddkdfaa
