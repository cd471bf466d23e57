/-
  The walk of sums.Print: what it returns is the fingerprint of the plain words.
-/
import Derived.Test.YtkjgbldooflodaaBlock
import Derived.Test.YtkjgbldooflodaaSha3
import Derived.Test.YtkjgbldooflodaaShelf
import Derived.Deep.AppendLies
import Derived.Lib.ConvBytes
import Derived.Laws.BytesArg
namespace Go.Proofs.Ytkjgbldooflodaa
open Go.RowKit
set_option maxRecDepth 100000
def strSize : Value → Nat
  | .string s => s.size
  | _ => 0
/-- A text out of one byte in a new block. -/
theorem run_convert_one {P : Program} (wr : World) (src e dst : TypeId) (hs : P.underlying src = some (.slice e)) (he : P.underlying e = some (.int .u8)) (hd : P.underlying dst = some .string) (x : Int) :
    (convert src dst (.slice (some ⟨wr.heap.size, 0, none⟩) 1 1)).run P (wr.alloc (.cells #[.int .u8 x] e)) = .ok (.string (strOfNums [x])) (wr.alloc (.cells #[.int .u8 x] e)) :=
  run_convert_bytes_arg _ src e hs he wr.heap.size 0 1 1 [x] rfl (fun i hi => by
    obtain rfl : i = 0 := by omega
    exact (Blk.new wr .u8 e [x]).cell 0 (by simp)) dst hd
theorem append_toList (a b : ByteArray) : (a ++ b).data.toList = a.data.toList ++ b.data.toList := by
  simp [ByteArray.data_append]
theorem toList_data (a : ByteArray) : a.toList = a.data.toList := by
  obtain ⟨⟨l⟩⟩ := a
  simp
theorem ownsRow_base {w : World} {base : Nat} {e : TypeId} {size n : Nat} {v : Value} {xs : List Value} (h : w.ownsRow base e size v n xs) (k : Nat) (hk : v.ownBlock = some k) : base ≤ k := by
  rcases h.2 with ⟨rfl, _⟩ | ⟨g, cap, cur, rfl, hb, _⟩
  · simp [Value.ownBlock] at hk
  · have : g = k := by simpa [Value.ownBlock] using hk
    omega
/-- A row of bytes of the call's own, as a text. -/
theorem ownsRow_string {P : Program} {w : World} {base n : Nat} {e' src dst e : TypeId} {v : Value} {xs : List Int} (hs : P.underlying src = some (.slice e)) (he : P.underlying e = some (.int .u8)) (hd : P.underlying dst = some .string)
    (h : w.ownsRow base e' 1 v n (xs.map (Value.int .u8))) : (convert src dst v).run P w = .ok (.string (strOfNums xs)) w := by
  have hl : xs.length = n := by have := h.1; simpa using this
  rcases h.2 with ⟨rfl, rfl⟩ | ⟨g, cap, cur, rfl, _⟩
  · obtain rfl : xs = [] := List.eq_nil_of_length_eq_zero hl
    exact run_convert_bytes_nil w src e hs he 0 0 dst hd
  · refine run_convert_bytes_arg w src e hs he g 0 n cap xs hl (fun i hi => ?_) dst hd
    have hc := h.cells (g := g) rfl i (.int .u8 (xs.getD i 0)) (by simp [List.getD_eq_getElem?_getD, List.getElem?_eq_getElem (show i < xs.length by omega)])
    have ha : (⟨g, 0, none⟩ : Addr).add i = ⟨g, 0 + i, none⟩ := by unfold Addr.add; split <;> simp_all
    rwa [ha] at hc
theorem size_of_drop {s cur : ByteArray} {k : Nat} (hk : k ≤ s.size) (h : cur.data.toList = s.data.toList.drop k) : cur.size + k = s.size := by
  have := congrArg List.length h
  simp only [List.length_drop, Array.length_toList] at this
  have h1 : cur.size = s.size - k := this
  omega
set_option maxHeartbeats 4000000 in
theorem print_any (s : ByteArray) (w : World) (hs : s.size ≤ 140737488351232) :
    Calls Try.prog 50 #[.string s] w fun e w' => e = .returned (.string (Sha.sha s)) ∧ Below w.heap.size w w' := by
  go_enter Try.func50, Try.ntmps50
  go_wp2
  go_loopw [0] (fun v wr => ∃ (cur : ByteArray) (k : Nat), v = .string cur ∧ 64 * k ≤ s.size ∧ cur.data.toList = s.data.toList.drop (64 * k) ∧ Blk .u32 117 wr w.heap.size (Sha.absorb Sha.h0 s.data.toList k) ∧ Below w.heap.size w wr)
    (fun v _ => strSize v)
  case atStart => exact ⟨s, 0, rfl, by omega, rfl, (by have h := Blk.new w .u32 117 Sha.h0; exact h), (Below.refl _ _).alloc (Nat.le_refl _) _⟩
  case round =>
    obtain ⟨cur, k, rfl, hk, hcur, hblk, hB⟩ := hrel
    have hsz := size_of_drop hk hcur
    have Hc := Lib.hid (And.intro hcur hsz)
    by_cases hlt : 64 ≤ cur.size
    · have hks : 64 * (k + 1) ≤ s.size := by omega
      clear hcur hsz
      go_wp2_with (go_at_call 58; refine (block_any wr w.heap.size _ (cur.extract 0 64) hblk (Sha.absorb_length _ _ rfl _) (by simp; omega)).mono ?_; rintro e w1 ⟨rfl, hb1, hg1⟩)
      go_roundw
      case rel =>
        obtain ⟨hcur, hsz⟩ := Hc.out
        refine ⟨cur.extract 64 cur.size, k + 1, rfl, hks, ?_, ?_, hB.grown hg1 hB.size (fun j hj => by injection hj with hj; omega)⟩
        · rw [Lib.extract_to_end, hcur, List.drop_drop]; rfl
        · rw [Sha.compress_block (cur.extract 0 64) cur.data.toList (by simp; omega) (by rw [Lib.extract_data]; rfl), hcur] at hb1
          exact hb1
      case measure => simp [strSize]; omega
    · obtain ⟨r, hr⟩ : ∃ r, r = (119 - (cur.size : Int)) % 64 := ⟨_, rfl⟩
      clear hcur
      obtain ⟨hr0, hr1⟩ : 0 ≤ r ∧ r < 64 := by omega
      clear hr
      obtain ⟨q, hq⟩ : ∃ q : Nat, (q : Int) = (119 - (cur.size : Int)) % 64 := ⟨((119 - (cur.size : Int)) % 64).toNat, by omega⟩
      have hq64 : q < 64 := by omega
      go_wp2_with fail
      rw [← hq]
      refine (Try.strings_Repeat ⟨#[0]⟩ q wr (by omega) (by simp [ByteArray.size]; omega)).mono ?_
      rintro e w1 ⟨rfl, hb1⟩
      obtain ⟨z, hz⟩ : ∃ z : ByteArray, z = ⟨(Lib.repeatL (⟨#[0]⟩ : ByteArray).data.toList q).toArray⟩ := ⟨_, rfl⟩
      rw [← hz]
      have hzs : z.size = q := by rw [hz]; show (Lib.repeatL _ q).toArray.size = q; simp [Lib.repeatL_length]
      have hzs1 : z.size < 64 := by omega
      have Hq := Lib.hid (And.intro hq (And.intro hz hzs))
      clear hq hz hzs
      have hblk1 := hblk.below hb1
      have hB1 : Below w.heap.size w w1 := hB.trans (hb1.mono hB.size)
      clear hblk hB hb1
      have hcz : cur.size + (1 + z.size) ≤ 9223372036854775807 := by omega
      go_wp2
      obtain ⟨wo, rfl⟩ : ∃ wo : World, wo = wr := ⟨_, rfl⟩
      go_loopw [0, 5] (fun v i wr => ∃ (c : ByteArray) (j : Nat), j ≤ 8 ∧ v = .string c ∧ i = .int .i64 (56 - 8 * (j : Int)) ∧ c.data.toList = (cur ++ ((⟨#[128]⟩ : ByteArray) ++ z)).data.toList ++ Sha.len8 s.size j ∧
          Blk .u32 117 wr w.heap.size (Sha.absorb Sha.h0 s.data.toList k) ∧ Below w.heap.size w wr)
        (fun _ i _ => (intOf i + 8).toNat)
      case atStart => exact ⟨_, 0, by omega, rfl, rfl, (List.append_nil _).symm, hblk1, hB1⟩
      clear hblk1 hB1
      case round =>
        obtain ⟨c, j, hj, rfl, rfl, hc, hblk, hB⟩ := hrel
        have hcs : c.size = cur.size + (1 + z.size) + j := by
          have := congrArg List.length hc
          simp only [List.length_append, Sha.len8_length] at this
          have e : (cur ++ ((⟨#[128]⟩ : ByteArray) ++ z)).data.toList.length = cur.size + (1 + z.size) := by
            show (cur ++ ((⟨#[128]⟩ : ByteArray) ++ z)).size = _
            simp [ByteArray.size_append]
            rfl
          rw [e] at this
          exact this
        have Hc2 := Lib.hid (And.intro hc hcs)
        have hcs1 : c.size ≤ 200 := by omega
        clear hc hcs
        by_cases hlt2 : j < 8
        · have hi0 : 0 ≤ 56 - 8 * (j : Int) := by omega
          have hi1 : 56 - 8 * (j : Int) ≤ 56 := by omega
          have hcv := fun x => run_convert_one (P := Try.prog) wr 63 5 9 rfl rfl rfl x
          have hss := fun x => strOfNums_size [x]
          go_wp2
          go_roundw
          case rel =>
            obtain ⟨hc, hcs⟩ := Hc2.out
            refine ⟨_, j + 1, by omega, rfl, by rw [show (56 - 8 * (j : Int) - 8) = 56 - 8 * ((j + 1 : Nat) : Int) by omega], ?_, hblk.alloc _, hB.alloc hB.size _⟩
            have hx : ((s.size : Int) * 8 / 2 ^ (56 - 8 * j) % 256) = ((s.size * 8 / 2 ^ (56 - 8 * j) % 256 : Nat) : Int) := by push_cast; rfl
            rw [append_toList, hc, hx]
            simp only [Sha.len8, strOfNums_data, List.map_cons, List.map_nil, Int.toNat_natCast, List.append_assoc]
          case measure => simp [intOf]; omega
        · have H8 := Lib.hid (show j = 8 by omega)
          rename Nat => j2
          obtain ⟨m, hm⟩ : ∃ m, c.size = 64 * m := by
            obtain ⟨h1, _, h2⟩ := Hq.out
            have := Hc2.out.2
            have h8 := H8.out
            rw [h2, h8] at this
            refine ⟨c.size / 64, ?_⟩
            omega
          have Hm := Lib.hid hm
          clear hm
          have hA := Sha.absorb_length Sha.h0 s.data.toList rfl k
          generalize hAA : Sha.absorb Sha.h0 s.data.toList k = A at hblk hA
          have HA := Lib.hid (And.intro hAA hA)
          clear hAA hA
          go_wp2
          obtain ⟨wp, rfl⟩ : ∃ wp : World, wp = wr := ⟨_, rfl⟩
          go_loopw [0] (fun v wr => ∃ (d : ByteArray) (i : Nat), v = .string d ∧ 64 * i ≤ c.size ∧ d.data.toList = c.data.toList.drop (64 * i) ∧ Blk .u32 117 wr w.heap.size (Sha.absorb A c.data.toList i) ∧ Below w.heap.size w wr)
            (fun v _ => strSize v)
          case atStart => exact ⟨c, 0, rfl, by omega, rfl, hblk, hB⟩
          clear hblk hB
          case round =>
            obtain ⟨d, i, rfl, hi, hd, hblk, hB⟩ := hrel
            have hds := size_of_drop hi hd
            have hmul : d.size = 0 ∨ 64 ≤ d.size := by have := Hm.out; omega
            have Hd := Lib.hid (And.intro hd hds)
            clear hd hds
            by_cases hd0 : d.size = 0
            · have e1 : d.toList = [] := by have e : d.data.toList.length = 0 := hd0; rw [toList_data]; exact List.eq_nil_of_length_eq_zero e
              have Hd0 := Lib.hid hd0
              clear hd0 hmul
              have hSl := Sha.absorb_length A c.data.toList HA.out.2 i
              generalize hSS : Sha.absorb A c.data.toList i = S at hblk hSl
              have HSS := Lib.hid hSS
              clear hSS
              obtain ⟨g0, g1, g2, g3, g4, g5, g6, g7, rfl⟩ : ∃ g0 g1 g2 g3 g4 g5 g6 g7, S = [g0, g1, g2, g3, g4, g5, g6, g7] := by
                match S, hSl with
                | [g0, g1, g2, g3, g4, g5, g6, g7], _ => exact ⟨_, _, _, _, _, _, _, _, rfl⟩
              clear hSl
              have q0 : wr.cell? ⟨w.heap.size, 0, none⟩ = some (.int .u32 g0) := hblk.cell 0 (by simp)
              have q1 : wr.cell? ⟨w.heap.size, 1, none⟩ = some (.int .u32 g1) := hblk.cell 1 (by simp)
              have q2 : wr.cell? ⟨w.heap.size, 2, none⟩ = some (.int .u32 g2) := hblk.cell 2 (by simp)
              have q3 : wr.cell? ⟨w.heap.size, 3, none⟩ = some (.int .u32 g3) := hblk.cell 3 (by simp)
              have q4 : wr.cell? ⟨w.heap.size, 4, none⟩ = some (.int .u32 g4) := hblk.cell 4 (by simp)
              have q5 : wr.cell? ⟨w.heap.size, 5, none⟩ = some (.int .u32 g5) := hblk.cell 5 (by simp)
              have q6 : wr.cell? ⟨w.heap.size, 6, none⟩ = some (.int .u32 g6) := hblk.cell 6 (by simp)
              have q7 : wr.cell? ⟨w.heap.size, 7, none⟩ = some (.int .u32 g7) := hblk.cell 7 (by simp)
              go_wp2
              clear q0 q1 q2 q3 q4 q5 q6 q7 hblk
              obtain ⟨wq, rfl⟩ : ∃ wq : World, wq = wr := ⟨_, rfl⟩
              obtain ⟨i0, hi0, hz0, hz1, hz2⟩ := info_parts (P := Try.prog) (e := 5) (z := .int .u8 0) (size := 1) (bytes := 1) (by kernel_rfl)
              go_loopw [6, 50] (fun v i wr => ∃ j : Nat, j ≤ 8 ∧ i = .int .i64 j ∧ wr.ownsRow w.heap.size 5 1 v (4 * j) ((Sha.out4 [g0, g1, g2, g3, g4, g5, g6, g7] j).map (Value.int .u8)) ∧ Below w.heap.size w wr)
                (fun _ i _ => 8 - (intOf i).toNat)
              case atStart => exact ⟨0, by omega, rfl, ⟨rfl, .inl ⟨rfl, rfl⟩⟩, hB⟩
              clear hB
              case round =>
                obtain ⟨j, hj, rfl, hown, hB⟩ := hrel
                by_cases hj8 : j < 8
                · obtain ⟨x, hx⟩ : ∃ x, x = [g0, g1, g2, g3, g4, g5, g6, g7].getD j 0 := ⟨_, rfl⟩
                  have hidx := fun w => run_index_row (P := Try.prog) (t := 117) (e := 104) (n := 8) (k := .u32) (z := .int .u32 0) (by_ := 4) rfl rfl (by kernel_rfl)
                    (ivals .u32 [g0, g1, g2, g3, g4, g5, g6, g7]) (j : Int) (by omega) (by omega) (.int .u32 x) (by rw [hx]; exact ivals_get j (by simpa using hj8)) w
                  simp only [ivals, List.map_cons, List.map_nil] at hidx
                  have HX := Lib.hid hx
                  clear hx
                  go_wp2_with (at_builtin; refine wpList_append_own _ rfl _ _ 63 rfl w.heap.size 5 i0 (.int .u8 0) 1 1 Try.underlying63 hi0 hz0 hz1 hz2 rfl (by decide) _ _ _ rfl (hown.alloc _) ⟨wr.heap.size, 0, none⟩ 4 4 [.int .u8 (x / 16777216 % 256), .int .u8 (x / 65536 % 256), .int .u8 (x / 256 % 256), .int .u8 (x % 256)] rfl rfl ?c1 ?c2 ?c3 ?c4 ?c5 ?_)
                  case c1 => exact World.news_of_block (heap_alloc_new wr _)
                  case c2 => simp [Value.oneCell']
                  case c3 => unfold maxLen; omega
                  case c4 => omega
                  case c5 => exact Nat.le_trans hB.size (by simp)
                  intro v' w' hown' hgrow _
                  clear hidx
                  go_wp2
                  go_roundw
                  case rel =>
                    refine ⟨j + 1, by omega, by go_num, ?_, (hB.alloc hB.size _).grown hgrow (Nat.le_trans hB.size (by simp)) (fun q hq => ownsRow_base hown q hq)⟩
                    rw [show 4 * (j + 1) = 4 * j + 4 by omega]
                    simp only [Sha.out4, List.map_append, List.map_cons, List.map_nil, ← HX.out]
                    exact hown'
                  case measure => simp [intOf]; omega
                · obtain rfl : j = 8 := by omega
                  have hst := ownsRow_string (P := Try.prog) (src := 63) (e := 5) (dst := 9) rfl rfl rfl hown
                  have hfin : strOfNums (Sha.out4 [g0, g1, g2, g3, g4, g5, g6, g7] 8) = Sha.sha s := by
                    obtain ⟨hq1, hz1, hz2⟩ := Hq.out
                    obtain ⟨hd, hds⟩ := Hd.out
                    obtain ⟨hc, hcs⟩ := Hc2.out
                    obtain ⟨hcur, hsz1⟩ := Hc.out
                    rw [H8.out] at hc hcs
                    rw [← HSS.out, ← HA.out.1, hc, append_toList, append_toList, hcur, hz1, Sha.repeat_zero]
                    have hl : s.data.toList.length = s.size := rfl
                    have := Sha.digest_of s.data.toList k i q (by rw [hl]; exact hk) (by rw [hl]; omega) (by rw [hl]; omega) (by rw [hl]; have := Hd0.out; omega)
                    rw [hl] at this
                    unfold Sha.sha Sha.digest
                    rw [hl, ← this]
                  rw [hfin] at hst
                  clear hfin
                  go_wp2
                  go_ret
                  exact ⟨rfl, hB⟩
            · have e1 : ¬ d.toList = [] := by intro h; rw [toList_data] at h; exact hd0 (congrArg List.length h)
              have e2 : d.toList.isEmpty = false := by cases h : d.toList with | nil => exact absurd h e1 | cons _ _ => rfl
              have hd64 : 64 ≤ d.size := by omega
              have his : 64 * (i + 1) ≤ c.size := by have := Hd.out.2; omega
              clear hd0 hmul
              go_wp2_with (go_at_call 58; refine (block_any wr w.heap.size _ (d.extract 0 64) hblk (Sha.absorb_length _ _ HA.out.2 _) (by simp; omega)).mono ?_; rintro e w1 ⟨rfl, hb1, hg1⟩)
              go_roundw
              case rel =>
                obtain ⟨hd, hds⟩ := Hd.out
                refine ⟨d.extract 64 d.size, i + 1, rfl, his, ?_, ?_, hB.grown hg1 hB.size (fun j hj => by injection hj with hj; omega)⟩
                · rw [Lib.extract_to_end, hd, List.drop_drop]; rfl
                · rw [Sha.compress_block (d.extract 0 64) d.data.toList (by simp; omega) (by rw [Lib.extract_data]; rfl), hd] at hb1
                  exact hb1
              case measure => simp [strSize]; omega
end Go.Proofs.Ytkjgbldooflodaa
