/-
  The walk of the reference's By: by the known numbers it makes the same fingerprint as the program.
-/
import Derived.Test.YtkjgbldooflodaaByFill
import Derived.Test.YtkjgbldooflodaaByRounds
import Derived.Test.YtkjgbldooflodaaByAdd
namespace Go.Proofs.Ytkjgbldooflodaa
open Go.RowKit
set_option maxRecDepth 100000
set_option maxHeartbeats 4000000 in
theorem by_any (s : ByteArray) (w : World) (hs : s.size ≤ 140737488351232) (ad1 ad2 : Addr) (c1 c2 : Nat) (hr1 : Rd .u32 w ad1 Sha.h0) (hr2 : Rd .u32 w ad2 Sha.kst) :
    Calls Try.prog 33 #[.string s, .slice (some ad1) 8 c1, .slice (some ad2) 64 c2] w fun e w' => e = .returned (.string (Sha.sha s)) ∧ Below w.heap.size w w' := by
  obtain ⟨i4, hi4, hy0, hy1, hy2⟩ := info_parts (P := Try.prog) (e := 104) (z := .int .u32 0) (size := 1) (bytes := 4) (by kernel_rfl)
  obtain ⟨i0, hi0, hz0, hz1, hz2⟩ := info_parts (P := Try.prog) (e := 5) (z := .int .u8 0) (size := 1) (bytes := 1) (by kernel_rfl)
  have hcv := fun (w : World) (s : ByteArray) => Lib.run_convert_string_bytes (P := Try.prog) w 9 63 5 s (u := .string) rfl rfl rfl
  go_enter Try.func33, Try.ntmps33
  go_wp2_with (at_builtin; refine wpList_append_own _ rfl _ _ 73 rfl w.heap.size 104 i4 (.int .u32 0) 1 4 Try.underlying73 hi4 hy0 hy1 hy2 rfl (by decide) _ 0 [] rfl ?c0 ad1 8 c1 (Sha.h0.map (Value.int .u32)) rfl rfl ?c1 ?c2 ?c3 ?c4 ?c5 ?_)
  case c0 => exact ⟨rfl, .inr ⟨w.heap.size, 0, #[], rfl, Nat.le_refl _, heap_alloc_new w _, Nat.le_refl _, by unfold maxLen; omega, rfl, rfl⟩⟩
  case c1 => exact (hr1.below ((Below.refl _ _).alloc (Nat.le_refl _) _)).news
  case c2 => simp [Value.oneCell']
  case c3 => unfold maxLen; omega
  case c4 => omega
  case c5 => simp
  intro vh w1 hownh hgrow1 _
  have hB1 : Below w.heap.size w w1 := ((Below.refl _ _).alloc (Nat.le_refl _) _).grown hgrow1 (by simp) (fun k hk => by simp [Value.ownBlock] at hk; omega)
  have hss : s.size + 1 ≤ 9223372036854775807 := by omega
  go_wp2
  obtain ⟨wz, hwz⟩ : ∃ wz, wz = Lib.bytesWorld w1 5 (s ++ (⟨#[128]⟩ : ByteArray)) := ⟨_, rfl⟩
  have hbz := bytesWorld_below w1 5 (s ++ (⟨#[128]⟩ : ByteArray))
  have hoz := OwnZ.of_bytes w1 w1.heap.size 5 (s ++ (⟨#[128]⟩ : ByteArray)) (Nat.le_refl _) (by rw [size_snoc]; unfold maxLen; omega)
  rw [← hwz] at hbz hoz ⊢
  have hPs := size_snoc s
  have hPl : (s ++ (⟨#[128]⟩ : ByteArray)).data.toList = s.data.toList ++ [128] := append_toList _ _
  rw [hPs] at hoz
  rw [hPl] at hoz
  have HP := Lib.hid (And.intro hPs hPl)
  clear hwz hcv hPs hPl
  go_loopw [8] (fun v wr => ∃ z : Nat, z ≤ (119 - s.size % 64) % 64 ∧ OwnZ wr w1.heap.size 5 v (s.size + 1 + z) (pb s.data.toList z 0) ∧ Below w1.heap.size w1 wr)
    (fun v _ => 64 - ((lenOf v - (s.size + 1)) % 64))
  case atStart => exact ⟨0, by omega, by rw [pb_zero]; exact hoz, hbz⟩
  clear hoz hbz
  case round =>
    obtain ⟨z, hz, hown, hB⟩ := hrel
    obtain ⟨g, cap, rfl, hg0, hg1, hg2, hg3⟩ := hown.form
    by_cases hq : z < (119 - s.size % 64) % 64
    · have hb56 : (((s.size : Int) + 1 + z) % 64 != 56) = true := bne_iff_ne.2 (by omega)
      go_wp2_with (at_builtin; refine wpList_append_Z rfl _ _ 63 rfl w1.heap.size 5 i0 (.int .u8 0) 1 Try.underlying63 hi0 hz0 hz1 hz2 rfl _ (s.size + 1 + z) _ rfl (hown.alloc _) ⟨wr.heap.size, 0, none⟩ 1 1 [.int .u8 0] rfl rfl ?c1 ?c2 ?c3 ?c4 ?c5 ?_)
      case c1 => exact World.news_of_block (heap_alloc_new wr _)
      case c2 => simp [Value.oneCell']
      case c3 => unfold maxLen; omega
      case c4 => omega
      case c5 => exact Nat.le_trans hB.size (by simp)
      intro v' w' hown' hgrow
      clear hb56
      go_wp2
      go_roundw
      case rel =>
        refine ⟨z + 1, by omega, ?_, (hB.alloc hB.size _).grown hgrow (Nat.le_trans hB.size (by simp)) (fun q hq => hown.base_le q hq)⟩
        rw [pb_succ]
        exact hown'
      case measure =>
        obtain ⟨g', cap', rfl, _⟩ := hown'.form
        simp [lenOf]; omega
    · have hzq : z = (119 - s.size % 64) % 64 := by omega
      have hb56 : (((s.size : Int) + 1 + z) % 64 != 56) = false := bne_eq_false_iff_eq.2 (by omega)
      have HZ := Lib.hid hzq
      clear hzq hq hz
      go_wp2
      clear hb56
      obtain ⟨wo, rfl⟩ : ∃ wo : World, wo = wr := ⟨_, rfl⟩
      go_loopw [8, 10] (fun v i wr => ∃ j : Nat, j ≤ 8 ∧ i = .int .i64 (7 - (j : Int)) ∧ OwnZ wr w1.heap.size 5 v (s.size + 1 + z + j) (pb s.data.toList z j) ∧ Below w1.heap.size w1 wr)
        (fun _ i _ => (intOf i + 1).toNat)
      case atStart => exact ⟨0, by omega, rfl, hown, hB⟩
      clear hown hB
      case round =>
        obtain ⟨j, hj, rfl, hown, hB⟩ := hrel
        obtain ⟨g, cap, rfl, hg0, hg1, hg2, hg3⟩ := hown.form
        by_cases hj8 : j < 8
        · have hj0 : 0 ≤ 7 - (j : Int) := by omega
          have hj1 : 7 - (j : Int) ≤ 7 := by omega
          obtain ⟨x, hx⟩ : ∃ x, x = (s.size : Int) * 8 / 2 ^ (8 * (7 - j)) % 256 := ⟨_, rfl⟩
          go_wp2_with (at_builtin; refine wpList_append_Z rfl _ _ 63 rfl w1.heap.size 5 i0 (.int .u8 0) 1 Try.underlying63 hi0 hz0 hz1 hz2 rfl _ (s.size + 1 + z + j) _ rfl (hown.alloc _) ⟨wr.heap.size, 0, none⟩ 1 1 [.int .u8 ((s.size : Int) * 8 / 2 ^ (8 * (7 - j)) % 256)] rfl rfl ?c1 ?c2 ?c3 ?c4 ?c5 ?_)
          case c1 => exact World.news_of_block (heap_alloc_new wr _)
          case c2 => simp [Value.oneCell']
          case c3 => have := HZ.out; unfold maxLen; omega
          case c4 => have := HZ.out; omega
          case c5 => exact Nat.le_trans hB.size (by simp)
          intro v' w' hown' hgrow
          go_wp2
          go_roundw
          case rel =>
            refine ⟨j + 1, by omega, by rw [show (7 - (j : Int) - 1) = 7 - ((j + 1 : Nat) : Int) by omega], ?_, (hB.alloc hB.size _).grown hgrow (Nat.le_trans hB.size (by simp)) (fun q hq => hown.base_le q hq)⟩
            rw [pb_len s.data.toList z j _ (by rw [show 56 - 8 * j = 8 * (7 - j) by omega])]
            exact hown'
          case measure => simp [intOf]; omega
        · have H8 := Lib.hid (show j = 8 by omega)
          have hmk : ∀ W : World, (Instr.makeSlice 73 (.int .i64 64) (.int .i64 64)).run Try.prog W = .ok (.slice (some ⟨W.heap.size, 0, none⟩) 64 64) (W.alloc (.cells (madeCells #[.int .u32 0] 64) 104)) :=
            fun W => run_make_row' (P := Try.prog) 73 104 (.int .u32 0) 4 rfl (by kernel_rfl) rfl .i64 .i64 64 (by omega) (by omega) W
          obtain ⟨gh, ch, rfl, hgh⟩ : ∃ gh ch, vh = .slice (some ⟨gh, 0, none⟩) 8 ch ∧ gh < w1.heap.size := by
            rcases hownh.2 with ⟨_, h⟩ | ⟨gh, ch, cur, rfl, _, h, _⟩
            · omega
            · exact ⟨gh, ch, rfl, (Array.getElem?_eq_some_iff.1 h).1⟩
          have hbts : Bts wr g (s.size + 1 + z + j) (s.data.toList ++ [128] ++ List.replicate z 0 ++ Sha.len8 s.data.toList.length j) := fun i hi => by
            rw [hown.cell i hi]
            exact pb_cell _ _ _ _ hi
          obtain ⟨P, hP⟩ : ∃ P, P = s.data.toList ++ [128] ++ List.replicate z 0 ++ Sha.len8 s.data.toList.length j := ⟨_, rfl⟩
          obtain ⟨nb, hnb⟩ : ∃ nb, nb = s.size + 1 + z + j := ⟨_, rfl⟩
          have hm : ∃ m, nb = 64 * m := ⟨nb / 64, by have h1 := HZ.out; have h2 := H8.out; omega⟩
          have hnb1 : nb ≤ 140737488351400 := by have h1 := HZ.out; omega
          rw [← hP, ← hnb] at hbts
          rw [← hnb]
          have HPn := Lib.hid (And.intro hP hnb)
          have hH1 : wr.ownsRow w.heap.size 104 1 (.slice (some ⟨gh, 0, none⟩) 8 ch) 8 (Sha.h0.map (Value.int .u32)) :=
            hownh.kept (row := none) ⟨hB.os, hB.tape, hB.output, hB.size, fun k hk _ => hB.block k hk⟩ (by simp [Value.ownBlock])
          have hBw : Below w.heap.size w wr := hB1.trans (hB.mono hB1.size)
          have hj7 : decide ((j : Int) ≤ 7) = false := decide_eq_false (by omega)
          clear hP hnb hown hj8 hj hg2 hB hownh hgrow1
          go_wp2
          obtain ⟨wp, hwp⟩ : ∃ wp, wp = wr.alloc (.cells (madeCells #[.int .u32 0] 64) 104) := ⟨_, rfl⟩
          have hga := World.grownBy_alloc wr (.cells (madeCells #[.int .u32 0] 64) 104) none
          have hW2 := own_made_u32 wr wr.heap.size 104 64 (Nat.le_refl _) (by unfold maxLen; omega)
          rw [← hwp] at hga hW2
          rw [← hwp]
          have hH2 := hH1.kept hga (by simp [Value.ownBlock])
          have hbt2 := hbts.kept hga (by simp)
          have hBw2 : Below w.heap.size w wp := hBw.grown hga hBw.size (by simp)
          obtain ⟨gw, hgw⟩ : ∃ gw, gw = wr.heap.size := ⟨_, rfl⟩
          rw [← hgw] at hW2 hg1 ⊢
          clear hwp hga hH1 hbts hBw hmk
          obtain ⟨n1, n2, n3⟩ : gh ≠ gw ∧ gh ≠ g ∧ g ≠ gw := by omega
          have hgwb : w.heap.size ≤ gw := by rw [hgw]; exact Nat.le_trans hB1.size (by omega)
          clear hgw
          go_loopw [12] (fun i w3 => ∃ (q : Nat) (ws : List Int), 64 * q ≤ nb ∧ i = .int .i64 (64 * (q : Int)) ∧ ws.length = 64 ∧
              w3.ownsRow w.heap.size 104 1 (.slice (some ⟨gh, 0, none⟩) 8 ch) 8 ((Sha.absorb Sha.h0 P q).map (Value.int .u32)) ∧ w3.ownsRow w.heap.size 104 1 (.slice (some ⟨gw, 0, none⟩) 64 64) 64 (ws.map (Value.int .u32)) ∧
              Bts w3 g nb P ∧ Below w.heap.size w w3)
            (fun i _ => nb - (intOf i).toNat)
          case atStart => exact ⟨0, _, by omega, rfl, by simp, hH2, ⟨hW2.1, hW2.2.imp id fun ⟨a, b, c, h1, h2, h3⟩ => ⟨a, b, c, h1, Nat.le_trans hgwb h2, h3⟩⟩, hbt2, hBw2⟩
          clear hH2 hW2 hbt2 hBw2
          case round =>
            obtain ⟨q, ws, hq, rfl, hws, hH, hW, hbt, hBw⟩ := hrel
            have Hws := Lib.hid hws
            clear hws
            by_cases hq64 : 64 * q < nb
            · have hqm : 64 * q + 64 ≤ nb := by obtain ⟨m, hm⟩ := hm; omega
              have hqb : decide (64 * (q : Int) < nb) = true := decide_eq_true (by omega)
              go_wp2
              obtain ⟨wa, rfl⟩ : ∃ wa : World, wa = wr := ⟨_, rfl⟩
              refine fill_loop gh ch gw g nb cap q P ws _ w wa Hws.out hqm hnb1 n1 n3 hgwb hH hW hbt hBw ?_
              clear hH hW hbt hBw
              intro d13 d14 d15 d16 d68 d69 d70 d71 d72 d73 d74 d75 d76 d77 d78 d79 d80 d81 d82 d83 d84 d85 d86 d87 d88 d89 d90 d91 d92 d93 d94 d95 d96 d97 d98 d99 d100 d101 d102 d103 d104 d105 d106 d107 d108 d109 d110 d111 d112 d113 d114 d115 d116 d117 d118 d119 d120 d121 d122 d123 d124 d125 d126 d127 d128 d129 d130 d131 d132 d133 d134 d135 d136 d137 d138 d139 d140 d141 d142 d143 d144 d145 d146 d147 d148 d149 d150 d151 wr hH hW hbt hBw
              have hAl := Sha.absorb_length Sha.h0 P rfl q
              generalize hAA : Sha.absorb Sha.h0 P q = A at hH hAl
              have HA := Lib.hid hAA
              clear hAA
              obtain ⟨h0, h1, h2, h3, h4, h5, h6, h7, rfl⟩ : ∃ h0 h1 h2 h3 h4 h5 h6 h7, A = [h0, h1, h2, h3, h4, h5, h6, h7] := by
                match A, hAl with
                | [h0, h1, h2, h3, h4, h5, h6, h7], _ => exact ⟨_, _, _, _, _, _, _, _, rfl⟩
              clear hAl
              have q0 := row_cell hH 0 (by omega) h0 rfl
              have q1 := row_cell hH 1 (by omega) h1 rfl
              have q2 := row_cell hH 2 (by omega) h2 rfl
              have q3 := row_cell hH 3 (by omega) h3 rfl
              have q4 := row_cell hH 4 (by omega) h4 rfl
              have q5 := row_cell hH 5 (by omega) h5 rfl
              have q6 := row_cell hH 6 (by omega) h6 rfl
              have q7 := row_cell hH 7 (by omega) h7 rfl
              go_wp2
              go_quiet (fail)
              clear q0 q1 q2 q3 q4 q5 q6 q7
              go_wp2
              obtain ⟨wx, hwx⟩ : ∃ wx, wx = wr.drewN nq := ⟨_, rfl⟩
              rw [← hwx]
              have hH5 : wx.ownsRow w.heap.size 104 1 (.slice (some ⟨gh, 0, none⟩) 8 ch) 8 (([h0, h1, h2, h3, h4, h5, h6, h7] : List Int).map (Value.int .u32)) := by rw [hwx]; exact drewN_row hH _
              have hW5 : wx.ownsRow w.heap.size 104 1 (.slice (some ⟨gw, 0, none⟩) 64 64) 64 ((wq P q ws 64).map (Value.int .u32)) := by rw [hwx]; exact drewN_row hW _
              have hbt5 : Bts wx g nb P := by rw [hwx]; exact hbt.kept (grownBy_drewN (World.grownBy.refl wr none) _) (by simp)
              have hBw5 : Below w.heap.size w wx := by rw [hwx]; exact drewN_below hBw _
              clear hH hW hbt hBw hwx
              refine rounds_loop h0 h1 h2 h3 h4 h5 h6 h7 ad2 c2 gw w.heap.size (wq P q ws 64) wx (hr2.below hBw5) hW5 ?_
              intro n v0 v1 v2 v3 v4 v5 v6 v7 e25 e26 e27 e176 e177 e178 e179 e180 e181 e182 e183 e184 e185 e186 e187 e188 e189 e190 e191 e192 e193 e194 e195 e196 e197 e198 e199 e200 e201 e202 e203 e204 e205 e206 e207 e208 e209 e210 e211 e212 e213 e214 e215 e216 e217 e218 e219 e220 e221 e222 e223 e224 e225 e226 e227 e228 e229 e230 e231 e232 e233 e234 e235 e236 e237 e238 e239 e240 HV
              go_wp2
              obtain ⟨wy, hwy⟩ : ∃ wy, wy = (wx.drewN n).alloc (.cells #[.int .u32 v0, .int .u32 v1, .int .u32 v2, .int .u32 v3, .int .u32 v4, .int .u32 v5, .int .u32 v6, .int .u32 v7] 104) := ⟨_, rfl⟩
              have hgy : wx.grownBy wy none := by rw [hwy]; exact (grownBy_drewN (World.grownBy.refl wx none) n).trans (World.grownBy_alloc _ _ none)
              have hVy : Blk .u32 104 wy wx.heap.size [v0, v1, v2, v3, v4, v5, v6, v7] := by rw [hwy]; exact Blk.new (wx.drewN n) .u32 104 [v0, v1, v2, v3, v4, v5, v6, v7]
              rw [← hwy]
              have hHy := hH5.kept hgy (by simp [Value.ownBlock])
              have hWy := hW5.kept hgy (by simp [Value.ownBlock])
              have hbty := hbt5.kept hgy (by simp)
              have hBwy : Below w.heap.size w wy := hBw5.grown hgy hBw5.size (by simp)
              obtain ⟨gv, hgv⟩ : ∃ gv, gv = wx.heap.size := ⟨_, rfl⟩
              have hgvh : gh ≠ gv ∧ gw ≠ gv ∧ w.heap.size ≤ gv := by
                have l1 := (hH5.lt gh rfl).2
                have l2 := (hW5.lt gw rfl).2
                have l3 := hBw5.size
                omega
              rw [← hgv] at hVy ⊢
              obtain ⟨n4, n5, n6⟩ := hgvh
              clear hH5 hW5 hbt5 hBw5 hgy hwy hgv
              refine add_loop h0 h1 h2 h3 h4 h5 h6 h7 v0 v1 v2 v3 v4 v5 v6 v7 gh ch gw gv g nb P (wq P q ws 64) w wy n1 n2 n4 hHy hWy hbty hVy hBwy ?_
              clear hHy hWy hbty hVy hBwy
              intro f29 f250 f251 f252 f253 f254 f255 f256 f257 f258 f259 f260 f261 f262 f263 f264 f265 w6 hH hW hbt hBw
              go_wp2
              go_roundw
              case rel =>
                refine ⟨q + 1, wq P q ws 64, by omega, by rw [show 64 * (q : Int) + 64 = 64 * ((q + 1 : Nat) : Int) by omega], wq_len P q ws 64 (Nat.le_refl _) Hws.out, ?_, hW, hbt, hBw⟩
                have e1 : Sha.absorb Sha.h0 P (q + 1) = Sha.add8 [h0, h1, h2, h3, h4, h5, h6, h7] [v0, v1, v2, v3, v4, v5, v6, v7] 8 := by
                  show Sha.compress _ (Sha.absorb Sha.h0 P q) = _
                  have hr := HV.out
                  have e2 : wq P q ws 64 = Sha.wgo (Sha.word (P.drop (64 * q))) 64 := by
                    unfold wq Sha.arr
                    rw [List.drop_of_length_le (l := ws) (i := 64) (by rw [Hws.out]; exact Nat.le_refl _), List.append_nil]
                  rw [e2] at hr
                  rw [HA.out, Sha.compress, hr]
                rw [e1]
                exact hH
              case measure => simp [intOf]; omega
            · have Hqe := Lib.hid (show 64 * q = nb by omega)
              have hqb : decide (64 * (q : Int) < nb) = false := decide_eq_false (by omega)
              clear hW hbt hq64 hq hm
              obtain ⟨S, hS⟩ : ∃ S, S = Sha.absorb Sha.h0 P q := ⟨_, rfl⟩
              have hSl : S.length = 8 := by rw [hS]; exact Sha.absorb_length _ _ rfl _
              rw [← hS] at hH
              have HS := Lib.hid (And.intro hS hSl)
              clear hS hSl
              go_wp2
              obtain ⟨wa, rfl⟩ : ∃ wa : World, wa = wr := ⟨_, rfl⟩
              have hlt := (hH.lt gh rfl).2
              have hwa : w.heap.size ≤ wa.heap.size := hBw.size
              go_loopw [30, 31] (fun v i w7 => ∃ u : Nat, u ≤ 8 ∧ i = .int .i64 u ∧ w7.ownsRow wa.heap.size 5 1 v (4 * u) ((Sha.out4 S u).map (Value.int .u8)) ∧
                  w7.ownsRow w.heap.size 104 1 (.slice (some ⟨gh, 0, none⟩) 8 ch) 8 (S.map (Value.int .u32)) ∧ Below w.heap.size w w7 ∧ wa.heap.size ≤ w7.heap.size)
                (fun _ i _ => 8 - (intOf i).toNat)
              case atStart => exact ⟨0, by omega, rfl, ⟨rfl, .inl ⟨rfl, rfl⟩⟩, hH, hBw, Nat.le_refl _⟩
              clear hH hBw
              case round =>
                obtain ⟨u, hu, rfl, hown, hH, hBw, hsz⟩ := hrel
                by_cases hu8 : u < 8
                · have u8 : (u : Int) < 8 := by omega
                  obtain ⟨x, hx⟩ : ∃ x, x = S.getD u 0 := ⟨_, rfl⟩
                  have ca := row_cell hH u (by omega) x hx
                  have HX := Lib.hid hx
                  clear hx
                  have hvg : u30.ownBlock ≠ some gh := fun h => by have := (hown.lt gh h).1; omega
                  have hghs : gh < wr.heap.size := by omega
                  go_wp2
                  go_region_held3 (fun w' => w'.cell? ⟨gh, u, none⟩ = some (.int .u32 x))
                    (first | exact ca | go_keep | (rw [hgrow.cell_far _ (by simp; omega) (Ne.symm hvg)]; assumption))
                    ((refine step_append_lies _ (by rfl) _ _ _ (by rfl) wa.heap.size 5 i0 _ 1 1 Try.underlying63 hi0 hz0 hz1 hz2 rfl (by omega) u30 (4 * u) _ (by rfl) ((hown.alloc _).drew) ⟨wr.heap.size, 0, none⟩ 4 4 [.int .u8 (x / 16777216 % 256), .int .u8 (x / 65536 % 256), .int .u8 (x / 256 % 256), .int .u8 (x % 256)] (by rfl) (by rfl) (World.news_of_block (cs := #[.int .u8 (x / 16777216 % 256), .int .u8 (x / 65536 % 256), .int .u8 (x / 256 % 256), .int .u8 (x % 256)]) (t := 5) (fr := (0, 0)) (heap_alloc_new wr _)) (by simp [Value.oneCell']) (by omega) (by unfold maxLen; omega) (by omega) (by simp; omega) (wr.heap.size + 1) (by simp) ?_; intro gg cap w1 hown1 hgrow hat hlt))
                  go_wp2
                  go_roundw
                  case rel =>
                    refine ⟨u + 1, by omega, by go_num, ?_, ((hH.alloc _).drew).kept hgrow (.inr (fun h => hvg h.symm)), ((hBw.alloc hBw.size _).drew).grown hgrow (Nat.le_trans hBw.size (by simp)) (fun k hk => Nat.le_trans hwa (hown.lt k hk).1),
                      Nat.le_trans hsz (Nat.le_trans (by simp) hgrow.size)⟩
                    rw [show 4 * (u + 1) = 4 * u + 4 by omega]
                    simp only [Sha.out4, List.map_append, List.map_cons, List.map_nil, ← HX.out]
                    exact hown1
                  case measure => simp [intOf]; omega
                · obtain rfl : u = 8 := by omega
                  have hst := ownsRow_string (P := Try.prog) (src := 63) (e := 5) (dst := 9) rfl rfl rfl hown
                  have hfin : strOfNums (Sha.out4 S 8) = Sha.sha s := by
                    obtain ⟨hP, hnb⟩ := HPn.out
                    have hz := HZ.out
                    have hq := Hqe.out
                    have h8 := H8.out
                    have hl : s.data.toList.length = s.size := rfl
                    rw [h8] at hP hnb
                    have hPt : P = s.data.toList ++ Sha.tail s.size := by
                      rw [hP, hl, hz]; unfold Sha.tail; simp only [List.append_assoc]
                    unfold Sha.sha Sha.digest
                    rw [HS.out.1, hPt, hl, show (s.size + (Sha.tail s.size).length) / 64 = q by rw [Sha.tail_length]; omega]
                  rw [hfin] at hst
                  clear hfin
                  go_wp2
                  go_ret
                  exact ⟨rfl, hBw⟩
end Go.Proofs.Ytkjgbldooflodaa
