/-
  A loop of the reference's By as a theorem of its own (printed by wip/tools/bysplit.py out of XBy).
-/
import Derived.Test.YtkjgbldooflodaaByWords
namespace Go.Proofs.Ytkjgbldooflodaa
open Go.RowKit
set_option maxRecDepth 100000
set_option maxHeartbeats 4000000 in
/-- The words of one block: 16 out of the text, 48 out of these. -/
theorem fill_loop {r0 r1 r2 r3 r4 r5 r6 r7 r9 r10 r14 r15 r16 r17 r18 r19 r20 r21 r22 r23 r24 r25 r26 r27 r28 r29 r30 r31 r32 r33 r34 r35 r36 r37 r38 r39 r40 r41 r42 r43 r44 r45 r46 r47 r48 r49 r50 r51 r52 r53 r54 r55 r56 r57 r58 r59 r60 r61 r62 r63 r64 r65 r66 r67 r68 r69 r70 r71 r72 r73 r74 r75 r76 r77 r78 r79 r80 r81 r82 r83 r84 r85 r86 r87 r88 r89 r90 r91 r92 r93 r94 r95 r96 r97 r98 r99 r100 r101 r102 r103 r104 r105 r106 r107 r108 r109 r110 r111 r112 r113 r114 r115 r116 r117 r118 r119 r120 r121 r122 r123 r124 r125 r126 r127 r128 r129 r130 r131 r132 r133 r134 r135 r136 r137 r138 r139 r140 r141 r142 r143 r144 r145 r146 r147 r148 r149 r150 r151 r152 r153 r154 r155 r156 r157 r158 r159 r160 r161 r162 r163 r164 r165 r166 r167 r168 r169 r170 r171 r172 r173 r174 r175 r176 r177 r178 r179 r180 r181 r182 r183 r184 r185 r186 r187 r188 r189 r190 r191 r192 r193 r194 r195 r196 r197 r198 r199 r200 r201 r202 r203 r204 r205 r206 r207 r208 r209 r210 r211 r212 r213 r214 r215 r216 r217 r218 r219 r220 r221 r222 r223 r224 r225 r226 r227 r228 r229 r230 r231 r232 r233 r234 r235 r236 r237 r238 r239 r240 r241 r242 r243 r244 r245 r246 r247 r248 r249 r250 r251 r252 r253 r254 r255 r256 r257 r258 r259 r260 r261 r262 r263 r264 r265 r266 r267 r268 r269 r270 r271 r272 r273 r274 r275 r276 r277 r278 r279 r280 r281 r282 r283 r284 r285 r286 r287 r288 r289 r290 r291 r292 r293 r294 r295 r296 r297 : Value} (gh ch gw g nb cap q : Nat) (P : List UInt8) (ws A : List Int) (w wa : World) (hws : ws.length = 64) (hqm : 64 * q + 64 ≤ nb) (hnb1 : nb ≤ 140737488351400) (n1 : gh ≠ gw) (n3 : g ≠ gw) (hgwb : w.heap.size ≤ gw)
    (hH : wa.ownsRow w.heap.size 104 1 (.slice (some ⟨gh, 0, none⟩) 8 ch) 8 (A.map (Value.int .u32))) (hW : wa.ownsRow w.heap.size 104 1 (.slice (some ⟨gw, 0, none⟩) 64 64) 64 (ws.map (Value.int .u32))) (hbt : Bts wa g nb P) (hBw : Below w.heap.size w wa)
    {Q : Exit → Act → World → Prop} (hQ : ∀ (d13 d14 d15 d16 d68 d69 d70 d71 d72 d73 d74 d75 d76 d77 d78 d79 d80 d81 d82 d83 d84 d85 d86 d87 d88 d89 d90 d91 d92 d93 d94 d95 d96 d97 d98 d99 d100 d101 d102 d103 d104 d105 d106 d107 d108 d109 d110 d111 d112 d113 d114 d115 d116 d117 d118 d119 d120 d121 d122 d123 d124 d125 d126 d127 d128 d129 d130 d131 d132 d133 d134 d135 d136 d137 d138 d139 d140 d141 d142 d143 d144 d145 d146 d147 d148 d149 d150 d151 : Value) (w' : World), w'.ownsRow w.heap.size 104 1 (.slice (some ⟨gh, 0, none⟩) 8 ch) 8 (A.map (Value.int .u32)) → w'.ownsRow w.heap.size 104 1 (.slice (some ⟨gw, 0, none⟩) 64 64) 64 ((wq P q ws 64).map (Value.int .u32)) → Bts w' g nb P → Below w.heap.size w w' → Q (.exit 6) ⟨(List.toArray (r0 :: r1 :: r2 :: r3 :: r4 :: r5 :: r6 :: r7 :: (.slice (some ⟨g, 0, none⟩) nb cap) :: r9 :: r10 :: (.slice (some ⟨gw, 0, none⟩) 64 64) :: (.int .i64 (64 * (q : Int))) :: d13 :: d14 :: d15 :: d16 :: r17 :: r18 :: r19 :: r20 :: r21 :: r22 :: r23 :: r24 :: r25 :: r26 :: r27 :: r28 :: r29 :: r30 :: r31 :: r32 :: r33 :: r34 :: r35 :: r36 :: r37 :: r38 :: r39 :: r40 :: r41 :: r42 :: r43 :: r44 :: r45 :: r46 :: r47 :: r48 :: r49 :: r50 :: r51 :: r52 :: r53 :: r54 :: r55 :: r56 :: r57 :: r58 :: r59 :: r60 :: r61 :: r62 :: r63 :: r64 :: r65 :: r66 :: r67 :: d68 :: d69 :: d70 :: d71 :: d72 :: d73 :: d74 :: d75 :: d76 :: d77 :: d78 :: d79 :: d80 :: d81 :: d82 :: d83 :: d84 :: d85 :: d86 :: d87 :: d88 :: d89 :: d90 :: d91 :: d92 :: d93 :: d94 :: d95 :: d96 :: d97 :: d98 :: d99 :: d100 :: d101 :: d102 :: d103 :: d104 :: d105 :: d106 :: d107 :: d108 :: d109 :: d110 :: d111 :: d112 :: d113 :: d114 :: d115 :: d116 :: d117 :: d118 :: d119 :: d120 :: d121 :: d122 :: d123 :: d124 :: d125 :: d126 :: d127 :: d128 :: d129 :: d130 :: d131 :: d132 :: d133 :: d134 :: d135 :: d136 :: d137 :: d138 :: d139 :: d140 :: d141 :: d142 :: d143 :: d144 :: d145 :: d146 :: d147 :: d148 :: d149 :: d150 :: d151 :: r152 :: r153 :: r154 :: r155 :: r156 :: r157 :: r158 :: r159 :: r160 :: r161 :: r162 :: r163 :: r164 :: r165 :: r166 :: r167 :: r168 :: r169 :: r170 :: r171 :: r172 :: r173 :: r174 :: r175 :: r176 :: r177 :: r178 :: r179 :: r180 :: r181 :: r182 :: r183 :: r184 :: r185 :: r186 :: r187 :: r188 :: r189 :: r190 :: r191 :: r192 :: r193 :: r194 :: r195 :: r196 :: r197 :: r198 :: r199 :: r200 :: r201 :: r202 :: r203 :: r204 :: r205 :: r206 :: r207 :: r208 :: r209 :: r210 :: r211 :: r212 :: r213 :: r214 :: r215 :: r216 :: r217 :: r218 :: r219 :: r220 :: r221 :: r222 :: r223 :: r224 :: r225 :: r226 :: r227 :: r228 :: r229 :: r230 :: r231 :: r232 :: r233 :: r234 :: r235 :: r236 :: r237 :: r238 :: r239 :: r240 :: r241 :: r242 :: r243 :: r244 :: r245 :: r246 :: r247 :: r248 :: r249 :: r250 :: r251 :: r252 :: r253 :: r254 :: r255 :: r256 :: r257 :: r258 :: r259 :: r260 :: r261 :: r262 :: r263 :: r264 :: r265 :: r266 :: r267 :: r268 :: r269 :: r270 :: r271 :: r272 :: r273 :: r274 :: r275 :: r276 :: r277 :: r278 :: r279 :: r280 :: r281 :: r282 :: r283 :: r284 :: r285 :: r286 :: r287 :: r288 :: r289 :: r290 :: r291 :: r292 :: r293 :: r294 :: r295 :: r296 :: r297 :: [])), []⟩ w') :
    (loopAt 15 (Try.f33.body.getD .skip)).wp Try.prog Q ⟨(List.toArray (r0 :: r1 :: r2 :: r3 :: r4 :: r5 :: r6 :: r7 :: (.slice (some ⟨g, 0, none⟩) nb cap) :: r9 :: r10 :: (.slice (some ⟨gw, 0, none⟩) 64 64) :: (.int .i64 (64 * (q : Int))) :: (.int .i64 0) :: r14 :: r15 :: r16 :: r17 :: r18 :: r19 :: r20 :: r21 :: r22 :: r23 :: r24 :: r25 :: r26 :: r27 :: r28 :: r29 :: r30 :: r31 :: r32 :: r33 :: r34 :: r35 :: r36 :: r37 :: r38 :: r39 :: r40 :: r41 :: r42 :: r43 :: r44 :: r45 :: r46 :: r47 :: r48 :: r49 :: r50 :: r51 :: r52 :: r53 :: r54 :: r55 :: r56 :: r57 :: r58 :: r59 :: r60 :: r61 :: r62 :: r63 :: r64 :: r65 :: r66 :: r67 :: r68 :: r69 :: r70 :: r71 :: r72 :: r73 :: r74 :: r75 :: r76 :: r77 :: r78 :: r79 :: r80 :: r81 :: r82 :: r83 :: r84 :: r85 :: r86 :: r87 :: r88 :: r89 :: r90 :: r91 :: r92 :: r93 :: r94 :: r95 :: r96 :: r97 :: r98 :: r99 :: r100 :: r101 :: r102 :: r103 :: r104 :: r105 :: r106 :: r107 :: r108 :: r109 :: r110 :: r111 :: r112 :: r113 :: r114 :: r115 :: r116 :: r117 :: r118 :: r119 :: r120 :: r121 :: r122 :: r123 :: r124 :: r125 :: r126 :: r127 :: r128 :: r129 :: r130 :: r131 :: r132 :: r133 :: r134 :: r135 :: r136 :: r137 :: r138 :: r139 :: r140 :: r141 :: r142 :: r143 :: r144 :: r145 :: r146 :: r147 :: r148 :: r149 :: r150 :: r151 :: r152 :: r153 :: r154 :: r155 :: r156 :: r157 :: r158 :: r159 :: r160 :: r161 :: r162 :: r163 :: r164 :: r165 :: r166 :: r167 :: r168 :: r169 :: r170 :: r171 :: r172 :: r173 :: r174 :: r175 :: r176 :: r177 :: r178 :: r179 :: r180 :: r181 :: r182 :: r183 :: r184 :: r185 :: r186 :: r187 :: r188 :: r189 :: r190 :: r191 :: r192 :: r193 :: r194 :: r195 :: r196 :: r197 :: r198 :: r199 :: r200 :: r201 :: r202 :: r203 :: r204 :: r205 :: r206 :: r207 :: r208 :: r209 :: r210 :: r211 :: r212 :: r213 :: r214 :: r215 :: r216 :: r217 :: r218 :: r219 :: r220 :: r221 :: r222 :: r223 :: r224 :: r225 :: r226 :: r227 :: r228 :: r229 :: r230 :: r231 :: r232 :: r233 :: r234 :: r235 :: r236 :: r237 :: r238 :: r239 :: r240 :: r241 :: r242 :: r243 :: r244 :: r245 :: r246 :: r247 :: r248 :: r249 :: r250 :: r251 :: r252 :: r253 :: r254 :: r255 :: r256 :: r257 :: r258 :: r259 :: r260 :: r261 :: r262 :: r263 :: r264 :: r265 :: r266 :: r267 :: r268 :: r269 :: r270 :: r271 :: r272 :: r273 :: r274 :: r275 :: r276 :: r277 :: r278 :: r279 :: r280 :: r281 :: r282 :: r283 :: r284 :: r285 :: r286 :: r287 :: r288 :: r289 :: r290 :: r291 :: r292 :: r293 :: r294 :: r295 :: r296 :: r297 :: [])), []⟩ wa := by
  change (Code.loop _).wp _ _ _ _
  have Hws := Lib.hid hws
  clear hws
  go_loopw [13] (fun i w4 => ∃ t : Nat, t ≤ 64 ∧ i = .int .i64 t ∧
      w4.ownsRow w.heap.size 104 1 (.slice (some ⟨gh, 0, none⟩) 8 ch) 8 (A.map (Value.int .u32)) ∧
      w4.ownsRow w.heap.size 104 1 (.slice (some ⟨gw, 0, none⟩) 64 64) 64 ((wq P q ws t).map (Value.int .u32)) ∧ Bts w4 g nb P ∧ Below w.heap.size w w4)
    (fun i _ => 64 - (intOf i).toNat)
  case atStart => exact ⟨0, by omega, rfl, hH, hW, hbt, hBw⟩
  clear hH hW hbt hBw
  case round =>
    obtain ⟨t, ht, rfl, hH, hW, hbt, hBw⟩ := hrel
    by_cases ht64 : t < 64
    · have t64 : (t : Int) < 64 := by omega
      by_cases ht16 : t < 16
      · have t16 : (t : Int) < 16 := by omega
        have hwl := wq_len P q ws t (by omega) Hws.out
        have ct := row_cell hW t (by omega) _ rfl
        generalize (wq P q ws t).getD t 0 = xt at ct
        have hfr := hW.frozenAt t
        clear hwl
        obtain ⟨J, hJ⟩ : ∃ J : Nat, (J : Int) = 64 * (q : Int) + 4 * (t : Int) := ⟨64 * q + 4 * t, by omega⟩
        have hJn : J = 64 * q + 4 * t := by omega
        have hJ3 : J + 3 < nb := by omega
        go_wp2
        rw [← hJ]
        obtain ⟨x0, hx0⟩ : ∃ x, x = Sha.bl P J := ⟨_, rfl⟩
        obtain ⟨x1, hx1⟩ : ∃ x, x = Sha.bl P (J + 1) := ⟨_, rfl⟩
        obtain ⟨x2, hx2⟩ : ∃ x, x = Sha.bl P (J + 2) := ⟨_, rfl⟩
        obtain ⟨x3, hx3⟩ : ∃ x, x = Sha.bl P (J + 3) := ⟨_, rfl⟩
        have k0 := hbt J (by omega)
        have k1 := hbt (J + 1) (by omega)
        have k2 := hbt (J + 2) (by omega)
        have k3 := hbt (J + 3) (by omega)
        rw [← hx0] at k0
        rw [← hx1] at k1
        rw [← hx2] at k2
        rw [← hx3] at k3
        obtain ⟨b00, b01⟩ : 0 ≤ x0 ∧ x0 ≤ 255 := by rw [hx0]; exact bl_range _ _
        obtain ⟨b10, b11⟩ : 0 ≤ x1 ∧ x1 ≤ 255 := by rw [hx1]; exact bl_range _ _
        obtain ⟨b20, b21⟩ : 0 ≤ x2 ∧ x2 ≤ 255 := by rw [hx2]; exact bl_range _ _
        obtain ⟨b30, b31⟩ : 0 ≤ x3 ∧ x3 ≤ 255 := by rw [hx3]; exact bl_range _ _
        have m1 := i64_wrap_in ((J : Int) + 1) (by omega) (by omega)
        have m2 := i64_wrap_in ((J : Int) + 2) (by omega) (by omega)
        have m3 := i64_wrap_in ((J : Int) + 3) (by omega) (by omega)
        have z0 : (J : Int) < nb := by omega
        have z1 : (J : Int) + 1 < nb := by omega
        have z2 : (J : Int) + 2 < nb := by omega
        have z3 : (J : Int) + 3 < nb := by omega
        have y1 : 0 ≤ (J : Int) + 1 := by omega
        have y2 : 0 ≤ (J : Int) + 2 := by omega
        have y3 : 0 ≤ (J : Int) + 3 := by omega
        have o1 : ((J : Int) + 1).toNat = J + 1 := by omega
        have o2 : ((J : Int) + 2).toNat = J + 2 := by omega
        have o3 : ((J : Int) + 3).toNat = J + 3 := by omega
        have HX := Lib.hid (And.intro hJn (And.intro hx0 (And.intro hx1 (And.intro hx2 hx3))))
        clear hx0 hx1 hx2 hx3 hJ hJn
        go_still_tail 32, (by kernel_rfl)
        clear k0 k1 k2 k3 m1 m2 m3 o1 o2 o3
        go_wp2
        go_roundw
        case rel =>
          obtain ⟨hJn, hx0, hx1, hx2, hx3⟩ := HX.out
          refine ⟨t + 1, by omega, by go_num, ownsRow_setCell_other hH (by simp [Value.ownBlock]; exact fun h => n1 h) _, ?_, hbt.kept (grownBy_drew1 (grownBy_setC wr gw t _)) (by intro h; injection h with h; exact n3 h), (hBw.setCell hgwb _).drew⟩
          rw [← wq_set P q ws t ht16 Hws.out (x0 := x0) (x1 := x1) (x2 := x2) (x3 := x3) (by rw [← hJn]; exact hx0) (by rw [← hJn]; exact hx1) (by rw [← hJn]; exact hx2) (by rw [← hJn]; exact hx3)]
          exact (row_set hW t _).drew
        case measure => simp [intOf]; omega
      · have h16 : 16 ≤ t := by omega
        obtain ⟨x2, hx2⟩ : ∃ x, x = (wq P q ws t).getD (t - 2) 0 := ⟨_, rfl⟩
        have c2 := row_cell hW (t - 2) (by omega) x2 hx2
        obtain ⟨x7, hx7⟩ : ∃ x, x = (wq P q ws t).getD (t - 7) 0 := ⟨_, rfl⟩
        have c7 := row_cell hW (t - 7) (by omega) x7 hx7
        obtain ⟨x15, hx15⟩ : ∃ x, x = (wq P q ws t).getD (t - 15) 0 := ⟨_, rfl⟩
        have c15 := row_cell hW (t - 15) (by omega) x15 hx15
        obtain ⟨x16, hx16⟩ : ∃ x, x = (wq P q ws t).getD (t - 16) 0 := ⟨_, rfl⟩
        have c16 := row_cell hW (t - 16) (by omega) x16 hx16
        have ct := row_cell hW t (by omega) _ rfl
        generalize (wq P q ws t).getD t 0 = xt at ct
        have hfr := hW.frozenAt t
        have m2 := i64_wrap_in ((t : Int) - 2) (by omega) (by omega)
        have e2 : (2 : Int) ≤ t := by omega
        have v2 : 0 ≤ (t : Int) - 2 := by omega
        have y2 : (t : Int) - 2 < 64 := by omega
        have m7 := i64_wrap_in ((t : Int) - 7) (by omega) (by omega)
        have e7 : (7 : Int) ≤ t := by omega
        have v7 : 0 ≤ (t : Int) - 7 := by omega
        have y7 : (t : Int) - 7 < 64 := by omega
        have m15 := i64_wrap_in ((t : Int) - 15) (by omega) (by omega)
        have e15 : (15 : Int) ≤ t := by omega
        have v15 : 0 ≤ (t : Int) - 15 := by omega
        have y15 : (t : Int) - 15 < 64 := by omega
        have m16 := i64_wrap_in ((t : Int) - 16) (by omega) (by omega)
        have e16 : (16 : Int) ≤ t := by omega
        have v16 : 0 ≤ (t : Int) - 16 := by omega
        have y16 : (t : Int) - 16 < 64 := by omega
        have HX := Lib.hid (And.intro hx2 (And.intro hx7 (And.intro hx15 hx16)))
        clear hx2 hx7 hx15 hx16
        go_wp2
        have c7' : wr.cell? ⟨gw, ((t : Int) - 7).toNat, none⟩ = some (.int .u32 x7) := by rw [show ((t : Int) - 7).toNat = t - 7 by omega]; exact c7
        have c16' : wr.cell? ⟨gw, ((t : Int) - 16).toNat, none⟩ = some (.int .u32 x16) := by rw [show ((t : Int) - 16).toNat = t - 16 by omega]; exact c16
        go_region_held3 (fun w' => w'.cell? ⟨gw, ((t : Int) - 7).toNat, none⟩ = some (.int .u32 x7) ∧ w'.cell? ⟨gw, ((t : Int) - 16).toNat, none⟩ = some (.int .u32 x16)) (first | exact ⟨c7', c16'⟩ | exact ⟨(cell_set_ne _ _ _ _ _ (by omega)).trans c7', (cell_set_ne _ _ _ _ _ (by omega)).trans c16'⟩ | go_keep)
          (first | (go_at_call 51; refine (turn_any _ _ (by decide) (by decide) _).mono ?_; rintro e w' ⟨rfl, nd, rfl⟩))
        rw [wrap3_u32, show x16 + Go.bits .xor .u32 (Go.bits .xor .u32 (Sha.rotr x15 7) (Sha.rotr x15 18)) (x15 / 8) + x7 + Go.bits .xor .u32 (Go.bits .xor .u32 (Sha.rotr x2 17) (Sha.rotr x2 19)) (x2 / 1024) = x16 + Sha.sg0 x15 + x7 + Sha.sg1 x2 from rfl]
        generalize hval : (x16 + Sha.sg0 x15 + x7 + Sha.sg1 x2) % 4294967296 = val
        have HV := Lib.hid hval
        clear hval
        go_wp2
        go_roundw
        case rel =>
          obtain ⟨hx2, hx7, hx15, hx16⟩ := HX.out
          refine ⟨t + 1, by omega, by go_num, ownsRow_setCell_other (drewN_row hH _) (by simp [Value.ownBlock]; exact fun h => n1 h) _, ?_, (hbt.kept (grownBy_drewN (World.grownBy.refl wr none) _) (by simp)).kept (grownBy_setC _ gw t _) (by intro h; injection h with h; exact n3 h), (drewN_below hBw _).setCell hgwb _⟩
          rw [← wq_step P q ws t h16 ht64 Hws.out hx2 hx7 hx15 hx16, HV.out]
          exact row_set (drewN_row hW _) t _
        case measure => simp [intOf]; omega
    · go_wp2
      obtain rfl : t = 64 := by omega
      exact hQ _ _ _ _ _ _ _ _ _ _ _ _ _ _ _ _ _ _ _ _ _ _ _ _ _ _ _ _ _ _ _ _ _ _ _ _ _ _ _ _ _ _ _ _ _ _ _ _ _ _ _ _ _ _ _ _ _ _ _ _ _ _ _ _ _ _ _ _ _ _ _ _ _ _ _ _ _ _ _ _ _ _ _ _ _ _ _ _ _ hH hW hbt hBw
end Go.Proofs.Ytkjgbldooflodaa
