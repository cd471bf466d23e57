/-
  A loop of the reference's By as a theorem of its own (printed by wip/tools/bysplit.py out of XBy).
-/
import Derived.Test.YtkjgbldooflodaaByWords
namespace Go.Proofs.Ytkjgbldooflodaa
open Go.RowKit
set_option maxRecDepth 100000
set_option maxHeartbeats 4000000 in
/-- The block's outcome is added to the state. -/
theorem add_loop {r0 r1 r2 r3 r4 r5 r6 r8 r9 r10 r11 r12 r13 r14 r15 r16 r17 r18 r19 r20 r21 r22 r23 r24 r25 r26 r27 r30 r31 r32 r33 r34 r35 r36 r37 r38 r39 r40 r41 r42 r43 r44 r45 r46 r47 r48 r49 r50 r51 r52 r53 r54 r55 r56 r57 r58 r59 r60 r61 r62 r63 r64 r65 r66 r67 r68 r69 r70 r71 r72 r73 r74 r75 r76 r77 r78 r79 r80 r81 r82 r83 r84 r85 r86 r87 r88 r89 r90 r91 r92 r93 r94 r95 r96 r97 r98 r99 r100 r101 r102 r103 r104 r105 r106 r107 r108 r109 r110 r111 r112 r113 r114 r115 r116 r117 r118 r119 r120 r121 r122 r123 r124 r125 r126 r127 r128 r129 r130 r131 r132 r133 r134 r135 r136 r137 r138 r139 r140 r141 r142 r143 r144 r145 r146 r147 r148 r149 r150 r151 r152 r153 r154 r155 r156 r157 r158 r159 r160 r161 r162 r163 r164 r165 r166 r167 r168 r169 r170 r171 r172 r173 r174 r175 r176 r177 r178 r179 r180 r181 r182 r183 r184 r185 r186 r187 r188 r189 r190 r191 r192 r193 r194 r195 r196 r197 r198 r199 r200 r201 r202 r203 r204 r205 r206 r207 r208 r209 r210 r211 r212 r213 r214 r215 r216 r217 r218 r219 r220 r221 r222 r223 r224 r225 r226 r227 r228 r229 r230 r231 r232 r233 r234 r235 r236 r237 r238 r239 r240 r241 r242 r243 r244 r245 r246 r247 r248 r249 r250 r251 r252 r253 r254 r255 r256 r257 r258 r259 r260 r261 r262 r263 r264 r265 r266 r267 r268 r269 r270 r271 r272 r273 r274 r275 r276 r277 r278 r279 r280 r281 r282 r283 r284 r285 r286 r287 r288 r289 r290 r291 r292 r293 r294 r295 r296 r297 : Value} (h0 h1 h2 h3 h4 h5 h6 h7 v0 v1 v2 v3 v4 v5 v6 v7 : Int) (gh ch gw gv g nb : Nat) (P : List UInt8) (W : List Int) (w wy : World) (n1 : gh ≠ gw) (n2 : gh ≠ g) (n4 : gh ≠ gv)
    (hHy : wy.ownsRow w.heap.size 104 1 (.slice (some ⟨gh, 0, none⟩) 8 ch) 8 (([h0, h1, h2, h3, h4, h5, h6, h7] : List Int).map (Value.int .u32))) (hWy : wy.ownsRow w.heap.size 104 1 (.slice (some ⟨gw, 0, none⟩) 64 64) 64 (W.map (Value.int .u32))) (hbty : Bts wy g nb P) (hVy : Blk .u32 104 wy gv [v0, v1, v2, v3, v4, v5, v6, v7]) (hBwy : Below w.heap.size w wy)
    {Q : Exit → Act → World → Prop} (hQ : ∀ (d29 d250 d251 d252 d253 d254 d255 d256 d257 d258 d259 d260 d261 d262 d263 d264 d265 : Value) (w' : World), w'.ownsRow w.heap.size 104 1 (.slice (some ⟨gh, 0, none⟩) 8 ch) 8 ((Sha.add8 [h0, h1, h2, h3, h4, h5, h6, h7] [v0, v1, v2, v3, v4, v5, v6, v7] 8).map (Value.int .u32)) → w'.ownsRow w.heap.size 104 1 (.slice (some ⟨gw, 0, none⟩) 64 64) 64 (W.map (Value.int .u32)) → Bts w' g nb P → Below w.heap.size w w' → Q (.exit 10) ⟨(List.toArray (r0 :: r1 :: r2 :: r3 :: r4 :: r5 :: r6 :: (.slice (some ⟨gh, 0, none⟩) 8 ch) :: r8 :: r9 :: r10 :: r11 :: r12 :: r13 :: r14 :: r15 :: r16 :: r17 :: r18 :: r19 :: r20 :: r21 :: r22 :: r23 :: r24 :: r25 :: r26 :: r27 :: (.slice (some ⟨gv, 0, none⟩) 8 8) :: d29 :: r30 :: r31 :: r32 :: r33 :: r34 :: r35 :: r36 :: r37 :: r38 :: r39 :: r40 :: r41 :: r42 :: r43 :: r44 :: r45 :: r46 :: r47 :: r48 :: r49 :: r50 :: r51 :: r52 :: r53 :: r54 :: r55 :: r56 :: r57 :: r58 :: r59 :: r60 :: r61 :: r62 :: r63 :: r64 :: r65 :: r66 :: r67 :: r68 :: r69 :: r70 :: r71 :: r72 :: r73 :: r74 :: r75 :: r76 :: r77 :: r78 :: r79 :: r80 :: r81 :: r82 :: r83 :: r84 :: r85 :: r86 :: r87 :: r88 :: r89 :: r90 :: r91 :: r92 :: r93 :: r94 :: r95 :: r96 :: r97 :: r98 :: r99 :: r100 :: r101 :: r102 :: r103 :: r104 :: r105 :: r106 :: r107 :: r108 :: r109 :: r110 :: r111 :: r112 :: r113 :: r114 :: r115 :: r116 :: r117 :: r118 :: r119 :: r120 :: r121 :: r122 :: r123 :: r124 :: r125 :: r126 :: r127 :: r128 :: r129 :: r130 :: r131 :: r132 :: r133 :: r134 :: r135 :: r136 :: r137 :: r138 :: r139 :: r140 :: r141 :: r142 :: r143 :: r144 :: r145 :: r146 :: r147 :: r148 :: r149 :: r150 :: r151 :: r152 :: r153 :: r154 :: r155 :: r156 :: r157 :: r158 :: r159 :: r160 :: r161 :: r162 :: r163 :: r164 :: r165 :: r166 :: r167 :: r168 :: r169 :: r170 :: r171 :: r172 :: r173 :: r174 :: r175 :: r176 :: r177 :: r178 :: r179 :: r180 :: r181 :: r182 :: r183 :: r184 :: r185 :: r186 :: r187 :: r188 :: r189 :: r190 :: r191 :: r192 :: r193 :: r194 :: r195 :: r196 :: r197 :: r198 :: r199 :: r200 :: r201 :: r202 :: r203 :: r204 :: r205 :: r206 :: r207 :: r208 :: r209 :: r210 :: r211 :: r212 :: r213 :: r214 :: r215 :: r216 :: r217 :: r218 :: r219 :: r220 :: r221 :: r222 :: r223 :: r224 :: r225 :: r226 :: r227 :: r228 :: r229 :: r230 :: r231 :: r232 :: r233 :: r234 :: r235 :: r236 :: r237 :: r238 :: r239 :: r240 :: r241 :: r242 :: r243 :: r244 :: r245 :: r246 :: r247 :: r248 :: r249 :: d250 :: d251 :: d252 :: d253 :: d254 :: d255 :: d256 :: d257 :: d258 :: d259 :: d260 :: d261 :: d262 :: d263 :: d264 :: d265 :: r266 :: r267 :: r268 :: r269 :: r270 :: r271 :: r272 :: r273 :: r274 :: r275 :: r276 :: r277 :: r278 :: r279 :: r280 :: r281 :: r282 :: r283 :: r284 :: r285 :: r286 :: r287 :: r288 :: r289 :: r290 :: r291 :: r292 :: r293 :: r294 :: r295 :: r296 :: r297 :: [])), []⟩ w') :
    (loopAt 39 (Try.f33.body.getD .skip)).wp Try.prog Q ⟨(List.toArray (r0 :: r1 :: r2 :: r3 :: r4 :: r5 :: r6 :: (.slice (some ⟨gh, 0, none⟩) 8 ch) :: r8 :: r9 :: r10 :: r11 :: r12 :: r13 :: r14 :: r15 :: r16 :: r17 :: r18 :: r19 :: r20 :: r21 :: r22 :: r23 :: r24 :: r25 :: r26 :: r27 :: (.slice (some ⟨gv, 0, none⟩) 8 8) :: (.int .i64 0) :: r30 :: r31 :: r32 :: r33 :: r34 :: r35 :: r36 :: r37 :: r38 :: r39 :: r40 :: r41 :: r42 :: r43 :: r44 :: r45 :: r46 :: r47 :: r48 :: r49 :: r50 :: r51 :: r52 :: r53 :: r54 :: r55 :: r56 :: r57 :: r58 :: r59 :: r60 :: r61 :: r62 :: r63 :: r64 :: r65 :: r66 :: r67 :: r68 :: r69 :: r70 :: r71 :: r72 :: r73 :: r74 :: r75 :: r76 :: r77 :: r78 :: r79 :: r80 :: r81 :: r82 :: r83 :: r84 :: r85 :: r86 :: r87 :: r88 :: r89 :: r90 :: r91 :: r92 :: r93 :: r94 :: r95 :: r96 :: r97 :: r98 :: r99 :: r100 :: r101 :: r102 :: r103 :: r104 :: r105 :: r106 :: r107 :: r108 :: r109 :: r110 :: r111 :: r112 :: r113 :: r114 :: r115 :: r116 :: r117 :: r118 :: r119 :: r120 :: r121 :: r122 :: r123 :: r124 :: r125 :: r126 :: r127 :: r128 :: r129 :: r130 :: r131 :: r132 :: r133 :: r134 :: r135 :: r136 :: r137 :: r138 :: r139 :: r140 :: r141 :: r142 :: r143 :: r144 :: r145 :: r146 :: r147 :: r148 :: r149 :: r150 :: r151 :: r152 :: r153 :: r154 :: r155 :: r156 :: r157 :: r158 :: r159 :: r160 :: r161 :: r162 :: r163 :: r164 :: r165 :: r166 :: r167 :: r168 :: r169 :: r170 :: r171 :: r172 :: r173 :: r174 :: r175 :: r176 :: r177 :: r178 :: r179 :: r180 :: r181 :: r182 :: r183 :: r184 :: r185 :: r186 :: r187 :: r188 :: r189 :: r190 :: r191 :: r192 :: r193 :: r194 :: r195 :: r196 :: r197 :: r198 :: r199 :: r200 :: r201 :: r202 :: r203 :: r204 :: r205 :: r206 :: r207 :: r208 :: r209 :: r210 :: r211 :: r212 :: r213 :: r214 :: r215 :: r216 :: r217 :: r218 :: r219 :: r220 :: r221 :: r222 :: r223 :: r224 :: r225 :: r226 :: r227 :: r228 :: r229 :: r230 :: r231 :: r232 :: r233 :: r234 :: r235 :: r236 :: r237 :: r238 :: r239 :: r240 :: r241 :: r242 :: r243 :: r244 :: r245 :: r246 :: r247 :: r248 :: r249 :: r250 :: r251 :: r252 :: r253 :: r254 :: r255 :: r256 :: r257 :: r258 :: r259 :: r260 :: r261 :: r262 :: r263 :: r264 :: r265 :: r266 :: r267 :: r268 :: r269 :: r270 :: r271 :: r272 :: r273 :: r274 :: r275 :: r276 :: r277 :: r278 :: r279 :: r280 :: r281 :: r282 :: r283 :: r284 :: r285 :: r286 :: r287 :: r288 :: r289 :: r290 :: r291 :: r292 :: r293 :: r294 :: r295 :: r296 :: r297 :: [])), []⟩ wy := by
  change (Code.loop _).wp _ _ _ _
  go_loopw [29] (fun i w6 => ∃ t : Nat, t ≤ 8 ∧ i = .int .i64 t ∧
      w6.ownsRow w.heap.size 104 1 (.slice (some ⟨gh, 0, none⟩) 8 ch) 8 ((Sha.add8 [h0, h1, h2, h3, h4, h5, h6, h7] [v0, v1, v2, v3, v4, v5, v6, v7] t).map (Value.int .u32)) ∧
      w6.ownsRow w.heap.size 104 1 (.slice (some ⟨gw, 0, none⟩) 64 64) 64 (W.map (Value.int .u32)) ∧ Bts w6 g nb P ∧ Blk .u32 104 w6 gv [v0, v1, v2, v3, v4, v5, v6, v7] ∧ Below w.heap.size w w6)
    (fun i _ => 8 - (intOf i).toNat)
  case atStart => exact ⟨0, by omega, rfl, hHy, hWy, hbty, hVy, hBwy⟩
  clear hHy hWy hbty hVy hBwy
  case round =>
    obtain ⟨u, hu, rfl, hH, hW, hbt, hV, hBw⟩ := hrel
    by_cases hu8 : u < 8
    · have u8 : (u : Int) < 8 := by omega
      have ca := row_cell hH u (by omega) _ rfl
      rw [Sha.add8_get _ _ _ hu8] at ca
      have cb := hV.cell u (by simpa using hu8)
      have hfr := hH.frozenAt u
      obtain ⟨xa, hxa⟩ : ∃ x, x = ([h0, h1, h2, h3, h4, h5, h6, h7] : List Int).getD u 0 := ⟨_, rfl⟩
      obtain ⟨xb, hxb⟩ : ∃ x, x = ([v0, v1, v2, v3, v4, v5, v6, v7] : List Int).getD u 0 := ⟨_, rfl⟩
      rw [← hxa] at ca
      rw [← hxb] at cb
      have HXX := Lib.hid (And.intro hxa hxb)
      clear hxa hxb
      go_wp2
      go_still_tail 12, (by kernel_rfl)
      go_wp2
      go_roundw
      case rel =>
        obtain ⟨hxa, hxb⟩ := HXX.out
        refine ⟨u + 1, by omega, by go_num, ?_, ownsRow_setCell_other hW (by simp [Value.ownBlock]; exact fun h => n1 h.symm) _, hbt.kept (grownBy_drew1 (grownBy_setC wr gh u _)) (by intro h; injection h with h; exact n2 h.symm), (hV.far _ (fun h => n4 h.symm) _).drew, (hBw.setCell (by have := (hH.lt gh rfl).1; exact this) _).drew⟩
        rw [← Sha.add8_set _ _ _ hu8, ← hxa, ← hxb]
        exact (row_set hH u _).drew
      case measure => simp [intOf]; omega
    · go_wp2
      obtain rfl : u = 8 := by omega
      exact hQ _ _ _ _ _ _ _ _ _ _ _ _ _ _ _ _ _ _ hH hW hbt hBw
end Go.Proofs.Ytkjgbldooflodaa
