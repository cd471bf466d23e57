/-
  The walk of pleachlaw03.awake.
-/
import Derived.Test.YtgfjfpghjjknlaaDoorClB
namespace Go.Proofs.YtgfjfpghjjknlaaDoor
open Go.RowKit Cl
set_option maxRecDepth 100000
set_option linter.unusedVariables false
set_option linter.unusedSimpArgs false
def L2 : List V := [⟨1, -1, ⟨#[]⟩⟩, ⟨3, 0, ⟨#[97, 0]⟩⟩]
theorem L2_tuple : tuple L2 = true := by decide +kernel
theorem L2_key : keyB L2 = [2, 127, 255, 255, 255, 255, 255, 255, 255, 4, 97, 0, 255, 0, 0] := by decide +kernel
theorem L2_back : vals 1 9223372036854775808 Esc.unesc [2, 127, 255, 255, 255, 255, 255, 255, 255, 4, 97, 0, 255, 0, 0] = some L2 := by kernel_rfl
theorem L2_show : showS ⟨1, -1, ⟨#[]⟩⟩ = ⟨#[45, 49]⟩ := by
  have h : Lib.itoa (-1) = [45, 49] := by
    unfold Lib.itoa
    rw [if_pos (by decide)]
    unfold Lib.decDigits
    rfl
  unfold showS showV
  rw [if_neg (by decide +kernel), if_pos rfl, h]
theorem blk_sl {w : World} {g : Nat} {l : List V} {cs : Array Value} {T : TypeId} {fr : Nat × Nat} (h : w.heap[g]? = some (.cells cs T fr)) (hc : cs.toList = vcells l) : Sl w (some ⟨g, 0, none⟩) l := by
  refine ⟨fun _ => ⟨_, rfl⟩, fun a ha => ?_⟩
  cases ha
  refine ⟨fun _ => (Array.getElem?_eq_some_iff.1 h).1, fun i x hx => ?_⟩
  obtain ⟨h0, h1, h2⟩ := vcells_at l i x hx
  have hcell := Lib.cell_of_heap h
  have ea : ∀ j, ((⟨g, 0, none⟩ : Addr).add j) = ⟨g, j, none⟩ := fun j => by unfold Addr.add; split <;> simp_all
  have e : ∀ j, cs[j]? = (vcells l)[j]? := fun j => by rw [← hc, Array.getElem?_toList]
  rw [ea]
  exact ⟨(hcell _).trans ((e _).trans h0), (hcell _).trans ((e _).trans h1), (hcell _).trans ((e _).trans h2)⟩
theorem awake_any (w : World) (he : Env w) : Calls Tryd.prog 9 #[] w fun e w' => e = .returned (.bool true) ∧ Below w.heap.size w w' := by
  have hb1 := (Below.refl w.heap.size w).alloc (Nat.le_refl _) (.cells #[.int .i64 1, .int .i64 (-1), .string ⟨#[]⟩, .int .i64 3, .int .i64 0, .string ⟨#[97, 0]⟩] 23)
  have hsl : Sl (w.alloc (.cells #[.int .i64 1, .int .i64 (-1), .string ⟨#[]⟩, .int .i64 3, .int .i64 0, .string ⟨#[97, 0]⟩] 23)) (some ⟨w.heap.size, 0, none⟩) L2 := blk_sl (heap_alloc_new w _) rfl
  have he1 := he.below hb1 he.lt
  have hk := key_any L2 2 _ _ he1 hsl (by decide)
  rw [L2_tuple, if_pos rfl, L2_key, show L2.length = 2 from rfl] at hk
  go_enter Tryd.func9, Tryd.ntmps9
  go_wp2_with (fail)
  go_at_call 15
  refine hk.mono ?_
  rintro e w1 ⟨rfl, hb⟩
  have hB := hb1.trans (hb.mono hb1.size)
  have he2 := he1.below hb he1.lt
  clear hk hsl hb hb1 he1
  go_wp2_with (fail)
  go_at_call 20
  refine (back_any ⟨#[2, 127, 255, 255, 255, 255, 255, 255, 255, 4, 97, 0, 255, 0, 0]⟩ w1 he2 (by decide)).mono ?_
  rintro e w2 ⟨o, c, l, ok, rfl, hsl, hb2, hok, hno⟩
  have hl : ok = true ∧ l = L2 := by
    cases ok with
    | false => have := (hno rfl).1; rw [L2_back] at this; cases this
    | true => have := hok rfl; rw [L2_back] at this; exact ⟨rfl, (Option.some.inj this).symm⟩
  obtain ⟨rfl, rfl⟩ := hl
  obtain ⟨a, rfl⟩ := hsl.1 (by intro h; cases h)
  obtain ⟨hab, hat⟩ := hsl.2 a rfl
  obtain ⟨x0, x1, x2⟩ := hat 0 _ rfl
  obtain ⟨y0, y1, y2⟩ := hat 1 _ rfl
  have hB2 := hB.trans (hb2.mono hB.size)
  have he3 := he2.below hb2 he2.lt
  have hll : L2.length = 2 := rfl
  clear hok hno hat hsl
  dsimp only at x0 x1 x2 y0 y1 y2
  have z2 : w2.cell? ⟨a.block, a.off + 3 + 2, none⟩ = some (.string ⟨#[97, 0]⟩) := y2
  have u0 : w2.cell? a = some (.int .i64 1) := x0
  have u1 : w2.cell? ⟨a.block, a.off + 1, none⟩ = some (.int .i64 (-1)) := x1
  have u2 : w2.cell? ⟨a.block, a.off + 2, none⟩ = some (.string ⟨#[]⟩) := x2
  clear x0 x1 x2 y0 y1 y2
  rw [hll]
  have hsh := show_any ⟨1, -1, ⟨#[]⟩⟩ w2 he3 ⟨by decide, by decide⟩
  rw [L2_show] at hsh
  go_wp2_with (fail)
  go_at_call 12
  refine hsh.mono ?_
  rintro e w3 ⟨rfl, hb3⟩
  go_wp2
  go_ret
  exact ⟨rfl, hB2.trans (hb3.mono hB2.size)⟩
end Go.Proofs.YtgfjfpghjjknlaaDoor
