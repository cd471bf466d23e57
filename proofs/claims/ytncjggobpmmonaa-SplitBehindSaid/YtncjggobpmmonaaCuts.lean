/-
  The walk of split.Cut: how many items each part has.
-/
import Derived.Test.YtncjggobpmmonaaCut
namespace Go.Proofs.Ytncjggobpmmonaa
open Go.RowKit
set_option maxRecDepth 100000
abbrev Cuts := IsCut endsS ByteArray.empty
theorem Fit.drop {ls : List ByteArray} (h : Fit ls) (k : Nat) : Fit (ls.drop k) := by
  refine ⟨by have := h.1; simp; omega, fun i hi => ?_⟩
  have := h.2 (k + i) (by simp at hi; omega)
  simpa [List.getD_eq_getElem?_getD, List.getElem?_drop] using this
theorem grown_of_below {w w' : World} (hb : Below w.heap.size w w') : w.grownBy w' none := ⟨hb.os, hb.tape, hb.output, hb.size, fun i hi _ => hb.block i hi⟩
theorem own_below {w w' : World} {base n size : Nat} {e : TypeId} {v : Value} {xs : List Value} (h : w.ownsRow base e size v n xs) (hb : Below w.heap.size w w') : w'.ownsRow base e size v n xs :=
  h.kept (grown_of_below hb) (by cases v.ownBlock <;> simp)
def sliceLen : Value → Nat
  | .slice _ n _ => n
  | _ => 0
theorem cut_any (o : Option Addr) (c : Nat) (ls : List ByteArray) (w : World) (hv : Vs w o (ls.map Value.string)) (hlc : ls.length ≤ c) (hf : Fit ls) :
    Calls Try.prog 11 #[.slice o ls.length c] w fun e w' => (∃ v ks, e = .returned v ∧ w'.ownsRow w.heap.size 3 1 v ks.length (ints ks) ∧ Cuts ls ks) ∧ Below w.heap.size w w' := by
  have hl1000 := hf.1
  go_enter Try.func11, Try.ntmps11
  go_wp2
  obtain ⟨i0, hi0, hz0, hz1, hz2⟩ := info_parts (P := Try.prog) (e := 3) (z := .int .i64 0) (size := 1) (bytes := 8) (by kernel_rfl)
  go_loopw [0, 3] (fun s v wr => ∃ (o : Option Addr) (c : Nat) (r : List ByteArray) (ds : List Nat), s = .slice o r.length c ∧ r.length ≤ c ∧ Vs w o (r.map Value.string) ∧ Fit r ∧ ds.length + r.length ≤ ls.length ∧
      wr.ownsRow w.heap.size 3 1 v ds.length (ints ds) ∧ (∀ ks, Cuts r ks → Cuts ls (ds ++ ks)) ∧ Below w.heap.size w wr)
    (fun s _ _ => sliceLen s)
  case atStart => exact ⟨o, c, ls, [], rfl, hlc, hv, hf, by simp, ⟨rfl, .inl ⟨rfl, rfl⟩⟩, fun ks h => h, Below.refl _ _⟩
  clear hv hf hlc
  case round =>
    obtain ⟨o, c, r, ds, rfl, hrc, hv, hf, hlen, hown, hcuts, hB⟩ := hrel
    have hr1000 := hf.1
    by_cases h0 : 0 < r.length
    · obtain ⟨a, rfl⟩ := hv.1 (by intro h; simp at h; subst h; simp at h0)
      have hv1 := hv.below (Nat.le_refl _) hB
      go_wp2_with (first | (go_at_call 15; go_loud (refine (part_any (some a) c r wr hv1 hf h0).mono ?_; rintro e w1 ⟨⟨k, rfl, hp⟩, hb⟩; have hown1 := (own_below hown hb).alloc (.cells #[.int .i64 (k : Int)] 3))) | (at_builtin; refine wpList_append_own _ rfl _ _ 27 rfl w.heap.size 3 i0 (.int .i64 0) 1 8 Try.underlying27 hi0 hz0 hz1 hz2 rfl (by decide) _ _ _ rfl hown1 ⟨w1.heap.size, 0, none⟩ 1 1 [.int .i64 (k : Int)] rfl rfl ?c1 ?c2 ?c3 ?c4 ?c5 ?_))
      case c1 => exact World.news_of_block (heap_alloc_new w1 _)
      case c2 => simp [Value.oneCell']
      case c3 => unfold maxLen; omega
      case c4 => omega
      case c5 => exact Nat.le_trans hB.size (Nat.le_trans hb.size (by simp))
      intro v' w' hown' hgrow _
      have hpl := hp.le
      have hp1 := hp.pos
      clear hown1
      go_wp2
      go_roundw
      case rel =>
        refine ⟨_, _, r.drop k, ds ++ [k], by rw [List.length_drop], by simp; omega, ?_, hf.drop k, by simp; omega, ?_, IsCut.snoc_start hcuts hp, ?_⟩
        · by_cases hck : c = k
          · rw [List.drop_eq_nil_of_le (by omega)]
            exact Vs.nil
          · rw [if_neg hck, List.map_drop]
            exact hv.drop k
        · rw [ints_append]
          simpa [ints] using hown'
        · exact ((hB.trans (hb.mono hB.size)).alloc (Nat.le_trans hB.size hb.size) _).grown hgrow (Nat.le_trans hB.size (Nat.le_trans hb.size (by simp))) (fun q hq => (hown.lt q hq).1)
      case measure => simp [sliceLen]; omega
    · go_wp2
      go_ret
      obtain rfl : r = [] := List.eq_nil_of_length_eq_zero (by omega)
      exact ⟨⟨_, ds, rfl, hown, by simpa using hcuts [] .nil⟩, hB⟩
end Go.Proofs.Ytncjggobpmmonaa
