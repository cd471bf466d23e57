/-
  Texts in keys: every zero byte is followed by 255, two zero bytes end. Plain Lean; and what a call may lean on.
-/
import Derived.Test.YtgfjfpghjjknlaaDoorBld
import Derived.Test.YtgfjfpghjjknlaaDoorCl2
import Derived.Lib.Replace
import Derived.Lib.ReplaceLaws
import Derived.Lib.IndexBytes
namespace Go.Proofs.YtgfjfpghjjknlaaDoor
open Go.RowKit Cl
set_option maxRecDepth 100000
set_option linter.unusedVariables false
set_option linter.unusedSimpArgs false
/-- What the library's variables hold. -/
structure Env (w : World) : Prop where
  max : ∃ m, w.cell? ⟨2, 0, none⟩ = some (.int .i64 m)
  lt : 2 < w.heap.size
  tab : Lib.TabIs Tryd.prog w "internal/strconv.uint64pow10" .u64 Lib.pow10Tab
theorem Env.below {w w' : World} {B : Nat} (h : Env w) (hb : Below B w w') (hB : 2 < B) : Env w' := by
  obtain ⟨⟨m, hm⟩, hl, ht⟩ := h
  refine ⟨⟨m, (hb.cell (by show 2 < B; omega)).trans hm⟩, Nat.lt_of_lt_of_le hl hb.size, ?_⟩
  unfold Lib.TabIs at *
  rw [← ht]
  unfold World.var?
  rw [show Tryd.prog.globalNamed "internal/strconv.uint64pow10" = some 0 by kernel_rfl]
  simp only [Option.bind]
  rw [hb.block 0 (by omega)]
namespace Esc
def esc (l : List UInt8) : List UInt8 := l.flatMap fun b => if b = 0 then [0, 255] else [b]
theorem esc_cons (b : UInt8) (l : List UInt8) : esc (b :: l) = (if b = 0 then [0, 255] else [b]) ++ esc l := by unfold esc; rw [List.flatMap_cons]
theorem replK (c : UInt8) (new : List UInt8) : ∀ (l : List UInt8) (k : Nat), l.count c ≤ k → Lib.replaceK [c] new k l = l.flatMap fun b => if b = c then new else [b] := by
  intro l
  induction l with
  | nil =>
    intro k _
    cases k with
    | zero => rfl
    | succ k => rw [Lib.replaceK, Lib.index_one]; rfl
  | cons b l ih =>
    intro k hk
    by_cases hb : b = c
    · subst hb
      rw [List.count_cons_self] at hk
      obtain ⟨k, rfl⟩ : ∃ j, k = j + 1 := ⟨k - 1, by omega⟩
      have hi : Lib.index (b :: l) [b] = ((0 : Nat) : Int) := by rw [Lib.index_one]; simp [Lib.indexByte]
      rw [Lib.replaceK_hit [b] new k (b :: l) 0 hi]
      simp only [List.take_zero, List.nil_append, List.length_singleton, List.drop_succ_cons, List.drop_zero, List.flatMap_cons, if_pos]
      rw [ih k (by omega)]
    · have hk' : l.count c ≤ k := by rw [List.count_cons_of_ne hb] at hk; exact hk
      rw [List.flatMap_cons, if_neg hb, List.singleton_append, ← ih k hk']
      cases k with
      | zero => rfl
      | succ k =>
        rw [Lib.replaceK, Lib.replaceK, Lib.index_one, Lib.index_one]
        have hi : Lib.indexByte (b :: l) c = if Lib.indexByte l c == -1 then -1 else Lib.indexByte l c + 1 := by
          rw [Lib.indexByte, if_neg (by simpa using hb)]
        have hge := Lib.indexByte_ge l c
        rw [hi]
        by_cases hm : Lib.indexByte l c = -1
        · simp [hm]
        · obtain ⟨i, he⟩ : ∃ i : Nat, Lib.indexByte l c = i := ⟨(Lib.indexByte l c).toNat, by omega⟩
          rw [he]
          have h1 : ¬ ((i : Int) == -1) = true := by simp <;> omega
          have h2 : ¬ ((i : Int) + 1 == -1) = true := by simp <;> omega
          rw [if_neg h1, if_neg h1, if_neg h2]
          have h3 : ((i : Int) + 1).toNat = i + 1 := by omega
          rw [h3, Int.toNat_natCast]
          simp
theorem replaceAll_one (c : UInt8) (new : List UInt8) (h : [c] ≠ new) (l : List UInt8) : Lib.replaceAll l [c] new = l.flatMap fun b => if b = c then new else [b] := by
  unfold Lib.replaceAll Lib.replace
  rw [if_neg (by simpa using h)]
  refine replK c new l _ ?_
  unfold Lib.replaceNum
  rw [if_pos (.inl (by decide)), Lib.count_one]
  exact Nat.le_refl _
theorem esc_length (l : List UInt8) : (esc l).length ≤ 2 * l.length := by
  induction l with
  | nil => exact Nat.le_refl _
  | cons b l ih =>
    rw [esc_cons, List.length_append, List.length_cons]
    have h2 : (if b = 0 then [0, 255] else [b]).length ≤ 2 := by split <;> simp
    omega
/-- A text and what is behind its end. -/
def unesc : List UInt8 → Option (List UInt8 × List UInt8)
  | [] => none
  | [_] => none
  | b :: c :: l => if b = 0 then (if c = 0 then some ([], l) else if c = 255 then (unesc l).map (fun p => (0 :: p.1, p.2)) else none) else (unesc (c :: l)).map fun p => (b :: p.1, p.2)
theorem unesc_cons (b : UInt8) (l : List UInt8) (hb : b ≠ 0) : unesc (b :: l) = (unesc l).map fun p => (b :: p.1, p.2) := by
  cases l with
  | nil => rfl
  | cons c l => rw [unesc, if_neg hb]
theorem unesc_text : ∀ (t l : List UInt8), (∀ x ∈ t, x ≠ 0) → unesc (t ++ l) = (unesc l).map fun p => (t ++ p.1, p.2) := by
  intro t
  induction t with
  | nil => intro l _; cases h : unesc l <;> simp [h]
  | cons b t ih =>
    intro l h
    rw [List.cons_append, unesc_cons b _ (h b (List.mem_cons_self ..)), ih l (fun x hx => h x (List.mem_cons_of_mem _ hx))]
    cases h : unesc l <;> simp
theorem unesc_none (l : List UInt8) (h : ∀ x ∈ l, x ≠ 0) : unesc l = none := by
  have := unesc_text l [] h
  rw [List.append_nil] at this
  rw [this]
  rfl
theorem unesc_esc (l r : List UInt8) : unesc (esc l ++ 0 :: 0 :: r) = some (l, r) := by
  induction l with
  | nil => rfl
  | cons b l ih =>
    rw [esc_cons]
    by_cases hb : b = 0
    · subst hb
      rw [if_pos rfl]
      show unesc (0 :: 255 :: (esc l ++ 0 :: 0 :: r)) = _
      rw [unesc, if_pos rfl, if_neg (by decide), if_pos rfl, ih]
      rfl
    · rw [if_neg hb]
      show unesc (b :: (esc l ++ 0 :: 0 :: r)) = _
      rw [unesc_cons b _ hb, ih]
      rfl
end Esc
theorem risingW_any (s : ByteArray) (w : World) (he : Env w) (hs : s.size ≤ 1000) :
    Calls Tryd.prog 56 #[.string s] w fun e w' => e = .returned (.string ⟨(Esc.esc s.data.toList ++ [0, 0]).toArray⟩) ∧ Below w.heap.size w w' := by
  obtain ⟨m, hm⟩ := he.max
  have hc : Lib.countB s ⟨#[0]⟩ ≤ s.size := Lib.countB_le ⟨#[0]⟩ (by decide) s.size s (Nat.le_refl _)
  have hr := Tryd.strings_ReplaceAll s ⟨#[0]⟩ ⟨#[0, 255]⟩ m w (by omega) hm (by decide) (by show s.size + Lib.countB s ⟨#[0]⟩ * 2 ≤ _; omega)
  have hz := Esc.esc_length s.data.toList
  have hl : s.data.toList.length = s.size := rfl
  rw [show Lib.replaceAll s.data.toList (⟨#[0]⟩ : ByteArray).data.toList (⟨#[0, 255]⟩ : ByteArray).data.toList = Esc.esc s.data.toList from Esc.replaceAll_one 0 [0, 255] (by decide) _] at hr
  have hes : (⟨(Esc.esc s.data.toList).toArray⟩ : ByteArray).size = (Esc.esc s.data.toList).length := rfl
  have hfin : (⟨(Esc.esc s.data.toList).toArray⟩ : ByteArray) ++ (⟨#[0, 0]⟩ : ByteArray) = ⟨(Esc.esc s.data.toList ++ [0, 0]).toArray⟩ := by
    refine ByteArray.ext (Array.ext' ?_)
    simp
  rw [← hfin]
  generalize (⟨(Esc.esc s.data.toList).toArray⟩ : ByteArray) = r at hr hes ⊢
  clear hfin
  go_enter Tryd.func56, Tryd.ntmps56
  go_wp2_with (fail)
  go_at_call 29
  refine hr.mono ?_
  rintro e w1 ⟨rfl, hb⟩
  go_wp2
  go_ret
  exact ⟨rfl, hb⟩
end Go.Proofs.YtgfjfpghjjknlaaDoor
