/-
  The walks of (*strings.Builder).copyCheck, WriteByte and WriteString at a builder of the call's own.
-/
import Derived.Test.YtgfjfpghjjknlaaDoorShelf
import Derived.Lib.Builder
import Derived.Lib.AppendStr
import Derived.Lib.Hide
import Derived.Deep.AppendLies
namespace Go.Proofs.YtgfjfpghjjknlaaDoor
open Go.RowKit
set_option maxRecDepth 100000
set_option linter.unusedVariables false
set_option linter.unusedSimpArgs false
abbrev Bld (B b : Nat) (l : List UInt8) (w : World) : Prop := Lib.IsBuilder 61 5 B b (Lib.byteCells l) w
theorem liesB : liesAt Tryd.prog Tryd.prog.depth 61 (2 / Tryd.prog.cellsOf 61) 0 61 1 = true := by kernel_rfl
theorem sizeB : (Tryd.prog.info? 61).map (·.size) = some 2 := by kernel_rfl
theorem copyCheck_used (b : Nat) (w : World) (h0 : w.cell? ⟨b, 0, none⟩ = some (.pointer (some ⟨b, 0, none⟩))) :
    Calls Tryd.prog 73 #[.pointer (some ⟨b, 0, none⟩)] w fun e w' => e = .returned (.tuple #[]) ∧ w' = w := by
  obtain ⟨j, hj, _⟩ := Option.map_eq_some_iff.1 sizeB
  have hn := Lib.run_neq_ptr_same (P := Tryd.prog) (tp := 59) w ⟨b, 0, none⟩ rfl hj
  go_enter Tryd.func73, Tryd.ntmps73
  go_wp2
  go_end0
  exact ⟨rfl, rfl⟩
theorem copyCheck_fresh (b : Nat) (w : World) (h0 : w.cell? ⟨b, 0, none⟩ = some (.pointer none)) (hsh : w.shape? b = some (61, 2)) (hfz : w.frozen? ⟨b, 0, none⟩ = false) :
    Calls Tryd.prog 73 #[.pointer (some ⟨b, 0, none⟩)] w fun e w' => e = .returned (.tuple #[]) ∧ w' = w.setCell ⟨b, 0, none⟩ (.pointer (some ⟨b, 0, none⟩)) := by
  obtain ⟨j, hj, hjs⟩ := Option.map_eq_some_iff.1 sizeB
  have f1 := Lib.run_to_unsafe (P := Tryd.prog) (src := 59) (dst := 103) w ⟨b, 0, none⟩ rfl rfl hj (by rw [hjs]; decide) hsh (Nat.zero_lt_succ 1)
  have f2 := Lib.run_from_unsafe (P := Tryd.prog) (src := 103) (dst := 59) w ⟨b, 0, none⟩ rfl rfl hj hsh liesB
  go_enter Tryd.func73, Tryd.ntmps73
  go_wp2
  rw [run_callFunc_extern Tryd.func90 (by kernel_rfl) (by kernel_rfl) (by kernel_rfl) (e := Extern.AbiNoEscape.same) (by kernel_rfl)]
  rw [Lib.run_noEscape]
  simp only [Result.andThen]
  rw [Oper.upon_value]
  go_wp2
  go_end0
  exact ⟨rfl, rfl⟩
/-- All blocks that hold no bytes are as they were, but the builder's own. -/
def KeepT (b : Nat) (w w' : World) : Prop := ∀ k, k < w.heap.size → k ≠ b → (∀ cs, w.heap[k]? ≠ some (.cells cs 5 (0, 0))) → w'.heap[k]? = w.heap[k]?
theorem own_not {w : World} {B n k : Nat} {v : Value} {xs : List Value} (h : w.ownsRow B 5 1 v n xs) (hk : ∀ cs, w.heap[k]? ≠ some (.cells cs 5 (0, 0))) : some k ≠ v.ownBlock := by
  intro e
  rcases h.2 with ⟨rfl, _⟩ | ⟨g, cap, cur, rfl, _, hg, _⟩
  · simp [Value.ownBlock] at e
  · simp only [Value.ownBlock, Option.some.injEq] at e
    subst e
    exact hk _ hg
theorem copyCheck_any (B b : Nat) (l : List Value) (w : World) (h : Lib.IsBuilder 61 5 B b l w) :
    Calls Tryd.prog 73 #[.pointer (some ⟨b, 0, none⟩)] w fun e w' => e = .returned (.tuple #[]) ∧ Lib.BuilderAt 61 5 B b (.pointer (some ⟨b, 0, none⟩)) l w' ∧ Below B w w' ∧ (∀ k, k ≠ b → w'.heap[k]? = w.heap[k]?) ∧ w'.heap.size = w.heap.size := by
  rcases h with h | h
  · refine (copyCheck_fresh b w h.cell0 h.shape h.frozen0).mono ?_
    rintro e w' ⟨rfl, rfl⟩
    exact ⟨rfl, h.used _, (Below.refl B w).setCell (p := ⟨b, 0, none⟩) h.1 _, fun k hk => Below.heap_setCell _ _ _ _ hk, by simp [World.setCell]⟩
  · refine (copyCheck_used b w h.cell0).mono ?_
    rintro e w' ⟨rfl, rfl⟩
    exact ⟨rfl, h, Below.refl B _, fun _ _ => rfl, rfl⟩
theorem Bld.ofAt {B b : Nat} {l : List Value} {w : World} (h : Lib.BuilderAt 61 5 B b (.pointer (some ⟨b, 0, none⟩)) l w) : Lib.IsBuilder 61 5 B b l w := .inr h
set_option maxHeartbeats 1000000 in
theorem writeByte_k (B b : Nat) (l : List Value) (c : Int) (w : World) (h : Lib.IsBuilder 61 5 B b l w) (hBw : B ≤ w.heap.size) (hl : l.length < 140737488355328) :
    Calls Tryd.prog 50 #[.pointer (some ⟨b, 0, none⟩), .int .u8 c] w fun e w' => e = .returned .nilIface ∧ Lib.IsBuilder 61 5 B b (l ++ [.int .u8 c]) w' ∧ Below B w w' ∧ KeepT b w w' := by
  obtain ⟨i0, hi0, hz0, hz1, hz2⟩ := info_parts (P := Tryd.prog) (e := 5) (z := .int .u8 0) (size := 1) (bytes := 1) (by kernel_rfl)
  go_enter Tryd.func50, Tryd.ntmps50
  go_wp2_with (fail)
  go_at_call 73
  refine (copyCheck_any B b l w h).mono ?_
  rintro e w1 ⟨rfl, h1, hb1, hcc, hcz⟩
  have HC := Lib.hid (And.intro hcc hcz)
  clear hcc hcz
  obtain ⟨hB, v, hbk, hown, hne⟩ := h1
  have c1 : w1.cell? ⟨b, 1, none⟩ = some v := by rw [Lib.cell_of_heap hbk]; rfl
  have hlt : b < w1.heap.size := (Array.getElem?_eq_some_iff.1 hbk).1
  go_wp2_with (at_builtin; refine wpList_append_own _ rfl _ _ 50 rfl B 5 i0 (.int .u8 0) 1 1 Tryd.underlying50 hi0 hz0 hz1 hz2 rfl (by decide) _ _ _ rfl (hown.alloc _) ⟨w1.heap.size, 0, none⟩ 1 1 [.int .u8 c] rfl rfl ?c1 ?c2 ?c3 ?c4 ?c5 ?_)
  case c1 => exact World.news_of_block (heap_alloc_new w1 _)
  case c2 => simp [Value.oneCell']
  case c3 => unfold maxLen; omega
  case c4 => omega
  case c5 => exact Nat.le_trans hBw (Nat.le_trans hb1.size (by simp))
  intro v' w2 hown' hgrow _
  obtain ⟨g, cap, rfl⟩ : ∃ g cap, v' = .slice (some ⟨g, 0, none⟩) (l.length + 1) cap := by
    rcases hown'.2 with ⟨_, h⟩ | ⟨g, cap, cur, rfl, _⟩
    · omega
    · exact ⟨g, cap, rfl⟩
  have hb2 : w2.heap[b]? = some (.cells #[.pointer (some ⟨b, 0, none⟩), v] 61 (0, 0)) := by
    rw [hgrow.block b (by simp; omega) (fun e => hne e.symm), Lib.alloc_old w1 _ b hlt]
    exact hbk
  have d1 : w2.cell? ⟨b, 1, none⟩ = some v := by rw [Lib.cell_of_heap hb2]; rfl
  have f1 : w2.frozen? ⟨b, 1, none⟩ = false := Lib.frozen_of_heap hb2 1
  have hB2 : Below B w w2 := ((hb1.alloc (Nat.le_trans hBw hb1.size) _).grown hgrow (Nat.le_trans hBw (Nat.le_trans hb1.size (by simp))) (fun k hk => (hown.lt k hk).1))
  have hput := Lib.BuilderAt.put (T := 61) (e := 5) (v' := .slice (some ⟨g, 0, none⟩) (l.length + 1) cap) (bs' := l ++ [.int .u8 c]) hB hb2 (by simpa using hown') (by decide)
  have hkeep : KeepT b w (w2.setCell ⟨b, 1, none⟩ (.slice (some ⟨g, 0, none⟩) (l.length + 1) cap)) := by
    obtain ⟨hcc, hcz⟩ := HC.out
    intro k hk hkb hT
    rw [Below.heap_setCell _ _ _ _ hkb]
    rw [hgrow.block k (by simp; omega) (own_not hown (fun cs => by rw [hcc k hkb]; exact hT cs)), Lib.alloc_old w1 _ k (by omega), hcc k hkb]
  clear c1 hgrow hown' hown
  go_wp2
  go_ret
  exact ⟨rfl, .inr hput, hB2.setCell (p := ⟨b, 1, none⟩) hB _, hkeep⟩
theorem writeByte_any (B b : Nat) (l : List Value) (c : Int) (w : World) (h : Lib.IsBuilder 61 5 B b l w) (hBw : B ≤ w.heap.size) (hl : l.length < 140737488355328) :
    Calls Tryd.prog 50 #[.pointer (some ⟨b, 0, none⟩), .int .u8 c] w fun e w' => e = .returned .nilIface ∧ Lib.IsBuilder 61 5 B b (l ++ [.int .u8 c]) w' ∧ Below B w w' :=
  (writeByte_k B b l c w h hBw hl).mono fun e w' h => ⟨h.1, h.2.1, h.2.2.1⟩
set_option maxHeartbeats 1000000 in
theorem writeString_k (B b : Nat) (l : List Value) (s : ByteArray) (w : World) (h : Lib.IsBuilder 61 5 B b l w) (hBw : B ≤ w.heap.size) (hl : l.length + s.size ≤ 140737488355000) :
    Calls Tryd.prog 49 #[.pointer (some ⟨b, 0, none⟩), .string s] w fun e w' => e = .returned (.tuple #[.int .i64 s.size, .nilIface]) ∧ Lib.IsBuilder 61 5 B b (l ++ Lib.strCells s) w' ∧ Below B w w' ∧ KeepT b w w' := by
  obtain ⟨i0, hi0, hz0, hz1, hz2⟩ := info_parts (P := Tryd.prog) (e := 5) (z := .int .u8 0) (size := 1) (bytes := 1) (by kernel_rfl)
  go_enter Tryd.func49, Tryd.ntmps49
  go_wp2_with (fail)
  go_at_call 73
  refine (copyCheck_any B b l w h).mono ?_
  rintro e w1 ⟨rfl, h1, hb1, hcc, hcz⟩
  have HC := Lib.hid (And.intro hcc hcz)
  clear hcc hcz
  obtain ⟨hB, v, hbk, hown, hne⟩ := h1
  have c1 : w1.cell? ⟨b, 1, none⟩ = some v := by rw [Lib.cell_of_heap hbk]; rfl
  have hlt : b < w1.heap.size := (Array.getElem?_eq_some_iff.1 hbk).1
  go_wp2_with (at_builtin; go_loud (refine Lib.wpList_append_own_string _ rfl _ _ 50 9 rfl B 5 i0 Tryd.underlying50 Tryd.underlying9 hi0 hz0 hz1 hz2 _ _ _ rfl hown s rfl ?c3 ?c4 ?c5 ?_))
  case c3 => unfold maxLen; omega
  case c4 => omega
  case c5 => exact Nat.le_trans hBw hb1.size
  intro v' w2 hown' hgrow hnil
  obtain ⟨o, k, cap, rfl⟩ : ∃ o k cap, v' = .slice o k cap := by
    rcases hown'.2 with ⟨h, _⟩ | ⟨g, cap, cur, h, _⟩
    · exact ⟨_, _, _, h⟩
    · exact ⟨_, _, _, h⟩
  have hb2 : w2.heap[b]? = some (.cells #[.pointer (some ⟨b, 0, none⟩), v] 61 (0, 0)) := by
    rw [hgrow.block b hlt (fun e => hne e.symm)]
    exact hbk
  have d1 : w2.cell? ⟨b, 1, none⟩ = some v := by rw [Lib.cell_of_heap hb2]; rfl
  have f1 : w2.frozen? ⟨b, 1, none⟩ = false := Lib.frozen_of_heap hb2 1
  have hB2 : Below B w w2 := hb1.grown hgrow (Nat.le_trans hBw hb1.size) (fun k hk => (hown.lt k hk).1)
  have hput := Lib.BuilderAt.put (T := 61) (e := 5) (v' := .slice o k cap) (bs' := l ++ Lib.strCells s) hB hb2 (by rw [List.length_append, Lib.strCells_length]; exact hown') (by decide)
  have hkeep : KeepT b w (w2.setCell ⟨b, 1, none⟩ (.slice o k cap)) := by
    obtain ⟨hcc, hcz⟩ := HC.out
    intro k' hk hkb hT
    rw [Below.heap_setCell _ _ _ _ hkb]
    rw [hgrow.block k' (by omega) (own_not hown (fun cs => by rw [hcc k' hkb]; exact hT cs)), hcc k' hkb]
  clear c1 hgrow hown' hown hnil
  go_wp2
  exact bodyPost_ret (v := .tuple #[.int .i64 s.size, .nilIface]) (by simp [results, Tryd.results49, go_sem]) rfl ⟨rfl, .inr hput, hB2.setCell (p := ⟨b, 1, none⟩) hB _, hkeep⟩
theorem writeString_any (B b : Nat) (l : List Value) (s : ByteArray) (w : World) (h : Lib.IsBuilder 61 5 B b l w) (hBw : B ≤ w.heap.size) (hl : l.length + s.size ≤ 140737488355000) :
    Calls Tryd.prog 49 #[.pointer (some ⟨b, 0, none⟩), .string s] w fun e w' => e = .returned (.tuple #[.int .i64 s.size, .nilIface]) ∧ Lib.IsBuilder 61 5 B b (l ++ Lib.strCells s) w' ∧ Below B w w' :=
  (writeString_k B b l s w h hBw hl).mono fun e w' h => ⟨h.1, h.2.1, h.2.2.1⟩
theorem strCells_bytes (s : ByteArray) : Lib.strCells s = Lib.byteCells s.data.toList := rfl
end Go.Proofs.YtgfjfpghjjknlaaDoor
