/-
  The walks of commit.Put and commit.Get over a heap of texts.
-/
import Derived.Test.YtkjgbldooflodaaCmH
namespace Go.Proofs.Ytkjgbldooflodaa
open Go.RowKit Cm Mp
set_option maxRecDepth 100000
set_option linter.unusedVariables false
set_option linter.unusedSimpArgs false
/-- A heap of texts as an interface's value. -/
def hp (hb : Nat) : Value := .iface 31 (.pointer (some ⟨hb, 0, none⟩))
theorem mPut (x : Value) (w : World) : (Go.method 246 31 x "Put").run Try.prog w = .ok (32, x) w := by kernel_rfl
theorem mGet (x : Value) (w : World) : (Go.method 246 31 x "Get").run Try.prog w = .ok (87, x) w := by kernel_rfl
theorem cputno_any (hb : Nat) (r : ByteArray) (l : List ByteArray) (m : ByteArray) (o : Option Addr) (c : Nat) (w : World) (h : Ss w o l) (hn : o = none → c = 0) (hc : l.length ≤ c) (hl : l.length ≤ 1000) (hm : m.size ≤ 140737488351232) (hr : right ⟨r, l, m⟩ = false) :
    Calls Try.prog 12 #[hp hb, .agg #[.string r, .slice o l.length c, .string m]] w fun e w' => e = .returned (.tuple #[.string ⟨#[]⟩, .int .i64 1]) ∧ Below w.heap.size w w' := by
  have hwr := fun w h => write_any r l m o c w h hn hc hl hm
  rw [hr, if_neg (by decide)] at hwr
  have hb1 : Below w.heap.size w (w.alloc (.cells #[.string r, .slice o l.length c, .string m] 24)) := (Below.refl _ _).alloc (Nat.le_refl _) _
  have hs1 := h.below hb1
  unfold hp
  clear hr
  go_enter Try.func12, Try.ntmps12
  go_wp2_with (go_at_call 10; refine (hwr _ hs1).mono ?_; rintro e w2 ⟨rfl, hb2⟩)
  exact bodyPost_ret (v := .tuple #[.string ⟨#[]⟩, .int .i64 1]) (by simp [results, Try.results12, go_sem]) rfl ⟨rfl, hb1.trans (hb2.mono hb1.size)⟩
theorem cput_any (hb mb n : Nat) (S : ByteArray → Option ByteArray) (r : ByteArray) (l : List ByteArray) (m : ByteArray) (o : Option Addr) (c : Nat) (w : World) (hS : Src w hb mb n S) (hn1 : n < 1000000) (h : Ss w o l) (hn : o = none → c = 0) (hc : l.length ≤ c) (hl : l.length ≤ 1000) (hm : m.size ≤ 140737488351232) (hr : right ⟨r, l, m⟩ = true) (t : ByteArray) (ht : t = ⟨(writeB ⟨r, l, m⟩).toArray⟩) :
    Calls Try.prog 12 #[hp hb, .agg #[.string r, .slice o l.length c, .string m]] w fun e w' => e = .returned (.tuple #[.string (Sha.sha t), .int .i64 0]) ∧ Src w' hb mb (n + 1) (putS S (Sha.sha t) t) ∧ w.grownBy w' (some mb) := by
  have hwr := fun w h => write_any r l m o c w h hn hc hl hm
  rw [hr, if_pos rfl, ← ht] at hwr
  have htz : t.size ≤ 140737488351232 := by
    obtain ⟨r1, r2, r3, r4, r5⟩ := right_parts hr
    dsimp only at r1 r3 r4 r5
    have := joined_length l r5
    rw [ht]
    show (writeB ⟨r, l, m⟩).toArray.size ≤ _
    rw [List.size_toArray]
    unfold writeB
    simp only [List.length_cons, List.length_append, this, size_list, r4]
    omega
  obtain ⟨l1, l2⟩ := hS.lt
  have hb1 : Below w.heap.size w (w.alloc (.cells #[.string r, .slice o l.length c, .string m] 24)) := (Below.refl _ _).alloc (Nat.le_refl _) _
  have hs1 := h.below hb1
  have hmp := mPut
  unfold hp
  clear hr ht
  go_enter Try.func12, Try.ntmps12
  go_wp2_with (first | (go_at_call 10; refine (hwr _ hs1).mono ?_; rintro e w2 ⟨rfl, hb2⟩) | (go_at_call 32; refine (hput_any hb mb n S t _ (hS.below (hb1.trans (hb2.mono hb1.size)) l1 l2) htz hn1).mono ?_; rintro e w3 ⟨rfl, hs3, hg3⟩))
  have hB2 := hb1.trans (hb2.mono hb1.size)
  exact bodyPost_ret (v := .tuple #[.string (Sha.sha t), .int .i64 0]) (by simp [results, Try.results12, go_sem]) rfl ⟨rfl, hs3, ⟨hg3.os.trans hB2.os, hg3.tape.trans hB2.tape, hg3.output.trans hB2.output, Nat.le_trans hB2.size hg3.size, fun k hk hne => (hg3.block k (Nat.lt_of_lt_of_le hk hB2.size) hne).trans (hB2.block k hk)⟩⟩
/-- The commit of a print. -/
def getC (S : ByteArray → Option ByteArray) (p : ByteArray) : Option C := (S p).bind readC
/-- What asking for a commit hands back. -/
def GetOut (a : Option C) (w : World) (e : Ending) (w' : World) : Prop :=
  ∃ (c : C) (o : Option Addr) (cp : Nat), e = .returned (.tuple #[.agg #[.string c.root, .slice o c.par.length cp, .string c.msg], .int .i64 (if a.isSome then 0 else 6)]) ∧ Ss w' o c.par ∧ (o = none → cp = 0) ∧ c.par.length ≤ cp ∧ (∀ x, o = some x → w.heap.size ≤ x.block) ∧ Below w.heap.size w w' ∧ (∀ x, a = some x → c = x)
theorem GetOut.none {w w' : World} {e : Ending} (he : e = .returned (.tuple #[.agg #[.string ⟨#[]⟩, .slice none 0 0, .string ⟨#[]⟩], .int .i64 6])) (hb : Below w.heap.size w w') : GetOut none w e w' :=
  ⟨none3, .none, 0, he, Ss.nil, fun _ => rfl, Nat.le_refl _, (fun x hx => by cases hx), hb, (fun x h => by cases h)⟩
set_option maxHeartbeats 2000000 in
theorem cget_any (hb mb n : Nat) (S : ByteArray → Option ByteArray) (p : ByteArray) (w : World) (h : Src w hb mb n S) (hp32 : p.size ≤ maxLen) (hz : ∀ t, S p = some t → t.size ≤ 1000000) :
    Calls Try.prog 18 #[hp hb, .string p] w fun e w' => GetOut (getC S p) w e w' := by
  obtain ⟨l1, l2⟩ := h.lt
  have hb1 : Below w.heap.size w (w.alloc (.cells #[.string ⟨#[]⟩, .slice none 0 0, .string ⟨#[]⟩] 24)) := (Below.refl _ _).alloc (Nat.le_refl _) _
  have hblk := heap_alloc_new w (.cells #[.string ⟨#[]⟩, .slice none 0 0, .string ⟨#[]⟩] 24)
  have hg := hget_any hb mb n S p _ (h.below hb1 l1 l2) hp32
  have hmg := mGet
  unfold hp getC
  cases hS : S p with
  | none =>
    rw [hS] at hg
    replace hg : Calls Try.prog 87 #[.pointer (some ⟨hb, 0, none⟩), .string p] (w.alloc (.cells #[.string ⟨#[]⟩, .slice none 0 0, .string ⟨#[]⟩] 24)) (fun e w' => e = .returned (.tuple #[.string ⟨#[]⟩, .bool false]) ∧ w' = (w.alloc (.cells #[.string ⟨#[]⟩, .slice none 0 0, .string ⟨#[]⟩] 24))) := hg
    rw [show (none : Option ByteArray).bind readC = none from rfl]
    go_enter Try.func18, Try.ntmps18
    go_wp2_with (go_at_call 87; refine hg.mono ?_; rintro e w2 ⟨rfl, rfl⟩)
    exact bodyPost_ret (v := .tuple #[.agg #[.string ⟨#[]⟩, .slice none 0 0, .string ⟨#[]⟩], .int .i64 6]) (by simp [results, Try.results18, go_sem]) rfl (GetOut.none rfl hb1)
  | some t =>
    rw [hS] at hg
    replace hg : Calls Try.prog 87 #[.pointer (some ⟨hb, 0, none⟩), .string p] (w.alloc (.cells #[.string ⟨#[]⟩, .slice none 0 0, .string ⟨#[]⟩] 24)) (fun e w' => e = .returned (.tuple #[.string t, .bool true]) ∧ w' = (w.alloc (.cells #[.string ⟨#[]⟩, .slice none 0 0, .string ⟨#[]⟩] 24))) := hg
    have hrd := fun w => read_any t w (hz t hS)
    rw [show (some t : Option ByteArray).bind readC = readC t from rfl]
    obtain ⟨ans, hans⟩ : ∃ a, a = readC t := ⟨_, rfl⟩
    rw [← hans] at hrd ⊢
    clear hans hz hS
    go_enter Try.func18, Try.ntmps18
    go_wp2_with (first | (go_at_call 87; refine hg.mono ?_; rintro e w2 ⟨rfl, rfl⟩) | (go_at_call 14; refine (hrd _).mono ?_; rintro e w3 ⟨cc, o, cp, ok, rfl, hss, hnn, hlc, hfr, hb3, h1, h2⟩; have h3a := (hb3.block w.heap.size (by simp)).trans hblk; have H3a := Lib.hid h3a; have hlt3 : w.heap.size < w3.heap.size := (Array.getElem?_eq_some_iff.1 h3a).1; have hB3 := Below.trans hb1 (hb3.mono hb1.size); have t0 : w3.cell? ⟨w.heap.size, 0, none⟩ = some (.string ⟨#[]⟩) := (by (rw [Lib.cell_of_heap h3a]; rfl)); have t1 : w3.cell? ⟨w.heap.size, 1, none⟩ = some (.slice none 0 0) := (by (rw [Lib.cell_of_heap h3a]; rfl)); have t2 : w3.cell? ⟨w.heap.size, 2, none⟩ = some (.string ⟨#[]⟩) := (by (rw [Lib.cell_of_heap h3a]; rfl)); have v0 : w3.frozen? ⟨w.heap.size, 0, none⟩ = false := (by simp [World.frozen?, h3a]); have v1 : w3.frozen? ⟨w.heap.size, 1, none⟩ = false := (by simp [World.frozen?, h3a]); have v2 : w3.frozen? ⟨w.heap.size, 2, none⟩ = false := (by simp [World.frozen?, h3a]); clear h3a; cases ok))
    · obtain ⟨rfl, rfl⟩ := h2 (by first | rfl | trivial)
      have hfin := block_set3 (x := .string ⟨#[]⟩) (y := .slice none 0 0) (z := .string ⟨#[]⟩) H3a.out
      have hal := (Lib.alloc_old _ (.cells #[.string none3.root, .slice o none3.par.length cp, .string none3.msg] 24) _ (Array.getElem?_eq_some_iff.1 hfin).1).trans hfin
      have d0 := Lib.cell_of_heap hal 0
      have d1 := Lib.cell_of_heap hal 1
      have d2 := Lib.cell_of_heap hal 2
      have hB4 := ((hB3.setCell (p := ⟨w.heap.size, 0, none⟩) (Nat.le_refl _) (.string ⟨#[]⟩)).setCell (p := ⟨w.heap.size, 1, none⟩) (Nat.le_refl _) (.slice none 0 0)).setCell (p := ⟨w.heap.size, 2, none⟩) (Nat.le_refl _) (.string ⟨#[]⟩)
      exact bodyPost_ret (v := .tuple #[.agg #[.string ⟨#[]⟩, .slice none 0 0, .string ⟨#[]⟩], .int .i64 6]) (by simp [results, Try.results18, go_sem, d0, d1, d2]) rfl (GetOut.none rfl (hB4.alloc hB4.size _))
    · obtain rfl := h1 (by first | rfl | trivial)
      have hfin := block_set3 (x := .string cc.root) (y := .slice o cc.par.length cp) (z := .string cc.msg) H3a.out
      have hal := (Lib.alloc_old _ (.cells #[.string cc.root, .slice o cc.par.length cp, .string cc.msg] 24) _ (Array.getElem?_eq_some_iff.1 hfin).1).trans hfin
      have d0 := Lib.cell_of_heap hal 0
      have d1 := Lib.cell_of_heap hal 1
      have d2 := Lib.cell_of_heap hal 2
      have hB4 := ((hB3.setCell (p := ⟨w.heap.size, 0, none⟩) (Nat.le_refl _) (.string cc.root)).setCell (p := ⟨w.heap.size, 1, none⟩) (Nat.le_refl _) (.slice o cc.par.length cp)).setCell (p := ⟨w.heap.size, 2, none⟩) (Nat.le_refl _) (.string cc.msg)
      have hne : ∀ x, o = some x → x.block ≠ w.heap.size := fun x hx => by have := hfr x hx; simp at this; omega
      have hse := (((hss.set ⟨w.heap.size, 0, none⟩ (.string cc.root) hne).set ⟨w.heap.size, 1, none⟩ (.slice o cc.par.length cp) hne).set ⟨w.heap.size, 2, none⟩ (.string cc.msg) hne).below ((Below.refl _ _).alloc (Nat.le_refl _) (.cells #[.string cc.root, .slice o cc.par.length cp, .string cc.msg] 24))
      exact bodyPost_ret (v := .tuple #[.agg #[.string cc.root, .slice o cc.par.length cp, .string cc.msg], .int .i64 0]) (by simp [results, Try.results18, go_sem, d0, d1, d2]) rfl ⟨cc, o, cp, rfl, hse, hnn, hlc, fun x hx => by (have := hfr x hx; simp at this; omega), hB4.alloc hB4.size _, fun x hx => by cases hx; rfl⟩
end Go.Proofs.Ytkjgbldooflodaa
