/-
  A value out of bytes, in either form.
-/
import Derived.Test.YtgfjfpghjjknlaaDoorCl8
import Derived.Deep.CutRange
import Derived.Deep.RegionHeld3
import Derived.StillTailTactics
namespace Go.Proofs.YtgfjfpghjjknlaaDoor
open Go.RowKit Cl
set_option maxRecDepth 100000
set_option linter.unusedVariables false
set_option linter.unusedSimpArgs false
/-- The first value of bytes behind its kind, and the rest. -/
def decV (turn : Nat) (R : List UInt8 → Option (List UInt8 × List UInt8)) (k : Int) (l : List UInt8) : Option (V × List UInt8) :=
  if k = 1 then (if l.length < 8 then none else some (⟨1, IntKind.i64.wrap (turned turn (num (l.take 8)) : Nat), ⟨#[]⟩⟩, l.drop 8))
  else if k = 2 then (if l.length < 1 then none else some (⟨2, num (l.take 1), ⟨#[]⟩⟩, l.drop 1))
  else if k = 3 ∨ k = 4 then (R l).map fun p => (⟨k, 0, ⟨p.1.toArray⟩⟩, p.2)
  else some (⟨k, 0, ⟨#[]⟩⟩, l)
/-- .. if it is right. -/
def dec1 (fk : Int) (turn : Nat) (R : List UInt8 → Option (List UInt8 × List UInt8)) : List UInt8 → Option (V × List UInt8)
  | [] => none
  | b :: l => match decV turn R (b.toNat - fk) l with
    | some p => if right p.1 then some p else none
    | none => none
theorem dec1_none {fk : Int} {turn : Nat} {R : List UInt8 → Option (List UInt8 × List UInt8)} {b : UInt8} {l : List UInt8} (h : decV turn R (b.toNat - fk) l = none) : dec1 fk turn R (b :: l) = none := by show (match decV turn R (b.toNat - fk) l with | some p => if right p.1 then some p else none | none => none) = _; rw [h]
theorem dec1_ok {fk : Int} {turn : Nat} {R : List UInt8 → Option (List UInt8 × List UInt8)} {b : UInt8} {l r : List UInt8} {v : V} (h : decV turn R (b.toNat - fk) l = some (v, r)) (hv : right v = true) : dec1 fk turn R (b :: l) = some (v, r) := by show (match decV turn R (b.toNat - fk) l with | some p => if right p.1 then some p else none | none => none) = _; rw [h]; dsimp only; rw [if_pos hv]
theorem dec1_bad {fk : Int} {turn : Nat} {R : List UInt8 → Option (List UInt8 × List UInt8)} {b : UInt8} {l r : List UInt8} {v : V} (h : decV turn R (b.toNat - fk) l = some (v, r)) (hv : right v = false) : dec1 fk turn R (b :: l) = none := by show (match decV turn R (b.toNat - fk) l with | some p => if right p.1 then some p else none | none => none) = _; rw [h]; dsimp only; rw [hv]; rfl
def IsR (rf : Nat) (R : List UInt8 → Option (List UInt8 × List UInt8)) : Prop := ∀ (g : Nat) (s : ByteArray) (w : World), Env w → PS w g s → s.size ≤ 1000000000 → 2 < g →
    Calls Tryd.prog rf #[.pointer (some ⟨g, 0, none⟩)] w fun e w' => ∃ (ok : Bool) (t r : ByteArray), e = .returned (.tuple #[.string t, .bool ok]) ∧ PS w' g r ∧ w.grownBy w' (some g) ∧ Rd (R s.data.toList) ok t r ∧ t.size ≤ s.size ∧ r.size ≤ s.size
theorem isR1 : IsR 57 Esc.unesc := fun g s w he h hs hg => risingR_any g s w he h hs hg
theorem isR0 : IsR 62 plainU := fun g s w he h hs hg => plainR_all g s w h hs
theorem bits_turn2 (X turn : Nat) (hX : X < 18446744073709551616) (ht : turn = 0 ∨ turn = 9223372036854775808) : Go.bits .xor .u64 (X : Int) (turn : Int) = ((turned turn X : Nat) : Int) := by
  have h := bits_turn (X : Int) turn ht
  have h1 : IntKind.u64.wrap (X : Int) = (X : Int) := by rw [IntKind.wrap_u64]; omega
  have h2 : u64 (X : Int) = X := by unfold u64; omega
  rw [h1, h2] at h
  exact h
theorem grow_setFar {w w' : World} {g vb : Nat} (h : w.grownBy w' (some g)) (hv : w.heap.size ≤ vb) (j : Nat) (v : Value) : w.grownBy (w'.setCell ⟨vb, j, none⟩ v) (some g) :=
  ⟨h.os, h.tape, h.output, by simpa [World.setCell] using h.size, fun k hk hne => (Below.heap_setCell _ _ _ _ (by show k ≠ vb; omega)).trans (h.block k hk hne)⟩
theorem grow_alloc {w w' : World} {row : Option Nat} (h : w.grownBy w' row) (o : Obj) : w.grownBy (w'.alloc o) row :=
  ⟨h.os, h.tape, h.output, Nat.le_trans h.size (by simp), fun k hk hne => (Below.heap_alloc _ _ _ (Nat.lt_of_lt_of_le hk h.size)).trans (h.block k hk hne)⟩
theorem grow_drew {w w' : World} {row : Option Nat} (h : w.grownBy w' row) : w.grownBy w'.drew row := ⟨h.os, h.tape, h.output, h.size, h.block⟩
theorem VAt.grow {w w' : World} {vb g : Nat} {v : V} (h : VAt w vb v) (hg : w.grownBy w' (some g)) (hne : vb ≠ g) : VAt w' vb v := (hg.block vb h.lt (by simpa using hne)).trans h
theorem FormAt.grow {w w' : World} {fb g : Nat} {fk : Int} {turn wf rf : Nat} (h : FormAt w fb fk turn wf rf) (hg : w.grownBy w' (some g)) (hne : fb ≠ g) : FormAt w' fb fk turn wf rf := (hg.block fb (Array.getElem?_eq_some_iff.1 h).1 (by simpa using hne)).trans h
theorem VAt.free {w : World} {g : Nat} {v : V} (h : VAt w g v) (i : Nat) : w.frozen? ⟨g, i, none⟩ = false := Lib.frozen_of_heap h i
theorem VAt.setN {w : World} {g : Nat} {v : V} (h : VAt w g v) (n : Int) : VAt (w.setCell ⟨g, 1, none⟩ (.int .i64 n)) g ⟨v.k, n, v.s⟩ := by
  unfold VAt at *
  simp [World.setCell, Array.getElem?_modify, h]
theorem VAt.setS {w : World} {g : Nat} {v : V} (h : VAt w g v) (s : ByteArray) : VAt (w.setCell ⟨g, 2, none⟩ (.string s)) g ⟨v.k, v.n, s⟩ := by
  unfold VAt at *
  simp [World.setCell, Array.getElem?_modify, h]
theorem VAt.set3 {w : World} {g : Nat} {u : V} (h : VAt w g u) (v : V) : VAt (((w.setCell ⟨g, 0, none⟩ (.int .i64 v.k)).setCell ⟨g, 1, none⟩ (.int .i64 v.n)).setCell ⟨g, 2, none⟩ (.string v.s)) g v := by
  unfold VAt at *
  simp [World.setCell, Array.getElem?_modify, h]
theorem VAt.far {w : World} {g g' : Nat} {u : V} (h : VAt w g u) (hne : g ≠ g') (j : Nat) (x : Value) : VAt (w.setCell ⟨g', j, none⟩ x) g u := (Below.heap_setCell _ _ _ _ hne).trans h
theorem PS.far {w : World} {g g' : Nat} {s : ByteArray} (h : PS w g s) (hne : g ≠ g') (j : Nat) (x : Value) : PS (w.setCell ⟨g', j, none⟩ x) g s := (Below.heap_setCell _ _ _ _ hne).trans h
theorem PS.alloc {w : World} {g : Nat} {s : ByteArray} (h : PS w g s) (o : Obj) : PS (w.alloc o) g s := (Lib.alloc_old w o g h.lt).trans h
theorem FormAt.far {w : World} {fb g' : Nat} {fk : Int} {turn wf rf : Nat} (h : FormAt w fb fk turn wf rf) (hne : fb ≠ g') (j : Nat) (x : Value) : FormAt (w.setCell ⟨g', j, none⟩ x) fb fk turn wf rf := (Below.heap_setCell _ _ _ _ hne).trans h
/-- What the first value of bytes gives. -/
def ValOut (fk : Int) (turn : Nat) (R : List UInt8 → Option (List UInt8 × List UInt8)) (g : Nat) (s : ByteArray) (w : World) (e : Ending) (w' : World) : Prop := ∃ (ok : Bool) (v : V) (r : ByteArray), e = .returned (.tuple #[.agg #[.int .i64 v.k, .int .i64 v.n, .string v.s], .bool ok]) ∧ PS w' g r ∧ w.grownBy w' (some g) ∧ r.size < s.size ∧  (ok = true → dec1 fk turn R s.data.toList = some (v, r.data.toList)) ∧ (ok = false → dec1 fk turn R s.data.toList = none)
set_option maxHeartbeats 8000000 in
theorem value_any (fk : Int) (turn wf rf : Nat) (R : List UInt8 → Option (List UInt8 × List UInt8)) (hfk : fk = 0 ∨ fk = 1) (htu : turn = 0 ∨ turn = 9223372036854775808) (hR : IsR rf R) (er : ∀ args w, (callFunc rf args).run Tryd.prog w = .ok (.enter rf args) w)
    (g : Nat) (s : ByteArray) (w : World) (he : Env w) (h : PS w g s) (hs : s.size ≤ 1000000000) (hg : 2 < g) (hs1 : 1 ≤ s.size) :
    Calls Tryd.prog 65 #[.agg #[.int .i64 fk, .int .u64 turn, .func (.func wf) #[] #[], .func (.func rf) #[] #[]], .pointer (some ⟨g, 0, none⟩)] w fun e w' => ValOut fk turn R g s w e w' := by
  have hgw := h.lt
  obtain ⟨q, hq⟩ : ∃ q : ByteArray, q = s.extract 1 s.size := ⟨_, rfl⟩
  obtain ⟨b, hb⟩ : ∃ b : UInt8, b = s[0] := ⟨_, rfl⟩
  have hl1 : 0 < s.data.toList.length := hs1
  have hsl : s.data.toList = b :: q.data.toList := by
    rw [hb, hq, Lib.extract_to_end]
    have e : s.data.toList = s.data.toList[0]'hl1 :: s.data.toList.drop 1 := by rw [← List.drop_eq_getElem_cons hl1, List.drop_zero]
    exact e
  obtain ⟨hd, hhd⟩ : ∃ hd : ByteArray, hd = s.extract 0 1 := ⟨_, rfl⟩
  have hhz : hd.size = 1 := by rw [hhd]; simp; omega
  have hdl : hd.data.toList = [b] := by rw [hhd, Lib.extract_data]; show s.data.toList.take 1 = [b]; rw [hsl]; rfl
  have hix : ∀ w, (Instr.index 9 (.string hd) (.int .i64 0)).run Tryd.prog w = .ok (.int .u8 (b.toNat : Int)) w := fun w => by
    have := run_index_byteAt (P := Tryd.prog) (t := 9) rfl hd 0 0 rfl (by omega) w
    rw [this]
    have e : byteAt hd 0 = (b.toNat : Int) := by
      unfold byteAt
      rw [dif_pos (by omega)]
      have e2 : hd.data.toList[0]? = some b := by rw [hdl]; rfl
      have e3 : hd[0]'(by omega) = b := (List.getElem?_eq_some_iff.1 e2).2
      rw [e3]
    rw [e]
  have hqz : q.size + 1 = s.size := by rw [hq]; simp; omega
  have HS := Lib.hid hsl
  have HQ := Lib.hid hq
  have HH := Lib.hid hhd
  clear hsl hb hl1 hdl
  have hb256 := b.toNat_lt
  obtain ⟨kk, hkk⟩ : ∃ kk : Int, kk = (b.toNat : Int) - fk := ⟨_, rfl⟩
  have hw1 : IntKind.i64.wrap ((b.toNat : Int) - fk) = kk := by rw [hkk]; exact i64_wrap_in _ (by omega) (by omega)
  have HK := Lib.hid hkk
  clear hkk
  have hb1 := ((Below.refl w.heap.size w).alloc (Nat.le_refl _) (.cells #[.int .i64 fk, .int .u64 turn, .func (.func wf) #[] #[], .func (.func rf) #[] #[]] 48)).alloc (by simp) (.cells #[.int .i64 0, .int .i64 0, .string ⟨#[]⟩] 23)
  have hf : FormAt ((w.alloc (.cells #[.int .i64 fk, .int .u64 turn, .func (.func wf) #[] #[], .func (.func rf) #[] #[]] 48)).alloc (.cells #[.int .i64 0, .int .i64 0, .string ⟨#[]⟩] 23)) w.heap.size fk turn wf rf := (Lib.alloc_old _ _ _ (by simp)).trans (heap_alloc_new w _)
  have hr : VAt ((w.alloc (.cells #[.int .i64 fk, .int .u64 turn, .func (.func wf) #[] #[], .func (.func rf) #[] #[]] 48)).alloc (.cells #[.int .i64 0, .int .i64 0, .string ⟨#[]⟩] 23)) (w.heap.size + 1) ⟨0, 0, ⟨#[]⟩⟩ := by
    have := heap_alloc_new (w.alloc (.cells #[.int .i64 fk, .int .u64 turn, .func (.func wf) #[] #[], .func (.func rf) #[] #[]] 48)) (.cells #[.int .i64 0, .int .i64 0, .string ⟨#[]⟩] 23)
    simpa [VAt] using this
  have hp1 := h.below hb1 hgw
  have hcut := cut_any g 1 s _ hp1 (by omega) hs1
  rw [← hhd, ← hq] at hcut
  clear hhd hq
  have he1 := he.below hb1 he.lt
  have hG1 := grow_set (grow_below hb1 (some g)) (.string q)
  have hf1 := hf.far (by omega : w.heap.size ≠ g) 0 (.string q)
  have hr1 := hr.far (by omega : w.heap.size + 1 ≠ g) 0 (.string q)
  have hp2 := hp1.set q
  have he2 : Env ((((w.alloc (.cells #[.int .i64 fk, .int .u64 turn, .func (.func wf) #[] #[], .func (.func rf) #[] #[]] 48)).alloc (.cells #[.int .i64 0, .int .i64 0, .string ⟨#[]⟩] 23))).setCell ⟨g, 0, none⟩ (.string q)) := he1.below (B := g) ((Below.refl _ _).setCell (p := ⟨g, 0, none⟩) (Nat.le_refl _) _) hg
  have hsz2 := hG1.size
  clear hb1 hf hr hp1 he1
  go_enter Tryd.func65, Tryd.ntmps65
  go_wp2_with (fail)
  go_at_call 63
  refine hcut.mono ?_
  rintro e w1 ⟨rfl, rfl⟩
  generalize (((w.alloc (.cells #[.int .i64 fk, .int .u64 turn, .func (.func wf) #[] #[], .func (.func rf) #[] #[]] 48)).alloc (.cells #[.int .i64 0, .int .i64 0, .string ⟨#[]⟩] 23))).setCell ⟨g, 0, none⟩ (.string q) = wa at hG1 hf1 hr1 hp2 he2 hsz2 ⊢
  clear hcut
  obtain ⟨f0, f1, f2, f3⟩ := hf1.cells
  have hfl : w.heap.size < wa.heap.size := (Array.getElem?_eq_some_iff.1 hf1).1
  go_wp2_with (fail)
  go_cut [8] from 16 to 22 (fun p wx => ∃ vb : Nat, p = .pointer (some ⟨vb, 0, none⟩) ∧ VAt wx vb ⟨kk, 0, ⟨#[]⟩⟩ ∧ w.heap.size + 1 < vb ∧ Below wa.heap.size wa wx)
  case first =>
    go_region
    all_goals (go_wp2_with (fail))
    all_goals (
      go_meet
      (case rel =>
        have hvat : VAt (wa.alloc (.cells #[.int .i64 kk, .int .i64 0, .string ⟨#[]⟩] 23)).drew wa.heap.size ⟨kk, 0, ⟨#[]⟩⟩ := heap_alloc_new wa _
        exact ⟨_, rfl, hvat, hr1.lt, ((Below.refl _ _).alloc (Nat.le_refl _) _).drew⟩))
  case rest =>
    obtain ⟨vb, rfl, hv, hvb, hbc⟩ := hcut
    have hG2 : w.grownBy wc (some g) := ⟨hbc.os.trans hG1.os, hbc.tape.trans hG1.tape, hbc.output.trans hG1.output, Nat.le_trans hG1.size hbc.size, fun k hk hne => (hbc.block k (Nat.lt_of_lt_of_le hk hsz2)).trans (hG1.block k hk hne)⟩
    have hf2 := hf1.below hbc hfl
    have hr2 := hr1.below hbc
    have hp3 := hp2.below hbc hp2.lt
    have he3 := he2.below hbc he2.lt
    clear f0 f1 f2 f3 hf1 hr1 hp2 he2 hG1 hbc hfl hsz2
    generalize hwb : wc = wb at hv hG2 hf2 hr2 hp3 he3 ⊢
    clear hwb
    obtain ⟨f0, f1, f2, f3⟩ := hf2.cells
    obtain ⟨v0, v1, v2⟩ := hv.cells
    have vf1 := hv.free 1
    have vf2 := hv.free 2
    have hvg : vb ≠ g := by omega
    have hqs : q.size ≤ 140737488351232 := by omega
    by_cases hk1 : kk = 1
    · subst hk1
      by_cases hq8 : q.size < 8
      · have HD := Lib.hid (show decV turn R 1 q.data.toList = none by unfold decV; rw [if_pos rfl, if_pos (by show q.data.toList.length < 8; exact hq8)])
        obtain ⟨X, hX⟩ : ∃ X : Nat, X = num (⟨#[]⟩ : ByteArray).data.toList := ⟨_, rfl⟩
        have hXl : X < 18446744073709551616 := by rw [hX]; exact num_lt _
        have hnum := fun w => number_any (⟨#[]⟩ : ByteArray) w (by decide)
        rw [← hX] at hnum
        have hbt := bits_turn2 X turn hXl htu
        obtain ⟨T, hT⟩ : ∃ T : Nat, T = turned turn X := ⟨_, rfl⟩
        rw [← hT] at hbt
        obtain ⟨N, hN⟩ : ∃ N : Int, IntKind.i64.wrap (T : Int) = N := ⟨_, rfl⟩
        have HX := Lib.hid (And.intro hX (And.intro hT hN))
        clear hX hT
        have hfv : w.heap.size ≠ vb := by omega
        have hvf : vb ≠ w.heap.size := by omega
        go_wp2_with (fail)
        go_at_call 63
        refine ((cut_short g 8 q wb hp3 hqs (by omega)).mono fun e w' h => And.intro h.1 h.2.symm).mono ?_
        rintro e w5 ⟨rfl, rfl⟩
        go_wp2_with (fail)
        go_region_held3 (fun w' => w'.cell? ⟨w.heap.size, 1, none⟩ = some (.int .u64 turn)) (first | exact f1 | (exact ((hf2.far hfv _ _).cells).2.1) | go_keep) ((go_at_call 64; refine (hnum _).mono ?_; rintro e w5 ⟨rfl, rfl⟩))
        have hvz := VAt.setN (w := wb) hv N
        have hpz := PS.far (w := wb) hp3 (by omega : g ≠ vb) 1 (.int .i64 N)
        have hrz := VAt.far (w := wb) hr2 (by omega : w.heap.size + 1 ≠ vb) 1 (.int .i64 N)
        have hGz := grow_setFar hG2 (by omega : w.heap.size ≤ vb) 1 (.int .i64 N)
        dsimp only at hvz
        clear f0 f1 f2 f3 v0 v1 v2 vf1 vf2
        have hlr := hrz.lt
        have hlv := hvz.lt
        have hne1 : vb ≠ w.heap.size + 1 := by omega
        have hne2 : w.heap.size + 1 ≠ vb := by omega
        obtain ⟨v0, v1, v2⟩ := hvz.cells
        obtain ⟨z0, z1, z2⟩ := hrz.cells
        have zf0 := hrz.free 0
        have zf1 := hrz.free 1
        have zf2 := hrz.free 2
        go_wp2_with (fail)
        go_region
        all_goals (
          have hR := VAt.set3 (w := (wb.setCell ⟨vb, 1, none⟩ (.int .i64 N))) hrz ⟨1, N, ⟨#[]⟩⟩
          obtain ⟨d0, d1, d2⟩ := hR.cells
          have hp6 := ((PS.far (w := (wb.setCell ⟨vb, 1, none⟩ (.int .i64 N))) hpz (by omega : g ≠ w.heap.size + 1) 0 (.int .i64 1)).far (by omega : g ≠ w.heap.size + 1) 1 (.int .i64 N)).far (by omega : g ≠ w.heap.size + 1) 2 (.string ⟨#[]⟩)
          have hG7 := grow_setFar (grow_setFar (grow_setFar hGz (by omega : w.heap.size ≤ w.heap.size + 1) 0 (.int .i64 1)) (by omega : w.heap.size ≤ w.heap.size + 1) 1 (.int .i64 N)) (by omega : w.heap.size ≤ w.heap.size + 1) 2 (.string ⟨#[]⟩)
          clear z0 z1 z2 v0 v1 v2
          go_wp2
          exact bodyPost_ret (v := .tuple #[.agg #[.int .i64 1, .int .i64 N, .string ⟨#[]⟩], .bool false]) (by simp [results, Tryd.results65, go_sem, d0, d1, d2]) rfl ⟨false, ⟨1, N, ⟨#[]⟩⟩, q, rfl, hp6, ⟨hG7.os, hG7.tape, hG7.output, hG7.size, hG7.block⟩, by omega, (fun h => by cases h), fun h => by rw [HS.out]; exact dec1_none (by rw [← HK.out]; exact HD.out)⟩)
      · have hql : q.data.toList.length = q.size := rfl
        obtain ⟨r, hr⟩ : ∃ r : ByteArray, r = q.extract 8 q.size := ⟨_, rfl⟩
        obtain ⟨h8, hh8⟩ : ∃ h8 : ByteArray, h8 = q.extract 0 8 := ⟨_, rfl⟩
        have hc := cut_any g 8 q wb hp3 hqs (by omega)
        rw [← hr, ← hh8] at hc
        have hrz8 : r.size + 8 = q.size := by rw [hr]; simp; omega
        have hhz8 : h8.size = 8 := by rw [hh8]; simp; omega
        have HR8 := Lib.hid (And.intro (show r.data.toList = q.data.toList.drop 8 by rw [hr, Lib.extract_to_end]) (show h8.data.toList = q.data.toList.take 8 by rw [hh8, Lib.extract_data]; rfl))
        clear hr hh8
        obtain ⟨X, hX⟩ : ∃ X : Nat, X = num (h8).data.toList := ⟨_, rfl⟩
        have hXl : X < 18446744073709551616 := by rw [hX]; exact num_lt _
        have hnum := fun w => number_any (h8) w (by omega)
        rw [← hX] at hnum
        have hbt := bits_turn2 X turn hXl htu
        obtain ⟨T, hT⟩ : ∃ T : Nat, T = turned turn X := ⟨_, rfl⟩
        rw [← hT] at hbt
        obtain ⟨N, hN⟩ : ∃ N : Int, IntKind.i64.wrap (T : Int) = N := ⟨_, rfl⟩
        have HX := Lib.hid (And.intro hX (And.intro hT hN))
        clear hX hT
        have hfv : w.heap.size ≠ vb := by omega
        have hvf : vb ≠ w.heap.size := by omega
        have HD := Lib.hid (show decV turn R 1 q.data.toList = some (⟨1, N, ⟨#[]⟩⟩, r.data.toList) by
          unfold decV
          rw [if_pos rfl, if_neg (by omega), ← HR8.out.1, ← HR8.out.2, ← HX.out.1, ← HX.out.2.1, HX.out.2.2])
        go_wp2_with (fail)
        go_at_call 63
        refine hc.mono ?_
        rintro e w5 ⟨rfl, rfl⟩
        clear hc f0 f1 f2 f3 v0 v1 v2 vf1 vf2
        replace hv := hv.far hvg 0 (.string r)
        replace hf2 := hf2.far (by omega : w.heap.size ≠ g) 0 (.string r)
        replace hr2 := hr2.far (by omega : w.heap.size + 1 ≠ g) 0 (.string r)
        replace hp3 := hp3.set r
        replace hG2 := grow_set hG2 (.string r)
        generalize wb.setCell ⟨g, 0, none⟩ (.string r) = wy at hv hf2 hr2 hp3 hG2 ⊢
        obtain ⟨f0, f1, f2, f3⟩ := hf2.cells
        obtain ⟨v0, v1, v2⟩ := hv.cells
        have vf1 := hv.free 1
        have vf2 := hv.free 2
        go_wp2_with (fail)
        go_region_held3 (fun w' => w'.cell? ⟨w.heap.size, 1, none⟩ = some (.int .u64 turn)) (first | exact f1 | (exact ((hf2.far hfv _ _).cells).2.1) | go_keep) ((go_at_call 64; refine (hnum _).mono ?_; rintro e w5 ⟨rfl, rfl⟩))
        have hvz := VAt.setN (w := wy) hv N
        have hpz := PS.far (w := wy) hp3 (by omega : g ≠ vb) 1 (.int .i64 N)
        have hrz := VAt.far (w := wy) hr2 (by omega : w.heap.size + 1 ≠ vb) 1 (.int .i64 N)
        have hGz := grow_setFar hG2 (by omega : w.heap.size ≤ vb) 1 (.int .i64 N)
        dsimp only at hvz
        clear f0 f1 f2 f3 v0 v1 v2 vf1 vf2
        have hlr := hrz.lt
        have hlv := hvz.lt
        have hne1 : vb ≠ w.heap.size + 1 := by omega
        have hne2 : w.heap.size + 1 ≠ vb := by omega
        obtain ⟨v0, v1, v2⟩ := hvz.cells
        have hS0 : (wy.setCell ⟨vb, 1, none⟩ (.int .i64 N)).cell? ⟨vb, 0, none⟩ = some (.int .i64 1) ∧ (wy.setCell ⟨vb, 1, none⟩ (.int .i64 N)).cell? ⟨vb, 1, none⟩ = some (.int .i64 N) ∧ (wy.setCell ⟨vb, 1, none⟩ (.int .i64 N)).cell? ⟨vb, 2, none⟩ = some (.string ⟨#[]⟩) := ⟨v0, v1, v2⟩
        go_wp2_with (fail)
        go_region_held3 (fun w' => w'.cell? ⟨vb, 0, none⟩ = some (.int .i64 1) ∧ w'.cell? ⟨vb, 1, none⟩ = some (.int .i64 N) ∧ w'.cell? ⟨vb, 2, none⟩ = some (.string ⟨#[]⟩)) (first | exact hS0 | exact hS5 | (exact (((hv5.far hne1 _ _).far hne1 _ _).far hne1 _ _).cells) | go_keep) ((go_at_call 10; go_loud (refine (right_any ⟨1, N, ⟨#[]⟩⟩ _).mono ?_; rintro e w9 ⟨rfl, hC5⟩; have hb5 : Below (wy.setCell ⟨vb, 1, none⟩ (.int .i64 N)).heap.size (wy.setCell ⟨vb, 1, none⟩ (.int .i64 N)) w9 := (by first | exact (Below.refl _ _).drew.trans (hC5.mono (by simp)) | exact (Below.refl _ _).drew.drew.trans (hC5.mono (by simp))); have hv5 := hvz.below hb5; have hr5 := hrz.below hb5; have hS5 := hv5.cells; obtain ⟨z0, z1, z2⟩ := hr5.cells; have zf0 := hr5.free 0; have zf1 := hr5.free 1; have zf2 := hr5.free 2)))
        have hR : VAt _ (w.heap.size + 1) ⟨1, N, ⟨#[]⟩⟩ := hr5.set3 ⟨1, N, ⟨#[]⟩⟩
        obtain ⟨d0, d1, d2⟩ := hR.cells
        have hp6 := (((hpz.below hb5 hpz.lt).far (by omega : g ≠ w.heap.size + 1) 0 (.int .i64 1)).far (by omega : g ≠ w.heap.size + 1) 1 (.int .i64 N)).far (by omega : g ≠ w.heap.size + 1) 2 (.string ⟨#[]⟩)
        have hG6 : w.grownBy w9 (some g) := grow_then hGz (hb5.mono hGz.size)
        have hG7 := grow_setFar (grow_setFar (grow_setFar hG6 (by omega : w.heap.size ≤ w.heap.size + 1) 0 (.int .i64 1)) (by omega : w.heap.size ≤ w.heap.size + 1) 1 (.int .i64 N)) (by omega : w.heap.size ≤ w.heap.size + 1) 2 (.string ⟨#[]⟩)
        obtain ⟨rv, hrv⟩ : ∃ rv, rv = right ⟨1, N, ⟨#[]⟩⟩ := ⟨_, rfl⟩
        rw [← hrv]
        have HRV := Lib.hid hrv
        clear hrv
        clear z0 z1 z2 hS0 hS5 v0 v1 v2
        go_wp2
        exact bodyPost_ret (v := .tuple #[.agg #[.int .i64 1, .int .i64 N, .string ⟨#[]⟩], .bool rv]) (by simp [results, Tryd.results65, go_sem, d0, d1, d2]) rfl ⟨rv, ⟨1, N, ⟨#[]⟩⟩, r, rfl, hp6, hG7, by omega, fun h => by rw [HS.out]; exact dec1_ok (by rw [← HK.out]; exact HD.out) (HRV.out.symm.trans h), fun h => by rw [HS.out]; exact dec1_bad (by rw [← HK.out]; exact HD.out) (HRV.out.symm.trans h)⟩
    · by_cases hk2 : kk = 2
      · subst hk2
        by_cases hq8 : q.size < 1
        · have HD := Lib.hid (show decV turn R 2 q.data.toList = none by unfold decV; rw [if_neg (by decide), if_pos rfl, if_pos (by show q.data.toList.length < 1; exact hq8)])
          obtain ⟨X, hX⟩ : ∃ X : Nat, X = num (⟨#[]⟩ : ByteArray).data.toList := ⟨_, rfl⟩
          have hXl : X < 18446744073709551616 := by rw [hX]; exact num_lt _
          have hnum := fun w => number_any (⟨#[]⟩ : ByteArray) w (by decide)
          rw [← hX] at hnum
          obtain ⟨N, hN⟩ : ∃ N : Int, IntKind.i64.wrap (X : Int) = N := ⟨_, rfl⟩
          have HX := Lib.hid (And.intro hX hN)
          clear hX
          have hfv : w.heap.size ≠ vb := by omega
          have hvf : vb ≠ w.heap.size := by omega
          go_wp2_with (fail)
          go_at_call 63
          refine ((cut_short g 1 q wb hp3 hqs (by omega)).mono fun e w' h => And.intro h.1 h.2.symm).mono ?_
          rintro e w5 ⟨rfl, rfl⟩
          go_wp2_with (fail)
          go_at_call 64
          refine (hnum _).mono ?_
          rintro e w5 ⟨rfl, rfl⟩
          have hvz := VAt.setN (w := wb) hv N
          have hpz := PS.far (w := wb) hp3 (by omega : g ≠ vb) 1 (.int .i64 N)
          have hrz := VAt.far (w := wb) hr2 (by omega : w.heap.size + 1 ≠ vb) 1 (.int .i64 N)
          have hGz := grow_setFar hG2 (by omega : w.heap.size ≤ vb) 1 (.int .i64 N)
          dsimp only at hvz
          have y1 := v1
          clear f0 f1 f2 f3 v0 v1 v2 vf2
          have hlr := hrz.lt
          have hlv := hvz.lt
          have hne1 : vb ≠ w.heap.size + 1 := by omega
          have hne2 : w.heap.size + 1 ≠ vb := by omega
          obtain ⟨v0, v1, v2⟩ := hvz.cells
          obtain ⟨z0, z1, z2⟩ := hrz.cells
          have zf0 := hrz.free 0
          have zf1 := hrz.free 1
          have zf2 := hrz.free 2
          go_wp2_with (fail)
          go_region
          all_goals (
            have hR := VAt.set3 (w := (wb.setCell ⟨vb, 1, none⟩ (.int .i64 N))) hrz ⟨2, N, ⟨#[]⟩⟩
            obtain ⟨d0, d1, d2⟩ := hR.cells
            have hp6 := ((PS.far (w := (wb.setCell ⟨vb, 1, none⟩ (.int .i64 N))) hpz (by omega : g ≠ w.heap.size + 1) 0 (.int .i64 2)).far (by omega : g ≠ w.heap.size + 1) 1 (.int .i64 N)).far (by omega : g ≠ w.heap.size + 1) 2 (.string ⟨#[]⟩)
            have hG7 := grow_setFar (grow_setFar (grow_setFar hGz (by omega : w.heap.size ≤ w.heap.size + 1) 0 (.int .i64 2)) (by omega : w.heap.size ≤ w.heap.size + 1) 1 (.int .i64 N)) (by omega : w.heap.size ≤ w.heap.size + 1) 2 (.string ⟨#[]⟩)
            clear z0 z1 z2 v0 v1 v2
            go_wp2
            exact bodyPost_ret (v := .tuple #[.agg #[.int .i64 2, .int .i64 N, .string ⟨#[]⟩], .bool false]) (by simp [results, Tryd.results65, go_sem, d0, d1, d2]) rfl ⟨false, ⟨2, N, ⟨#[]⟩⟩, q, rfl, hp6, ⟨hG7.os, hG7.tape, hG7.output, hG7.size, hG7.block⟩, by omega, (fun h => by cases h), fun h => by rw [HS.out]; exact dec1_none (by rw [← HK.out]; exact HD.out)⟩)
        · have hql : q.data.toList.length = q.size := rfl
          obtain ⟨r, hr⟩ : ∃ r : ByteArray, r = q.extract 1 q.size := ⟨_, rfl⟩
          obtain ⟨h8, hh8⟩ : ∃ h8 : ByteArray, h8 = q.extract 0 1 := ⟨_, rfl⟩
          have hc := cut_any g 1 q wb hp3 hqs (by omega)
          rw [← hr, ← hh8] at hc
          have hrz8 : r.size + 1 = q.size := by rw [hr]; simp; omega
          have hhz8 : h8.size = 1 := by rw [hh8]; simp; omega
          have HR8 := Lib.hid (And.intro (show r.data.toList = q.data.toList.drop 1 by rw [hr, Lib.extract_to_end]) (show h8.data.toList = q.data.toList.take 1 by rw [hh8, Lib.extract_data]; rfl))
          clear hr hh8
          obtain ⟨X, hX⟩ : ∃ X : Nat, X = num (h8).data.toList := ⟨_, rfl⟩
          have hXl : X < 18446744073709551616 := by rw [hX]; exact num_lt _
          have hnum := fun w => number_any (h8) w (by omega)
          rw [← hX] at hnum
          obtain ⟨N, hN⟩ : ∃ N : Int, IntKind.i64.wrap (X : Int) = N := ⟨_, rfl⟩
          have HX := Lib.hid (And.intro hX hN)
          clear hX
          have hfv : w.heap.size ≠ vb := by omega
          have hvf : vb ≠ w.heap.size := by omega
          have HD := Lib.hid (show decV turn R 2 q.data.toList = some (⟨2, N, ⟨#[]⟩⟩, r.data.toList) by
            have hXs : X < 65536 := by rw [HX.out.1]; exact num2 _ (by show h8.size ≤ 2; omega)
            have hNX : N = (X : Int) := by rw [← HX.out.2]; exact i64_wrap_in _ (by omega) (by omega)
            unfold decV
            rw [if_neg (by decide), if_pos rfl, if_neg (by omega), ← HR8.out.1, ← HR8.out.2, ← HX.out.1, hNX])
          go_wp2_with (fail)
          go_at_call 63
          refine hc.mono ?_
          rintro e w5 ⟨rfl, rfl⟩
          clear hc f0 f1 f2 f3 v0 v1 v2 vf1 vf2
          replace hv := hv.far hvg 0 (.string r)
          replace hf2 := hf2.far (by omega : w.heap.size ≠ g) 0 (.string r)
          replace hr2 := hr2.far (by omega : w.heap.size + 1 ≠ g) 0 (.string r)
          replace hp3 := hp3.set r
          replace hG2 := grow_set hG2 (.string r)
          generalize wb.setCell ⟨g, 0, none⟩ (.string r) = wy at hv hf2 hr2 hp3 hG2 ⊢
          obtain ⟨f0, f1, f2, f3⟩ := hf2.cells
          obtain ⟨v0, v1, v2⟩ := hv.cells
          have vf1 := hv.free 1
          have vf2 := hv.free 2
          go_wp2_with (fail)
          go_at_call 64
          refine (hnum _).mono ?_
          rintro e w5 ⟨rfl, rfl⟩
          have hvz := VAt.setN (w := wy) hv N
          have hpz := PS.far (w := wy) hp3 (by omega : g ≠ vb) 1 (.int .i64 N)
          have hrz := VAt.far (w := wy) hr2 (by omega : w.heap.size + 1 ≠ vb) 1 (.int .i64 N)
          have hGz := grow_setFar hG2 (by omega : w.heap.size ≤ vb) 1 (.int .i64 N)
          dsimp only at hvz
          have y1 := v1
          clear f0 f1 f2 f3 v0 v1 v2 vf2
          have hlr := hrz.lt
          have hlv := hvz.lt
          have hne1 : vb ≠ w.heap.size + 1 := by omega
          have hne2 : w.heap.size + 1 ≠ vb := by omega
          obtain ⟨v0, v1, v2⟩ := hvz.cells
          have hS0 : (wy.setCell ⟨vb, 1, none⟩ (.int .i64 N)).cell? ⟨vb, 0, none⟩ = some (.int .i64 2) ∧ (wy.setCell ⟨vb, 1, none⟩ (.int .i64 N)).cell? ⟨vb, 1, none⟩ = some (.int .i64 N) ∧ (wy.setCell ⟨vb, 1, none⟩ (.int .i64 N)).cell? ⟨vb, 2, none⟩ = some (.string ⟨#[]⟩) := ⟨v0, v1, v2⟩
          go_wp2_with (fail)
          go_region_held3 (fun w' => w'.cell? ⟨vb, 0, none⟩ = some (.int .i64 2) ∧ w'.cell? ⟨vb, 1, none⟩ = some (.int .i64 N) ∧ w'.cell? ⟨vb, 2, none⟩ = some (.string ⟨#[]⟩)) (first | exact hS0 | exact hS5 | (exact (((hv5.far hne1 _ _).far hne1 _ _).far hne1 _ _).cells) | go_keep) ((go_at_call 10; go_loud (refine (right_any ⟨2, N, ⟨#[]⟩⟩ _).mono ?_; rintro e w9 ⟨rfl, hC5⟩; have hb5 : Below (wy.setCell ⟨vb, 1, none⟩ (.int .i64 N)).heap.size (wy.setCell ⟨vb, 1, none⟩ (.int .i64 N)) w9 := (by first | exact (Below.refl _ _).drew.trans (hC5.mono (by simp)) | exact (Below.refl _ _).drew.drew.trans (hC5.mono (by simp))); have hv5 := hvz.below hb5; have hr5 := hrz.below hb5; have hS5 := hv5.cells; obtain ⟨z0, z1, z2⟩ := hr5.cells; have zf0 := hr5.free 0; have zf1 := hr5.free 1; have zf2 := hr5.free 2)))
          have hR : VAt _ (w.heap.size + 1) ⟨2, N, ⟨#[]⟩⟩ := hr5.set3 ⟨2, N, ⟨#[]⟩⟩
          obtain ⟨d0, d1, d2⟩ := hR.cells
          have hp6 := (((hpz.below hb5 hpz.lt).far (by omega : g ≠ w.heap.size + 1) 0 (.int .i64 2)).far (by omega : g ≠ w.heap.size + 1) 1 (.int .i64 N)).far (by omega : g ≠ w.heap.size + 1) 2 (.string ⟨#[]⟩)
          have hG6 : w.grownBy w9 (some g) := grow_then hGz (hb5.mono hGz.size)
          have hG7 := grow_setFar (grow_setFar (grow_setFar hG6 (by omega : w.heap.size ≤ w.heap.size + 1) 0 (.int .i64 2)) (by omega : w.heap.size ≤ w.heap.size + 1) 1 (.int .i64 N)) (by omega : w.heap.size ≤ w.heap.size + 1) 2 (.string ⟨#[]⟩)
          obtain ⟨rv, hrv⟩ : ∃ rv, rv = right ⟨2, N, ⟨#[]⟩⟩ := ⟨_, rfl⟩
          rw [← hrv]
          have HRV := Lib.hid hrv
          clear hrv
          clear z0 z1 z2 hS0 hS5 v0 v1 v2
          go_wp2
          exact bodyPost_ret (v := .tuple #[.agg #[.int .i64 2, .int .i64 N, .string ⟨#[]⟩], .bool rv]) (by simp [results, Tryd.results65, go_sem, d0, d1, d2]) rfl ⟨rv, ⟨2, N, ⟨#[]⟩⟩, r, rfl, hp6, hG7, by omega, fun h => by rw [HS.out]; exact dec1_ok (by rw [← HK.out]; exact HD.out) (HRV.out.symm.trans h), fun h => by rw [HS.out]; exact dec1_bad (by rw [← HK.out]; exact HD.out) (HRV.out.symm.trans h)⟩
      · by_cases hk3 : kk = 3 ∨ kk = 4
        · have hRc := hR g q wb he3 hp3 (by omega) hg
          have HK3 := Lib.hid hk3
          rcases hk3 with hk3 | hk3
          · subst hk3
            go_wp2_with (fail)
            refine hRc.mono ?_
            rintro e w5 ⟨ok, t, r, rfl, hp5, hG5, hRd, htz, hrz5⟩
            have hvy := hv.grow hG5 hvg
            have hrz := (hr2.grow hG5 (by omega)).far (by omega : w.heap.size + 1 ≠ vb) 2 (.string t)
            have hGz := grow_setFar (hG2.trans hG5) (by omega : w.heap.size ≤ vb) 2 (.string t)
            have hpz := hp5.far (by omega : g ≠ vb) 2 (.string t)
            have hvz := hvy.setS t
            dsimp only at hvz
            clear f0 f1 f2 f3 v0 v1 v2 vf1 vf2
            obtain ⟨v0, v1, v2⟩ := hvy.cells
            have vf2 := hvy.free 2
            have htt : (⟨t.data.toList.toArray⟩ : ByteArray) = t := by simp
            cases ok
            · have HD := Lib.hid (show decV turn R 3 q.data.toList = none by unfold decV; rw [if_neg (by decide), if_neg (by decide), if_pos (by decide), hRd.2 rfl]; rfl)
              clear v0 v1 v2
              obtain ⟨y0, y1, y2⟩ := hvy.cells
              have hlr := hrz.lt
              have hlv := hvz.lt
              have hne1 : vb ≠ w.heap.size + 1 := by omega
              have hne2 : w.heap.size + 1 ≠ vb := by omega
              obtain ⟨v0, v1, v2⟩ := hvz.cells
              obtain ⟨z0, z1, z2⟩ := hrz.cells
              have zf0 := hrz.free 0
              have zf1 := hrz.free 1
              have zf2 := hrz.free 2
              go_wp2_with (fail)
              go_region
              all_goals (
                have hR := VAt.set3 (w := (w5.setCell ⟨vb, 2, none⟩ (.string t))) hrz ⟨3, 0, t⟩
                obtain ⟨d0, d1, d2⟩ := hR.cells
                have hp6 := ((PS.far (w := (w5.setCell ⟨vb, 2, none⟩ (.string t))) hpz (by omega : g ≠ w.heap.size + 1) 0 (.int .i64 3)).far (by omega : g ≠ w.heap.size + 1) 1 (.int .i64 0)).far (by omega : g ≠ w.heap.size + 1) 2 (.string t)
                have hG7 := grow_setFar (grow_setFar (grow_setFar hGz (by omega : w.heap.size ≤ w.heap.size + 1) 0 (.int .i64 3)) (by omega : w.heap.size ≤ w.heap.size + 1) 1 (.int .i64 0)) (by omega : w.heap.size ≤ w.heap.size + 1) 2 (.string t)
                clear z0 z1 z2 v0 v1 v2
                go_wp2
                exact bodyPost_ret (v := .tuple #[.agg #[.int .i64 3, .int .i64 0, .string t], .bool false]) (by simp [results, Tryd.results65, go_sem, d0, d1, d2]) rfl ⟨false, ⟨3, 0, t⟩, r, rfl, hp6, ⟨hG7.os, hG7.tape, hG7.output, hG7.size, hG7.block⟩, by omega, (fun h => by cases h), fun h => by rw [HS.out]; exact dec1_none (by rw [← HK.out]; exact HD.out)⟩)
            · have HD := Lib.hid (show decV turn R 3 q.data.toList = some (⟨3, 0, t⟩, r.data.toList) by unfold decV; rw [if_neg (by decide), if_neg (by decide), if_pos (by decide), hRd.1 rfl]; simp)
              clear v0 v1 v2
              obtain ⟨y0, y1, y2⟩ := hvy.cells
              have hlr := hrz.lt
              have hlv := hvz.lt
              have hne1 : vb ≠ w.heap.size + 1 := by omega
              have hne2 : w.heap.size + 1 ≠ vb := by omega
              obtain ⟨v0, v1, v2⟩ := hvz.cells
              have hS0 : (w5.setCell ⟨vb, 2, none⟩ (.string t)).cell? ⟨vb, 0, none⟩ = some (.int .i64 3) ∧ (w5.setCell ⟨vb, 2, none⟩ (.string t)).cell? ⟨vb, 1, none⟩ = some (.int .i64 0) ∧ (w5.setCell ⟨vb, 2, none⟩ (.string t)).cell? ⟨vb, 2, none⟩ = some (.string t) := ⟨v0, v1, v2⟩
              go_wp2_with (fail)
              go_region_held3 (fun w' => w'.cell? ⟨vb, 0, none⟩ = some (.int .i64 3) ∧ w'.cell? ⟨vb, 1, none⟩ = some (.int .i64 0) ∧ w'.cell? ⟨vb, 2, none⟩ = some (.string t)) (first | exact hS0 | exact hS5 | (exact (((hv5.far hne1 _ _).far hne1 _ _).far hne1 _ _).cells) | go_keep) ((go_at_call 10; go_loud (refine (right_any ⟨3, 0, t⟩ _).mono ?_; rintro e w9 ⟨rfl, hC5⟩; have hb5 : Below (w5.setCell ⟨vb, 2, none⟩ (.string t)).heap.size (w5.setCell ⟨vb, 2, none⟩ (.string t)) w9 := (by first | exact (Below.refl _ _).drew.trans (hC5.mono (by simp)) | exact (Below.refl _ _).drew.drew.trans (hC5.mono (by simp))); have hv5 := hvz.below hb5; have hr5 := hrz.below hb5; have hS5 := hv5.cells; obtain ⟨z0, z1, z2⟩ := hr5.cells; have zf0 := hr5.free 0; have zf1 := hr5.free 1; have zf2 := hr5.free 2)))
              have hR : VAt _ (w.heap.size + 1) ⟨3, 0, t⟩ := hr5.set3 ⟨3, 0, t⟩
              obtain ⟨d0, d1, d2⟩ := hR.cells
              have hp6 := (((hpz.below hb5 hpz.lt).far (by omega : g ≠ w.heap.size + 1) 0 (.int .i64 3)).far (by omega : g ≠ w.heap.size + 1) 1 (.int .i64 0)).far (by omega : g ≠ w.heap.size + 1) 2 (.string t)
              have hG6 : w.grownBy w9 (some g) := grow_then hGz (hb5.mono hGz.size)
              have hG7 := grow_setFar (grow_setFar (grow_setFar hG6 (by omega : w.heap.size ≤ w.heap.size + 1) 0 (.int .i64 3)) (by omega : w.heap.size ≤ w.heap.size + 1) 1 (.int .i64 0)) (by omega : w.heap.size ≤ w.heap.size + 1) 2 (.string t)
              obtain ⟨rv, hrv⟩ : ∃ rv, rv = right ⟨3, 0, t⟩ := ⟨_, rfl⟩
              rw [← hrv]
              have HRV := Lib.hid hrv
              clear hrv
              clear z0 z1 z2 hS0 hS5 v0 v1 v2
              go_wp2
              exact bodyPost_ret (v := .tuple #[.agg #[.int .i64 3, .int .i64 0, .string t], .bool rv]) (by simp [results, Tryd.results65, go_sem, d0, d1, d2]) rfl ⟨rv, ⟨3, 0, t⟩, r, rfl, hp6, hG7, by omega, fun h => by rw [HS.out]; exact dec1_ok (by rw [← HK.out]; exact HD.out) (HRV.out.symm.trans h), fun h => by rw [HS.out]; exact dec1_bad (by rw [← HK.out]; exact HD.out) (HRV.out.symm.trans h)⟩
          · subst hk3
            go_wp2_with (fail)
            refine hRc.mono ?_
            rintro e w5 ⟨ok, t, r, rfl, hp5, hG5, hRd, htz, hrz5⟩
            have hvy := hv.grow hG5 hvg
            have hrz := (hr2.grow hG5 (by omega)).far (by omega : w.heap.size + 1 ≠ vb) 2 (.string t)
            have hGz := grow_setFar (hG2.trans hG5) (by omega : w.heap.size ≤ vb) 2 (.string t)
            have hpz := hp5.far (by omega : g ≠ vb) 2 (.string t)
            have hvz := hvy.setS t
            dsimp only at hvz
            clear f0 f1 f2 f3 v0 v1 v2 vf1 vf2
            obtain ⟨v0, v1, v2⟩ := hvy.cells
            have vf2 := hvy.free 2
            have htt : (⟨t.data.toList.toArray⟩ : ByteArray) = t := by simp
            cases ok
            · have HD := Lib.hid (show decV turn R 4 q.data.toList = none by unfold decV; rw [if_neg (by decide), if_neg (by decide), if_pos (by decide), hRd.2 rfl]; rfl)
              clear v0 v1 v2
              obtain ⟨y0, y1, y2⟩ := hvy.cells
              have hlr := hrz.lt
              have hlv := hvz.lt
              have hne1 : vb ≠ w.heap.size + 1 := by omega
              have hne2 : w.heap.size + 1 ≠ vb := by omega
              obtain ⟨v0, v1, v2⟩ := hvz.cells
              obtain ⟨z0, z1, z2⟩ := hrz.cells
              have zf0 := hrz.free 0
              have zf1 := hrz.free 1
              have zf2 := hrz.free 2
              go_wp2_with (fail)
              go_region
              all_goals (
                have hR := VAt.set3 (w := (w5.setCell ⟨vb, 2, none⟩ (.string t))) hrz ⟨4, 0, t⟩
                obtain ⟨d0, d1, d2⟩ := hR.cells
                have hp6 := ((PS.far (w := (w5.setCell ⟨vb, 2, none⟩ (.string t))) hpz (by omega : g ≠ w.heap.size + 1) 0 (.int .i64 4)).far (by omega : g ≠ w.heap.size + 1) 1 (.int .i64 0)).far (by omega : g ≠ w.heap.size + 1) 2 (.string t)
                have hG7 := grow_setFar (grow_setFar (grow_setFar hGz (by omega : w.heap.size ≤ w.heap.size + 1) 0 (.int .i64 4)) (by omega : w.heap.size ≤ w.heap.size + 1) 1 (.int .i64 0)) (by omega : w.heap.size ≤ w.heap.size + 1) 2 (.string t)
                clear z0 z1 z2 v0 v1 v2
                go_wp2
                exact bodyPost_ret (v := .tuple #[.agg #[.int .i64 4, .int .i64 0, .string t], .bool false]) (by simp [results, Tryd.results65, go_sem, d0, d1, d2]) rfl ⟨false, ⟨4, 0, t⟩, r, rfl, hp6, ⟨hG7.os, hG7.tape, hG7.output, hG7.size, hG7.block⟩, by omega, (fun h => by cases h), fun h => by rw [HS.out]; exact dec1_none (by rw [← HK.out]; exact HD.out)⟩)
            · have HD := Lib.hid (show decV turn R 4 q.data.toList = some (⟨4, 0, t⟩, r.data.toList) by unfold decV; rw [if_neg (by decide), if_neg (by decide), if_pos (by decide), hRd.1 rfl]; simp)
              clear v0 v1 v2
              obtain ⟨y0, y1, y2⟩ := hvy.cells
              have hlr := hrz.lt
              have hlv := hvz.lt
              have hne1 : vb ≠ w.heap.size + 1 := by omega
              have hne2 : w.heap.size + 1 ≠ vb := by omega
              obtain ⟨v0, v1, v2⟩ := hvz.cells
              have hS0 : (w5.setCell ⟨vb, 2, none⟩ (.string t)).cell? ⟨vb, 0, none⟩ = some (.int .i64 4) ∧ (w5.setCell ⟨vb, 2, none⟩ (.string t)).cell? ⟨vb, 1, none⟩ = some (.int .i64 0) ∧ (w5.setCell ⟨vb, 2, none⟩ (.string t)).cell? ⟨vb, 2, none⟩ = some (.string t) := ⟨v0, v1, v2⟩
              go_wp2_with (fail)
              go_region_held3 (fun w' => w'.cell? ⟨vb, 0, none⟩ = some (.int .i64 4) ∧ w'.cell? ⟨vb, 1, none⟩ = some (.int .i64 0) ∧ w'.cell? ⟨vb, 2, none⟩ = some (.string t)) (first | exact hS0 | exact hS5 | (exact (((hv5.far hne1 _ _).far hne1 _ _).far hne1 _ _).cells) | go_keep) ((go_at_call 10; go_loud (refine (right_any ⟨4, 0, t⟩ _).mono ?_; rintro e w9 ⟨rfl, hC5⟩; have hb5 : Below (w5.setCell ⟨vb, 2, none⟩ (.string t)).heap.size (w5.setCell ⟨vb, 2, none⟩ (.string t)) w9 := (by first | exact (Below.refl _ _).drew.trans (hC5.mono (by simp)) | exact (Below.refl _ _).drew.drew.trans (hC5.mono (by simp))); have hv5 := hvz.below hb5; have hr5 := hrz.below hb5; have hS5 := hv5.cells; obtain ⟨z0, z1, z2⟩ := hr5.cells; have zf0 := hr5.free 0; have zf1 := hr5.free 1; have zf2 := hr5.free 2)))
              have hR : VAt _ (w.heap.size + 1) ⟨4, 0, t⟩ := hr5.set3 ⟨4, 0, t⟩
              obtain ⟨d0, d1, d2⟩ := hR.cells
              have hp6 := (((hpz.below hb5 hpz.lt).far (by omega : g ≠ w.heap.size + 1) 0 (.int .i64 4)).far (by omega : g ≠ w.heap.size + 1) 1 (.int .i64 0)).far (by omega : g ≠ w.heap.size + 1) 2 (.string t)
              have hG6 : w.grownBy w9 (some g) := grow_then hGz (hb5.mono hGz.size)
              have hG7 := grow_setFar (grow_setFar (grow_setFar hG6 (by omega : w.heap.size ≤ w.heap.size + 1) 0 (.int .i64 4)) (by omega : w.heap.size ≤ w.heap.size + 1) 1 (.int .i64 0)) (by omega : w.heap.size ≤ w.heap.size + 1) 2 (.string t)
              obtain ⟨rv, hrv⟩ : ∃ rv, rv = right ⟨4, 0, t⟩ := ⟨_, rfl⟩
              rw [← hrv]
              have HRV := Lib.hid hrv
              clear hrv
              clear z0 z1 z2 hS0 hS5 v0 v1 v2
              go_wp2
              exact bodyPost_ret (v := .tuple #[.agg #[.int .i64 4, .int .i64 0, .string t], .bool rv]) (by simp [results, Tryd.results65, go_sem, d0, d1, d2]) rfl ⟨rv, ⟨4, 0, t⟩, r, rfl, hp6, hG7, by omega, fun h => by rw [HS.out]; exact dec1_ok (by rw [← HK.out]; exact HD.out) (HRV.out.symm.trans h), fun h => by rw [HS.out]; exact dec1_bad (by rw [← HK.out]; exact HD.out) (HRV.out.symm.trans h)⟩
        · have HK3 := Lib.hid hk3
          have hk33 : ¬ kk = 3 := fun h => hk3 (.inl h)
          have hk34 : ¬ kk = 4 := fun h => hk3 (.inr h)
          clear hk3
          have hdec : decV turn R kk q.data.toList = some (⟨kk, 0, ⟨#[]⟩⟩, q.data.toList) := by unfold decV; rw [if_neg hk1, if_neg hk2, if_neg HK3.out]
          have HD := Lib.hid hdec
          clear hdec v0 v1 v2
          have hvz := hv
          have hpz := hp3
          have hGz := hG2
          have hrz := hr2
          have hlr := hrz.lt
          have hlv := hvz.lt
          have hne1 : vb ≠ w.heap.size + 1 := by omega
          have hne2 : w.heap.size + 1 ≠ vb := by omega
          obtain ⟨v0, v1, v2⟩ := hvz.cells
          have hS0 : wb.cell? ⟨vb, 0, none⟩ = some (.int .i64 kk) ∧ wb.cell? ⟨vb, 1, none⟩ = some (.int .i64 0) ∧ wb.cell? ⟨vb, 2, none⟩ = some (.string ⟨#[]⟩) := ⟨v0, v1, v2⟩
          go_wp2_with (fail)
          go_region_held3 (fun w' => w'.cell? ⟨vb, 0, none⟩ = some (.int .i64 kk) ∧ w'.cell? ⟨vb, 1, none⟩ = some (.int .i64 0) ∧ w'.cell? ⟨vb, 2, none⟩ = some (.string ⟨#[]⟩)) (first | exact hS0 | exact hS5 | (exact (((hv5.far hne1 _ _).far hne1 _ _).far hne1 _ _).cells) | go_keep) ((go_at_call 10; go_loud (refine (right_any ⟨kk, 0, ⟨#[]⟩⟩ _).mono ?_; rintro e w9 ⟨rfl, hC5⟩; have hb5 : Below wb.heap.size wb w9 := (by first | exact (Below.refl _ _).drew.trans (hC5.mono (by simp)) | exact (Below.refl _ _).drew.drew.trans (hC5.mono (by simp))); have hv5 := hvz.below hb5; have hr5 := hrz.below hb5; have hS5 := hv5.cells; obtain ⟨z0, z1, z2⟩ := hr5.cells; have zf0 := hr5.free 0; have zf1 := hr5.free 1; have zf2 := hr5.free 2)))
          have hR : VAt _ (w.heap.size + 1) ⟨kk, 0, ⟨#[]⟩⟩ := hr5.set3 ⟨kk, 0, ⟨#[]⟩⟩
          obtain ⟨d0, d1, d2⟩ := hR.cells
          have hp6 := (((hpz.below hb5 hpz.lt).far (by omega : g ≠ w.heap.size + 1) 0 (.int .i64 kk)).far (by omega : g ≠ w.heap.size + 1) 1 (.int .i64 0)).far (by omega : g ≠ w.heap.size + 1) 2 (.string ⟨#[]⟩)
          have hG6 : w.grownBy w9 (some g) := grow_then hGz (hb5.mono hGz.size)
          have hG7 := grow_setFar (grow_setFar (grow_setFar hG6 (by omega : w.heap.size ≤ w.heap.size + 1) 0 (.int .i64 kk)) (by omega : w.heap.size ≤ w.heap.size + 1) 1 (.int .i64 0)) (by omega : w.heap.size ≤ w.heap.size + 1) 2 (.string ⟨#[]⟩)
          obtain ⟨rv, hrv⟩ : ∃ rv, rv = right ⟨kk, 0, ⟨#[]⟩⟩ := ⟨_, rfl⟩
          rw [← hrv]
          have HRV := Lib.hid hrv
          clear hrv
          clear z0 z1 z2 hS0 hS5 v0 v1 v2
          go_wp2
          exact bodyPost_ret (v := .tuple #[.agg #[.int .i64 kk, .int .i64 0, .string ⟨#[]⟩], .bool rv]) (by simp [results, Tryd.results65, go_sem, d0, d1, d2]) rfl ⟨rv, ⟨kk, 0, ⟨#[]⟩⟩, q, rfl, hp6, hG7, by omega, fun h => by rw [HS.out]; exact dec1_ok (by rw [← HK.out]; exact HD.out) (HRV.out.symm.trans h), fun h => by rw [HS.out]; exact dec1_bad (by rw [← HK.out]; exact HD.out) (HRV.out.symm.trans h)⟩
end Go.Proofs.YtgfjfpghjjknlaaDoor
