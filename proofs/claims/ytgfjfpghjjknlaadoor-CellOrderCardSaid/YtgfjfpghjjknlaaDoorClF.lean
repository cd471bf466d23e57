/-
  The walks of few, and of an append of values.
-/
import Derived.Test.YtgfjfpghjjknlaaDoorClC
import Derived.Laws.AppendOwnNone
namespace Go.Proofs.YtgfjfpghjjknlaaDoor
open Go.RowKit Cl
set_option maxRecDepth 100000
set_option linter.unusedVariables false
set_option linter.unusedSimpArgs false
theorem Vr.news {w : World} {a : Addr} {l : List V} (h : Vr w a l) : ∀ (j : Nat) (u : Value), (vcells l)[j]? = some u → w.cell? (a.add j) = some u := by
  intro j u hu
  have hj : j < l.length * 3 := by
    have := (List.getElem?_eq_some_iff.1 hu).1
    rwa [vcells_length] at this
  have hi : j / 3 < l.length := by omega
  have hx : l[j / 3]? = some l[j / 3] := List.getElem?_eq_getElem hi
  obtain ⟨e0, e1, e2⟩ := vcells_at l _ _ hx
  obtain ⟨c0, c1, c2⟩ := h.2 _ _ hx
  have far : ∀ r, 0 < r → a.add (j / 3 * 3 + r) = ⟨(a.add (j / 3 * 3)).block, (a.add (j / 3 * 3)).off + r, none⟩ := by
    intro r hr
    unfold Addr.add
    rw [if_neg (by omega)]
    split
    · rename_i h0; rw [h0]; simp
    · simp [Nat.add_assoc]
  have h3 : j % 3 = 0 ∨ j % 3 = 1 ∨ j % 3 = 2 := by omega
  rcases h3 with h3 | h3 | h3
  · rw [show j = j / 3 * 3 by omega] at hu ⊢
    rw [e0] at hu
    rw [c0, hu]
  · have hj1 : j = j / 3 * 3 + 1 := by omega
    rw [hj1] at hu ⊢
    rw [e1] at hu
    rw [far 1 (by decide), c1, hu]
  · have hj1 : j = j / 3 * 3 + 2 := by omega
    rw [hj1] at hu ⊢
    rw [e2] at hu
    rw [far 2 (by decide), c2, hu]
/-- An append onto a row of the call's own of a slice that reads as a list of values; it may be nil. -/
theorem wpList_appV {P : Program} {w : World} {ops : Array Oper} {rest : List Oper} {o : Oper} {a : Act} {Q : Exit → Act → World → Prop} (hgd : o.guard = none) (s x : Operand) (t : TypeId)
    (ho : o.op = .call { callee := .builtin .append, args := #[s, x], argTypes := #[t, t] })
    (base : Nat) (e : TypeId) (i : TypeInfo) (z : Value) (bytes : Nat) (ht : P.underlying t = some (.slice e)) (hi : P.info? e = some i) (hz : i.zero = some z)
    (hsize : i.size = 3) (hby : i.bytes = bytes) (hzs : z.cells.size = 3) (v : Value) (n : Nat) (xs : List Value) (hs : a.eval s = v) (hown : w.ownsRow base e 3 v n xs)
    (oa : Option Addr) (l : List V) (c : Nat) (hx : a.eval x = .slice oa l.length c) (hn : oa = none → c = 0) (hvs : Sl w oa l)
    (h63 : n + l.length ≤ maxLen) (hbytes : (n + l.length) * bytes ≤ 140737488355328) (hbase : base ≤ w.heap.size)
    (h : ∀ v' w', w'.ownsRow base e 3 v' (n + l.length) (xs ++ vcells l) → w.grownBy w' v.ownBlock → wpList P ops Q rest (a.put o.dst v') w') : wpList P ops Q (o :: rest) a w := by
  cases oa with
  | none =>
    have hy : l = [] := by
      cases l with
      | nil => rfl
      | cons y r => obtain ⟨ad, h⟩ := hvs.1 (by simp); cases h
    subst hy
    obtain rfl := hn rfl
    exact wpList_append_own_none hgd s x t ho base e i 3 ht hi v n xs hs hown hx (h v w (by simpa [vcells] using hown) (World.grownBy.refl w _))
  | some ad =>
    exact wpList_append_own w hgd s x t ho base e i z 3 bytes ht hi hz hsize hby hzs (by decide) v n xs hs hown ad l.length c (vcells l) hx (vcells_length l) (fun j u hu => (hvs.2 ad rfl).news j u hu) (by
      intro u hu
      unfold vcells at hu
      simp only [List.mem_flatMap, List.mem_cons, List.mem_nil_iff, or_false] at hu
      obtain ⟨y, _, rfl | rfl | rfl⟩ := hu <;> rfl) h63 hbytes hbase (fun v' w' a b _ => h v' w' a b)
/-- Is a list not too long? -/
def fewL (l : List V) : Bool := decide (l.length ≤ 70) && l.all fun v => decide (v.s.size ≤ 1100)
structure Ls where
  o : Option Addr
  c : Nat
  l : List V
set_option maxHeartbeats 4000000 in
theorem few_any (ls : List Ls) (ad : Addr) (w : World) (ha : ad.block < w.heap.size) (h : ∀ (i : Nat) (x : Ls), ls[i]? = some x → w.cell? (ad.add i) = some (.slice x.o x.l.length x.c) ∧ Sl w x.o x.l ∧ x.l.length ≤ 140737488351232) (hl : ls.length ≤ 1000) :
    Calls Tryd.prog 14 #[.slice (some ad) ls.length ls.length] w fun e w' => e = .returned (.bool (ls.all fun x => fewL x.l)) ∧ Below w.heap.size w w' := by
  obtain ⟨res, hres⟩ : ∃ b, b = ls.all fun x => fewL x.l := ⟨_, rfl⟩
  rw [← hres]
  have HR := Lib.hid hres
  clear hres
  have bad : ∀ (i : Nat) (x : Ls), ls[i]? = some x → fewL x.l = false → res = false := by
    intro i x hx hf
    rw [HR.out, List.all_eq_false]
    exact ⟨x, List.mem_of_getElem? hx, by simpa using hf⟩
  have HB := Lib.hid bad
  clear bad
  go_enter Tryd.func14, Tryd.ntmps14
  go_wp2
  go_loopw [9] (fun v wr => ∃ i : Nat, i ≤ ls.length ∧ v = .int .i64 i ∧ Hid ((ls.take i).all (fun x => fewL x.l) = true) ∧ Below w.heap.size w wr)
    (fun v _ => ls.length - (intOf v).toNat)
  case atStart => exact ⟨0, by omega, rfl, Lib.hid rfl, Below.refl _ _⟩
  case round =>
    obtain ⟨i, hi, rfl, HA, hB⟩ := hrel
    by_cases hil : i < ls.length
    · obtain ⟨x, hx⟩ : ∃ x, ls[i]? = some x := ⟨ls[i], List.getElem?_eq_getElem hil⟩
      obtain ⟨hc0, hsl, hlen⟩ := h i x hx
      have hc := (hB.cell (p := ad.add i) (by rw [addr_add_block]; exact ha)).trans hc0
      have hslr := hsl.below hB
      have i16 : (i : Int) < ls.length := by omega
      have hbad := HB.out i x hx
      have HX := Lib.hid hx
      clear hx hc0 hsl
      obtain ⟨o, c, l⟩ := x
      dsimp only at hc hslr hlen hbad
      have HBad := Lib.hid hbad
      clear hbad
      by_cases h70 : l.length ≤ 70
      · have h70i : ¬ (l.length : Int) > 70 := by omega
        obtain ⟨wo, rfl⟩ : ∃ wo : World, wo = wr := ⟨_, rfl⟩
        have hwo := hB.size
        go_wp2
        go_loopw [18] (fun v w2 => ∃ j : Nat, j ≤ l.length ∧ v = .int .i64 j ∧ Hid ((l.take j).all (fun v => decide (v.s.size ≤ 1100)) = true) ∧ Below wo.heap.size wo w2)
          (fun v _ => l.length - (intOf v).toNat)
        case atStart => exact ⟨0, by omega, rfl, Lib.hid rfl, Below.refl _ _⟩
        case round =>
          obtain ⟨j, hj, rfl, HJ, hB2⟩ := hrel
          by_cases hjl : j < l.length
          · obtain ⟨a, rfl⟩ := hslr.1 (by intro e; rw [e] at hjl; exact absurd hjl (by simp))
            obtain ⟨y, hy⟩ : ∃ y, l[j]? = some y := ⟨l[j], List.getElem?_eq_getElem hjl⟩
            obtain ⟨c0, c1, c2⟩ := ((hslr.2 a rfl).below hB2 (hslr.2 a rfl).1).2 j y hy
            have j16 : (j : Int) < l.length := by omega
            have HY := Lib.hid hy
            clear hy
            by_cases hz : y.s.size ≤ 1100
            · have hzi : ¬ (y.s.size : Int) > 1100 := by omega
              go_wp2
              go_roundw
              case rel =>
                refine ⟨j + 1, hjl, by go_num, Lib.hid ?_, hB2.alloc hB2.size _⟩
                obtain ⟨hj2, hy2⟩ := List.getElem?_eq_some_iff.1 HY.out
                rw [List.take_succ_eq_append_getElem hj2, List.all_append, HJ.out, hy2]
                simp [hz]
              case measure => simp [intOf]; omega
            · have hzi : (y.s.size : Int) > 1100 := by omega
              have hf : res = false := HBad.out (by
                unfold fewL
                have : (l.all fun v => decide (v.s.size ≤ 1100)) = false := by
                  rw [List.all_eq_false]
                  exact ⟨y, List.mem_of_getElem? HY.out, by simpa using hz⟩
                rw [this]; simp)
              go_wp2
              go_ret
              exact ⟨by rw [hf]; rfl, hB.trans ((hB2.alloc hB2.size _).mono hwo)⟩
          · obtain rfl : j = l.length := by omega
            go_wp2
            go_roundw
            case rel =>
              refine ⟨i + 1, hil, by go_num, Lib.hid ?_, hB.trans (hB2.mono hwo)⟩
              obtain ⟨hi2, hx2⟩ := List.getElem?_eq_some_iff.1 HX.out
              rw [List.take_succ_eq_append_getElem hi2, List.all_append, HA.out, hx2]
              have hJ := HJ.out
              rw [List.take_length] at hJ
              unfold fewL
              rw [List.all_cons, List.all_nil, hJ]
              simp [h70]
            case measure => simp [intOf]; omega
      · have h70i : (l.length : Int) > 70 := by omega
        have hf : res = false := HBad.out (by unfold fewL; rw [decide_eq_false h70]; rfl)
        go_wp2
        go_ret
        exact ⟨by rw [hf]; rfl, hB⟩
    · obtain rfl : i = ls.length := by omega
      have hf : res = true := by
        have := HA.out
        rw [List.take_length] at this
        rw [HR.out, this]
      go_wp2
      go_ret
      exact ⟨by rw [hf]; rfl, hB⟩
end Go.Proofs.YtgfjfpghjjknlaaDoor
