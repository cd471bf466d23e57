/-
  Tuples compared: the walks of slices.CompareFunc, of cell.Compare and of the reference's Compare.
-/
import Derived.Test.YtgfjfpghjjknlaaDoorClX
import Derived.Test.YtgfjfpghjjknlaaDoorClR
namespace Go.Proofs.YtgfjfpghjjknlaaDoor
open Go.RowKit Cl
set_option maxRecDepth 100000
set_option linter.unusedVariables false
set_option linter.unusedSimpArgs false
namespace Od
theorem ord_at {l m : List V} {i : Nat} {x y : V} (hx : l[i]? = some x) (hy : m[i]? = some y) : ord (l.drop i) (m.drop i) = if one x y ≠ 0 then one x y else ord (l.drop (i + 1)) (m.drop (i + 1)) := by
  obtain ⟨h1, h2⟩ := List.getElem?_eq_some_iff.1 hx
  obtain ⟨g1, g2⟩ := List.getElem?_eq_some_iff.1 hy
  rw [List.drop_eq_getElem_cons h1, List.drop_eq_getElem_cons g1, h2, g2]
  rfl
theorem ord_short {l m : List V} {i : Nat} (h : i = l.length) (hm : i < m.length) : ord (l.drop i) (m.drop i) = -1 := by
  rw [List.drop_of_length_le (by omega), List.drop_eq_getElem_cons hm]
  rfl
theorem ord_long {l m : List V} {i : Nat} (h : i = m.length) (hm : i < l.length) : ord (l.drop i) (m.drop i) = 1 := by
  rw [List.drop_of_length_le (l := m) (by omega), List.drop_eq_getElem_cons hm]
  rfl
theorem ord_both {l m : List V} {i : Nat} (h : i = l.length) (hm : i = m.length) : ord (l.drop i) (m.drop i) = 0 := by
  rw [List.drop_of_length_le (l := m) (by omega), List.drop_of_length_le (l := l) (by omega)]
  rfl
end Od
set_option maxHeartbeats 4000000 in
theorem cmpF_any (l m : List V) (c1 c2 : Nat) (o1 o2 : Option Addr) (w : World) (h1 : Sl w o1 l) (h2 : Sl w o2 m) (hl : l.length ≤ 140737488351232) (hm : m.length ≤ 140737488351232) :
    Calls Tryd.prog 40 #[.slice o1 l.length c1, .slice o2 m.length c2, .func (.func 41) #[] #[]] w fun e w' => e = .returned (.int .i64 (Od.ord l m)) ∧ Below w.heap.size w w' := by
  go_enter Tryd.func40, Tryd.ntmps40
  go_wp2
  go_loopw [13] (fun v wr => ∃ i : Nat, i ≤ l.length ∧ i ≤ m.length ∧ v = .int .i64 i ∧ Hid (Od.ord l m = Od.ord (l.drop i) (m.drop i)) ∧ Below w.heap.size w wr)
    (fun v _ => l.length - (intOf v).toNat)
  case atStart => exact ⟨0, by omega, by omega, rfl, Lib.hid rfl, Below.refl _ _⟩
  case round =>
    obtain ⟨i, hi, hi2, rfl, HO, hB⟩ := hrel
    by_cases hil : i < l.length
    · have i16 : (i : Int) < l.length := by omega
      by_cases him : i < m.length
      · have i17 : ¬ ((i : Int) ≥ m.length) := by omega
        have i18 : (i : Int) < m.length := by omega
        obtain ⟨a, rfl⟩ := h1.1 (by intro e; rw [e] at hil; exact absurd hil (by simp))
        obtain ⟨b, rfl⟩ := h2.1 (by intro e; rw [e] at him; exact absurd him (by simp))
        obtain ⟨x, hx⟩ : ∃ x, l[i]? = some x := ⟨l[i], List.getElem?_eq_getElem hil⟩
        obtain ⟨y, hy⟩ : ∃ y, m[i]? = some y := ⟨m[i], List.getElem?_eq_getElem him⟩
        have l1 := (h1.2 a rfl).below hB (h1.2 a rfl).1
        have l2 := (h2.2 b rfl).below hB (h2.2 b rfl).1
        have hla : a.block < wr.heap.size := l1.1 (by intro e; rw [e] at hil; exact absurd hil (by simp))
        have hlb : b.block < wr.heap.size := l2.1 (by intro e; rw [e] at him; exact absurd him (by simp))
        obtain ⟨k0, k1, k2⟩ := l1.2 i x hx
        obtain ⟨m0, m1, m2⟩ := (l2.below ((Below.refl _ _).alloc (Nat.le_refl _) (.cells #[.int .i64 x.k, .int .i64 x.n, .string x.s] 23)) l2.1).2 i y hy
        have hat := Od.ord_at hx hy
        clear hx hy
        obtain ⟨gz, hgz⟩ : ∃ gz, gz = one x y := ⟨_, rfl⟩
        rw [← hgz] at hat
        have Hat := Lib.hid hat
        have Hgz := Lib.hid hgz
        clear hat
        have fin : ∀ w5 : World, Below wr.heap.size wr w5 → Below w.heap.size w w5 := fun w5 h5 => hB.trans (h5.mono hB.size)
        by_cases hz : gz = 0
        · have hzb : (gz != 0) = false := by rw [bne_eq_false_iff_eq]; exact hz
          have Hz := Lib.hid hz
          clear hz
          go_wp2_with (fail)
          refine (cmp1_any x y _).mono ?_
          rintro e w5 ⟨rfl, hB5⟩
          rw [← hgz]
          clear hgz
          go_wp2
          go_roundw
          case rel =>
            refine ⟨i + 1, hil, him, by go_num, Lib.hid ?_, (((hB.alloc hB.size _).alloc (Nat.le_trans hB.size (by simp)) _)).trans (hB5.mono (Nat.le_trans hB.size (by simp; omega)))⟩
            rw [HO.out, Hat.out, if_neg (by simpa using Hz.out)]
          case measure => simp [intOf]; omega
        · have hzb : (gz != 0) = true := bne_iff_ne.2 hz
          have Hz := Lib.hid hz
          clear hz
          go_wp2_with (fail)
          refine (cmp1_any x y _).mono ?_
          rintro e w5 ⟨rfl, hB5⟩
          rw [← hgz]
          clear hgz
          go_wp2
          go_ret
          exact ⟨by rw [HO.out, Hat.out, if_pos Hz.out]; rfl, (((hB.alloc hB.size _).alloc (Nat.le_trans hB.size (by simp)) _)).trans (hB5.mono (Nat.le_trans hB.size (by simp; omega)))⟩
      · have i17 : (i : Int) ≥ m.length := by omega
        have hr := Lib.hid (HO.out.trans (Od.ord_long (by omega) hil))
        obtain ⟨a, rfl⟩ := h1.1 (by intro e; rw [e] at hil; exact absurd hil (by simp))
        obtain ⟨x, hx⟩ : ∃ x, l[i]? = some x := ⟨l[i], List.getElem?_eq_getElem hil⟩
        obtain ⟨k0, k1, k2⟩ := ((h1.2 a rfl).below hB (h1.2 a rfl).1).2 i x hx
        clear hx
        go_wp2
        go_ret
        exact ⟨by rw [hr.out]; rfl, by first | exact hB | exact hB.alloc hB.size _⟩
    · have e1 : i = l.length := by omega
      by_cases him : i < m.length
      · have hr := Lib.hid (HO.out.trans (Od.ord_short e1 him))
        obtain rfl := e1
        have i18 : (l.length : Int) < m.length := by omega
        go_wp2
        go_ret
        exact ⟨by rw [hr.out]; rfl, hB⟩
      · have hr := Lib.hid (HO.out.trans (Od.ord_both e1 (by omega)))
        obtain rfl := e1
        have i18 : ¬ (l.length : Int) < m.length := by omega
        go_wp2
        go_ret
        exact ⟨by rw [hr.out]; rfl, hB⟩
theorem compare_any (l m : List V) (c1 c2 : Nat) (o1 o2 : Option Addr) (w : World) (h1 : Sl w o1 l) (h2 : Sl w o2 m) (hl : l.length ≤ 140737488351232) (hm : m.length ≤ 140737488351232) :
    Calls Tryd.prog 24 #[.slice o1 l.length c1, .slice o2 m.length c2] w fun e w' => e = .returned (.int .i64 (Od.ord l m)) ∧ Below w.heap.size w w' := by
  go_enter Tryd.func24, Tryd.ntmps24
  go_wp2_with (fail)
  go_at_call 40
  refine (cmpF_any l m c1 c2 o1 o2 w h1 h2 hl hm).mono ?_
  rintro e w1 ⟨rfl, hB⟩
  go_wp2
  go_ret
  exact ⟨rfl, hB⟩
set_option maxHeartbeats 4000000 in
theorem rcompare_any (l m : List V) (c1 c2 : Nat) (o1 o2 : Option Addr) (w : World) (h1 : Sl w o1 l) (h2 : Sl w o2 m) (hl : l.length ≤ 140737488351232) (hm : m.length ≤ 140737488351232) :
    Calls Tryd.prog 25 #[.slice o1 l.length c1, .slice o2 m.length c2] w fun e w' => e = .returned (.int .i64 (Od.ord l m)) ∧ Below w.heap.size w w' := by
  go_enter Tryd.func25, Tryd.ntmps25
  go_wp2
  go_loopw [5] (fun v wr => ∃ i : Nat, i ≤ l.length ∧ i ≤ m.length ∧ v = .int .i64 i ∧ Hid (Od.ord l m = Od.ord (l.drop i) (m.drop i)) ∧ Below w.heap.size w wr)
    (fun v _ => l.length - (intOf v).toNat)
  case atStart => exact ⟨0, by omega, by omega, rfl, Lib.hid rfl, Below.refl _ _⟩
  case round =>
    obtain ⟨i, hi, hi2, rfl, HO, hB⟩ := hrel
    by_cases hil : i < l.length
    · have i16 : decide ((i : Int) < l.length) = true := decide_eq_true (by omega)
      by_cases him : i < m.length
      · have i18 : decide ((i : Int) < m.length) = true := decide_eq_true (by omega)
        obtain ⟨a, rfl⟩ := h1.1 (by intro e; rw [e] at hil; exact absurd hil (by simp))
        obtain ⟨b, rfl⟩ := h2.1 (by intro e; rw [e] at him; exact absurd him (by simp))
        obtain ⟨x, hx⟩ : ∃ x, l[i]? = some x := ⟨l[i], List.getElem?_eq_getElem hil⟩
        obtain ⟨y, hy⟩ : ∃ y, m[i]? = some y := ⟨m[i], List.getElem?_eq_getElem him⟩
        have l1 := (h1.2 a rfl).below hB (h1.2 a rfl).1
        have l2 := (h2.2 b rfl).below hB (h2.2 b rfl).1
        obtain ⟨k0, k1, k2⟩ := l1.2 i x hx
        obtain ⟨m0, m1, m2⟩ := l2.2 i y hy
        have hat := Od.ord_at hx hy
        have hS : ∀ w', Below wr.heap.size wr w' → (w'.cell? (a.add (i * 3)) = some (.int .i64 x.k) ∧ w'.cell? ⟨(a.add (i * 3)).block, (a.add (i * 3)).off + 1, none⟩ = some (.int .i64 x.n) ∧ w'.cell? ⟨(a.add (i * 3)).block, (a.add (i * 3)).off + 2, none⟩ = some (.string x.s)) ∧ w'.cell? (b.add (i * 3)) = some (.int .i64 y.k) ∧ w'.cell? ⟨(b.add (i * 3)).block, (b.add (i * 3)).off + 1, none⟩ = some (.int .i64 y.n) ∧ w'.cell? ⟨(b.add (i * 3)).block, (b.add (i * 3)).off + 2, none⟩ = some (.string y.s) :=
          fun w' hb => ⟨(l1.below hb l1.1).2 i x hx, (l2.below hb l2.1).2 i y hy⟩
        have HS := Lib.hid hS
        clear hx hy hS
        have j16 : (i : Int) < l.length := by omega
        have j18 : (i : Int) < m.length := by omega
        have i17 : IntKind.i64.wrap ((i : Int) + 1) = (i : Int) + 1 := i64_wrap_in _ (by omega) (by omega)
        obtain ⟨gz, hgz⟩ : ∃ gz, gz = one x y := ⟨_, rfl⟩
        rw [← hgz] at hat
        have Hat := Lib.hid hat
        have Hgz := Lib.hid hgz
        clear hat
        have k3 := fun w => one_any x y w
        rw [← hgz] at k3
        unfold vv at k3
        have K3 := Lib.hid k3
        clear hgz k3
        by_cases hz : gz = 0
        · have hzb : (gz != 0) = false := by rw [bne_eq_false_iff_eq]; exact hz
          have Hz := Lib.hid hz
          clear hz
          go_wp2
          go_region_held3 (fun w' => (w'.cell? (a.add (i * 3)) = some (.int .i64 x.k) ∧ w'.cell? ⟨(a.add (i * 3)).block, (a.add (i * 3)).off + 1, none⟩ = some (.int .i64 x.n) ∧ w'.cell? ⟨(a.add (i * 3)).block, (a.add (i * 3)).off + 2, none⟩ = some (.string x.s)) ∧ w'.cell? (b.add (i * 3)) = some (.int .i64 y.k) ∧ w'.cell? ⟨(b.add (i * 3)).block, (b.add (i * 3)).off + 1, none⟩ = some (.int .i64 y.n) ∧ w'.cell? ⟨(b.add (i * 3)).block, (b.add (i * 3)).off + 2, none⟩ = some (.string y.s)) (first | exact HS.out _ (Below.refl _ _).drew | exact HS.out _ (Below.refl _ _) | exact hS5 | go_keep) ((go_at_call 46; go_loud (with_reducible refine (K3.out _).mono ?_; rintro e w5 ⟨rfl, hC5⟩; have hB5 : Below wr.heap.size wr w5 := (Below.refl _ _).drew.trans (hC5.mono (by simp)); have hS5 := HS.out _ hB5)))
          all_goals (
            go_wp2
            go_roundw
            (case rel =>
              refine ⟨i + 1, hil, him, by go_num, Lib.hid ?_, by first | exact hB.trans (hB5.mono hB.size) | exact below_drewN (hB.trans (hB5.mono hB.size)) 1⟩
              rw [HO.out, Hat.out, if_neg (by simpa using Hz.out)])
            (case measure => simp [intOf]; omega))
        · have hzb : (gz != 0) = true := bne_iff_ne.2 hz
          have Hz := Lib.hid hz
          clear hz
          go_wp2
          go_region_held3 (fun w' => (w'.cell? (a.add (i * 3)) = some (.int .i64 x.k) ∧ w'.cell? ⟨(a.add (i * 3)).block, (a.add (i * 3)).off + 1, none⟩ = some (.int .i64 x.n) ∧ w'.cell? ⟨(a.add (i * 3)).block, (a.add (i * 3)).off + 2, none⟩ = some (.string x.s)) ∧ w'.cell? (b.add (i * 3)) = some (.int .i64 y.k) ∧ w'.cell? ⟨(b.add (i * 3)).block, (b.add (i * 3)).off + 1, none⟩ = some (.int .i64 y.n) ∧ w'.cell? ⟨(b.add (i * 3)).block, (b.add (i * 3)).off + 2, none⟩ = some (.string y.s)) (first | exact HS.out _ (Below.refl _ _).drew | exact HS.out _ (Below.refl _ _) | exact hS5 | go_keep) ((go_at_call 46; go_loud (with_reducible refine (K3.out _).mono ?_; rintro e w5 ⟨rfl, hC5⟩; have hB5 : Below wr.heap.size wr w5 := (Below.refl _ _).drew.trans (hC5.mono (by simp)); have hS5 := HS.out _ hB5)))
          all_goals (
            go_wp2
            go_ret
            exact ⟨by rw [HO.out, Hat.out, if_pos Hz.out]; rfl, by first | exact hB.trans (hB5.mono hB.size) | exact below_drewN (hB.trans (hB5.mono hB.size)) 1⟩)
      · have i18 : decide ((i : Int) < m.length) = false := decide_eq_false (by omega)
        have hr := Lib.hid (HO.out.trans (Od.ord_long (by omega) hil))
        have j1 : ¬ (l.length : Int) < m.length := by omega
        have j2 : (l.length : Int) > m.length := by omega
        go_wp2
        go_ret
        exact ⟨by rw [hr.out]; rfl, hB⟩
    · have i16 : decide ((i : Int) < l.length) = false := decide_eq_false (by omega)
      by_cases him : i < m.length
      · have hr := Lib.hid (HO.out.trans (Od.ord_short (by omega) him))
        have j1 : (l.length : Int) < m.length := by omega
        go_wp2
        go_ret
        exact ⟨by rw [hr.out]; rfl, hB⟩
      · have hr := Lib.hid (HO.out.trans (Od.ord_both (by omega) (by omega)))
        have j1 : ¬ (l.length : Int) < m.length := by omega
        have j2 : ¬ (l.length : Int) > m.length := by omega
        go_wp2
        go_ret
        exact ⟨by rw [hr.out]; rfl, hB⟩
end Go.Proofs.YtgfjfpghjjknlaaDoor
