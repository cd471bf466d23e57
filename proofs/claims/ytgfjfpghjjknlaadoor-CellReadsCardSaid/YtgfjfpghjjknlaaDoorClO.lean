/-
  Appends of bytes; the walks of the reference's Tuple and eight. (Printed by genclo.py.)
-/
import Derived.Test.YtgfjfpghjjknlaaDoorClN
import Derived.Test.YtgfjfpghjjknlaaDoorClG
import Derived.Lib.AppendStr
import Derived.Laws.AppendOwn
namespace Go.Proofs.YtgfjfpghjjknlaaDoor
open Go.RowKit Cl
set_option maxRecDepth 100000
set_option linter.unusedVariables false
set_option linter.unusedSimpArgs false
/-- A row of bytes of the call's own. -/
def BRow (w : World) (B : Nat) (v : Value) (bs : List UInt8) : Prop := w.ownsRow B 5 1 v bs.length (Lib.byteCells bs)
theorem BRow.nil (w : World) (B : Nat) : BRow w B (.slice none 0 0) [] := ⟨rfl, .inl ⟨rfl, rfl⟩⟩
theorem BRow.alloc {w : World} {B : Nat} {v : Value} {bs : List UInt8} (h : BRow w B v bs) (o : Obj) : BRow (w.alloc o) B v bs := World.ownsRow.alloc h o
theorem BRow.ge {w : World} {B : Nat} {v : Value} {bs : List UInt8} (h : BRow w B v bs) : ∀ k, v.ownBlock = some k → B ≤ k := fun k hk => (World.ownsRow.lt h k hk).1
theorem BRow.below {w w' : World} {B : Nat} {v : Value} {bs : List UInt8} (h : BRow w B v bs) (hb : Below w.heap.size w w') : BRow w' B v bs := World.ownsRow.kept (row := none) h (grow_below hb _) (by
  cases h : v.ownBlock with
  | none => exact .inl rfl
  | some k => exact .inr (by simp))
theorem BRow.slice {w : World} {B : Nat} {v : Value} {bs : List UInt8} (h : BRow w B v bs) (hn : bs ≠ []) : ∃ g c, v = .slice (some ⟨g, 0, none⟩) bs.length c ∧ B ≤ g ∧ g < w.heap.size ∧ ∀ j u, (Lib.byteCells bs)[j]? = some u → w.cell? ((⟨g, 0, none⟩ : Addr).add j) = some u := by
  rcases h.2 with ⟨_, h0⟩ | ⟨g, cap, cur, rfl, hB, hg, _⟩
  · exact absurd (List.eq_nil_of_length_eq_zero h0) hn
  · exact ⟨g, cap, rfl, hB, (Array.getElem?_eq_some_iff.1 hg).1, fun j u hu => World.ownsRow.cells h (g := g) rfl j u hu⟩
theorem wpList_appB {w : World} {ops : Array Oper} {rest : List Oper} {o : Oper} {a : Act} {Q : Exit → Act → World → Prop} (hgd : o.guard = none) (s x : Operand)
    (ho : o.op = .call { callee := .builtin .append, args := #[s, x], argTypes := #[50, 50] })
    (B : Nat) (v : Value) (bs : List UInt8) (hs : a.eval s = v) (hown : BRow w B v bs)
    (ad : Addr) (m c : Nat) (cs : List UInt8) (hx : a.eval x = .slice (some ad) m c) (hm : cs.length = m) (hnews : ∀ j u, (Lib.byteCells cs)[j]? = some u → w.cell? (ad.add j) = some u)
    (hlen : bs.length + m ≤ 100000000000) (hbase : B ≤ w.heap.size)
    (h : ∀ v' w', BRow w' B v' (bs ++ cs) → w.grownBy w' v.ownBlock → wpList Tryd.prog ops Q rest (a.put o.dst v') w') : wpList Tryd.prog ops Q (o :: rest) a w := by
  obtain ⟨i0, hi0, hz0, hz1, hz2⟩ := info_parts (P := Tryd.prog) (e := 5) (z := .int .u8 0) (size := 1) (bytes := 1) (by kernel_rfl)
  refine wpList_append_own w hgd s x 50 ho B 5 i0 (.int .u8 0) 1 1 Tryd.underlying50 hi0 hz0 hz1 hz2 rfl (by decide) v bs.length (Lib.byteCells bs) hs hown ad m c (Lib.byteCells cs) hx (by rw [Lib.byteCells_length, hm]; omega) hnews ?_ (by unfold maxLen; omega) (by omega) hbase (fun v' w' h1 h2 _ => h v' w' ?_ h2)
  · intro u hu
    obtain ⟨b, _, rfl⟩ := List.mem_map.1 hu
    rfl
  · unfold BRow
    rw [List.length_append, hm, Lib.byteCells_append]
    exact h1
theorem wpList_appS {w : World} {ops : Array Oper} {rest : List Oper} {o : Oper} {a : Act} {Q : Exit → Act → World → Prop} (hgd : o.guard = none) (s x : Operand)
    (ho : o.op = .call { callee := .builtin .append, args := #[s, x], argTypes := #[50, 9] })
    (B : Nat) (v : Value) (bs : List UInt8) (hs : a.eval s = v) (hown : BRow w B v bs) (t : ByteArray) (hx : a.eval x = .string t)
    (hlen : bs.length + t.size ≤ 100000000000) (hbase : B ≤ w.heap.size)
    (h : ∀ v' w', BRow w' B v' (bs ++ t.data.toList) → w.grownBy w' v.ownBlock → wpList Tryd.prog ops Q rest (a.put o.dst v') w') : wpList Tryd.prog ops Q (o :: rest) a w := by
  obtain ⟨i0, hi0, hz0, hz1, hz2⟩ := info_parts (P := Tryd.prog) (e := 5) (z := .int .u8 0) (size := 1) (bytes := 1) (by kernel_rfl)
  refine Lib.wpList_append_own_string w hgd s x 50 9 ho B 5 i0 Tryd.underlying50 Tryd.underlying9 hi0 hz0 hz1 hz2 v bs.length (Lib.byteCells bs) hs hown t hx (by unfold maxLen; omega) (by omega) hbase (fun v' w' h1 h2 _ => h v' w' ?_ h2)
  unfold BRow
  rw [List.length_append, Lib.byteCells_append]
  exact h1
theorem news_new (w : World) (cs : List UInt8) (xs : Array Value) (hx : Lib.byteCells cs = xs.toList) : ∀ j u, (Lib.byteCells cs)[j]? = some u → (w.alloc (.cells xs 5)).cell? ((⟨w.heap.size, 0, none⟩ : Addr).add j) = some u := by
  rw [hx]
  exact World.news_of_block (heap_alloc_new w _)
theorem brow_string {w : World} {B : Nat} {v : Value} {bs : List UInt8} (h : BRow w B v bs) : (convert 50 9 v).run Tryd.prog w = .ok (.string ⟨bs.toArray⟩) w := by
  have e : Lib.byteCells bs = (bs.map fun b => (b.toNat : Int)).map (Value.int .u8) := by unfold Lib.byteCells; rw [List.map_map]; rfl
  have h2 : w.ownsRow B 5 1 v bs.length ((bs.map fun b => (b.toNat : Int)).map (Value.int .u8)) := by rw [← e]; exact h
  have h3 := ownsRow_string (P := Tryd.prog) (src := 50) (e := 5) (dst := 9) rfl rfl rfl h2
  rw [h3, str_nums]
set_option maxHeartbeats 4000000 in
theorem eight_any (x : Nat) (hx : x < 18446744073709551616) (w : World) :
    Calls Tryd.prog 37 #[.int .u64 x] w fun e w' => (∃ v, e = .returned v ∧ BRow w' w.heap.size v (bytes8 x)) ∧ Below w.heap.size w w' := by
  go_enter Tryd.func37, Tryd.ntmps37
  go_wp2
  go_loopw [3, 4] (fun v j wr => ∃ i : Nat, i ≤ 8 ∧ j = .int .i64 (7 - (i : Int)) ∧ BRow wr w.heap.size v ((bytes8 x).take i) ∧ Below w.heap.size w wr)
    (fun _ j _ => (intOf j + 1).toNat)
  case atStart => exact ⟨0, by omega, by simp, BRow.nil _ _, Below.refl _ _⟩
  case round =>
    obtain ⟨i, hi, rfl, hown, hB⟩ := hrel
    have hBs := hB.size
    by_cases h8 : i < 8
    · obtain ⟨y, hy⟩ : ∃ y : UInt8, y = UInt8.ofNat (b8 x i) := ⟨_, rfl⟩
      have ht : (bytes8 x).take (i + 1) = (bytes8 x).take i ++ [y] := by
        rw [hy]
        obtain rfl | rfl | rfl | rfl | rfl | rfl | rfl | rfl : i = 0 ∨ i = 1 ∨ i = 2 ∨ i = 3 ∨ i = 4 ∨ i = 5 ∨ i = 6 ∨ i = 7 := by omega
        all_goals rfl
      have hyn : y.toNat = b8 x i := by rw [hy, ofNat_toNat]; unfold b8; omega
      have hlen : ((bytes8 x).take i).length = i := by rw [List.length_take, bytes8_length]; omega
      have HT := Lib.hid (And.intro ht hlen)
      clear ht hy hlen
      unfold b8 at hyn
      obtain rfl | rfl | rfl | rfl | rfl | rfl | rfl | rfl : i = 0 ∨ i = 1 ∨ i = 2 ∨ i = 3 ∨ i = 4 ∨ i = 5 ∨ i = 6 ∨ i = 7 := by omega
      · have hyk : (x : Int) / 72057594037927936 = (y.toNat : Int) := by omega
        clear hyn hi h8
        go_wp2_with (at_builtin; go_loud (refine wpList_appB rfl _ _ rfl w.heap.size _ _ rfl (hown.alloc _) ⟨wr.heap.size, 0, none⟩ 1 1 [y] rfl rfl ?c1 ?c2 ?c3 ?_))
        case c1 => exact news_new wr [y] _ rfl
        case c2 => rw [HT.out.2]; omega
        case c3 => exact Nat.le_trans hBs (by simp)
        intro v' w6 hown6 hgrow6
        replace hown6 : BRow w6 w.heap.size v' ((bytes8 x).take (0 + 1)) := by rw [HT.out.1]; exact hown6
        have hB6 := (hB.alloc hBs (.cells #[.int .u8 (y.toNat : Int)] 5)).grown hgrow6 (Nat.le_trans hBs (by simp)) hown.ge
        go_wp2
        go_roundw
        case rel => exact ⟨1, by omega, by simp, hown6, hB6⟩
        case measure => simp [intOf]
      · have hyk : (x : Int) / 281474976710656 % 256 = (y.toNat : Int) := by omega
        clear hyn hi h8
        go_wp2_with (at_builtin; go_loud (refine wpList_appB rfl _ _ rfl w.heap.size _ _ rfl (hown.alloc _) ⟨wr.heap.size, 0, none⟩ 1 1 [y] rfl rfl ?c1 ?c2 ?c3 ?_))
        case c1 => exact news_new wr [y] _ rfl
        case c2 => rw [HT.out.2]; omega
        case c3 => exact Nat.le_trans hBs (by simp)
        intro v' w6 hown6 hgrow6
        replace hown6 : BRow w6 w.heap.size v' ((bytes8 x).take (1 + 1)) := by rw [HT.out.1]; exact hown6
        have hB6 := (hB.alloc hBs (.cells #[.int .u8 (y.toNat : Int)] 5)).grown hgrow6 (Nat.le_trans hBs (by simp)) hown.ge
        go_wp2
        go_roundw
        case rel => exact ⟨2, by omega, by simp, hown6, hB6⟩
        case measure => simp [intOf]
      · have hyk : (x : Int) / 1099511627776 % 256 = (y.toNat : Int) := by omega
        clear hyn hi h8
        go_wp2_with (at_builtin; go_loud (refine wpList_appB rfl _ _ rfl w.heap.size _ _ rfl (hown.alloc _) ⟨wr.heap.size, 0, none⟩ 1 1 [y] rfl rfl ?c1 ?c2 ?c3 ?_))
        case c1 => exact news_new wr [y] _ rfl
        case c2 => rw [HT.out.2]; omega
        case c3 => exact Nat.le_trans hBs (by simp)
        intro v' w6 hown6 hgrow6
        replace hown6 : BRow w6 w.heap.size v' ((bytes8 x).take (2 + 1)) := by rw [HT.out.1]; exact hown6
        have hB6 := (hB.alloc hBs (.cells #[.int .u8 (y.toNat : Int)] 5)).grown hgrow6 (Nat.le_trans hBs (by simp)) hown.ge
        go_wp2
        go_roundw
        case rel => exact ⟨3, by omega, by simp, hown6, hB6⟩
        case measure => simp [intOf]
      · have hyk : (x : Int) / 4294967296 % 256 = (y.toNat : Int) := by omega
        clear hyn hi h8
        go_wp2_with (at_builtin; go_loud (refine wpList_appB rfl _ _ rfl w.heap.size _ _ rfl (hown.alloc _) ⟨wr.heap.size, 0, none⟩ 1 1 [y] rfl rfl ?c1 ?c2 ?c3 ?_))
        case c1 => exact news_new wr [y] _ rfl
        case c2 => rw [HT.out.2]; omega
        case c3 => exact Nat.le_trans hBs (by simp)
        intro v' w6 hown6 hgrow6
        replace hown6 : BRow w6 w.heap.size v' ((bytes8 x).take (3 + 1)) := by rw [HT.out.1]; exact hown6
        have hB6 := (hB.alloc hBs (.cells #[.int .u8 (y.toNat : Int)] 5)).grown hgrow6 (Nat.le_trans hBs (by simp)) hown.ge
        go_wp2
        go_roundw
        case rel => exact ⟨4, by omega, by simp, hown6, hB6⟩
        case measure => simp [intOf]
      · have hyk : (x : Int) / 16777216 % 256 = (y.toNat : Int) := by omega
        clear hyn hi h8
        go_wp2_with (at_builtin; go_loud (refine wpList_appB rfl _ _ rfl w.heap.size _ _ rfl (hown.alloc _) ⟨wr.heap.size, 0, none⟩ 1 1 [y] rfl rfl ?c1 ?c2 ?c3 ?_))
        case c1 => exact news_new wr [y] _ rfl
        case c2 => rw [HT.out.2]; omega
        case c3 => exact Nat.le_trans hBs (by simp)
        intro v' w6 hown6 hgrow6
        replace hown6 : BRow w6 w.heap.size v' ((bytes8 x).take (4 + 1)) := by rw [HT.out.1]; exact hown6
        have hB6 := (hB.alloc hBs (.cells #[.int .u8 (y.toNat : Int)] 5)).grown hgrow6 (Nat.le_trans hBs (by simp)) hown.ge
        go_wp2
        go_roundw
        case rel => exact ⟨5, by omega, by simp, hown6, hB6⟩
        case measure => simp [intOf]
      · have hyk : (x : Int) / 65536 % 256 = (y.toNat : Int) := by omega
        clear hyn hi h8
        go_wp2_with (at_builtin; go_loud (refine wpList_appB rfl _ _ rfl w.heap.size _ _ rfl (hown.alloc _) ⟨wr.heap.size, 0, none⟩ 1 1 [y] rfl rfl ?c1 ?c2 ?c3 ?_))
        case c1 => exact news_new wr [y] _ rfl
        case c2 => rw [HT.out.2]; omega
        case c3 => exact Nat.le_trans hBs (by simp)
        intro v' w6 hown6 hgrow6
        replace hown6 : BRow w6 w.heap.size v' ((bytes8 x).take (5 + 1)) := by rw [HT.out.1]; exact hown6
        have hB6 := (hB.alloc hBs (.cells #[.int .u8 (y.toNat : Int)] 5)).grown hgrow6 (Nat.le_trans hBs (by simp)) hown.ge
        go_wp2
        go_roundw
        case rel => exact ⟨6, by omega, by simp, hown6, hB6⟩
        case measure => simp [intOf]
      · have hyk : (x : Int) / 256 % 256 = (y.toNat : Int) := by omega
        clear hyn hi h8
        go_wp2_with (at_builtin; go_loud (refine wpList_appB rfl _ _ rfl w.heap.size _ _ rfl (hown.alloc _) ⟨wr.heap.size, 0, none⟩ 1 1 [y] rfl rfl ?c1 ?c2 ?c3 ?_))
        case c1 => exact news_new wr [y] _ rfl
        case c2 => rw [HT.out.2]; omega
        case c3 => exact Nat.le_trans hBs (by simp)
        intro v' w6 hown6 hgrow6
        replace hown6 : BRow w6 w.heap.size v' ((bytes8 x).take (6 + 1)) := by rw [HT.out.1]; exact hown6
        have hB6 := (hB.alloc hBs (.cells #[.int .u8 (y.toNat : Int)] 5)).grown hgrow6 (Nat.le_trans hBs (by simp)) hown.ge
        go_wp2
        go_roundw
        case rel => exact ⟨7, by omega, by simp, hown6, hB6⟩
        case measure => simp [intOf]
      · have hyk : (x : Int) % 256 = (y.toNat : Int) := by omega
        clear hyn hi h8
        go_wp2_with (at_builtin; go_loud (refine wpList_appB rfl _ _ rfl w.heap.size _ _ rfl (hown.alloc _) ⟨wr.heap.size, 0, none⟩ 1 1 [y] rfl rfl ?c1 ?c2 ?c3 ?_))
        case c1 => exact news_new wr [y] _ rfl
        case c2 => rw [HT.out.2]; omega
        case c3 => exact Nat.le_trans hBs (by simp)
        intro v' w6 hown6 hgrow6
        replace hown6 : BRow w6 w.heap.size v' ((bytes8 x).take (7 + 1)) := by rw [HT.out.1]; exact hown6
        have hB6 := (hB.alloc hBs (.cells #[.int .u8 (y.toNat : Int)] 5)).grown hgrow6 (Nat.le_trans hBs (by simp)) hown.ge
        go_wp2
        go_roundw
        case rel => exact ⟨8, by omega, by simp, hown6, hB6⟩
        case measure => simp [intOf]
    · obtain rfl : i = 8 := by omega
      rw [List.take_of_length_le (by rw [bytes8_length]; omega)] at hown
      go_wp2
      go_ret
      exact ⟨⟨_, rfl, hown⟩, hB⟩
set_option maxHeartbeats 4000000 in
theorem rtuple_any (l : List V) (c : Nat) (o : Option Addr) (w : World) (h : Sl w o l) (hl : l.length ≤ 140737488351232) :
    Calls Tryd.prog 36 #[.slice o l.length c] w fun e w' => e = .returned (.bool (tuple l)) ∧ Below w.heap.size w w' := by
  by_cases h64 : l.length ≤ 64
  · have h2 : ¬ (l.length : Int) > 64 := by omega
    obtain ⟨tb, htb⟩ : ∃ b, b = tuple l := ⟨_, rfl⟩
    have htb2 : tb = l.all right := by rw [htb]; unfold tuple; simp [h64]
    rw [← htb]
    have HTB := Lib.hid htb2
    clear htb htb2
    go_enter Tryd.func36, Tryd.ntmps36
    go_wp2
    go_loopw [3] (fun v wr => ∃ i : Nat, i ≤ l.length ∧ v = .int .i64 i ∧ Hid ((l.take i).all right = true) ∧ Below w.heap.size w wr)
      (fun v _ => l.length - (intOf v).toNat)
    case atStart => exact ⟨0, by omega, rfl, Lib.hid rfl, Below.refl _ _⟩
    case round =>
      obtain ⟨i, hi, rfl, HA, hB⟩ := hrel
      by_cases hil : i < l.length
      · obtain ⟨a, rfl⟩ := h.1 (by intro e; rw [e] at hil; exact absurd hil (by simp))
        obtain ⟨x, hx⟩ : ∃ x, l[i]? = some x := ⟨l[i], List.getElem?_eq_getElem hil⟩
        obtain ⟨c0, c1, c2⟩ := ((h.2 a rfl).below hB (h.2 a rfl).1).2 i x hx
        have i16 : (i : Int) < l.length := by omega
        have i17 : IntKind.i64.wrap ((i : Int) + 1) = (i : Int) + 1 := i64_wrap_in _ (by omega) (by omega)
        have HX := Lib.hid hx
        clear hx
        go_wp2_with (fail)
        go_at_call 11
        refine (rright_any x wr).mono ?_
        rintro e w1 ⟨rfl, hb1⟩
        have hB1 := hB.trans (hb1.mono hB.size)
        cases hr : right x
        · have htf : tb = false := by
            rw [HTB.out, List.all_eq_false]
            exact ⟨x, List.mem_of_getElem? HX.out, by rw [hr]; simp⟩
          subst htf
          go_wp2
          go_ret
          exact ⟨rfl, hB1⟩
        · go_wp2
          go_roundw
          case rel =>
            refine ⟨i + 1, hil, by go_num, Lib.hid ?_, hB1⟩
            obtain ⟨hi2, hx2⟩ := List.getElem?_eq_some_iff.1 HX.out
            rw [List.take_succ_eq_append_getElem hi2, List.all_append, HA.out, hx2]
            simp [hr]
          case measure => simp [intOf]; omega
      · obtain rfl : i = l.length := by omega
        have htt : tb = true := by
          rw [HTB.out]
          have := HA.out
          rw [List.take_length] at this
          exact this
        subst htt
        go_wp2
        go_ret
        exact ⟨rfl, hB⟩
  · have h2 : (l.length : Int) > 64 := by omega
    have htf : tuple l = false := by unfold tuple; simp [h64]
    rw [htf]
    go_enter Tryd.func36, Tryd.ntmps36
    go_wp2
    go_ret
    exact ⟨rfl, Below.refl _ _⟩
end Go.Proofs.YtgfjfpghjjknlaaDoor
