/-
  The walk of a tuple's bytes in either form.
-/
import Derived.Test.YtgfjfpghjjknlaaDoorCl6
namespace Go.Proofs.YtgfjfpghjjknlaaDoor
open Go.RowKit Cl
set_option maxRecDepth 100000
set_option linter.unusedVariables false
set_option linter.unusedSimpArgs false
/-- The bound on a text's bytes in a form. -/
def Short (W : List UInt8 → List UInt8) : Prop := ∀ l, (W l).length ≤ 2 * l.length + 2
theorem valW_length {fk : Int} {turn : Nat} {W : List UInt8 → List UInt8} (hW : Short W) (v : V) (hr : right v = true) : (valW fk turn W v).length ≤ 2010 := by
  unfold valW
  rw [List.length_cons]
  split
  · rw [bytes8_length]; omega
  · split
    · simp
    · split
      · rename_i h1 h2 h3
        have hz : v.s.size ≤ 1000 := by
          unfold right at hr
          rw [if_neg (by omega), if_neg h1, if_neg h2, if_pos h3] at hr
          simp at hr
          omega
        have := hW v.s.data.toList
        have hl : v.s.data.toList.length = v.s.size := rfl
        omega
      · simp
theorem tupW_length {fk : Int} {turn : Nat} {W : List UInt8 → List UInt8} (hW : Short W) : ∀ (l : List V), l.all right = true → (tupW fk turn W l).length ≤ 2010 * l.length := by
  intro l
  induction l with
  | nil => intro _; exact Nat.zero_le _
  | cons v l ih =>
    intro h
    rw [List.all_cons, Bool.and_eq_true] at h
    have h1 := valW_length (fk := fk) (turn := turn) hW v h.1
    have h2 := ih h.2
    unfold tupW at *
    rw [List.flatMap_cons, List.length_append, List.length_cons]
    omega
def FormAt (w : World) (fb : Nat) (fk : Int) (turn wf rf : Nat) : Prop := w.heap[fb]? = some (.cells #[.int .i64 fk, .int .u64 turn, .func (.func wf) #[] #[], .func (.func rf) #[] #[]] 48 (0, 0))
theorem FormAt.below {w w' : World} {B fb : Nat} {fk : Int} {turn wf rf : Nat} (h : FormAt w fb fk turn wf rf) (hb : Below B w w') (hB : fb < B) : FormAt w' fb fk turn wf rf := (hb.block fb hB).trans h
theorem FormAt.cells {w : World} {fb : Nat} {fk : Int} {turn wf rf : Nat} (h : FormAt w fb fk turn wf rf) : w.cell? ⟨fb, 0, none⟩ = some (.int .i64 fk) ∧ w.cell? ⟨fb, 1, none⟩ = some (.int .u64 turn) ∧ w.cell? ⟨fb, 2, none⟩ = some (.func (.func wf) #[] #[]) ∧ w.cell? ⟨fb, 3, none⟩ = some (.func (.func rf) #[] #[]) := by
  have := Lib.cell_of_heap h
  exact ⟨this 0, this 1, this 2, this 3⟩
def VAt (w : World) (g : Nat) (v : V) : Prop := w.heap[g]? = some (.cells #[.int .i64 v.k, .int .i64 v.n, .string v.s] 23 (0, 0))
theorem VAt.cells {w : World} {g : Nat} {v : V} (h : VAt w g v) : w.cell? ⟨g, 0, none⟩ = some (.int .i64 v.k) ∧ w.cell? ⟨g, 1, none⟩ = some (.int .i64 v.n) ∧ w.cell? ⟨g, 2, none⟩ = some (.string v.s) := by
  have := Lib.cell_of_heap h
  exact ⟨this 0, this 1, this 2⟩
theorem VAt.lt {w : World} {g : Nat} {v : V} (h : VAt w g v) : g < w.heap.size := (Array.getElem?_eq_some_iff.1 h).1
theorem VAt.below {w w' : World} {g : Nat} {v : V} (h : VAt w g v) (hb : Below w.heap.size w w') : VAt w' g v := (hb.block g h.lt).trans h
theorem VAt.keep {w w' : World} {g b : Nat} {v : V} (h : VAt w g v) (hk : KeepT b w w') (hne : g ≠ b) : VAt w' g v := (hk g h.lt hne (fun cs e => by
  have e2 := h.symm.trans e
  simp at e2)).trans h
theorem bld_lt {T e : TypeId} {B b : Nat} {bs : List Value} {w : World} (h : Lib.IsBuilder T e B b bs w) : b < w.heap.size := by
  rcases h with h | h
  · exact h.lt
  · exact h.lt
theorem tup_snoc {fk : Int} {turn : Nat} {W : List UInt8 → List UInt8} {l : List V} {i : Nat} {v : V} (hx : l[i]? = some v) : tupW fk turn W (l.take (i + 1)) = tupW fk turn W (l.take i) ++ valW fk turn W v := by
  obtain ⟨hi, he⟩ := List.getElem?_eq_some_iff.1 hx
  unfold tupW
  rw [List.take_succ_eq_append_getElem hi, List.flatMap_append, he]
  simp
set_option maxHeartbeats 8000000 in
theorem tupled_any (fk : Int) (turn wf rf : Nat) (W : List UInt8 → List UInt8) (hfk : fk = 0 ∨ fk = 1) (htu : turn = 0 ∨ turn = 9223372036854775808) (hW : IsW wf W) (ew : ∀ args w, (callFunc wf args).run Tryd.prog w = .ok (.enter wf args) w) (hS : Short W)
    (l : List V) (c : Nat) (o : Option Addr) (w : World) (he : Env w) (h : Sl w o l) (hl : l.length ≤ 140737488351232) :
    Calls Tryd.prog 34 #[.agg #[.int .i64 fk, .int .u64 turn, .func (.func wf) #[] #[], .func (.func rf) #[] #[]], .slice o l.length c] w fun e w' => e = .returned (.tuple #[.string (if tuple l then ⟨(tupW fk turn W l).toArray⟩ else ⟨#[]⟩), .bool (tuple l)]) ∧ Below w.heap.size w w' := by
  obtain ⟨tb, htb⟩ : ∃ b, b = tuple l := ⟨_, rfl⟩
  have ht := tuple_any l c o
  rw [← htb]
  have hbx := (Below.refl w.heap.size w).alloc (Nat.le_refl _) (.cells #[.int .i64 fk, .int .u64 turn, .func (.func wf) #[] #[], .func (.func rf) #[] #[]] 48)
  have hh := heap_alloc_new w (.cells #[.int .i64 fk, .int .u64 turn, .func (.func wf) #[] #[], .func (.func rf) #[] #[]] 48)
  have hlt : w.heap.size < (w.alloc (.cells #[.int .i64 fk, .int .u64 turn, .func (.func wf) #[] #[], .func (.func rf) #[] #[]] 48)).heap.size := by simp
  have hsl := h.below hbx
  have ht1 := ht _ hsl hl
  rw [← htb] at ht1
  have heA := he.below hbx he.lt
  clear ht
  generalize hwa : w.alloc (.cells #[.int .i64 fk, .int .u64 turn, .func (.func wf) #[] #[], .func (.func rf) #[] #[]] 48) = wa at hbx hh hlt hsl ht1 heA
  cases tb
  · clear hh hlt htb heA he hW hS
    go_enter Tryd.func34, Tryd.ntmps34
    go_wp2_with (fail)
    go_at_call 59
    refine ht1.mono ?_
    rintro e w1 ⟨rfl, hb1⟩
    go_wp2
    exact bodyPost_ret (v := .tuple #[.string ⟨#[]⟩, .bool false]) (by simp [results, Tryd.results34, go_sem]) rfl ⟨rfl, hbx.trans (hb1.mono hbx.size)⟩
  · have hT : tuple l = true := htb.symm
    clear htb
    have hT2 : l.length ≤ 64 ∧ l.all right = true := by unfold tuple at hT; simpa using hT
    have hlen : l.length ≤ 64 := hT2.1
    have HR := Lib.hid hT2.2
    clear hT hT2
    rw [if_pos rfl]
    go_enter Tryd.func34, Tryd.ntmps34
    go_wp2_with (fail)
    clear hwa
    go_at_call 59
    refine ht1.mono ?_
    rintro e w1 ⟨rfl, hb1⟩
    have hh1 := (hb1.block w.heap.size hlt).trans hh
    have hsl1 := hsl.below hb1
    have he1 := heA.below hb1 heA.lt
    have hB1 := hbx.trans (hb1.mono hbx.size)
    have hlt1 : w.heap.size < w1.heap.size := Nat.lt_of_lt_of_le hlt hb1.size
    clear hb1 hh hsl heA ht1 hbx hlt
    go_wp2
    go_loopw [14] (fun v wr => ∃ i : Nat, i ≤ l.length ∧ v = .int .i64 i ∧ Lib.IsBuilder 61 5 w1.heap.size w1.heap.size (Lib.byteCells (tupW fk turn W (l.take i))) wr ∧ Below w1.heap.size w1 wr ∧ w1.heap.size ≤ wr.heap.size)
      (fun v _ => l.length - (intOf v).toNat)
    case atStart => exact ⟨0, by omega, rfl, Lib.fresh_isBuilder _ _ w1, (Below.refl _ _).alloc (Nat.le_refl _) _, by simp⟩
    case round =>
      obtain ⟨i, hi, rfl, hbl, hB, hsz⟩ := hrel
      by_cases hil : i < l.length
      · obtain ⟨a, rfl⟩ := h.1 (by intro e; rw [e] at hil; exact absurd hil (by simp))
        obtain ⟨x, hx⟩ : ∃ x, l[i]? = some x := ⟨l[i], List.getElem?_eq_getElem hil⟩
        obtain ⟨c0, c1, c2⟩ := ((hsl1.2 a rfl).below hB (hsl1.2 a rfl).1).2 i x hx
        have i16 : (i : Int) < l.length := by omega
        have hrx : right x = true := List.all_eq_true.1 HR.out x (List.mem_of_getElem? hx)
        have HX := Lib.hid hx
        clear hx
        have hhr := (hB.block w.heap.size hlt1).trans hh1
        have hk04 : 0 ≤ x.k ∧ x.k ≤ 4 := by
          unfold right at hrx
          by_cases h0 : x.k = 0
          · omega
          · by_cases h1 : x.k = 1
            · omega
            · by_cases h2 : x.k = 2
              · omega
              · rw [if_neg h0, if_neg h1, if_neg h2] at hrx
                split at hrx
                · omega
                · cases hrx
        have hlA := tupW_length (fk := fk) (turn := turn) hS (l.take i) (by
          rw [List.all_eq_true]
          exact fun y hy => List.all_eq_true.1 HR.out y (List.mem_of_mem_take hy))
        have hlB : (l.take i).length ≤ 64 := by rw [List.length_take]; omega
        obtain ⟨A, hA⟩ : ∃ A, A = tupW fk turn W (l.take i) := ⟨_, rfl⟩
        rw [← hA] at hbl hlA
        have HA := Lib.hid hA
        clear hA
        obtain ⟨kb, hkb⟩ : ∃ kb : UInt8, kb = UInt8.ofNat (x.k + fk).toNat := ⟨_, rfl⟩
        have hk1 : IntKind.i64.wrap (x.k + fk) = x.k + fk := i64_wrap_in _ (by omega) (by omega)
        have hk2 : IntKind.u8.wrap (x.k + fk) = (kb.toNat : Int) := by
          rw [hkb, IntKind.wrap_u8]
          simp
          omega
        have HK := Lib.hid hkb
        clear hkb
        have hbv := (Below.refl wr.heap.size wr).alloc (Nat.le_refl _) (.cells #[.int .i64 x.k, .int .i64 x.n, .string x.s] 23)
        have hv : VAt (wr.alloc (.cells #[.int .i64 x.k, .int .i64 x.n, .string x.s] 23)) wr.heap.size x := heap_alloc_new wr _
        have hf : FormAt (wr.alloc (.cells #[.int .i64 x.k, .int .i64 x.n, .string x.s] 23)) w.heap.size fk turn wf rf := FormAt.below (w := wr) hhr hbv (by omega)
        have hbl0 := bld_below hbl hbv
        have hblt := bld_lt hbl
        have hBv := hB.trans (hbv.mono hsz)
        have hszv := hBv.size
        have he2 := he1.below hBv he1.lt
        obtain ⟨f0, f1, f2, f3⟩ := hf.cells
        obtain ⟨v0, v1, v2⟩ := hv.cells
        go_wp2_with (fail)
        clear f0 f1 f2 f3 v0 v1 v2 c0 c1 c2
        generalize hvb : wr.heap.size = vb at hv hblt ⊢
        generalize wr.alloc (.cells #[.int .i64 x.k, .int .i64 x.n, .string x.s] 23) = wv at hv hf hbl0 hBv hszv he2 ⊢
        have HS := Lib.hid (And.intro hrx hk04)
        clear hvb hbl hB hsz hhr hbv
        have hl1 : (Lib.byteCells A).length < 140737488355328 := by rw [Lib.byteCells_length]; omega
        go_at_call 50
        refine (writeByte_k w1.heap.size w1.heap.size (Lib.byteCells A) (kb.toNat : Int) wv hbl0 hszv hl1).mono ?_
        rintro e w5 ⟨rfl, hbl5, hb5, hT5⟩
        have hB5 := hBv.trans (hb5.mono (Nat.le_refl _))
        have hs5 := hB5.size
        have hv5 := hv.keep hT5 (by omega)
        have hf5 := hf.below hb5 hlt1
        have he5 := he2.below hb5 he1.lt
        obtain ⟨f0, f1, f2, f3⟩ := hf5.cells
        obtain ⟨v0, v1, v2⟩ := hv5.cells
        by_cases hk1' : x.k = 1
        · have hbt := bits_turn x.n turn htu
          have hlt64 : turned turn (u64 x.n) < 18446744073709551616 := by unfold turned; omega
          generalize hX : turned turn (u64 x.n) = X at hbt hlt64
          have HXX := Lib.hid hX
          clear hX
          go_wp2_with (fail)
          go_at_call 60
          refine (whole_any X hlt64 w5).mono ?_
          rintro e w6 ⟨rfl, hb6⟩
          rw [strOf_eight]
          have hB6 := hB5.trans (hb6.mono hs5)
          have hbl6 := bld_below hbl5 hb6
          have hz : (⟨(bytes8 X).toArray⟩ : ByteArray).size = 8 := by show (bytes8 X).toArray.size = 8; rw [List.size_toArray, bytes8_length]
          have hl6 : (Lib.byteCells A ++ [Value.int .u8 (kb.toNat : Int)]).length + (⟨(bytes8 X).toArray⟩ : ByteArray).size ≤ 140737488355000 := by rw [List.length_append, Lib.byteCells_length, hz]; simp; omega
          go_wp2_with (fail)
          go_at_call 49
          refine (writeString_k w1.heap.size w1.heap.size (Lib.byteCells A ++ [Value.int .u8 (kb.toNat : Int)]) ⟨(bytes8 X).toArray⟩ w6 hbl6 hB6.size hl6).mono ?_
          rintro e w7 ⟨rfl, hblE, hb7, hT7⟩
          rw [strCells_bytes] at hblE
          have hB7 := hB6.trans (hb7.mono (Nat.le_refl _))
          go_wp2
          go_roundw
          case rel =>
            refine ⟨i + 1, hil, by go_num, ?_, hB7, hB7.size⟩
            have e : Lib.byteCells (tupW fk turn W (l.take (i + 1))) = Lib.byteCells A ++ [Value.int .u8 (kb.toNat : Int)] ++ Lib.byteCells (⟨(bytes8 X).toArray⟩ : ByteArray).data.toList := by
              rw [tup_snoc HX.out, ← HA.out]
              unfold valW
              rw [← HK.out, if_pos hk1', HXX.out]
              simp [Lib.byteCells]
            rw [e]
            exact hblE
          case measure => simp [intOf]; omega
        · by_cases hk2' : x.k = 2
          · have hn2 : x.n = 0 ∨ x.n = 1 := by
              have h := HS.out.1
              unfold right at h
              rw [if_neg (by omega), if_neg hk1', if_pos hk2'] at h
              simp at h
              exact h.1
            have hnw : IntKind.u8.wrap x.n = x.n := by rw [IntKind.wrap_u8]; omega
            have hl5 : (Lib.byteCells A ++ [Value.int .u8 (kb.toNat : Int)]).length < 140737488355328 := by rw [List.length_append, Lib.byteCells_length]; simp; omega
            go_wp2_with (fail)
            go_at_call 50
            refine (writeByte_k w1.heap.size w1.heap.size (Lib.byteCells A ++ [Value.int .u8 (kb.toNat : Int)]) x.n w5 hbl5 hs5 hl5).mono ?_
            rintro e w7 ⟨rfl, hblE, hb7, hT7⟩
            have hB7 := hB5.trans (hb7.mono (Nat.le_refl _))
            have e9 : x.n = ((UInt8.ofNat x.n.toNat).toNat : Int) := by rcases hn2 with h | h <;> rw [h] <;> rfl
            have e10 : [Value.int .u8 x.n] = Lib.byteCells [UInt8.ofNat x.n.toNat] := by
              show [Value.int .u8 x.n] = [Value.int .u8 ((UInt8.ofNat x.n.toNat).toNat : Int)]
              rw [← e9]
            rw [e10] at hblE
            clear e9 e10
            go_wp2
            go_roundw
            case rel =>
              refine ⟨i + 1, hil, by go_num, ?_, hB7, hB7.size⟩
              have e : Lib.byteCells (tupW fk turn W (l.take (i + 1))) = Lib.byteCells A ++ [Value.int .u8 (kb.toNat : Int)] ++ Lib.byteCells [UInt8.ofNat x.n.toNat] := by
                rw [tup_snoc HX.out, ← HA.out]
                unfold valW
                rw [← HK.out, if_neg hk1', if_pos hk2']
                simp [Lib.byteCells]
              rw [e]
              exact hblE
            case measure => simp [intOf]; omega
          · by_cases hk3' : x.k = 3 ∨ x.k = 4
            · have hs1000 : x.s.size ≤ 1000 := by
                have h := HS.out.1
                unfold right at h
                rw [if_neg (by omega), if_neg hk1', if_neg hk2', if_pos hk3'] at h
                simp at h
                exact h.2
              have hSh := hS x.s.data.toList
              have hsl : x.s.data.toList.length = x.s.size := rfl
              have hWc := hW x.s w5 he5 hs1000
              obtain ⟨r, hr⟩ : ∃ r : ByteArray, r = ⟨(W x.s.data.toList).toArray⟩ := ⟨_, rfl⟩
              have hrz : r.size = (W x.s.data.toList).length := by rw [hr]; show (W x.s.data.toList).toArray.size = _; rw [List.size_toArray]
              have hrd : r.data.toList = W x.s.data.toList := by rw [hr]
              rw [← hr] at hWc
              have HRd := Lib.hid hrd
              clear hr hrd
              have HK3 := Lib.hid hk3'
              have hl6 : (Lib.byteCells A ++ [Value.int .u8 (kb.toNat : Int)]).length + r.size ≤ 140737488355000 := by rw [List.length_append, Lib.byteCells_length]; simp; omega
              rcases hk3' with hk3 | hk3
              · go_wp2_with (fail)
                refine hWc.mono ?_
                rintro e w6 ⟨rfl, hb6⟩
                have hB6 := hB5.trans (hb6.mono hs5)
                have hbl6 := bld_below hbl5 hb6
                go_wp2_with (fail)
                go_at_call 49
                refine (writeString_k w1.heap.size w1.heap.size (Lib.byteCells A ++ [Value.int .u8 (kb.toNat : Int)]) r w6 hbl6 hB6.size hl6).mono ?_
                rintro e w7 ⟨rfl, hblE, hb7, hT7⟩
                rw [strCells_bytes] at hblE
                have hB7 := hB6.trans (hb7.mono (Nat.le_refl _))
                go_wp2
                go_roundw
                case rel =>
                  refine ⟨i + 1, hil, by go_num, ?_, hB7, hB7.size⟩
                  have e : Lib.byteCells (tupW fk turn W (l.take (i + 1))) = Lib.byteCells A ++ [Value.int .u8 (kb.toNat : Int)] ++ Lib.byteCells r.data.toList := by
                    rw [tup_snoc HX.out, ← HA.out]
                    unfold valW
                    rw [← HK.out, if_neg hk1', if_neg hk2', if_pos HK3.out, ← HRd.out]
                    simp [Lib.byteCells]
                  rw [e]
                  exact hblE
                case measure => simp [intOf]; omega
              · go_wp2_with (fail)
                refine hWc.mono ?_
                rintro e w6 ⟨rfl, hb6⟩
                have hB6 := hB5.trans (hb6.mono hs5)
                have hbl6 := bld_below hbl5 hb6
                go_wp2_with (fail)
                go_at_call 49
                refine (writeString_k w1.heap.size w1.heap.size (Lib.byteCells A ++ [Value.int .u8 (kb.toNat : Int)]) r w6 hbl6 hB6.size hl6).mono ?_
                rintro e w7 ⟨rfl, hblE, hb7, hT7⟩
                rw [strCells_bytes] at hblE
                have hB7 := hB6.trans (hb7.mono (Nat.le_refl _))
                go_wp2
                go_roundw
                case rel =>
                  refine ⟨i + 1, hil, by go_num, ?_, hB7, hB7.size⟩
                  have e : Lib.byteCells (tupW fk turn W (l.take (i + 1))) = Lib.byteCells A ++ [Value.int .u8 (kb.toNat : Int)] ++ Lib.byteCells r.data.toList := by
                    rw [tup_snoc HX.out, ← HA.out]
                    unfold valW
                    rw [← HK.out, if_neg hk1', if_neg hk2', if_pos HK3.out, ← HRd.out]
                    simp [Lib.byteCells]
                  rw [e]
                  exact hblE
                case measure => simp [intOf]; omega
            · have hk0 : x.k = 0 := by have := HS.out.2; omega
              have HK3 := Lib.hid hk3'
              have hblE := hbl5
              go_wp2
              go_roundw
              case rel =>
                refine ⟨i + 1, hil, by go_num, ?_, hB5, hB5.size⟩
                have e : Lib.byteCells (tupW fk turn W (l.take (i + 1))) = Lib.byteCells A ++ [Value.int .u8 (kb.toNat : Int)] := by
                  rw [tup_snoc HX.out, ← HA.out]
                  unfold valW
                  rw [← HK.out, if_neg hk1', if_neg hk2', if_neg HK3.out]
                  simp [Lib.byteCells]
                rw [e]
                exact hblE
              case measure => simp [intOf]; omega
      · obtain rfl : i = l.length := by omega
        rw [List.take_length] at hbl
        go_wp2_with (fail)
        go_at_call 51
        refine (Tryd.Builder_String_any w1.heap.size w1.heap.size _ wr hbl hsz).mono ?_
        rintro e w4 ⟨rfl, hb4⟩
        go_wp2
        exact bodyPost_ret (v := .tuple #[.string ⟨(tupW fk turn W l).toArray⟩, .bool true]) (by simp [results, Tryd.results34, go_sem]) rfl ⟨rfl, hB1.trans ((hB.trans hb4).mono hB1.size)⟩
end Go.Proofs.YtgfjfpghjjknlaaDoor
