/-
  The walk of the key form's reading of a text.
-/
import Derived.Test.YtgfjfpghjjknlaaDoorCl3
namespace Go.Proofs.YtgfjfpghjjknlaaDoor
open Go.RowKit Cl
set_option maxRecDepth 100000
set_option linter.unusedVariables false
set_option linter.unusedSimpArgs false
/-- A reading told: what it gives, and what is left. -/
def Rd (o : Option (List UInt8 × List UInt8)) (ok : Bool) (t r : ByteArray) : Prop := (ok = true → o = some (t.data.toList, r.data.toList)) ∧ (ok = false → o = none)
def psSize (g : Nat) (w : World) : Nat := match w.cell? ⟨g, 0, none⟩ with | some (.string s) => s.size | _ => 0
theorem psSize_of {w : World} {g : Nat} {s : ByteArray} (h : PS w g s) : psSize g w = s.size := by unfold psSize; rw [h.c0]
theorem PS.below {w w' : World} {g B : Nat} {s : ByteArray} (h : PS w g s) (hb : Below B w w') (hg : g < B) : PS w' g s := (hb.block g hg).trans h
theorem grow_below {w w' : World} (hb : Below w.heap.size w w') (row : Option Nat) : w.grownBy w' row := ⟨hb.os, hb.tape, hb.output, hb.size, fun k hk _ => hb.block k hk⟩
theorem grow_set {w w' : World} {g : Nat} (h : w.grownBy w' (some g)) (v : Value) : w.grownBy (w'.setCell ⟨g, 0, none⟩ v) (some g) :=
  ⟨h.os, h.tape, h.output, by simpa [World.setCell] using h.size, fun k hk hne => (Below.heap_setCell _ _ _ _ (fun e => hne (by simp [e]))).trans (h.block k hk hne)⟩
theorem grow_then {w w1 w2 : World} {row : Option Nat} (h : w.grownBy w1 row) (k : Below w.heap.size w1 w2) : w.grownBy w2 row := ⟨k.os.trans h.os, k.tape.trans h.tape, k.output.trans h.output, Nat.le_trans h.size k.size, fun i hi hne => (k.block i hi).trans (h.block i hi hne)⟩
theorem grow_drewN {w w' : World} {row : Option Nat} (h : w.grownBy w' row) (n : Nat) : w.grownBy (w'.drewN n) row := ⟨h.os, h.tape, h.output, h.size, h.block⟩
theorem bld_drewN {T e : TypeId} {B b : Nat} {bs : List Value} {w : World} (h : Lib.IsBuilder T e B b bs w) (n : Nat) : Lib.IsBuilder T e B b bs (w.drewN n) := h
theorem bld_far {T e : TypeId} {B b g : Nat} {bs : List Value} {w : World} (h : Lib.IsBuilder T e B b bs w) (hg : g < B) (v : Value) : Lib.IsBuilder T e B b bs (w.setCell ⟨g, 0, none⟩ v) := by
  have far : ∀ p, Lib.BuilderAt T e B b p bs w → Lib.BuilderAt T e B b p bs (w.setCell ⟨g, 0, none⟩ v) := by
    intro p hb
    obtain ⟨hB, u, hbk, hown, hne⟩ := hb
    refine ⟨hB, u, (Below.heap_setCell _ _ _ _ (by show b ≠ g; omega)).trans hbk, ?_, hne⟩
    refine hown.kept (row := some g) (grow_set (World.grownBy.refl _ _) _) (.inr fun h => ?_)
    have := (hown.lt g h).1
    omega
  exact h.imp (far _) (far _)
theorem cut_zero (l : List UInt8) : (Lib.cut l [0] = (l, [], false) ∧ Esc.unesc l = none) ∨ ∃ i, i < l.length ∧ Lib.cut l [0] = (l.take i, l.drop (i + 1), true) ∧
    Esc.unesc l = (Esc.unesc (0 :: l.drop (i + 1))).map fun p => (l.take i ++ p.1, p.2) := by
  have hge := Lib.indexByte_ge l 0
  by_cases hm : Lib.indexByte l 0 = -1
  · left
    refine ⟨?_, Esc.unesc_none l fun x hx he => ?_⟩
    · unfold Lib.cut
      rw [Lib.index_one, hm, if_neg (by decide)]
    · obtain ⟨k, hk, hk2⟩ := List.mem_iff_getElem.1 hx
      exact Lib.indexByte_none hm k (by rw [List.getElem?_eq_getElem hk, hk2, he])
  · right
    obtain ⟨i, hi⟩ : ∃ i : Nat, Lib.indexByte l 0 = i := ⟨(Lib.indexByte l 0).toNat, by omega⟩
    obtain ⟨h1, h2⟩ := Lib.indexByte_some hi
    obtain ⟨hil, h3⟩ := List.getElem?_eq_some_iff.1 h1
    refine ⟨i, hil, ?_, ?_⟩
    · unfold Lib.cut
      rw [Lib.index_one, hi, if_pos (by omega)]
      simp
    · have e : l = l.take i ++ 0 :: l.drop (i + 1) := by
        rw [← h3, ← List.drop_eq_getElem_cons hil, List.take_append_drop]
      have ht : ∀ x ∈ l.take i, x ≠ 0 := by
        intro x hx he
        obtain ⟨k, hk, hk2⟩ := List.mem_iff_getElem.1 hx
        rw [List.length_take] at hk
        rw [List.getElem_take] at hk2
        exact h2 k (by omega) (by rw [List.getElem?_eq_getElem (by omega), hk2, he])
      have := Esc.unesc_text (l.take i) (0 :: l.drop (i + 1)) ht
      rw [← e] at this
      exact this
set_option maxHeartbeats 4000000 in
theorem risingR_any (g : Nat) (s : ByteArray) (w : World) (he : Env w) (h : PS w g s) (hs : s.size ≤ 1000000000) (hg : 2 < g) :
    Calls Tryd.prog 57 #[.pointer (some ⟨g, 0, none⟩)] w fun e w' => ∃ (ok : Bool) (t r : ByteArray), e = .returned (.tuple #[.string t, .bool ok]) ∧ PS w' g r ∧ w.grownBy w' (some g) ∧ Rd (Esc.unesc s.data.toList) ok t r ∧ t.size ≤ s.size ∧ r.size ≤ s.size := by
  have hgw := h.lt
  obtain ⟨m, hm⟩ := he.max
  have hw16 := he.lt
  go_enter Tryd.func57, Tryd.ntmps57
  go_wp2
  go_loopw [5] (fun _ wr => ∃ (cur : ByteArray) (acc : List UInt8), PS wr g cur ∧ Lib.IsBuilder 61 5 w.heap.size w.heap.size (Lib.byteCells acc) wr ∧
      acc.length + cur.size ≤ s.size ∧ Hid (Esc.unesc s.data.toList = (Esc.unesc cur.data.toList).map fun p => (acc ++ p.1, p.2)) ∧ w.grownBy wr (some g) ∧ wr.cell? ⟨2, 0, none⟩ = some (.int .i64 m))
    (fun _ wr => psSize g wr)
  case atStart =>
    have hb := (Below.refl w.heap.size w).alloc (Nat.le_refl _) (.cells #[.pointer none, .slice none 0 0] 61)
    refine ⟨s, [], h.below hb hgw, Lib.fresh_isBuilder _ _ w, by simp, Lib.hid ?_, grow_below hb _, (hb.cell (by show 2 < _; omega)).trans hm⟩
    cases h : Esc.unesc s.data.toList <;> simp
  case round =>
    obtain ⟨cur, acc, hp, hbl, hlen, HU, hG, hmr⟩ := hrel
    have c0 := hp.c0
    have f0 := hp.free
    have hws := hG.size
    have hps := psSize_of hp
    have hcut := Tryd.strings_Cut cur ⟨#[0]⟩ m wr (by omega) hmr
    rw [show (⟨#[0]⟩ : ByteArray).data.toList = [0] from rfl] at hcut
    have hcl : cur.data.toList.length = cur.size := rfl
    rcases cut_zero cur.data.toList with ⟨hc, hn⟩ | ⟨i, hi, hc, hn⟩
    · rw [hc] at hcut
      dsimp only at hcut
      go_wp2_with (fail)
      go_at_call 58
      refine hcut.mono ?_
      rintro e w1 ⟨rfl, n, rfl⟩
      go_wp2
      exact bodyPost_ret (v := .tuple #[.string ⟨#[]⟩, .bool false]) (by simp [results, Tryd.results57, go_sem]) rfl
        ⟨false, ⟨#[]⟩, cur, rfl, hp, grow_drewN hG n, ⟨(fun h => by cases h), fun _ => by rw [HU.out, hn]; rfl⟩, Nat.zero_le _, by omega⟩
    · rw [hc] at hcut
      dsimp only at hcut
      obtain ⟨tb, htb⟩ : ∃ tb : ByteArray, tb = ⟨(cur.data.toList.take i).toArray⟩ := ⟨_, rfl⟩
      obtain ⟨rb, hrb⟩ : ∃ rb : ByteArray, rb = ⟨(cur.data.toList.drop (i + 1)).toArray⟩ := ⟨_, rfl⟩
      rw [← htb, ← hrb] at hcut
      have htz : tb.size = i := by rw [htb]; show (cur.data.toList.take i).toArray.size = i; rw [List.size_toArray, List.length_take]; omega
      have hrz : rb.size + (i + 1) = cur.size := by rw [hrb]; show (cur.data.toList.drop (i + 1)).toArray.size + (i + 1) = _; rw [List.size_toArray, List.length_drop]; omega
      have hrl : rb.data.toList = cur.data.toList.drop (i + 1) := by rw [hrb]
      have htl : tb.data.toList = cur.data.toList.take i := by rw [htb]
      rw [← hrl, ← htl] at hn
      have HN := Lib.hid hn
      clear hc hn htb hrb hrl htl
      by_cases hr0 : rb.size = 0
      · have he0 : rb.toList.isEmpty = true := by
          have e : rb.data.toList.length = rb.size := rfl
          rw [toList_data, List.eq_nil_of_length_eq_zero (e.trans hr0)]; rfl
        have hnil : rb.data.toList = [] := List.eq_nil_of_length_eq_zero hr0
        have HNil := Lib.hid hnil
        clear hnil
        go_wp2_with (fail)
        go_at_call 58
        refine hcut.mono ?_
        rintro e w1 ⟨rfl, n, rfl⟩
        go_wp2
        exact bodyPost_ret (v := .tuple #[.string ⟨#[]⟩, .bool false]) (by simp [results, Tryd.results57, go_sem]) rfl
          ⟨false, ⟨#[]⟩, cur, rfl, hp, grow_drewN hG n, ⟨(fun h => by cases h), fun _ => by rw [HU.out, HN.out, HNil.out]; rfl⟩, Nat.zero_le _, by omega⟩
      · have he0 : rb.toList.isEmpty = false := by
          have e : rb.data.toList.length = rb.size := rfl
          rw [toList_data]
          cases hh : rb.data.toList with
          | nil => rw [hh] at e; simp at e; omega
          | cons a l => rfl
        have hr1 : 0 < rb.size := by omega
        obtain ⟨c, hcc⟩ : ∃ c : UInt8, c = rb[0] := ⟨_, rfl⟩
        have hcv : byteAt rb 0 = (c.toNat : Int) := by unfold byteAt; rw [dif_pos hr1, hcc]
        have hix := fun w => run_index_byteAt (P := Tryd.prog) (t := 9) rfl rb 0 0 rfl hr1 w
        rw [hcv] at hix
        obtain ⟨q, hq⟩ : ∃ q : ByteArray, q = rb.extract 1 rb.size := ⟨_, rfl⟩
        have hql : rb.data.toList = c :: q.data.toList := by
          rw [hcc, hq, Lib.extract_to_end]
          have hl1 : 0 < rb.data.toList.length := hr1
          have e : rb.data.toList = rb.data.toList[0]'hl1 :: rb.data.toList.drop 1 := by
            rw [← List.drop_eq_getElem_cons hl1, List.drop_zero]
          exact e
        have hqz : q.size + 1 = rb.size := by rw [hq]; simp; omega
        have HQ := Lib.hid hql
        clear hql hcc hcv
        have hcn : c.toNat < 256 := c.toNat_lt
        go_wp2_with (fail)
        go_at_call 58
        refine hcut.mono ?_
        rintro e w1 ⟨rfl, n, rfl⟩
        have hbl1 := bld_drewN hbl n
        have hG1 := grow_drewN hG n
        have hp1 : PS (wr.drewN n) g cur := hp
        have hm1 : (wr.drewN n).cell? ⟨2, 0, none⟩ = some (.int .i64 m) := hmr
        have hs1 : w.heap.size ≤ (wr.drewN n).heap.size := hws
        have hps1 : psSize g (wr.drewN n) = cur.size := hps
        generalize wr.drewN n = w1 at hbl1 hG1 hp1 hm1 hs1 hps1 ⊢
        have hln : (Lib.byteCells acc).length + tb.size ≤ 140737488355000 := by rw [Lib.byteCells_length]; omega
        go_wp2_with (fail)
        go_at_call 49
        refine (writeString_any w.heap.size w.heap.size (Lib.byteCells acc) tb w1 hbl1 hs1 hln).mono ?_
        rintro e w2 ⟨rfl, hbl2, hb2⟩
        have hp2 := hp1.below hb2 hgw
        have hG2 := grow_then hG1 hb2
        have hm2 : w2.cell? ⟨2, 0, none⟩ = some (.int .i64 m) := (hb2.cell (by show 2 < _; omega)).trans hm1
        have hs2 := hG2.size
        have f2 := hp2.free
        have c2 := hp2.c0
        have hbl3 := bld_far hbl2 hgw (.string q)
        have hp3 := hp2.set q
        have hG3 := grow_set hG2 (.string q)
        have hm3 : (w2.setCell ⟨g, 0, none⟩ (.string q)).cell? ⟨2, 0, none⟩ = some (.int .i64 m) := by
          rw [World.cell?_setCell_other _ _ _ _ (by intro h; injection h with h; omega)]
          exact hm2
        have hs3 := hG3.size
        rw [strCells_bytes] at hbl3
        have hcat : Lib.byteCells acc ++ Lib.byteCells tb.data.toList = Lib.byteCells (acc ++ tb.data.toList) := by simp [Lib.byteCells]
        rw [hcat] at hbl3
        have htn : tb.data.toList.length = tb.size := rfl
        have hps3 := psSize_of hp3
        clear hbl hbl1 hbl2 hG hG1 hG2 hp hp1 hm1 hm2 hmr hln hcat hcut hcl c0 f0
        by_cases h0 : c.toNat = 0
        · have hi0 : (c.toNat : Int) = 0 := by omega
          go_wp2_with (fail)
          rw [← hq]
          go_at_call 51
          refine (Tryd.Builder_String_any w.heap.size w.heap.size _ _ hbl3 hs3).mono ?_
          rintro e w4 ⟨rfl, hb4⟩
          go_wp2
          exact bodyPost_ret (v := .tuple #[.string ⟨(acc ++ tb.data.toList).toArray⟩, .bool true]) (by simp [results, Tryd.results57, go_sem]) rfl
            ⟨true, ⟨(acc ++ tb.data.toList).toArray⟩, q, rfl, hp3.below hb4 hgw, grow_then hG3 hb4, ⟨fun _ => by
              have hcz : c = 0 := by apply UInt8.toNat_inj.1; simpa using h0
              rw [HU.out, HN.out, HQ.out, hcz, Esc.unesc, if_pos rfl, if_pos rfl]
              simp, (fun h => by cases h)⟩, by show (acc ++ tb.data.toList).toArray.size ≤ _; rw [List.size_toArray, List.length_append]; omega, by omega⟩
        · have hi0 : ¬ (c.toNat : Int) = 0 := by omega
          by_cases h255 : c.toNat = 255
          · have hi255 : (c.toNat : Int) = 255 := by omega
            have hln3 : (Lib.byteCells (acc ++ tb.data.toList)).length < 140737488355328 := by rw [Lib.byteCells_length, List.length_append]; omega
            go_wp2_with (fail)
            rw [← hq]
            go_at_call 50
            refine (writeByte_any w.heap.size w.heap.size (Lib.byteCells (acc ++ tb.data.toList)) 0 _ hbl3 hs3 hln3).mono ?_
            rintro e w4 ⟨rfl, hbl4, hb4⟩
            have hp4 := hp3.below hb4 hgw
            have hps4 := psSize_of hp4
            go_wp2
            go_roundw
            case rel =>
              refine ⟨q, acc ++ tb.data.toList ++ [0], hp4, ?_, by simp only [List.length_append, List.length_singleton]; omega, Lib.hid ?_, grow_then hG3 hb4, (hb4.cell (by show 2 < _; omega)).trans hm3⟩
              · have e : Lib.byteCells (acc ++ tb.data.toList ++ [0]) = Lib.byteCells (acc ++ tb.data.toList) ++ [Value.int .u8 0] := by simp [Lib.byteCells]
                rw [e]
                exact hbl4
              · have hcz : c = 255 := by apply UInt8.toNat_inj.1; simpa using h255
                rw [HU.out, HN.out, HQ.out, hcz, Esc.unesc, if_pos rfl, if_neg (by decide), if_pos rfl]
                cases h : Esc.unesc q.data.toList <;> simp
            case measure => rw [hps4, hps]; omega
          · have hi255 : ¬ (c.toNat : Int) = 255 := by omega
            go_wp2
            rw [← hq]
            exact bodyPost_ret (v := .tuple #[.string ⟨#[]⟩, .bool false]) (by simp [results, Tryd.results57, go_sem]) rfl
              ⟨false, ⟨#[]⟩, q, rfl, hp3, hG3, ⟨(fun h => by cases h), fun _ => by
                have hc0 : ¬ c = 0 := fun h => h0 (by rw [h]; rfl)
                have hc1 : ¬ c = 255 := fun h => h255 (by rw [h]; rfl)
                rw [HU.out, HN.out, HQ.out, Esc.unesc, if_pos rfl, if_neg hc0, if_neg hc1]
                rfl⟩, Nat.zero_le _, by omega⟩
/-- What the plain form reads. -/
def plainU (l : List UInt8) : Option (List UInt8 × List UInt8) :=
  if l.length < 2 then none else if (l.drop 2).length < num (l.take 2) then none else some ((l.drop 2).take (num (l.take 2)), (l.drop 2).drop (num (l.take 2)))
theorem num2 (l : List UInt8) (h : l.length ≤ 2) : num l < 65536 := by
  match l, h with
  | [], _ => decide
  | [a], _ => have := a.toNat_lt; simp [num]; omega
  | [a, b], _ => have := a.toNat_lt; have := b.toNat_lt; simp [num]; omega
theorem plainR_all (g : Nat) (s : ByteArray) (w : World) (h : PS w g s) (hs : s.size ≤ 1000000000) :
    Calls Tryd.prog 62 #[.pointer (some ⟨g, 0, none⟩)] w fun e w' => ∃ (ok : Bool) (t r : ByteArray), e = .returned (.tuple #[.string t, .bool ok]) ∧ PS w' g r ∧ w.grownBy w' (some g) ∧ Rd (plainU s.data.toList) ok t r ∧ t.size ≤ s.size ∧ r.size ≤ s.size := by
  have hl : s.data.toList.length = s.size := rfl
  by_cases h2 : s.size < 2
  · refine (plainR_none g s w h (by omega) h2).mono ?_
    rintro e w' ⟨rfl, rfl⟩
    exact ⟨false, _, s, rfl, h, World.grownBy.refl _ _, ⟨(fun h => by cases h), fun _ => by unfold plainU; rw [if_pos (by omega)]⟩, Nat.zero_le _, Nat.le_refl _⟩
  · obtain ⟨t, ht⟩ : ∃ t, t = s.extract 2 s.size := ⟨_, rfl⟩
    obtain ⟨n, hn⟩ : ∃ n, n = num (s.extract 0 2).data.toList := ⟨_, rfl⟩
    have htl : t.data.toList = s.data.toList.drop 2 := by rw [ht, Lib.extract_to_end]
    have htk : (s.extract 0 2).data.toList = s.data.toList.take 2 := by rw [Lib.extract_data]; rfl
    have hnl : n = num (s.data.toList.take 2) := by rw [hn, htk]
    have hn2 : n < 65536 := by rw [hnl]; exact num2 _ (by rw [List.length_take]; omega)
    have hz : t.size + 2 = s.size := by rw [ht]; simp; omega
    have htn : t.data.toList.length = t.size := rfl
    by_cases hlt : t.size < n
    · refine (plainR_short g s t n w h (by omega) (by omega) ht hn hlt hn2).mono ?_
      rintro e w' ⟨rfl, rfl⟩
      refine ⟨false, _, t, rfl, h.set t, grow_set (World.grownBy.refl _ _) _, ⟨(fun h => by cases h), fun _ => ?_⟩, Nat.zero_le _, by omega⟩
      unfold plainU
      rw [if_neg (by omega), ← hnl, ← htl, if_pos (by omega)]
    · refine (plainR_any g s t n w h (by omega) (by omega) ht hn (by omega) hn2).mono ?_
      rintro e w' ⟨rfl, rfl⟩
      refine ⟨true, _, _, rfl, (h.set t).set _, grow_set (grow_set (World.grownBy.refl _ _) _) _, ⟨fun _ => ?_, (fun h => by cases h)⟩, by simp; omega, by simp; omega⟩
      unfold plainU
      rw [if_neg (by omega), ← hnl, ← htl, if_neg (by omega), Lib.extract_to_end, Lib.extract_data]
      rfl
end Go.Proofs.YtgfjfpghjjknlaaDoor
