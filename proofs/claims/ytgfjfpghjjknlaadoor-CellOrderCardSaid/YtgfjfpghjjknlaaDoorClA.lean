/-
  Values out of bytes, in either form; cell.Read and cell.Back.
-/
import Derived.Test.YtgfjfpghjjknlaaDoorCl9
import Derived.Laws.AppendOwn
namespace Go.Proofs.YtgfjfpghjjknlaaDoor
open Go.RowKit Cl
set_option maxRecDepth 100000
set_option linter.unusedVariables false
set_option linter.unusedSimpArgs false
def decF (fk : Int) (turn : Nat) (R : List UInt8 → Option (List UInt8 × List UInt8)) : Nat → List UInt8 → Option (List V)
  | _, [] => some []
  | 0, _ :: _ => none
  | f + 1, b :: l => match dec1 fk turn R (b :: l) with
    | some p => (decF fk turn R f p.2).map fun vs => p.1 :: vs
    | none => none
/-- All values of bytes, up to 64. -/
def vals (fk : Int) (turn : Nat) (R : List UInt8 → Option (List UInt8 × List UInt8)) (l : List UInt8) : Option (List V) :=
  match decF fk turn R l.length l with
  | some vs => if vs.length ≤ 64 then some vs else none
  | none => none
def vcells (l : List V) : List Value := l.flatMap fun v => [.int .i64 v.k, .int .i64 v.n, .string v.s]
theorem vcells_length (l : List V) : (vcells l).length = l.length * 3 := by
  induction l with
  | nil => rfl
  | cons v l ih => unfold vcells at *; rw [List.flatMap_cons, List.length_append, ih]; simp; omega
theorem vcells_snoc (l : List V) (v : V) : vcells (l ++ [v]) = vcells l ++ [.int .i64 v.k, .int .i64 v.n, .string v.s] := by unfold vcells; simp
theorem vcells_at (l : List V) (i : Nat) (x : V) (h : l[i]? = some x) : (vcells l)[i * 3]? = some (.int .i64 x.k) ∧ (vcells l)[i * 3 + 1]? = some (.int .i64 x.n) ∧ (vcells l)[i * 3 + 2]? = some (.string x.s) := by
  induction l generalizing i with
  | nil => simp at h
  | cons v l ih =>
    have e : vcells (v :: l) = .int .i64 v.k :: .int .i64 v.n :: .string v.s :: vcells l := rfl
    rw [e]
    cases i with
    | zero =>
      simp only [List.getElem?_cons_zero, Option.some.injEq] at h
      subst h
      exact ⟨rfl, rfl, rfl⟩
    | succ i =>
      rw [List.getElem?_cons_succ] at h
      obtain ⟨h0, h1, h2⟩ := ih i h
      rw [show (i + 1) * 3 = i * 3 + 1 + 1 + 1 by omega]
      simp only [List.getElem?_cons_succ]
      refine ⟨h0, ?_, ?_⟩
      · exact h1
      · exact h2
/-- A row of the call's own reads as a list of values. -/
theorem own_sl {w : World} {B n : Nat} {v : Value} {l : List V} (h : w.ownsRow B 23 3 v n (vcells l)) (hn : n = l.length) : ∃ o c, v = .slice o l.length c ∧ Sl w o l := by
  subst hn
  rcases h.2 with ⟨rfl, h0⟩ | ⟨g, cap, cur, rfl, hB, hg, _⟩
  · have hl : l = [] := List.eq_nil_of_length_eq_zero h0
    subst hl
    exact ⟨none, 0, rfl, fun h => absurd rfl h, fun a ha => by cases ha⟩
  · refine ⟨_, _, rfl, fun _ => ⟨_, rfl⟩, fun a ha => ?_⟩
    cases ha
    refine ⟨fun _ => (Array.getElem?_eq_some_iff.1 hg).1, fun i x hx => ?_⟩
    obtain ⟨h0, h1, h2⟩ := vcells_at l i x hx
    have hc := h.cells (g := g) rfl
    have e0 := hc _ _ h0
    have e1 := hc _ _ h1
    have e2 := hc _ _ h2
    have ea : ∀ j, ((⟨g, 0, none⟩ : Addr).add j) = ⟨g, j, none⟩ := fun j => by unfold Addr.add; split <;> simp_all
    rw [ea] at e0 e1 e2
    rw [ea]
    exact ⟨e0, e1, e2⟩
/-- What the values of bytes are told to be. -/
def ValsOut (spec : Option (List V)) (w : World) (e : Ending) (w' : World) : Prop := ∃ (o : Option Addr) (c : Nat) (l : List V) (ok : Bool), e = .returned (.tuple #[.slice o l.length c, .bool ok]) ∧ Sl w' o l ∧ Below w.heap.size w w' ∧ (ok = true → spec = some l) ∧ (ok = false → spec = none ∧ l = [])
theorem vals_none {fk : Int} {turn : Nat} {R : List UInt8 → Option (List UInt8 × List UInt8)} {l : List UInt8} (h : decF fk turn R l.length l = none) : vals fk turn R l = none := by unfold vals; rw [h]
theorem decF_step {fk : Int} {turn : Nat} {R : List UInt8 → Option (List UInt8 × List UInt8)} {k : Nat} {l r : List UInt8} {v : V} (hl : l ≠ []) (hk : l.length ≤ k) (h : dec1 fk turn R l = some (v, r)) : decF fk turn R k l = (decF fk turn R (k - 1) r).map fun vs => v :: vs := by
  match l, k, hl, hk with
  | b :: l, k + 1, _, _ =>
    show (match dec1 fk turn R (b :: l) with | some p => (decF fk turn R k p.2).map fun vs => p.1 :: vs | none => none) = _
    rw [h]
    rfl
theorem decF_bad {fk : Int} {turn : Nat} {R : List UInt8 → Option (List UInt8 × List UInt8)} {k : Nat} {l : List UInt8} (hl : l ≠ []) (h : dec1 fk turn R l = none) : decF fk turn R k l = none := by
  match l, k, hl with
  | b :: l, 0, _ => rfl
  | b :: l, k + 1, _ =>
    show (match dec1 fk turn R (b :: l) with | some p => (decF fk turn R k p.2).map fun vs => p.1 :: vs | none => none) = _
    rw [h]
set_option maxHeartbeats 8000000 in
theorem values_any (fk : Int) (turn wf rf : Nat) (R : List UInt8 → Option (List UInt8 × List UInt8)) (hfk : fk = 0 ∨ fk = 1) (htu : turn = 0 ∨ turn = 9223372036854775808) (hR : IsR rf R) (er : ∀ args w, (callFunc rf args).run Tryd.prog w = .ok (.enter rf args) w)
    (s : ByteArray) (w : World) (he : Env w) (hs : s.size ≤ 1000000000) :
    Calls Tryd.prog 38 #[.agg #[.int .i64 fk, .int .u64 turn, .func (.func wf) #[] #[], .func (.func rf) #[] #[]], .string s] w fun e w' => ValsOut (vals fk turn R s.data.toList) w e w' := by
  obtain ⟨i0, hi0, hz0, hz1, hz2⟩ := info_parts (P := Tryd.prog) (e := 23) (z := .agg #[.int .i64 0, .int .i64 0, .string ⟨#[]⟩]) (size := 3) (bytes := 32) (by kernel_rfl)
  have hb1 := ((Below.refl w.heap.size w).alloc (Nat.le_refl _) (.cells #[.int .i64 fk, .int .u64 turn, .func (.func wf) #[] #[], .func (.func rf) #[] #[]] 48)).alloc (by simp) (.cells #[.string s] 9)
  have hf : FormAt ((w.alloc (.cells #[.int .i64 fk, .int .u64 turn, .func (.func wf) #[] #[], .func (.func rf) #[] #[]] 48)).alloc (.cells #[.string s] 9)) w.heap.size fk turn wf rf := (Lib.alloc_old _ _ _ (by simp)).trans (heap_alloc_new w _)
  have hp : PS ((w.alloc (.cells #[.int .i64 fk, .int .u64 turn, .func (.func wf) #[] #[], .func (.func rf) #[] #[]] 48)).alloc (.cells #[.string s] 9)) (w.heap.size + 1) s := by
    have := heap_alloc_new (w.alloc (.cells #[.int .i64 fk, .int .u64 turn, .func (.func wf) #[] #[], .func (.func rf) #[] #[]] 48)) (.cells #[.string s] 9)
    simpa [PS] using this
  have hsz : ((w.alloc (.cells #[.int .i64 fk, .int .u64 turn, .func (.func wf) #[] #[], .func (.func rf) #[] #[]] 48)).alloc (.cells #[.string s] 9)).heap.size = w.heap.size + 2 := by simp
  have hlt16 := he.lt
  generalize hwa : ((w.alloc (.cells #[.int .i64 fk, .int .u64 turn, .func (.func wf) #[] #[], .func (.func rf) #[] #[]] 48)).alloc (.cells #[.string s] 9)) = wa at hb1 hf hp hsz
  have HSZ := Lib.hid hsz
  clear hsz
  go_enter Tryd.func38, Tryd.ntmps38
  go_wp2
  clear hwa
  have hl0 : s.data.toList.length = s.size := rfl
  go_loopw [6] (fun v wr => ∃ (cur : ByteArray) (acc : List V) (k : Nat), PS wr (w.heap.size + 1) cur ∧ FormAt wr w.heap.size fk turn wf rf ∧ wr.ownsRow wa.heap.size 23 3 v acc.length (vcells acc) ∧ acc.length ≤ 64 ∧ cur.size ≤ k ∧ cur.size ≤ s.size ∧
      Hid (decF fk turn R s.data.toList.length s.data.toList = (decF fk turn R k cur.data.toList).map fun vs => acc ++ vs) ∧ Below w.heap.size w wr ∧ wa.heap.size ≤ wr.heap.size)
    (fun _ wr => psSize (w.heap.size + 1) wr)
  case atStart =>
    refine ⟨s, [], s.size, hp, hf, ⟨rfl, .inl ⟨rfl, rfl⟩⟩, by simp, Nat.le_refl _, Nat.le_refl _, Lib.hid ?_, hb1, Nat.le_refl _⟩
    rw [hl0]
    cases decF fk turn R s.size s.data.toList <;> simp
  case round =>
    obtain ⟨cur, acc, k, hp, hf, hown, hlen, hk, hcs, HD, hB, hsz⟩ := hrel
    have hps := psSize_of hp
    have c0 := hp.c0
    have hcl : cur.data.toList.length = cur.size := rfl
    have hB2 := hB.size
    by_cases hc0 : cur.size = 0
    · have hnil : cur.data.toList = [] := List.eq_nil_of_length_eq_zero hc0
      have hcE : cur.toList.isEmpty = true := by rw [toList_data, hnil]; rfl
      obtain ⟨o, c, hv, hsl⟩ := own_sl hown rfl
      have hspec : vals fk turn R s.data.toList = some acc := by
        have h := HD.out
        rw [hnil] at h
        have e : decF fk turn R k [] = some [] := by cases k <;> rfl
        rw [e] at h
        simp only [Option.map_some, List.append_nil] at h
        unfold vals
        rw [h]
        dsimp only
        rw [if_pos hlen]
      have HSP := Lib.hid hspec
      clear hspec hnil hown
      subst hv
      go_wp2
      exact bodyPost_ret (v := .tuple #[.slice o acc.length c, .bool true]) (by simp [results, Tryd.results38, go_sem]) rfl ⟨o, c, acc, true, rfl, hsl, hB, fun _ => HSP.out, fun h => by cases h⟩
    · have hcE : cur.toList.isEmpty = false := by
        rw [toList_data]
        cases hh : cur.data.toList with
        | nil => rw [hh] at hcl; simp at hcl; omega
        | cons a l => rfl
      have hne : cur.data.toList ≠ [] := by intro h; rw [h] at hcl; simp at hcl; omega
      have HNE := Lib.hid hne
      clear hne
      obtain ⟨f0, f1, f2, f3⟩ := hf.cells
      have heR := he.below hB hlt16
      have hbound : wa.heap.size = w.heap.size + 2 := HSZ.out
      have hval := value_any fk turn wf rf R hfk htu hR er (w.heap.size + 1) cur wr heR hp (by omega) (by omega) (by omega)
      have HB := Lib.hid hbound
      clear hbound
      go_wp2_with (fail)
      go_at_call 65
      refine hval.mono ?_
      rintro e w5 ⟨ok, v, r, rfl, hp5, hG5, hr5, hok, hno⟩
      have hbd := HB.out
      have hown5 := hown.kept hG5 (by
        cases h : u6.ownBlock with
        | none => exact .inl rfl
        | some j => exact .inr (fun e => by
            have := (hown.lt j h).1
            simp only [Option.some.injEq] at e
            omega))
      have hf5 := hf.grow hG5 (by omega)
      have hB5 : Below w.heap.size w w5 := hB.grown hG5 hB2 (fun j hj => by simp only [Option.some.injEq] at hj; omega)
      have hs5 := hG5.size
      have hps5 := psSize_of hp5
      clear hbd f0 f1 f2 f3 c0 hown hp hf hval
      cases ok
      · have hbad := hno rfl
        have hspec : vals fk turn R s.data.toList = none := by
          apply vals_none
          rw [HD.out, decF_bad HNE.out hbad]
          rfl
        have HSP := Lib.hid hspec
        clear hspec hbad hok hno hown5
        go_wp2
        exact bodyPost_ret (v := .tuple #[.slice none 0 0, .bool false]) (by simp [results, Tryd.results38, go_sem]) rfl ⟨none, 0, [], false, rfl, ⟨fun h => absurd rfl h, fun a ha => by cases ha⟩, hB5.alloc hB5.size _, (fun h => by cases h), fun _ => ⟨HSP.out, rfl⟩⟩
      · have hgood := hok rfl
        have hstep := decF_step HNE.out (by rw [hcl]; exact hk) hgood
        have hD2 : decF fk turn R s.data.toList.length s.data.toList = (decF fk turn R (k - 1) r.data.toList).map fun vs => (acc ++ [v]) ++ vs := by
          rw [HD.out, hstep]
          cases decF fk turn R (k - 1) r.data.toList <;> simp
        have HD2 := Lib.hid hD2
        clear hD2 hstep hgood hok hno
        by_cases h64 : acc.length = 64
        · have hspec : vals fk turn R s.data.toList = none := by
            unfold vals
            rw [HD2.out]
            cases decF fk turn R (k - 1) r.data.toList with
            | none => rfl
            | some vs =>
              simp only [Option.map_some]
              rw [if_neg (by simp only [List.length_append, List.length_singleton]; omega)]
          have HSP := Lib.hid hspec
          have h64i : (acc.length : Int) = 64 := by omega
          obtain ⟨o, c, hv, hsl⟩ := own_sl hown5 rfl
          subst hv
          clear hspec hown5 hsl
          go_wp2
          exact bodyPost_ret (v := .tuple #[.slice none 0 0, .bool false]) (by simp [results, Tryd.results38, go_sem]) rfl ⟨none, 0, [], false, rfl, ⟨fun h => absurd rfl h, fun a ha => by cases ha⟩, hB5.alloc hB5.size _, (fun h => by cases h), fun _ => ⟨HSP.out, rfl⟩⟩
        · have h64i : ¬ (acc.length : Int) = 64 := by omega
          obtain ⟨o, c, hv, hsl⟩ := own_sl hown5 rfl
          subst hv
          clear hsl
          have hw5 : wa.heap.size ≤ w5.heap.size := Nat.le_trans hsz hs5
          go_wp2_with (at_builtin; go_loud (refine wpList_append_own _ rfl _ _ 27 rfl wa.heap.size 23 i0 (.agg #[.int .i64 0, .int .i64 0, .string ⟨#[]⟩]) 3 32 Tryd.underlying27 hi0 hz0 hz1 hz2 rfl (by decide) _ _ _ rfl ((hown5.alloc _).alloc _) ⟨w5.heap.size + 1, 0, none⟩ 1 1 [.int .i64 v.k, .int .i64 v.n, .string v.s] rfl rfl ?c1 ?c2 ?c3 ?c4 ?c5 ?_))
          case c1 => exact World.news_of_block (cs := #[.int .i64 v.k, .int .i64 v.n, .string v.s]) (t := 23) (fr := (0, 0)) (by have := heap_alloc_new (w5.alloc (.cells #[.int .i64 v.k, .int .i64 v.n, .string v.s] 23)) (.cells #[.int .i64 v.k, .int .i64 v.n, .string v.s] 23); simpa using this)
          case c2 => simp [Value.oneCell']
          case c3 => unfold maxLen; omega
          case c4 => omega
          case c5 => simp; omega
          intro v' w6 hown6 hgrow hnil
          have hbd := HB.out
          have hlj : ∀ j, (Value.slice o acc.length c).ownBlock = some j → wa.heap.size ≤ j := fun j hj => (hown5.lt j hj).1
          have hne1 : some (w.heap.size + 1) ≠ (Value.slice o acc.length c).ownBlock := fun e => by have := hlj _ e.symm; omega
          have hne0 : some w.heap.size ≠ (Value.slice o acc.length c).ownBlock := fun e => by have := hlj _ e.symm; omega
          have hp6 : PS w6 (w.heap.size + 1) r := (hgrow.block _ (by have := hp5.lt; simp; omega) hne1).trans ((hp5.alloc _).alloc _)
          have hf6 : FormAt w6 w.heap.size fk turn wf rf := (hgrow.block _ (by have := hp5.lt; simp; omega) hne0).trans ((Lib.alloc_old _ _ _ (by have := hp5.lt; simp; omega)).trans ((Lib.alloc_old _ _ _ (by have := hp5.lt; omega)).trans hf5))
          have hB6 : Below w.heap.size w w6 := ((hB5.alloc hB5.size _).alloc (Nat.le_trans hB5.size (by simp)) _).grown hgrow (Nat.le_trans hB5.size (by simp; omega)) (fun j hj => by have := hlj j hj; omega)
          have hs6 : wa.heap.size ≤ w6.heap.size := Nat.le_trans hw5 (Nat.le_trans (by simp; omega) hgrow.size)
          have hps6 := psSize_of hp6
          have e : vcells (acc ++ [v]) = vcells acc ++ [.int .i64 v.k, .int .i64 v.n, .string v.s] := vcells_snoc acc v
          have hlen6 : (acc ++ [v]).length = acc.length + 1 := by simp
          have HW := Lib.hid (And.intro e hlen6)
          clear e hlen6 hbd hlj hne1 hne0 hgrow hnil hown5 hf5 hp5 hps5
          go_wp2
          go_roundw
          case rel =>
            refine ⟨r, acc ++ [v], k - 1, hp6, hf6, ?_, by rw [HW.out.2]; omega, by omega, by omega, HD2, hB6, hs6⟩
            rw [HW.out.1, HW.out.2]
            exact hown6
          case measure => rw [hps6, hps]; omega
theorem back_any (s : ByteArray) (w : World) (he : Env w) (hs : s.size ≤ 1000000000) :
    Calls Tryd.prog 20 #[.string s] w fun e w' => ValsOut (vals 1 9223372036854775808 Esc.unesc s.data.toList) w e w' := by
  have ht := fun w1 (hb : Below w.heap.size w w1) => values_any 1 9223372036854775808 56 57 Esc.unesc (by decide) (by decide) isR1 enters_rising2 s w1 (he.below hb he.lt) hs
  generalize vals 1 9223372036854775808 Esc.unesc s.data.toList = sp at ht ⊢
  go_enter Tryd.func20, Tryd.ntmps20
  go_wp2_with (fail)
  go_at_call 33
  refine (rising_any w).mono ?_
  rintro e w1 ⟨rfl, hb1⟩
  go_wp2_with (fail)
  go_at_call 38
  refine (ht w1 hb1).mono ?_
  rintro e w2 ⟨o, c, l, ok, rfl, hsl, hb2, hok, hno⟩
  go_wp2
  exact bodyPost_ret (v := .tuple #[.slice o l.length c, .bool ok]) (by simp [results, Tryd.results20, go_sem]) rfl ⟨o, c, l, ok, rfl, hsl, hb1.trans (hb2.mono hb1.size), hok, hno⟩
theorem read_any (s : ByteArray) (w : World) (he : Env w) (hs : s.size ≤ 1000000000) :
    Calls Tryd.prog 19 #[.string s] w fun e w' => ValsOut (vals 0 0 plainU s.data.toList) w e w' := by
  have ht := fun w1 (hb : Below w.heap.size w w1) => values_any 0 0 61 62 plainU (by decide) (by decide) isR0 enters_plain2 s w1 (he.below hb he.lt) hs
  generalize vals 0 0 plainU s.data.toList = sp at ht ⊢
  go_enter Tryd.func19, Tryd.ntmps19
  go_wp2_with (fail)
  go_at_call 35
  refine (plain_any w).mono ?_
  rintro e w1 ⟨rfl, hb1⟩
  go_wp2_with (fail)
  go_at_call 38
  refine (ht w1 hb1).mono ?_
  rintro e w2 ⟨o, c, l, ok, rfl, hsl, hb2, hok, hno⟩
  go_wp2
  exact bodyPost_ret (v := .tuple #[.slice o l.length c, .bool ok]) (by simp [results, Tryd.results19, go_sem]) rfl ⟨o, c, l, ok, rfl, hsl, hb1.trans (hb2.mono hb1.size), hok, hno⟩
end Go.Proofs.YtgfjfpghjjknlaaDoor
