/-
  Lists of texts in memory; the walk of commit.right.
-/
import Derived.Test.YtkjgbldooflodaaCm0
import Derived.Test.YtkjgbldooflodaaShelf
import Derived.Laws.OwnMore
import Derived.Laws.AppendOwnNone
import Derived.OwnWalk
import Derived.Below
import Derived.Lib.Hide
import Derived.BigQuiet
namespace Go.Proofs.Ytkjgbldooflodaa
open Go.RowKit Cm
set_option maxRecDepth 100000
set_option linter.unusedVariables false
set_option linter.unusedSimpArgs false
/-- A load, and bytes made a text, under names of their own: a region's walk then does not try them ahead of their turn. -/
def ldB (t : TypeId) (x : Operand) : Op := .load t x
theorem ldB_eq (t : TypeId) (x : Operand) : ldB t x = .load t x := rfl
def cvB (s d : TypeId) (x : Operand) : Op := .convert s d x
theorem cvB_eq (s d : TypeId) (x : Operand) : cvB s d x = .convert s d x := rfl
theorem below_drewN {B : Nat} {w w' : World} (h : Below B w w') (n : Nat) : Below B w (w'.drewN n) := by
  induction n with
  | zero => exact h
  | succ n ih => exact ih.drew
theorem addr_add_block (a : Addr) (n : Nat) : (a.add n).block = a.block := by unfold Addr.add; split <;> rfl
/-- A slice reads as a list of texts. -/
def Ss (w : World) (o : Option Addr) (l : List ByteArray) : Prop :=
  (l ≠ [] → ∃ a, o = some a) ∧ ∀ a, o = some a → (l ≠ [] → a.block < w.heap.size) ∧ ∀ (i : Nat) (x : ByteArray), l[i]? = some x → w.cell? (a.add i) = some (.string x)
theorem Ss.nil {w : World} {o : Option Addr} : Ss w o [] := ⟨fun h => absurd rfl h, fun a ha => ⟨fun h => absurd rfl h, fun i x hx => by simp at hx⟩⟩
theorem Ss.below {w w' : World} {o : Option Addr} {l : List ByteArray} (h : Ss w o l) (hb : Below w.heap.size w w') : Ss w' o l :=
  ⟨h.1, fun a ha => ⟨fun hn => Nat.lt_of_lt_of_le ((h.2 a ha).1 hn) hb.size, fun i x hx => by
    have hn : l ≠ [] := by intro e; rw [e] at hx; simp at hx
    exact (hb.cell (by rw [addr_add_block]; exact (h.2 a ha).1 hn)).trans ((h.2 a ha).2 i x hx)⟩⟩
theorem Ss.at {w : World} {a : Addr} {l : List ByteArray} (h : Ss w (some a) l) {i : Nat} {x : ByteArray} (hx : l[i]? = some x) : w.cell? (a.add i) = some (.string x) := (h.2 a rfl).2 i x hx
/-- A row of the call's own reads as a list of texts. -/
theorem own_ss {w : World} {base n : Nat} {e : TypeId} {v : Value} {l : List ByteArray} (h : w.ownsRow base e 1 v n (l.map Value.string)) (hn : n = l.length) :
    ∃ o c, v = .slice o l.length c ∧ Ss w o l ∧ (o = none → c = 0) ∧ (∀ a, o = some a → base ≤ a.block ∧ a = ⟨a.block, 0, none⟩ ∧ v.ownBlock = some a.block) ∧ l.length ≤ c := by
  subst hn
  have hl := h.1
  rcases h.2 with ⟨rfl, h0⟩ | ⟨g, cap, cur, rfl, hb, hbk, hc, hr⟩
  · have hl0 : l = [] := by
      cases l with
      | nil => rfl
      | cons x l => simp at h0
    subst hl0
    exact ⟨none, 0, rfl, Ss.nil, fun _ => rfl, (fun a ha => by cases ha), Nat.le_refl _⟩
  · refine ⟨_, _, rfl, ⟨fun _ => ⟨_, rfl⟩, fun a ha => ?_⟩, (fun ha => by cases ha), (fun a ha => by injection ha with ha; subst ha; exact ⟨hb, rfl, rfl⟩), hc⟩
    injection ha with ha
    subst ha
    refine ⟨fun _ => (Array.getElem?_eq_some_iff.1 hbk).1, fun i x hx => h.cells rfl i _ ?_⟩
    rw [List.getElem?_map, hx]
    rfl
/-- An append onto a row of the call's own of a slice that reads as a list of texts; it may be nil. -/
theorem wpList_appS {P : Program} {w : World} {ops : Array Oper} {rest : List Oper} {o : Oper} {a : Act} {Q : Exit → Act → World → Prop} (hgd : o.guard = none) (s x : Operand) (t : TypeId)
    (ho : o.op = .call { callee := .builtin .append, args := #[s, x], argTypes := #[t, t] })
    (base : Nat) (e : TypeId) (i : TypeInfo) (z : Value) (bytes : Nat) (ht : P.underlying t = some (.slice e)) (hi : P.info? e = some i) (hz : i.zero = some z)
    (hsize : i.size = 1) (hby : i.bytes = bytes) (hzs : z.cells.size = 1) (v : Value) (n : Nat) (xs : List Value) (hs : a.eval s = v) (hown : w.ownsRow base e 1 v n xs)
    (oa : Option Addr) (l : List ByteArray) (c : Nat) (hx : a.eval x = .slice oa l.length c) (hn : oa = none → c = 0) (hvs : Ss w oa l)
    (h63 : n + l.length ≤ maxLen) (hbytes : (n + l.length) * bytes ≤ 140737488355328) (hbase : base ≤ w.heap.size)
    (h : ∀ v' w', w'.ownsRow base e 1 v' (n + l.length) (xs ++ l.map Value.string) → w.grownBy w' v.ownBlock → wpList P ops Q rest (a.put o.dst v') w') : wpList P ops Q (o :: rest) a w := by
  cases oa with
  | none =>
    have hy : l = [] := by
      cases l with
      | nil => rfl
      | cons y r => obtain ⟨ad, h⟩ := hvs.1 (by simp); cases h
    subst hy
    obtain rfl := hn rfl
    exact wpList_append_own_none hgd s x t ho base e i 1 ht hi v n xs hs hown hx (h v w (by simpa using hown) (World.grownBy.refl w _))
  | some ad =>
    exact wpList_append_own w hgd s x t ho base e i z 1 bytes ht hi hz hsize hby hzs (by decide) v n xs hs hown ad l.length c (l.map Value.string) hx (by simp) (fun j u hu => by
      rw [List.getElem?_map] at hu
      cases hj : l[j]? with
      | none => rw [hj] at hu; cases hu
      | some y =>
        rw [hj] at hu
        cases hu
        have := (hvs.2 ad rfl).2 j y hj
        simpa using this) (by
      intro u hu
      simp only [List.mem_map] at hu
      obtain ⟨y, _, rfl⟩ := hu
      rfl) h63 hbytes hbase (fun v' w' a b _ => h v' w' a b)
theorem not32_any (s : ByteArray) (w : World) : Calls Try.prog 46 #[.string s] w fun e w' => e = .returned (.bool (!decide (s.size = 32))) ∧ w' = w := by
  by_cases h : (s.size : Int) = 32
  · have h2 : decide (s.size = 32) = true := decide_eq_true (by omega)
    rw [h2]
    go_enter Try.func46, Try.ntmps46
    go_wp2
    go_ret
    exact ⟨rfl, rfl⟩
  · have h2 : decide (s.size = 32) = false := decide_eq_false (by omega)
    rw [h2]
    have h3 : ((s.size : Int) != 32) = true := bne_iff_ne.2 h
    go_enter Try.func46, Try.ntmps46
    go_wp2
    go_ret
    exact ⟨rfl, rfl⟩
theorem any32 (g : Nat) (l : List ByteArray) (c : Nat) (w : World) (h : Ss w (some ⟨g, 0, none⟩) l) (hl : l.length ≤ 140737488351232) :
    Calls Try.prog 45 #[.slice (some ⟨g, 0, none⟩) l.length c, .func (.func 46) #[] #[]] w fun e w' => e = .returned (.bool (!fine l)) ∧ Below w.heap.size w w' := by
  have hp : PredAt Try.prog 46 #[] Value.string (fun s : ByteArray => !decide (s.size = 32)) w := fun W x hb => (not32_any x W).mono (by
    rintro e w' ⟨rfl, rfl⟩
    exact ⟨rfl, 0, rfl⟩)
  have hz := Try.slices_ContainsFunc Value.string (fun s : ByteArray => !decide (s.size = 32)) 46 #[] (fun _ _ => by kernel_rfl) g 0 l.length c l w hp (Nat.le_refl _) (by omega) (fun j hj => by
    have hx : l[j]? = some l[j] := List.getElem?_eq_getElem hj
    have := h.at hx
    rw [show (⟨g, 0, none⟩ : Addr).add j = ⟨g, 0 + j, none⟩ by unfold Addr.add; split <;> simp_all] at this
    rw [this]
    congr 2
    simp [hj])
  refine hz.mono ?_
  rintro e w' ⟨rfl, q, rfl⟩
  refine ⟨?_, below_drewN (Below.refl _ _) q⟩
  rw [List.take_length]
  unfold fine
  rw [List.any_eq_not_all_not]
  simp
theorem cell_new0 (w : World) (x : Value) (T : TypeId) : (w.alloc (.cells #[x] T)).cell? ⟨w.heap.size, 0, none⟩ = some x := by rw [Lib.cell_of_heap (heap_alloc_new w (.cells #[x] T))]; rfl
theorem twice_of {l : List ByteArray} (h : l.length ≠ 2) : twice l = false := by
  unfold twice
  split
  · exact absurd rfl h
  · rfl
set_option maxHeartbeats 4000000 in
theorem cright_any (r : ByteArray) (l : List ByteArray) (m : ByteArray) (o : Option Addr) (c : Nat) (w : World) (h : Ss w o l) (hn : o = none → c = 0) (hl : l.length ≤ 1000) (hm : m.size ≤ 140737488351232) :
    Calls Try.prog 29 #[.agg #[.string r, .slice o l.length c, .string m]] w fun e w' => e = .returned (.bool (right ⟨r, l, m⟩)) ∧ Below w.heap.size w w' := by
  obtain ⟨i0, hi0, hz0, hz1, hz2⟩ := info_parts (P := Try.prog) (e := 9) (z := .string ⟨#[]⟩) (size := 1) (bytes := 16) (by kernel_rfl)
  have hb1 : Below w.heap.size w (w.alloc (.cells #[.string r, .slice o l.length c, .string m] 24)) := (Below.refl _ _).alloc (Nat.le_refl _) _
  have hs1 := h.below hb1
  obtain ⟨res, hres⟩ : ∃ b : Bool, b = right ⟨r, l, m⟩ := ⟨_, rfl⟩
  rw [← hres]
  have HRes := Lib.hid hres
  clear hres
  go_enter Try.func29, Try.ntmps29
  go_wp2_with (at_builtin; go_loud (refine wpList_appS rfl (.tmp 7) (.tmp 9) 22 rfl (w.heap.size + 1) 9 i0 (.string ⟨#[]⟩) 16 Try.underlying22 hi0 hz0 hz1 hz2 rfl _ 1 [.string r] rfl ?h0 o l c rfl hn ?v0 ?m0 ?b0 ?s0 ?_))
  case h0 =>
    have := World.ownsRow_lit (base := w.heap.size + 1) (e := 9) (size := 1) (w.alloc (.cells #[.string r, .slice o l.length c, .string m] 24)) #[.string r] 1 (by simp) (by unfold maxLen; omega) rfl
    simp at this
    exact this
  case v0 => exact hs1.below ((Below.refl _ _).alloc (Nat.le_refl _) _)
  case m0 => unfold maxLen; omega
  case b0 => omega
  case s0 => simp
  intro vr w3 hown3 hgrow3
  have hb2 : Below (w.heap.size + 1) ((w.alloc (.cells #[.string r, .slice o l.length c, .string m] 24))) w3 := ((Below.refl _ _).alloc (by simp) _).grown hgrow3 (by simp) (fun k hk => by simp [Value.ownBlock] at hk; omega)
  have hblk := heap_alloc_new w (.cells #[.string r, .slice o l.length c, .string m] 24)
  have hblk3 := (hb2.block w.heap.size (by omega)).trans hblk
  have k0 : w3.cell? ⟨w.heap.size, 0, none⟩ = some (.string r) := by rw [Lib.cell_of_heap hblk3]; rfl
  have k1 : w3.cell? ⟨w.heap.size, 1, none⟩ = some (.slice o l.length c) := by rw [Lib.cell_of_heap hblk3]; rfl
  have k2 : w3.cell? ⟨w.heap.size, 2, none⟩ = some (.string m) := by rw [Lib.cell_of_heap hblk3]; rfl
  have hB3 : Below w.heap.size w w3 := hb1.trans (hb2.mono (by omega))
  have hs3 := h.below hB3
  obtain ⟨o3, c3, rfl, hr3, _, ho3, hlc⟩ := own_ss (l := r :: l) hown3 (by simp; omega)
  have hrl : (r :: l).length = 1 + l.length := by simp; omega
  obtain ⟨a3, rfl⟩ := hr3.1 (by simp)
  obtain ⟨hba, ha3, _⟩ := ho3 a3 rfl
  obtain ⟨g, hg⟩ : ∃ g, g = a3.block := ⟨_, rfl⟩
  rw [← hg] at ha3
  subst ha3
  rw [hrl]
  have hcont := fun w h => any32 g (r :: l) c3 w h (by simp; omega)
  rw [hrl] at hcont
  have hfin : (!fine (r :: l)) = !(decide (r.size = 32) && fine l) := by unfold fine; rw [List.all_cons]
  rw [hfin] at hcont
  clear hown3 hgrow3 hblk hblk3 hb2 ho3 hba hg hfin hb1 hs1 hlc
  obtain ⟨tw, htw⟩ : ∃ tw, tw = twice l := ⟨_, rfl⟩
  obtain ⟨fn, hfn⟩ : ∃ fn, fn = (decide (r.size = 32) && fine l) := ⟨_, rfl⟩
  rw [← hfn] at hcont
  have hR : res = (decide (l.length ≤ 2) && !tw && decide (m.size ≤ 1000) && fn) := by rw [HRes.out, htw, hfn]; rfl
  clear HRes hfn
  have fin : ∀ n, Below w.heap.size w (w3.drewN n) := fun n => below_drewN hB3 n
  have fin2 : ∀ n w', Below (w3.drewN n).heap.size (w3.drewN n) w' → Below w.heap.size w w' := fun n w' hb => (fin n).trans (hb.mono (fin n).size)
  by_cases h2 : l.length = 2
  · obtain ⟨p, q, hpq⟩ : ∃ p q, l = [p, q] := by
      match l, h2 with
      | [p, q], _ => exact ⟨p, q, rfl⟩
    obtain ⟨a, rfl⟩ := h.1 (by rw [hpq]; simp)
    have ca : w3.cell? a = some (.string p) := hs3.at (i := 0) (x := p) (by rw [hpq]; rfl)
    have cb : w3.cell? ⟨a.block, a.off + 1, none⟩ = some (.string q) := hs3.at (i := 1) (x := q) (by rw [hpq]; rfl)
    have htw2 : (p.toList == q.toList) = tw := by rw [htw, hpq]; rfl
    have e2 : ((l.length : Int) == 2) = true := by rw [beq_iff_eq]; omega
    have e3 : decide ((l.length : Int) ≤ 2) = true := decide_eq_true (by omega)
    have e4 : (0 : Int) < l.length := by omega
    have e5 : (1 : Int) < l.length := by omega
    have e6 : 0 < l.length := by omega
    have e7 : l ≠ [] := by intro e; rw [e] at e6; exact absurd e6 (by simp)
    have e8 : 1 < l.length := by omega
    rw [decide_eq_true (show l.length ≤ 2 by omega), Bool.true_and] at hR
    have HR := Lib.hid (And.intro hR htw2)
    have HT := Lib.hid (And.intro htw hpq)
    clear htw hpq hR h2
    go_wp2
    go_quiet (fail)
    all_goals (
      obtain ⟨hR, _⟩ := HR.out
      have hs4 : Ss (w3.drewN nq) (some ⟨g, 0, none⟩) (r :: l) := hr3.below (below_drewN (Below.refl _ _) _)
      cases tw
      · by_cases hmm : m.size ≤ 1000
        · have e9 : decide ((m.size : Int) ≤ 1000) = true := decide_eq_true (by omega)
          have hR2 : res = fn := by rw [hR, decide_eq_true hmm]; rfl
          clear hmm hR
          go_wp2_with (go_at_call 45; refine (hcont _ hs4).mono ?_; rintro e w5 ⟨rfl, hb5⟩)
          go_ret
          exact ⟨by rw [hR2]; simp, fin2 _ _ hb5⟩
        · have e9 : decide ((m.size : Int) ≤ 1000) = false := decide_eq_false (by omega)
          have hR2 : res = false := by rw [hR, decide_eq_false hmm]; simp
          clear hmm hR
          go_wp2
          go_ret
          exact ⟨by rw [hR2]; rfl, fin _⟩
      · have hR2 : res = false := by rw [hR]; simp
        clear hR
        go_wp2
        go_ret
        exact ⟨by rw [hR2]; rfl, fin _⟩)
  · have htw2 : tw = false := by rw [htw]; exact twice_of h2
    have e2 : ((l.length : Int) == 2) = false := by rw [beq_eq_false_iff_ne]; omega
    by_cases h3 : l.length ≤ 2
    · have e3 : decide ((l.length : Int) ≤ 2) = true := decide_eq_true (by omega)
      rw [decide_eq_true h3, Bool.true_and] at hR
      have HR := Lib.hid hR
      clear htw hR h2 h3
      subst htw2
      go_wp2
      go_quiet (fail)
      all_goals (
        have hR := HR.out
        have hs4 : Ss (w3.drewN nq) (some ⟨g, 0, none⟩) (r :: l) := hr3.below (below_drewN (Below.refl _ _) _)
        by_cases hmm : m.size ≤ 1000
        · have e9 : decide ((m.size : Int) ≤ 1000) = true := decide_eq_true (by omega)
          have hR2 : res = fn := by rw [hR, decide_eq_true hmm]; rfl
          clear hmm hR
          go_wp2_with (go_at_call 45; refine (hcont _ hs4).mono ?_; rintro e w5 ⟨rfl, hb5⟩)
          go_ret
          exact ⟨by rw [hR2]; simp, fin2 _ _ hb5⟩
        · have e9 : decide ((m.size : Int) ≤ 1000) = false := decide_eq_false (by omega)
          have hR2 : res = false := by rw [hR, decide_eq_false hmm]; simp
          clear hmm hR
          go_wp2
          go_ret
          exact ⟨by rw [hR2]; rfl, fin _⟩)
    · have e3 : decide ((l.length : Int) ≤ 2) = false := decide_eq_false (by omega)
      have hR2 : res = false := by rw [hR, decide_eq_false h3]; simp
      clear htw hR h2 h3 htw2
      go_wp2
      go_quiet (fail)
      all_goals (
        go_wp2
        go_ret
        exact ⟨by rw [hR2]; rfl, fin _⟩)
end Go.Proofs.Ytkjgbldooflodaa
