/-
  The walk of commit.Ahead at a commit with one ahead.
-/
import Derived.Test.YtkjgbldooflodaaCmR
namespace Go.Proofs.Ytkjgbldooflodaa
open Go.RowKit Cm Mp
set_option maxRecDepth 100000
set_option linter.unusedVariables false
set_option linter.unusedSimpArgs false
theorem ahd_two {S : ByteArray → Option ByteArray} {a b : ByteArray} (hpa : par S a = some []) (hpb : par S b = some [a]) (s : ByteArray) : Ahd S b s ↔ (s = b ∨ s = a) := by
  constructor
  · intro h
    induction h with
    | refl => exact .inl rfl
    | step hs hl hq ih =>
      rcases ih with rfl | rfl
      · rw [hpb] at hl
        cases hl
        exact .inr (by simpa using hq)
      · rw [hpa] at hl
        cases hl
        cases hq
  · rintro (rfl | rfl)
    · exact .refl
    · exact .step .refl hpb (by simp)
/-- The graph of two. -/
def g2 (a b : ByteArray) : ByteArray → Option (List ByteArray) := fun s => if s = b then some [a] else if s = a then some [] else none
theorem full_two {S : ByteArray → Option ByteArray} {a b : ByteArray} {g : ByteArray → Option (List ByteArray)} (hpa : par S a = some []) (hpb : par S b = some [a]) (h : Full S b g) : g = g2 a b := by
  funext s
  unfold g2
  cases hg : g s with
  | none =>
    have hn : ¬ (s = b ∨ s = a) := fun e => by
      have := (h.dom s).2 ((ahd_two hpa hpb s).2 e)
      rw [hg] at this
      cases this
    rw [if_neg (fun e => hn (.inl e)), if_neg (fun e => hn (.inr e))]
  | some l =>
    have h1 := h.tells s l hg
    have h2 := (ahd_two hpa hpb s).1 ((h.dom s).1 (by rw [hg]; rfl))
    by_cases hsb : s = b
    · rw [if_pos hsb]
      subst hsb
      rw [hpb] at h1
      rw [h1]
    · rw [if_neg hsb]
      rcases h2 with h2 | h2
      · exact absurd h2 hsb
      · rw [if_pos h2]
        subst h2
        rw [hpa] at h1
        rw [h1]
theorem Mp.MF.notCells {w : World} {b n g : Nat} {f : ByteArray → Option Value} {cs : Array Value} {T : TypeId} {fr : Nat × Nat} (h : MF w b n f) (hc : w.heap[g]? = some (.cells cs T fr)) : b ≠ g := by
  intro e
  obtain ⟨D, ⟨es, clock, hb, _⟩, _⟩ := h
  rw [e, hc] at hb
  cases hb
theorem own_ne_box {w : World} {B B' fb rb c go n co : Nat} {l : List ByteArray} {xs : List Value} (h : Bx w B fb rb c l) (ho : w.ownsRow B' 9 1 (.slice (some ⟨go, 0, none⟩) n co) n xs) : go ≠ fb := by
  intro e
  rcases ho.2 with ⟨e1, _⟩ | ⟨g, cap, cur, e1, _, hb, _⟩
  · cases e1
  · injection e1 with e1 _ _
    injection e1 with e1
    injection e1 with e1 _ _
    rw [← e1, e, h.box] at hb
    injection hb with hb
    injection hb with _ hb _
    exact absurd hb (by decide)
theorem own_ne_row {w : World} {B B' fb rb c go n co : Nat} {a b : ByteArray} {l : List ByteArray} {xs : List Value} (h : Bx w B fb rb c (a :: l)) (ho : w.ownsRow B' 9 1 (.slice (some ⟨go, 0, none⟩) n co) n (.string b :: xs)) (hab : a ≠ b) : go ≠ rb := by
  intro e
  have h1 := ho.cells rfl 0 (.string b) rfl
  have h2 := h.row.cells rfl 0 (.string a) rfl
  rw [e, h2] at h1
  injection h1 with h1
  injection h1 with h1
  exact hab h1
theorem own_but {w w' : World} {B fb rb go n co : Nat} {xs : List Value} (h : w.ownsRow B 9 1 (.slice (some ⟨go, 0, none⟩) n co) n xs) (hb : But fb rb w w') (h1 : go ≠ fb) (h2 : go ≠ rb) : w'.ownsRow B 9 1 (.slice (some ⟨go, 0, none⟩) n co) n xs := by
  refine ⟨h.1, ?_⟩
  rcases h.2 with ⟨e1, _⟩ | ⟨g, cap, cur, e1, e2, hbk, e3⟩
  · cases e1
  · have e4 := e1
    injection e4 with e4 _ _
    injection e4 with e4
    injection e4 with e4 _ _
    exact .inr ⟨g, cap, cur, e1, e2, (hb.2.2.2.2 g (Array.getElem?_eq_some_iff.1 hbk).1 (by omega) (by omega)).trans hbk, e3⟩
theorem Mp.MF.but {w w' : World} {b n fb rb : Nat} {f : ByteArray → Option Value} (h : MF w b n f) (hb : But fb rb w w') (h1 : b ≠ fb) (h2 : b ≠ rb) : MF w' b n f := h.block (hb.2.2.2.2 b h.lt h1 h2)
theorem Mp.MF.ne_box {w : World} {B fb rb c b n : Nat} {l : List ByteArray} {f : ByteArray → Option Value} (h : MF w b n f) (hb : Bx w B fb rb c l) : b ≠ fb ∧ b ≠ rb := by
  refine ⟨h.notCells hb.box, ?_⟩
  rcases hb.row.2 with ⟨e1, _⟩ | ⟨g, cap, cur, e1, _, hbk, _⟩
  · cases e1
  · injection e1 with e1 _ _
    injection e1 with e1
    injection e1 with e1 _ _
    rw [e1]
    exact h.notCells hbk
theorem Bx.far {w w' : World} {B fb rb c : Nat} {l : List ByteArray} {row : Option Nat} (h : Bx w B fb rb c l) (hg : w.grownBy w' row) (h1 : some fb ≠ row) (h2 : some rb ≠ row) : Bx w' B fb rb c l :=
  ⟨(hg.block fb (Array.getElem?_eq_some_iff.1 h.box).1 h1).trans h.box, h.row.kept hg (.inr h2)⟩
theorem below_but {w0 w w' : World} {B fb rb : Nat} (h : Below B w0 w) (hb : But fb rb w w') (hB : B ≤ w.heap.size) (h1 : B ≤ fb) (h2 : B ≤ rb) : Below B w0 w' :=
  ⟨hb.1.trans h.os, hb.2.1.trans h.tape, hb.2.2.1.trans h.output, Nat.le_trans h.size hb.2.2.2.1, fun k hk => (hb.2.2.2.2 k (by omega) (by omega) (by omega)).trans (h.block k hk)⟩
theorem ss_new (w : World) (x : ByteArray) (T : TypeId) : Ss (w.alloc (.cells #[.string x] T)) (some ⟨w.heap.size, 0, none⟩) [x] := by
  refine ⟨fun _ => ⟨_, rfl⟩, fun a ha => ?_⟩
  injection ha with ha
  subst ha
  refine ⟨fun _ => by simp, fun i y hy => ?_⟩
  match i, hy with
  | 0, hy =>
    cases hy
    exact cell_new0 w (.string x) T
def lenSl : Value → Nat
  | .slice _ n _ => n
  | _ => 0
/-- How many behind are not told: of one. -/
def one1 (a : ByteArray) (k : Int) : ByteArray → Option Value := fun s => if s = a then some (.int .i64 k) else none
theorem zeroI (w : World) : (zeroValue 3).run Try.prog w = .ok (.int .i64 0) w := by kernel_rfl
set_option maxHeartbeats 8000000 in
theorem ahead_two (S : ByteArray → Option ByteArray) (K : List ByteArray) (hb mb ns : Nat) (a b : ByteArray) (w : World) (hS : Src w hb mb ns S) (hK : ∀ s, S s ≠ none → s ∈ K) (hKl : K.length ≤ 100000) (hz : ∀ s t, S s = some t → t.size ≤ 1000000)
    (hab : a ≠ b) (hpa : par S a = some []) (hpb : par S b = some [a]) (ha32 : a.size ≤ maxLen) (hb32 : b.size ≤ maxLen) :
    Calls Try.prog 20 #[hp hb, .string b] w fun e w' => ∃ o c, e = .returned (.tuple #[.slice o 2 c, .int .i64 0]) ∧ Ss w' o [b, a] ∧ Below w.heap.size w w' := by
  obtain ⟨i0, hi0, hz0, hz1, hz2⟩ := info_parts (P := Try.prog) (e := 9) (z := .string ⟨#[]⟩) (size := 1) (bytes := 16) (by kernel_rfl)
  obtain ⟨l1, l2⟩ := hS.lt
  have hb1 : Below w.heap.size w (w.alloc (.map #[] 0)) := (Below.refl _ _).alloc (Nat.le_refl _) _
  have hadd := add_any S K hb mb ns w.heap.size b (w.alloc (.map #[] 0)) (hS.below hb1 l1 l2) hK hKl hz (GR.made w none) (by omega) (by omega) hb32
  have hadd2 : Calls Try.prog 36 #[.map (some w.heap.size), hp hb, .string b] (w.alloc (.map #[] 0)) fun e w' => e = .returned (.int .i64 0) ∧ (∃ n, GR w' w.heap.size n none (g2 a b)) ∧ Below w.heap.size w w' := by
    refine hadd.mono ?_
    rintro e w' ⟨hg, ⟨rfl, g, n, vis, hgr, hf, _⟩ | ⟨_, s, hs, hn⟩⟩
    · rw [full_two hpa hpb hf] at hgr
      refine ⟨rfl, ⟨n, hgr⟩, hg.os, hg.tape, hg.output, Nat.le_trans (by simp) hg.size, fun k hk => (hg.block k (by simp; omega) (by simp; omega)).trans (Lib.alloc_old w _ k hk)⟩
    · rcases (ahd_two hpa hpb s).1 hs with rfl | rfl
      · rw [hpb] at hn; cases hn
      · rw [hpa] at hn; cases hn
  clear hadd
  have hmm := @run_makeMap Try.prog
  go_enter Try.func20, Try.ntmps20
  go_wp2_with (go_at_call 36; refine hadd2.mono ?_; rintro e w2 ⟨rfl, ⟨n, hgr2⟩, hB2⟩; obtain ⟨F, hF, hT⟩ := hgr2; have hG0 := hF.lt; have hF' := MF.block hF (Lib.alloc_old w2 (.map #[] 0) w.heap.size hG0); obtain ⟨w3, cnt0, hrng, hRF, hg3, hsz3⟩ := hF'.range 79 22 Try.underlying79)
  have hr : (w2.alloc (.map #[] 0)).heap.size = w2.heap.size + 1 := by simp
  rw [hr] at hRF
  have hB3 : Below w2.heap.size w2 w3 := ⟨hg3.os, hg3.tape, hg3.output, Nat.le_trans (by simp) hg3.size, fun k hk => (hg3.block k (by simp; omega) (by simp)).trans (Lib.alloc_old w2 _ k hk)⟩
  have hM3 : MF w3 w2.heap.size 0 (fun _ => none) := (MF.made w2).grown hg3 (by simp)
  have hw2l := hB2.size
  clear hr hg3 hsz3 hrng hF'
  have HT := Lib.hid hT
  clear hT
  go_loopw [10] (fun _ wr => ∃ left cnt, RF wr w.heap.size (w2.heap.size + 1) n F left cnt ∧ Below w2.heap.size w2 wr ∧ ((left b = true ∧ MF wr w2.heap.size 0 (fun _ => none)) ∨ (left b = false ∧ MF wr w2.heap.size 1 (one1 a 1))))
    (fun _ wr => wr.rangeLeft w.heap.size (w2.heap.size + 1))
  case atStart =>
    refine ⟨_, _, hRF, hB3, .inl ⟨?_, hM3⟩⟩
    have := HT.out b
    unfold Tells g2 at this
    rw [if_pos rfl] at this
    obtain ⟨o, cp, e1, _⟩ := this
    rw [e1]
    rfl
  case round =>
    obtain ⟨left, cnt, hRF, hB, hM⟩ := hrel
    rcases hRF.next 0 with ⟨hc0, hl0, hrun⟩ | ⟨s, v, wn, cnt', hsz, hls, hfs, hrun, hRF', hlt, hgn, hszn, hent⟩
    · have hM1 : MF wr w2.heap.size 1 (one1 a 1) := by
        rcases hM with ⟨h1, _⟩ | ⟨_, h2⟩
        · rw [hl0 b] at h1; cases h1
        · exact h2
      clear hM hRF hc0 hl0
      obtain ⟨wo, rfl⟩ : ∃ wo : World, wo = wr := ⟨_, rfl⟩
      have hwol := hB.size
      have hgr2 : GR w2 w.heap.size n none (g2 a b) := ⟨F, hF, HT.out⟩
      go_wp2
      go_loopw [13] (fun v wx => ∃ (rb c : Nat), Below w2.heap.size w2 wx ∧ w2.heap.size ≤ rb ∧
          ((v = .slice none 0 0 ∧ Bx wx w2.heap.size (wo.heap.size + 1) rb c [b] ∧ MF wx w2.heap.size 1 (one1 a 1)) ∨
           (∃ go co, v = .slice (some ⟨go, 0, none⟩) 1 co ∧ wx.ownsRow w2.heap.size 9 1 (.slice (some ⟨go, 0, none⟩) 1 co) 1 [.string b] ∧ Bx wx w2.heap.size (wo.heap.size + 1) rb c [a] ∧ MF wx w2.heap.size 2 (one1 a 0)) ∨
           (∃ go co, v = .slice (some ⟨go, 0, none⟩) 2 co ∧ wx.ownsRow w2.heap.size 9 1 (.slice (some ⟨go, 0, none⟩) 2 co) 2 [.string b, .string a] ∧ Bx wx w2.heap.size (wo.heap.size + 1) rb c [])))
        (fun v _ => 3 - lenSl v)
      case atStart =>
        have hrow := World.ownsRow_lit (base := w2.heap.size) (e := 9) (size := 1) wo #[.string b] 1 hwol (by unfold maxLen; omega) rfl
        have hbx := heap_alloc_new (wo.alloc (.cells #[.string b] 9)) (.cells #[.slice (some ⟨wo.heap.size, 0, none⟩) 1 1] 82)
        have hsz : (wo.alloc (.cells #[.string b] 9)).heap.size = wo.heap.size + 1 := by simp
        rw [hsz] at hbx
        refine ⟨wo.heap.size, 1, (hB.alloc hwol _).alloc (by rw [hsz]; omega) _, hwol, .inl ⟨rfl, ⟨hbx, hrow.alloc _⟩, ?_⟩⟩
        exact (hM1.block (Lib.alloc_old _ _ _ hM1.lt)).block (Lib.alloc_old _ _ _ (by rw [hsz]; have := hM1.lt; omega))
      case round =>
        obtain ⟨rb, c, hBr, hrb, hst⟩ := hrel
        have hwrl := hBr.size
        have hgr := hgr2.below hBr
        have hta := ta_str
        have hlp : (Value.iface 81 (.pointer (some ⟨wo.heap.size + 1, 0, none⟩))) = lp (wo.heap.size + 1) := rfl
        rcases hst with ⟨rfl, hbx, hM⟩ | ⟨go, co, rfl, hown, hbx, hM⟩ | ⟨go, co, rfl, hown, hbx⟩
        · obtain ⟨nb1, nb2⟩ := hM.ne_box hbx
          have k0 : wr.cell? ⟨wo.heap.size + 1, 0, none⟩ = some (.slice (some ⟨rb, 0, none⟩) 1 c) := by rw [Lib.cell_of_heap hbx.box]; rfl
          have hpop := hpop_one w2.heap.size (wo.heap.size + 1) rb c b wr hbx
          unfold lp at hpop
          have hfl := (Array.getElem?_eq_some_iff.1 hbx.box).1
          have HM := Lib.hid hM
          clear hM hgr hbx
          go_wp2_with (first | (go_at_call 37; refine (len_any _ _ _ _).mono ?_; rintro e w4 ⟨rfl, rfl⟩) | (go_at_call 38; refine hpop.mono ?_; rintro e w4 ⟨rfl, hbx4, hbut4⟩; have HB := Lib.hid hbut4; have HX4 := Lib.hid hbx4; have hsz4 := hbut4.2.2.2.1; clear hbut4 hbx4) | (at_builtin; go_loud (refine wpList_appAt rfl (.tmp 56) (.tmp 58) 22 rfl w2.heap.size 9 i0 (.string ⟨#[]⟩) 16 Try.underlying22 hi0 hz0 hz1 hz2 rfl (.slice none 0 0) 0 [] rfl (World.ownsRow_nil _ _ _ _) (some ⟨w4.heap.size, 0, none⟩) [b] 1 rfl 1 rfl (fun e => by cases e) (ss_new w4 b _) ?m0 ?b0 ?s0 ?_)))
          case m0 => unfold maxLen; simp
          case b0 => simp
          case s0 => simp; omega
          intro v5 w5 hown5 hg5 hloc5
          have hB4 : Below w2.heap.size w2 w4 := below_but hBr HB.out hwrl (by omega) hrb
          have hM4 := HM.out.but HB.out nb1 nb2
          have hg45 : w4.grownBy w5 none := (World.grownBy_alloc w4 (.cells #[.string b] 9) none).trans hg5
          have hB5 : Below w2.heap.size w2 w5 := ⟨hg45.os.trans hB4.os, hg45.tape.trans hB4.tape, hg45.output.trans hB4.output, Nat.le_trans hB4.size hg45.size, fun k hk => (hg45.block k (Nat.lt_of_lt_of_le hk hB4.size) (by simp)).trans (hB4.block k hk)⟩
          have hM5 := hM4.grown hg45 (by simp)
          have hbx5 := HX4.out.far hg45 (by simp) (by simp)
          obtain ⟨go, co, rfl, hgo⟩ : ∃ go co, v5 = .slice (some ⟨go, 0, none⟩) 1 co ∧ wo.heap.size + 1 < go := by
            rcases hown5.2 with ⟨e1, e2⟩ | ⟨g, cap, cur, e1, _⟩
            · cases e2
            · refine ⟨g, cap, e1, ?_⟩
              rw [e1] at hloc5
              simp [Value.ownBlock] at hloc5
              omega
          obtain ⟨o, k, cp, hrun, hk, hss, _, _⟩ := (hgr2.below hB5).get 79 Try.underlying79 b hb32 false
          have hgb : (g2 a b b).getD [] = [a] := by unfold g2; rw [if_pos rfl]; rfl
          rw [hgb] at hk hss
          obtain rfl : k = 1 := hk
          replace hrun : (Instr.lookup 79 (.map (some w.heap.size)) (.string b) false).run Try.prog w5 = .ok (.slice o 1 cp) w5 := hrun
          obtain ⟨ad, rfl⟩ := hss.1 (by simp)
          have hca : w5.cell? ad = some (.string a) := hss.at (i := 0) (x := a) rfl
          have hlk := hM5.get 54 3 Try.underlying54 (zeroI w5) a ha32 false
          replace hlk : (Instr.lookup 54 (.map (some w2.heap.size)) (.string a) false).run Try.prog w5 = .ok (.int .i64 1) w5 := by
            rw [hlk]
            simp [one1]
          obtain ⟨w6, hup, hM6, hg6⟩ := hM5.put 54 3 Try.underlying54 (by decide) a ha32 (.int .i64 0)
          have hlk6 := hM6.get 54 3 Try.underlying54 (zeroI w6) a ha32 false
          replace hlk6 : (Instr.lookup 54 (.map (some w2.heap.size)) (.string a) false).run Try.prog w6 = .ok (.int .i64 0) w6 := by
            rw [hlk6]
            simp
          have hM6' : MF w6 w2.heap.size 2 (one1 a 0) := by
            have : (fun x => if x = a then some (Value.int .i64 0) else one1 a 1 x) = one1 a 0 := by
              funext x
              unfold one1
              by_cases hx : x = a
              · rw [if_pos hx, if_pos hx]
              · rw [if_neg hx, if_neg hx, if_neg hx]
            rw [← this]
            exact hM6
          have hbx6 := hbx5.far hg6 (by simp; omega) (by simp; omega)
          have hpush := hpush_one w2.heap.size (wo.heap.size + 1) rb c a w6 hbx6
          unfold lp at hpush
          have hown5' : w5.ownsRow w2.heap.size 9 1 (.slice (some ⟨go, 0, none⟩) 1 co) 1 [.string b] := hown5
          have hB6 : Below w2.heap.size w2 w6 := ⟨hg6.os.trans hB5.os, hg6.tape.trans hB5.tape, hg6.output.trans hB5.output, Nat.le_trans hB5.size hg6.size, fun k hk => (hg6.block k (Nat.lt_of_lt_of_le hk hB5.size) (by simp; omega)).trans (hB5.block k hk)⟩
          have hgo2 : go ≠ rb := by
            have := hbx5.row.lt rb rfl
            have h9 := HX4.out.row.lt rb rfl
            rcases hown5.2 with ⟨e1, _⟩ | ⟨g, cap, cur, e1, _⟩
            · cases e1
            · have h10 := hloc5
              simp [Value.ownBlock] at h10
              omega
          have hown6 : w6.ownsRow w2.heap.size 9 1 (.slice (some ⟨go, 0, none⟩) 1 co) 1 [.string b] := hown5'.kept hg6 (.inr (by simp [Value.ownBlock]; omega))
          have HQ := Lib.hid (And.intro hM6' (And.intro hB6 (And.intro hown6 (And.intro hM5 hB5))))
          have hw6l := hB6.size
          clear hM4 hg45 hB4 hbx5 hM5 hss hM6 hM6' hbx6 hg6 hown5 hown5' hg5 hloc5 hB5 hown6
          go_wp2
          go_loopw [64] (fun x wx => (x = .int .i64 0 ∧ wx = w5) ∨ (x = .int .i64 1 ∧ ∃ rb' c', Bx wx w2.heap.size (wo.heap.size + 1) rb' c' [a] ∧ MF wx w2.heap.size 2 (one1 a 0) ∧ wx.ownsRow w2.heap.size 9 1 (.slice (some ⟨go, 0, none⟩) 1 co) 1 [.string b] ∧ Below w2.heap.size w2 wx)) (fun x _ => 1 - (intOf x).toNat)
          case atStart => exact .inl ⟨by first | rfl | trivial, by first | rfl | trivial⟩
          case round =>
            rcases hrel with ⟨rfl, rfl⟩ | ⟨rfl, rb', c', h1, h2, h3, h4⟩
            · go_wp2_with (go_at_call 39; refine hpush.mono ?_; rintro e w7 ⟨rfl, rb', c', hbx7, hbut7⟩; have HZ := Lib.hid (And.intro hbx7 hbut7); clear hbx7 hbut7)
              go_roundw
              case rel =>
                obtain ⟨hbx7, hbut7⟩ := HZ.out
                obtain ⟨q1, q2, q3, _, _⟩ := HQ.out
                refine .inr ⟨by go_num, rb', c', hbx7, q1.but hbut7 (by omega) (by omega), own_but q3 hbut7 (by omega) hgo2, below_but q2 hbut7 hw6l (by omega) hrb⟩
              case measure => simp [intOf]
            · have H1 := Lib.hid (And.intro h1 (And.intro h2 (And.intro h3 h4)))
              have hrb' := h1.row.lt rb' rfl
              clear h1 h2 h3 h4
              go_wp2
              go_roundw
              case rel =>
                obtain ⟨h1, h2, h3, h4⟩ := H1.out
                exact ⟨rb', c', h4, hrb'.1, .inr (.inl ⟨go, co, rfl, h3, h1, h2⟩)⟩
              case measure => simp [lenSl]
        · obtain ⟨nb1, nb2⟩ := hM.ne_box hbx
          have k0 : wr.cell? ⟨wo.heap.size + 1, 0, none⟩ = some (.slice (some ⟨rb, 0, none⟩) 1 c) := by rw [Lib.cell_of_heap hbx.box]; rfl
          have hpop := hpop_one w2.heap.size (wo.heap.size + 1) rb c a wr hbx
          unfold lp at hpop
          have hfl := (Array.getElem?_eq_some_iff.1 hbx.box).1
          have h1 := own_ne_box hbx hown
          have h2 := own_ne_row hbx hown hab
          have HO := Lib.hid hown
          clear hM hgr hbx hown
          go_wp2_with (first | (go_at_call 37; refine (len_any _ _ _ _).mono ?_; rintro e w4 ⟨rfl, rfl⟩) | (go_at_call 38; refine hpop.mono ?_; rintro e w4 ⟨rfl, hbx4, hbut4⟩; have hown4 := own_but HO.out hbut4 h1 h2; have HB := Lib.hid hbut4; have HX4 := Lib.hid hbx4; have hsz4 := hbut4.2.2.2.1; clear hbut4 hbx4) | (at_builtin; go_loud (refine wpList_appAt rfl (.tmp 56) (.tmp 58) 22 rfl w2.heap.size 9 i0 (.string ⟨#[]⟩) 16 Try.underlying22 hi0 hz0 hz1 hz2 rfl (.slice (some ⟨go, 0, none⟩) 1 co) 1 [.string b] rfl (hown4.alloc _) (some ⟨w4.heap.size, 0, none⟩) [a] 1 rfl 1 rfl (fun e => by cases e) (ss_new w4 a _) ?m0 ?b0 ?s0 ?_)))
          case m0 => unfold maxLen; simp
          case b0 => simp
          case s0 => simp; omega
          intro v5 w5 hown5 hg5 hloc5
          have hB4 : Below w2.heap.size w2 w4 := below_but hBr HB.out hwrl (by omega) hrb
          have hgol := hown4.lt go rfl
          have hrbl := HX4.out.row.lt rb rfl
          have hbx5 := (HX4.out.far (World.grownBy_alloc w4 (.cells #[.string a] 9) none) (by simp) (by simp)).far hg5 (by simp [Value.ownBlock]; omega) (by simp [Value.ownBlock]; omega)
          have hB5 : Below w2.heap.size w2 w5 := (hB4.alloc hB4.size (.cells #[.string a] 9)).grown hg5 (by simp; have := hB4.size; omega) (fun k hk => by simp [Value.ownBlock] at hk; omega)
          obtain ⟨go', co', rfl⟩ : ∃ go co, v5 = .slice (some ⟨go, 0, none⟩) 2 co := by
            rcases hown5.2 with ⟨e1, e2⟩ | ⟨g, cap, cur, e1, _⟩
            · cases e2
            · exact ⟨g, cap, e1⟩
          obtain ⟨o, k, cp, hrun, hk, hss, _, _⟩ := (hgr2.below hB5).get 79 Try.underlying79 a ha32 false
          have hgb : (g2 a b a).getD [] = [] := by unfold g2; rw [if_neg hab, if_pos rfl]; rfl
          rw [hgb] at hk hss
          obtain rfl : k = 0 := hk
          replace hrun : (Instr.lookup 79 (.map (some w.heap.size)) (.string a) false).run Try.prog w5 = .ok (.slice o 0 cp) w5 := hrun
          have hown5' : w5.ownsRow w2.heap.size 9 1 (.slice (some ⟨go', 0, none⟩) 2 co') 2 [.string b, .string a] := hown5
          have HQ := Lib.hid (And.intro hB5 (And.intro hown5' hbx5))
          clear hown5 hown5' hbx5 hB5 hB4 hg5 hloc5 hss hown4
          go_wp2
          go_loopw [64] (fun x wx => x = .int .i64 0 ∧ wx = w5) (fun x _ => 0)
          case atStart => exact ⟨by first | rfl | trivial, by first | rfl | trivial⟩
          case round =>
            obtain ⟨rfl, rfl⟩ := hrel
            go_wp2
            go_roundw
            case rel =>
              obtain ⟨h1, h2, h3⟩ := HQ.out
              exact ⟨rb, c, h1, hrb, .inr (.inr ⟨go', co', rfl, h2, h3⟩)⟩
            case measure => simp [lenSl]
        · have k0 : wr.cell? ⟨wo.heap.size + 1, 0, none⟩ = some (.slice (some ⟨rb, 0, none⟩) 0 c) := by rw [Lib.cell_of_heap hbx.box]; rfl
          have hfin : Below w.heap.size w wr := hB2.trans (hBr.mono hw2l)
          obtain ⟨o', c', e1, hss, _⟩ := own_ss (l := [b, a]) hown rfl
          injection e1 with e1 _ e3
          subst e1 e3
          clear hgr hbx hown
          go_wp2_with (go_at_call 37; refine (len_any _ _ _ _).mono ?_; rintro e w4 ⟨rfl, rfl⟩)
          refine bodyPost_ret (v := .tuple #[.slice (some ⟨go, 0, none⟩) 2 co, .int .i64 0]) (by simp [results, Try.results20, go_sem]) rfl ⟨_, _, rfl, hss, hfin⟩
    · have hTs := HT.out s
      rw [hfs] at hTs
      have hBn : Below w2.heap.size w2 wn := ⟨hgn.os.trans hB.os, hgn.tape.trans hB.tape, hgn.output.trans hB.output, Nat.le_trans hB.size hgn.size, fun k hk => (hgn.block k (Nat.lt_of_lt_of_le hk hB.size) (by simp; omega)).trans (hB.block k hk)⟩
      by_cases hsb : s = b
      · subst hsb
        unfold Tells g2 at hTs
        rw [if_pos rfl] at hTs
        obtain ⟨o, cp, e1, e2, e3, e4⟩ := hTs
        injection e1 with e1
        subst e1
        have hMn : MF wn w2.heap.size 0 (fun _ => none) := by
          rcases hM with ⟨_, h2⟩ | ⟨h1, _⟩
          · exact h2.grown hgn (by simp)
          · rw [hls] at h1; cases h1
        obtain ⟨ad, rfl⟩ := e2.1 (by simp)
        have hca := (e2.below hBn).at (i := 0) (x := a) rfl
        have hca0 : wn.cell? ad = some (.string a) := hca
        have hlk := hMn.get 54 3 Try.underlying54 (zeroI wn) a ha32 false
        replace hlk : (Instr.lookup 54 (.map (some w2.heap.size)) (.string a) false).run Try.prog wn = .ok (.int .i64 0) wn := hlk
        obtain ⟨w5, hup, hM5, hg5⟩ := hMn.put 54 3 Try.underlying54 (by decide) a ha32 (.int .i64 1)
        have hRK := hRF'.kept hg5 (by simp; omega) (by simp)
        have hB5 : Below w2.heap.size w2 w5 := ⟨hg5.os.trans hBn.os, hg5.tape.trans hBn.tape, hg5.output.trans hBn.output, Nat.le_trans hBn.size hg5.size, fun k hk => (hg5.block k (Nat.lt_of_lt_of_le hk hBn.size) (by simp; omega)).trans (hBn.block k hk)⟩
        have hmes : w5.rangeLeft w.heap.size (w2.heap.size + 1) < wr.rangeLeft w.heap.size (w2.heap.size + 1) := by rw [hRK.left_eq, hRF.left_eq]; exact hlt
        have HR := Lib.hid (And.intro hRK (And.intro hB5 (And.intro hM5 hmes)))
        clear hM hMn hls hca hRK hB5 hM5 hg5 hRF' hgn hszn hRF hB hlt hmes hfs hsz hBn e2 e3 e4
        go_wp2
        go_loopw [35] (fun x wx => (x = .int .i64 0 ∧ wx = wn) ∨ (x = .int .i64 1 ∧ wx = w5)) (fun x _ => 1 - (intOf x).toNat)
        case atStart => exact .inl ⟨by first | rfl | trivial, by first | rfl | trivial⟩
        case round =>
          rcases hrel with ⟨rfl, rfl⟩ | ⟨rfl, rfl⟩
          · go_wp2
            go_roundw
            case rel => exact .inr ⟨by go_num, by first | rfl | trivial⟩
            case measure => simp [intOf]
          · go_wp2
            go_roundw
            case rel =>
              obtain ⟨h1, h2, h3, h4⟩ := HR.out
              exact ⟨_, _, h1, h2, .inr ⟨by simp, h3⟩⟩
            case measure =>
              obtain ⟨h1, h2, h3, h4⟩ := HR.out
              exact h4
      · by_cases hsa : s = a
        · subst hsa
          unfold Tells g2 at hTs
          rw [if_neg hsb, if_pos rfl] at hTs
          obtain ⟨o, cp, e1, e2, e3, e4⟩ := hTs
          injection e1 with e1
          subst e1
          have hmes : wn.rangeLeft w.heap.size (w2.heap.size + 1) < wr.rangeLeft w.heap.size (w2.heap.size + 1) := by rw [hRF'.left_eq, hRF.left_eq]; exact hlt
          have hMn : (left b = true ∧ MF wn w2.heap.size 0 (fun _ => none)) ∨ (left b = false ∧ MF wn w2.heap.size 1 (one1 s 1)) := by
            rcases hM with ⟨h1, h2⟩ | ⟨h1, h2⟩
            · exact .inl ⟨h1, h2.grown hgn (by simp)⟩
            · exact .inr ⟨h1, h2.grown hgn (by simp)⟩
          have HR := Lib.hid (And.intro hRF' (And.intro hBn (And.intro hMn hmes)))
          clear hM hMn hls hRF' hgn hszn hRF hB hlt hmes hfs hsz hBn e2 e3 e4
          go_wp2
          go_loopw [35] (fun x wx => x = .int .i64 0 ∧ wx = wn) (fun x _ => 0)
          case atStart => exact ⟨by first | rfl | trivial, by first | rfl | trivial⟩
          case round =>
            obtain ⟨rfl, rfl⟩ := hrel
            go_wp2
            go_roundw
            case rel =>
              obtain ⟨h1, h2, h3, h4⟩ := HR.out
              refine ⟨_, _, h1, h2, ?_⟩
              rcases h3 with ⟨h3, h5⟩ | ⟨h3, h5⟩
              · exact .inl ⟨by simp [h3, hab.symm], h5⟩
              · exact .inr ⟨by simp [h3], h5⟩
            case measure =>
              obtain ⟨h1, h2, h3, h4⟩ := HR.out
              exact h4
        · exfalso
          unfold Tells g2 at hTs
          rw [if_neg hsb, if_neg hsa] at hTs
          cases hTs
end Go.Proofs.Ytkjgbldooflodaa
