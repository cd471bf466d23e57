/-
  The walk of commit.Ahead, at whatever commits whose graph is whole.
-/
import Derived.Test.YtkjgbldooflodaaCo3
import Derived.Test.YtkjgbldooflodaaCo1
import Derived.Test.YtkjgbldooflodaaCn3
import Derived.Test.YtkjgbldooflodaaCm4
namespace Go.Proofs.Ytkjgbldooflodaa
open Go.RowKit Cm Mp
set_option maxRecDepth 100000
set_option linter.unusedVariables false
set_option linter.unusedSimpArgs false
def pls (S : ByteArray → Option ByteArray) (s : ByteArray) : List ByteArray := (par S s).getD []
theorem nodup_two {l : List ByteArray} (h1 : l.length ≤ 2) (h2 : twice l = false) : l.Nodup := by
  rcases l with _ | ⟨a, _ | ⟨b, _ | ⟨c, r⟩⟩⟩
  · exact List.nodup_nil
  · simp
  · have hab : a ≠ b := fun e => by
      rw [e] at h2
      unfold twice at h2
      simp at h2
    simp [hab]
  · simp at h1
theorem par_nodup {S : ByteArray → Option ByteArray} {x : ByteArray} {l : List ByteArray} (h : par S x = some l) : l.Nodup := by
  have h2 := (par_two h).1
  unfold par at h
  cases hc : getC S x with
  | none => rw [hc] at h; cases h
  | some c =>
    rw [hc] at h
    injection h with h
    subst h
    have hro : right c = true := by
      unfold getC at hc
      cases hs : S x with
      | none => rw [hs] at hc; cases hc
      | some t => rw [hs] at hc; exact (write_read hc).1
    obtain ⟨_, htw, _, _, _⟩ := right_parts hro
    exact nodup_two h2 htw
/-- Nothing is ahead of itself: each is of a lower rank than those it is ahead of. -/
def Acy (S : ByteArray → Option ByteArray) (p : ByteArray) : Prop := ∃ (rk : ByteArray → Nat) (M : Nat), (∀ s, Ahd S p s → rk s ≤ M) ∧ ∀ s, Ahd S p s → ∀ l, par S s = some l → ∀ q ∈ l, rk q < rk s
/-- All that is ahead, each behind all it is ahead of. -/
structure Told (S : ByteArray → Option ByteArray) (p : ByteArray) (out : List ByteArray) : Prop where
  nodup : out.Nodup
  all : ∀ q, Ahd S p q → q ∈ out
  first : out[0]? = some p
  ord : ∀ (i j : Nat) s q, out[i]? = some s → q ∈ pls S s → out[j]? = some q → i < j
def imap (f : ByteArray → Option Int) : ByteArray → Option Value := fun s => (f s).map (Value.int .i64)
def beh (f : ByteArray → Option Int) (q : ByteArray) : Int := (f q).getD 0
def upd (f : ByteArray → Option Int) (q : ByteArray) (y : Int) : ByteArray → Option Int := fun x => if x = q then some y else f x
theorem imap_upd (f : ByteArray → Option Int) (q : ByteArray) (y : Int) : (fun x => if x = q then some (Value.int .i64 y) else imap f x) = imap (upd f q y) := by
  funext x
  unfold imap upd
  by_cases h : x = q
  · rw [if_pos h, if_pos h]; rfl
  · rw [if_neg h, if_neg h]
theorem beh_upd (f : ByteArray → Option Int) (q : ByteArray) (y : Int) : beh (upd f q y) = fun x => if x = q then y else beh f x := by
  funext x
  unfold beh upd
  by_cases h : x = q
  · rw [if_pos h, if_pos h]; rfl
  · rw [if_neg h, if_neg h]
theorem imap_get (f : ByteArray → Option Int) (q : ByteArray) : (imap f q).getD (.int .i64 0) = .int .i64 (beh f q) := by
  unfold imap beh
  cases f q <;> rfl
theorem own_butv {w w' : World} {B fb rb n : Nat} {e : TypeId} {v : Value} {xs : List Value} (h : w.ownsRow B e 1 v n xs) (hb : But fb rb w w') (h1 : ∀ k, v.ownBlock = some k → k ≠ fb ∧ k ≠ rb) : w'.ownsRow B e 1 v n xs := by
  refine ⟨h.1, ?_⟩
  rcases h.2 with h2 | ⟨g, cap, cur, e1, e2, hbk, e3⟩
  · exact .inl h2
  · obtain ⟨n1, n2⟩ := h1 g (by rw [e1]; rfl)
    exact .inr ⟨g, cap, cur, e1, e2, (hb.2.2.2.2 g (Array.getElem?_eq_some_iff.1 hbk).1 n1 n2).trans hbk, e3⟩
theorem own_lt' {w : World} {base n : Nat} {e : TypeId} {v : Value} {xs : List Value} (h : w.ownsRow base e 1 v n xs) : ∀ k, v.ownBlock = some k → base ≤ k ∧ k < w.heap.size := fun k hk => by
  rcases h.2 with ⟨e1, _⟩ | ⟨gg, cap, cur, e1, hb, hbk, _⟩
  · rw [e1] at hk; cases hk
  · rw [e1] at hk
    simp [Value.ownBlock] at hk
    subst hk
    exact ⟨hb, (Array.getElem?_eq_some_iff.1 hbk).1⟩
theorem acy_first {S : ByteArray → Option ByteArray} {p : ByteArray} (h : Acy S p) : ∀ s, Ahd S p s → p ∉ pls S s := by
  obtain ⟨rk, M, h1, h2⟩ := h
  have hle : ∀ s, Ahd S p s → rk s ≤ rk p := by
    intro s hs
    induction hs with
    | refl => exact Nat.le_refl _
    | step hs hl hq ih => have := h2 _ hs _ hl _ hq; omega
  intro s hs hp
  unfold pls at hp
  cases hl : par S s with
  | none => rw [hl] at hp; cases hp
  | some l =>
    rw [hl] at hp
    have := h2 s hs l hl p hp
    have := hle s hs
    omega
theorem ahd_from {S : ByteArray → Option ByteArray} {p y : ByteArray} (h : Ahd S p y) (hy : y ≠ p) : ∃ s, Ahd S p s ∧ y ∈ pls S s := by
  cases h with
  | refl => exact absurd rfl hy
  | step hs hl hq => exact ⟨_, hs, by unfold pls; rw [hl]; exact hq⟩
/-- What Ahead hands back. -/
def ATold (S : ByteArray → Option ByteArray) (p : ByteArray) (w : World) (e : Ending) (w' : World) : Prop :=
  ∃ (out : List ByteArray) (o : Option Addr) (c : Nat), e = .returned (.tuple #[.slice o out.length c, .int .i64 0]) ∧ Ss w' o out ∧ (∀ x ∈ out, Ahd S p x) ∧ out.length ≤ 1000000 ∧ (Acy S p → Told S p out) ∧ Below w.heap.size w w'
set_option maxHeartbeats 8000000 in
theorem ahead_any (S : ByteArray → Option ByteArray) (K : List ByteArray) (hb mb ns : Nat) (a : ByteArray) (w : World) (hS : Src w hb mb ns S) (hK : ∀ s, S s ≠ none → s ∈ K) (hKl : K.length ≤ 10000) (hz : ∀ s t, S s = some t → t.size ≤ 1000000) (hK32 : ∀ s ∈ K, s.size ≤ maxLen)
    (hfa : ∀ s, Ahd S a s → par S s ≠ none) (ha32 : a.size ≤ maxLen) :
    Calls Try.prog 20 #[hp hb, .string a] w fun e w' => ATold S a w e w' := by
  obtain ⟨i0, hi0, hz0, hz1, hz2⟩ := info_parts (P := Try.prog) (e := 9) (z := .string ⟨#[]⟩) (size := 1) (bytes := 16) (by kernel_rfl)
  obtain ⟨l1, l2⟩ := hS.lt
  have hb1 : Below w.heap.size w (w.alloc (.map #[] 0)) := (Below.refl _ _).alloc (Nat.le_refl _) _
  have hadd2 : Calls Try.prog 36 #[.map (some w.heap.size), hp hb, .string a] (w.alloc (.map #[] 0)) fun e w' => e = .returned (.int .i64 0) ∧ ∃ n g V F, MF w' w.heap.size n F ∧ (∀ s, Tells w' none (F s) (g s)) ∧ Full S a g ∧ Under S K a g V [] ∧ Below w.heap.size w w' := by
    refine (add_any S K hb mb ns w.heap.size a (w.alloc (.map #[] 0)) (hS.below hb1 l1 l2) hK (by omega) hz (GR.made w none) (by omega) (by omega) ha32).mono ?_
    rintro e w' ⟨hg, ⟨rfl, g, n, vis, hgr, hf, _, hu⟩ | ⟨_, s, hs, hn⟩⟩
    · obtain ⟨F, hF, hT⟩ := hgr
      exact ⟨rfl, n, g, vis, F, hF, hT, hf, hu, hg.os, hg.tape, hg.output, Nat.le_trans (by simp) hg.size, fun k hk => (hg.block k (by simp; omega) (by simp; omega)).trans (Lib.alloc_old w _ k hk)⟩
    · exact absurd hn (hfa s hs)
  have hmm := @run_makeMap Try.prog
  have HKK := Lib.hid (And.intro hKl hK32)
  clear hS hK hKl hz hK32 hfa
  go_enter Try.func20, Try.ntmps20
  go_wp2_with (go_at_call 36; with_reducible refine hadd2.mono ?_; rintro e w2 ⟨rfl, n, g, V, F, hF, hT, hfu, hun, hB2⟩; have hG0 := hF.lt; have hF' := MF.block hF (Lib.alloc_old w2 (.map #[] 0) w.heap.size hG0); obtain ⟨w3, cnt0, hrng, hRF, hg3, hsz3⟩ := hF'.range 79 22 Try.underlying79)
  have hr : (w2.alloc (.map #[] 0)).heap.size = w2.heap.size + 1 := by simp
  rw [hr] at hRF
  have hB3 : Below w2.heap.size w2 w3 := ⟨hg3.os, hg3.tape, hg3.output, Nat.le_trans (by simp) hg3.size, fun k hk => (hg3.block k (by simp; omega) (by simp)).trans (Lib.alloc_old w2 _ k hk)⟩
  have hM3 : MF w3 w2.heap.size 0 (imap fun _ => none) := (MF.made w2).grown hg3 (by simp)
  have hw2l := hB2.size
  have hw3l : w2.heap.size + 2 ≤ w3.heap.size := by omega
  -- facts on the graph, laid aside
  have hV : ∀ s, s ∈ V ↔ Ahd S a s := fun s => (hun.dom s).symm.trans (hfu.dom s)
  have hVl : V.length ≤ 10000 := by have := hun.count; have := HKK.out.1; omega
  have hV32 : ∀ s ∈ V, s.size ≤ maxLen := fun s hs => HKK.out.2 s (hun.sub s hs)
  have hlist : ∀ s ∈ V, ∃ o l cp, F s = some (.slice o l.length cp) ∧ Ss w2 o l ∧ par S s = some l ∧ l.Nodup ∧ l.length ≤ 2 ∧ (∀ q ∈ l, q ∈ V) ∧ pls S s = l := fun s hs => by
    have h1 := (hun.dom s).2 hs
    cases hg : g s with
    | none => rw [hg] at h1; cases h1
    | some l =>
      obtain ⟨h2, h3⟩ := hun.tells s l hg
      have h4 := hT s
      unfold Tells at h4
      rw [hg] at h4
      obtain ⟨o, cp, e1, e2, _, _⟩ := h4
      exact ⟨o, l, cp, e1, e2, h2, par_nodup h2, (par_two h2).1, fun q hq => (h3 q hq).resolve_right (by simp), by unfold pls; rw [h2]; rfl⟩
  have hFV : ∀ s v, F s = some v → s ∈ V := fun s v hv => (hun.dom s).1 (by
    have h4 := hT s
    unfold Tells at h4
    cases hg : g s with
    | none => rw [hg] at h4; dsimp only at h4; rw [hv] at h4; cases h4
    | some l => rfl)
  have HG := Lib.hid (And.intro (And.intro hV hun.nodup) (And.intro (And.intro hVl hV32) (And.intro hlist hFV)))
  have hleft0 : ∀ s ∈ V, (fun s => (F s).isSome) s = true := fun s hs => by
    obtain ⟨o, l, cp, h, _⟩ := hlist s hs
    dsimp only
    rw [h]
    rfl
  have hA0 : (∀ q, beh (fun _ => none) q = (Kn.cntL V (pls S) (fun s => (F s).isSome) q : Int)) ∧ 0 ≤ 2 * (V.filter fun s => !(fun s => (F s).isSome) s).length := ⟨fun q => by rw [Kn.cntL_start hleft0]; rfl, Nat.zero_le _⟩
  have HA0 := Lib.hid hA0
  clear hr hg3 hsz3 hrng hF' hT hfu hun hV hVl hV32 hlist hFV hleft0 hA0
  go_loopw [10] (fun _ wr => ∃ left cnt nb bO, RF wr w.heap.size (w2.heap.size + 1) n F left cnt ∧ Below w2.heap.size w2 wr ∧ w2.heap.size + 2 ≤ wr.heap.size ∧ MF wr w2.heap.size nb (imap bO) ∧ Hid ((∀ q, beh bO q = (Kn.cntL V (pls S) left q : Int)) ∧ nb ≤ 2 * (V.filter fun s => !left s).length))
    (fun _ wr => wr.rangeLeft w.heap.size (w2.heap.size + 1))
  case atStart => exact ⟨_, _, _, _, hRF, hB3, hw3l, hM3, HA0⟩
  case round =>
    clear hRF hB3 hM3 hw3l HA0
    obtain ⟨left, cnt, nb, bO, hRF, hB, hwl, hM, HU⟩ := hrel
    rcases hRF.next 0 with ⟨hc0, hl0, hrun⟩ | ⟨s, v, wn, cnt', hsz, hls, hfs, hrun, hRF', hlt, hgn, hszn, hent⟩
    · obtain ⟨⟨hV, hVn⟩, ⟨hVl, hV32⟩, hlist, hFV⟩ := HG.out
      have haV : a ∈ V := (hV a).2 .refl
      have hcnt : ∀ q, beh bO q = (Kn.cnt V (pls S) [] q : Int) := fun q => by rw [HU.out.1 q, Kn.cntL_done hl0]
      have hnb : nb ≤ 2 * V.length := by have h1 := HU.out.2; have h2 := List.length_filter_le (fun s => !left s) V; omega
      have hkh : Acy S a → Kn.Kh V (pls S) [] [a] (beh bO) := fun hA => Kn.Kh.start haV (fun s hs => acy_first hA s ((hV s).1 hs)) (fun y hy hya => by
        obtain ⟨s, h1, h2⟩ := ahd_from ((hV y).1 hy) hya
        exact ⟨s, (hV s).2 h1, h2⟩) hcnt
      have hbd : ∀ q, 0 ≤ beh bO q ∧ beh bO q ≤ V.length := fun q => by
        rw [hcnt q]
        exact ⟨Int.natCast_nonneg _, Int.ofNat_le.2 (List.length_filter_le _ _)⟩
      have hlv : Kn.live V (beh bO) ≤ V.length := List.length_filter_le _ _
      obtain ⟨wo, rfl⟩ : ∃ wo : World, wo = wr := ⟨_, rfl⟩
      have HS0 := Lib.hid (And.intro (And.intro haV hnb) (And.intro hkh (And.intro hbd hlv)))
      clear hRF hc0 hl0 hV hVn hVl hV32 hlist hFV haV hcnt hnb hkh hbd hlv
      go_wp2
      go_loopg [13] (1 + Kn.live V (beh bO)) (fun k v wx => ∃ (out : List ByteArray) (oo : Option Addr) (co rb cb : Nat) (fr : List ByteArray) (nb : Nat) (bO : ByteArray → Option Int), v = .slice oo out.length co ∧ wx.ownsRow (w2.heap.size + 1) 9 1 (.slice oo out.length co) out.length (out.map Value.string) ∧
        Bx wx (w2.heap.size + 1) (wo.heap.size + 1) rb cb fr ∧ MF wx w2.heap.size nb (imap bO) ∧ Below w2.heap.size w2 wx ∧ wo.heap.size + 2 ≤ wx.heap.size ∧
        Hid ((∀ x ∈ out, x ∈ V) ∧ (∀ x ∈ fr, x ∈ V) ∧ fr.length + Kn.live V (beh bO) ≤ k ∧ out.length + k ≤ V.length + 1 ∧ (∀ q, -(2 * (out.length : Int)) ≤ beh bO q ∧ beh bO q ≤ V.length) ∧ nb ≤ 2 * V.length + 2 * out.length ∧ (∀ j, (Value.slice oo out.length co).ownBlock = some j → j ≠ wo.heap.size + 1 ∧ j ≠ rb)) ∧
        Hid (Acy S a → Kn.Kh V (pls S) out fr (beh bO)))
      case atStart =>
        obtain ⟨⟨haV, hnb⟩, hkh, hbd, hlv⟩ := HS0.out
        have hrow := World.ownsRow_lit (base := w2.heap.size + 1) (e := 9) (size := 1) wo #[.string a] 1 (by omega) (by unfold maxLen; omega) rfl
        have hbx := heap_alloc_new (wo.alloc (.cells #[.string a] 9)) (.cells #[.slice (some ⟨wo.heap.size, 0, none⟩) 1 1] 82)
        have hsz : (wo.alloc (.cells #[.string a] 9)).heap.size = wo.heap.size + 1 := by simp
        rw [hsz] at hbx
        refine ⟨[], none, 0, wo.heap.size, 1, [a], nb, bO, rfl, World.ownsRow_nil _ _ _ _, ⟨hbx, hrow.alloc _⟩, ?_, (hB.alloc (by omega) _).alloc (by rw [hsz]; omega) _, by simp, Lib.hid ⟨(fun x hx => by cases hx), (fun x hx => by rw [List.mem_singleton] at hx; rw [hx]; exact haV), by simp, by simp; omega, (fun q => by have := hbd q; simp; omega), by simp; omega, fun j hj => by cases hj⟩, Lib.hid hkh⟩
        exact (hM.block (Lib.alloc_old _ _ _ hM.lt)).block (Lib.alloc_old _ _ _ (by rw [hsz]; have := hM.lt; omega))
      case round =>
        clear hM hB HU HS0
        obtain ⟨out, oo, co, rb, cb, fr, nb, bO, rfl, hown, hbx, hM, hBx, hwx, HI, HK⟩ := hrel
        obtain ⟨⟨hV, hVn⟩, ⟨hVl, hV32⟩, hlist, hFV⟩ := HG.out
        obtain ⟨hi1, hi2, hi3, hi4, hi5, hi6, hi7⟩ := HI.out
        have k0 := hbx.cell
        by_cases hfr : fr = []
        · subst hfr
          rw [List.length_nil] at k0
          have hss : Ss wr oo out := by
            obtain ⟨o', c', e1, h, _⟩ := own_ss hown rfl
            injection e1 with e1
            rw [e1]
            exact h
          have hBf := hB2.trans (hBx.mono hw2l)
          have HE := Lib.hid (And.intro (And.intro hss hBf) (And.intro (And.intro hV hi1) (And.intro hVl hi4)))
          clear hss hBf hV hVn hVl hV32 hlist hFV hi1 hi2 hi3 hi4 hi5 hi6 hi7 hown hbx hM
          go_wp2_with (go_at_call 37; refine (len_any _ _ _ _).mono ?_; rintro e w4 ⟨rfl, rfl⟩)
          obtain ⟨⟨hss, hBf⟩, ⟨hV, hi1⟩, hVl, hi4⟩ := HE.out
          refine bodyPost_ret (v := .tuple #[.slice oo out.length co, .int .i64 0]) (by simp [results, Try.results20, go_sem]) rfl ⟨out, oo, co, rfl, hss, fun x hx => (hV x).1 (hi1 x hx), by omega, fun hA => ?_, hBf⟩
          have hk := HK.out hA
          obtain ⟨rk, M, hm1, hm2⟩ := hA
          have hall : ∀ q ∈ V, q ∈ out := hk.all rk M (fun s hs => hm1 s ((hV s).1 hs)) (fun s hs q hq => by
            unfold pls at hq
            cases hl : par S s with
            | none => rw [hl] at hq; cases hq
            | some l => rw [hl] at hq; exact hm2 s ((hV s).1 hs) l hl q hq)
          have hao := hall a ((hV a).2 .refl)
          obtain ⟨y, r, hyr⟩ := List.exists_cons_of_ne_nil (l := out) (by intro e; rw [e] at hao; cases hao)
          have h0 : out[0]? = some y := by rw [hyr]; rfl
          have hya := hk.first (a := a) (fun y hy hya => by
            obtain ⟨s, h1, h2⟩ := ahd_from ((hV y).1 hy) hya
            exact ⟨s, (hV s).2 h1, h2⟩) h0
          exact ⟨hk.on, fun q hq => hall q ((hV q).2 hq), by rw [h0, hya], hk.ord⟩
        · have hfl : 0 < fr.length := List.length_pos_iff.2 hfr
          have hflb : fr.length ≤ 100000 := by omega
          have hpop := hpop_gen (w2.heap.size + 1) (wo.heap.size + 1) rb cb fr wr hbx hfl (by omega)
          unfold lp at hpop
          have f2 : decide ((0 : Int) < fr.length) = true := decide_eq_true (by omega)
          obtain ⟨nb1, nb2⟩ := hM.ne_box hbx
          have hrbl := hbx.row.lt rb rfl
          have hta := ta_str
          have HV := Lib.hid (And.intro (And.intro (And.intro hV hVn) (And.intro hVl hV32)) (And.intro (And.intro hlist hFV) (And.intro (And.intro (And.intro hi1 hi2) (And.intro hi3 hi4)) (And.intro (And.intro hi5 hi6) hi7))))
          have HW := Lib.hid (And.intro (And.intro hown hM) (And.intro hBx (And.intro hwx hfl)))
          have hol : out.length ≤ 20001 := by omega
          have hgk : 0 < gk := by omega
          clear hV hVn hVl hV32 hlist hFV hi1 hi2 hi3 hi4 hi5 hi6 hi7 hown hbx hM hBx hfr
          go_wp2_with (fail)
          go_at_call 37
          refine (len_any _ _ _ _).mono ?_
          rintro e w4 ⟨rfl, rfl⟩
          go_wp2_with (fail)
          go_at_call 38
          with_reducible refine hpop.mono ?_
          rintro e w4 ⟨x, fr4, rfl, hbx4, hperm, hbut4⟩
          obtain ⟨⟨⟨hV, hVn⟩, hVl, hV32⟩, ⟨hlist, hFV⟩, ⟨⟨hi1, hi2⟩, hi3, hi4⟩, ⟨hi5, hi6⟩, hi7⟩ := HV.out
          obtain ⟨⟨hown, hM⟩, hBx, hwx, hfl⟩ := HW.out
          have hxV : x ∈ V := hi2 x (hperm.mem_iff.1 (List.mem_cons_self ..))
          have hx32 := hV32 x hxV
          obtain ⟨ol, l, cp, hFx, hssl, hpar, hln, hl2, hlV, hpl⟩ := hlist x hxV
          have hown4 := own_butv hown hbut4 hi7
          have hM4 := hM.but hbut4 nb1 nb2
          have hB4 : Below w2.heap.size w2 w4 := below_but hBx hbut4 hBx.size (by omega) (by omega)
          have hw4 := hbut4.2.2.2.1
          have hown4a : (w4.alloc (.cells #[.string x] 9)).ownsRow (w2.heap.size + 1) 9 1 (.slice oo out.length co) out.length (out.map Value.string) := hown4.kept (World.grownBy_alloc _ _ none) (Classical.em _)
          have hm1 : out.length + 1 ≤ maxLen := by unfold maxLen; omega
          have hm2 : (out.length + 1) * 16 ≤ 140737488355328 := by omega
          have hm3 : w2.heap.size + 1 ≤ (w4.alloc (.cells #[.string x] 9)).heap.size := by simp; omega
          have hkm : Acy S a → Kn.Km V (pls S) (out ++ [x]) fr4 (beh bO) l 0 := fun hA => by
            have h1 := ((HK.out hA).perm hperm).pop hVn (by rw [hpl]; exact hln) (by rw [hpl]; exact hlV)
            rw [hpl] at h1
            exact h1
          have hf4 : fr4.length + 1 = fr.length := by have := hperm.length_eq; simpa using this
          have HX := Lib.hid (And.intro (And.intro (And.intro hown hown4) (And.intro hM4 hB4)) (And.intro (And.intro hxV hFx) (And.intro (And.intro hssl hln) (And.intro (And.intro hlV hkm) (And.intro hf4 hbx4)))))
          have HP4 := Lib.hid hperm
          clear hown hM hown4 hM4 hB4 hxV hFx hssl hln hlV hkm hf4 hbx4 hperm hbut4 hpar hpl hBx hfl hV hVn hVl hV32 hlist hFV hi1 hi2 hi3 hi4 hi5 hi6 hi7 hpop
          go_wp2_with (at_builtin; go_loud (refine wpList_appAt rfl (.tmp 56) (.tmp 58) 22 rfl (w2.heap.size + 1) 9 i0 (.string ⟨#[]⟩) 16 Try.underlying22 hi0 hz0 hz1 hz2 rfl (.slice oo out.length co) out.length _ rfl hown4a (some ⟨w4.heap.size, 0, none⟩) [x] 1 rfl 1 rfl (fun e => by cases e) (ss_new w4 x _) hm1 hm2 hm3 ?_))
          intro v5 w5 hown5 hg5 hloc5
          replace hown5 : w5.ownsRow (w2.heap.size + 1) 9 1 v5 (out.length + 1) ((out ++ [x]).map Value.string) := by rw [List.map_append]; exact hown5
          have hlen : (out ++ [x]).length = out.length + 1 := by simp
          obtain ⟨o5, c5, hv5, _⟩ := own_ss hown5 hlen.symm
          rw [hlen] at hv5
          subst hv5
          obtain ⟨⟨⟨hown, hown4⟩, hM4, hB4⟩, ⟨hxV, hFx⟩, ⟨hssl, hln⟩, ⟨hlV, hkm⟩, hf4, hbx4⟩ := HX.out
          obtain ⟨⟨⟨hV, hVn⟩, hVl, hV32⟩, ⟨hlist, hFV⟩, ⟨⟨hi1, hi2⟩, hi3, hi4⟩, ⟨hi5, hi6⟩, hi7⟩ := HV.out
          have hsa : (w4.alloc (.cells #[.string x] 9)).heap.size = w4.heap.size + 1 := by simp
          have hrb4 := hbx4.row.lt rb rfl
          have hfb4 := (Array.getElem?_eq_some_iff.1 hbx4.box).1
          have hdis5 : ∀ j, (Value.slice o5 (out.length + 1) c5).ownBlock = some j → j ≠ wo.heap.size + 1 ∧ j ≠ rb := fun j hj => by
            rcases hloc5 with h | h
            · exact hi7 j (h ▸ hj)
            · have h2 := Option.some.inj (hj.symm.trans h)
              omega
          have hoo : ∀ j, (Value.slice oo out.length co).ownBlock = some j → w2.heap.size + 1 ≤ j := fun j hj => (own_lt' hown j hj).1
          have hga : w4.grownBy (w4.alloc (.cells #[.string x] 9)) none := World.grownBy_alloc _ _ none
          have hbx5 := (hbx4.far hga (by simp) (by simp)).far hg5 (fun e => (hi7 _ e.symm).1 rfl) (fun e => (hi7 _ e.symm).2 rfl)
          have hM5 := (hM4.grown hga (by simp)).grown hg5 (fun e => by have := hoo _ e.symm; omega)
          have hB4a := hB4.trans (below_of_grown hga (fun k hk => by cases hk) hB4.size)
          have hB5 := hB4a.trans (below_of_grown hg5 (fun k hk => by have := hoo k hk; omega) hB4a.size)
          have hg5s := hg5.size
          have hlg := (hF.below hB5 hF.lt).get 79 22 Try.underlying79 (by kernel_rfl : (zeroValue 22).run Try.prog w5 = .ok (.slice none 0 0) w5) x hx32 false
          rw [hFx] at hlg
          replace hlg : (Instr.lookup 79 (.map (some w.heap.size)) (.string x) false).run Try.prog w5 = .ok (.slice ol l.length cp) w5 := hlg
          have hw5 : wo.heap.size + 2 ≤ w5.heap.size := by omega
          have HZ := Lib.hid (And.intro (And.intro hown5 hbx5) (And.intro (And.intro hM5 hB5) (And.intro (And.intro hdis5 hw5) (And.intro (And.intro hkm hf4) (And.intro hlen hxV)))))
          have HL := Lib.hid (And.intro (And.intro hssl hln) hlV)
          clear hown hown4 hM4 hB4 hxV hFx hssl hln hlV hkm hf4 hbx4 hV hVn hVl hV32 hlist hFV hi1 hi2 hi3 hi4 hi5 hi6 hi7 hsa hrb4 hfb4 hdis5 hoo hga hbx5 hM5 hB4a hB5 hg5s hw5 hg5 hloc5 hown5 hlen hrbl hwx hw4 hown4a hm3
          go_wp2
          go_loopw [64] (fun z wx => ∃ (j rb cb : Nat) (fr : List ByteArray) (nb : Nat) (bO : ByteArray → Option Int), z = .int .i64 j ∧ j ≤ l.length ∧ wx.ownsRow (w2.heap.size + 1) 9 1 (.slice o5 (out.length + 1) c5) (out.length + 1) ((out ++ [x]).map Value.string) ∧
            Bx wx (w2.heap.size + 1) (wo.heap.size + 1) rb cb fr ∧ MF wx w2.heap.size nb (imap bO) ∧ Below w2.heap.size w2 wx ∧ wo.heap.size + 2 ≤ wx.heap.size ∧
            Hid ((∀ y ∈ fr, y ∈ V) ∧ fr.length + Kn.live V (beh bO) ≤ gk - 1 ∧ (∀ q, -(2 * (out.length : Int) + j) ≤ beh bO q ∧ beh bO q ≤ V.length) ∧ nb ≤ 2 * V.length + 2 * out.length + j ∧ (∀ i, (Value.slice o5 (out.length + 1) c5).ownBlock = some i → i ≠ wo.heap.size + 1 ∧ i ≠ rb)) ∧
            Hid (Acy S a → Kn.Km V (pls S) (out ++ [x]) fr (beh bO) l j)) (fun z _ => l.length - (intOf z).toNat)
          case atStart =>
            obtain ⟨⟨hown5, hbx5⟩, ⟨hM5, hB5⟩, ⟨hdis5, hw5⟩, ⟨hkm, hf4⟩, hlen, hxV⟩ := HZ.out
            obtain ⟨⟨⟨hV, hVn⟩, hVl, hV32⟩, ⟨hlist, hFV⟩, ⟨⟨hi1, hi2⟩, hi3, hi4⟩, ⟨hi5, hi6⟩, hi7⟩ := HV.out
            exact ⟨0, rb, cb, fr4, nb, bO, by first | rfl | trivial, Nat.zero_le _, hown5, hbx5, hM5, hB5, hw5, Lib.hid ⟨fun y hy => hi2 y (HP4.out.mem_iff.1 (List.mem_cons_of_mem _ hy)), by omega, fun q => by have := hi5 q; omega, by omega, hdis5⟩, Lib.hid hkm⟩
          case round =>
            clear HZ hlg
            obtain ⟨j, rb, cb, fr, nb, bO, rfl, hj, hown, hbx, hM, hBx, hwx, HI2, HK2⟩ := hrel
            obtain ⟨⟨⟨hV, hVn⟩, hVl, hV32⟩, _, ⟨⟨hi1, _⟩, hi3, hi4⟩, _, _⟩ := HV.out
            obtain ⟨⟨hssl, hln⟩, hlV⟩ := HL.out
            obtain ⟨hj1, hj2, hj3, hj4, hj5⟩ := HI2.out
            by_cases hjl : j < l.length
            · obtain ⟨ad, rfl⟩ := ss_some hssl hjl
              obtain ⟨q, hq⟩ : ∃ q, l[j]? = some q := ⟨l[j], List.getElem?_eq_getElem hjl⟩
              have cq := (hssl.below hBx).at hq
              have hqV := hlV q (List.mem_of_getElem? hq)
              have hq32 := hV32 q hqV
              have hlk := hM.get 54 3 Try.underlying54 (zeroI wr) q hq32 false
              rw [show (if false = true then Value.tuple #[(imap bO q).getD (.int .i64 0), .bool (imap bO q).isSome] else (imap bO q).getD (.int .i64 0)) = .int .i64 (beh bO q) from imap_get bO q] at hlk
              have hXb := hj3 q
              obtain ⟨X, hXe⟩ : ∃ X, X = beh bO q := ⟨_, rfl⟩
              rw [← hXe] at hlk hXb
              obtain ⟨Y, hY⟩ : ∃ Y, X - 1 = Y := ⟨_, rfl⟩
              have d1 : IntKind.i64.wrap (X - 1) = Y := by rw [wrap_fit _ (by omega) (by omega)]; exact hY
              have i16 : (j : Int) < l.length := by omega
              have i17 : IntKind.i64.wrap ((j : Int) + 1) = (j : Int) + 1 := wrap_fit _ (by omega) (by omega)
              obtain ⟨w6, hup, hM6, hg6⟩ := hM.put 54 3 Try.underlying54 (by unfold maxLen; omega) q hq32 (.int .i64 Y)
              rw [imap_upd] at hM6
              have hlk6 := hM6.get 54 3 Try.underlying54 (zeroI w6) q hq32 false
              rw [show (if false = true then Value.tuple #[(imap (upd bO q Y) q).getD (.int .i64 0), .bool (imap (upd bO q Y) q).isSome] else (imap (upd bO q Y) q).getD (.int .i64 0)) = .int .i64 Y from (imap_get _ q).trans (by rw [beh_upd]; simp)] at hlk6
              obtain ⟨nb1, nb2⟩ := hM.ne_box hbx
              have hbx6 := hbx.far hg6 (by simp; omega) (by simp; omega)
              have hB6 := hBx.trans (below_of_grown hg6 (fun k hk => by cases hk; exact Nat.le_refl _) hBx.size)
              have hob := own_lt' hown
              have hown6 := hown.kept hg6 (.inr (fun e => by have := (hob _ e).1; omega))
              have hw6 := hg6.size
              have hbeh : beh (upd bO q Y) = fun x => if x = q then beh bO q - 1 else beh bO x := by rw [beh_upd, ← hY, hXe]
              have hrbl := hbx.row.lt rb rfl
              have hbd : ∀ x, -(2 * (out.length : Int) + (j + 1 : Nat)) ≤ beh (upd bO q Y) x ∧ beh (upd bO q Y) x ≤ V.length := fun x => by
                rw [hbeh]
                dsimp only
                have h1 := hj3 x
                have h2 := hj3 q
                by_cases hx : x = q
                · rw [if_pos hx]; omega
                · rw [if_neg hx]; omega
              by_cases hY0 : Y = 0
              · subst hY0
                have h0 : beh bO q - 1 = 0 := by rw [← hXe]; exact hY
                have hpush := hpush_gen (w2.heap.size + 1) (wo.heap.size + 1) rb cb fr q w6 hbx6 (by omega) (by omega)
                unfold lp at hpush
                have hlp := Kn.live_push hVn hqV h0
                rw [← hbeh] at hlp
                have HR := Lib.hid (And.intro (And.intro (And.intro hq h0) (And.intro hown6 hM6)) (And.intro (And.intro hB6 hw6) (And.intro (And.intro hob hbeh) (And.intro (And.intro hbd hlp) (And.intro hqV hVl)))))
                clear hq h0 hown6 hM6 hB6 hw6 hob hbeh hbd hlp hqV hVl hV hVn hV32 hi1 hi3 hi4 hssl hln hlV hj1 hj2 hj3 hj4 hj5 hown hbx hM hBx hXe hY hXb hg6 hbx6
                go_wp2_with (fail)
                go_at_call 39
                with_reducible refine hpush.mono ?_
                rintro e w7 ⟨rfl, rb7, c7, fr7, hbx7, hperm7, hkeep, hos, htape, hout, hsz7, hloc7⟩
                have H7 := Lib.hid (And.intro (And.intro hbx7 hperm7) (And.intro (And.intro hkeep hos) (And.intro (And.intro htape hout) (And.intro hsz7 hloc7))))
                clear hbx7 hperm7 hkeep hos htape hout hsz7 hloc7 hpush
                go_wp2
                obtain ⟨⟨hbx7, hperm7⟩, ⟨hkeep, hos⟩, ⟨htape, hout⟩, hsz7, hloc7⟩ := H7.out
                obtain ⟨⟨⟨hq, h0⟩, hown6, hM6⟩, ⟨hB6, hw6⟩, ⟨hob, hbeh⟩, ⟨hbd, hlp⟩, hqV, hVl⟩ := HR.out
                obtain ⟨hj1, hj2, hj3, hj4, hj5⟩ := HI2.out
                have hbut7 : But (wo.heap.size + 1) rb w6 w7 := ⟨hos, htape, hout, hsz7, hkeep⟩
                have hown7 := own_butv hown6 hbut7 hj5
                have hM7 := hM6.but hbut7 nb1 nb2
                have hB7 : Below w2.heap.size w2 w7 := below_but hB6 hbut7 (by omega) (by omega) (by omega)
                go_roundw
                case rel =>
                  refine ⟨j + 1, rb7, c7, fr7, nb + 1, upd bO q 0, by go_num, hjl, hown7, hbx7, hM7, hB7, by omega, Lib.hid ⟨fun y hy => ?_, ?_, hbd, by omega, fun i hi => ?_⟩, Lib.hid fun hA => ?_⟩
                  · rcases List.mem_cons.1 (hperm7.mem_iff.1 hy) with rfl | h
                    · exact hqV
                    · exact hj1 y h
                  · have := hperm7.length_eq
                    rw [List.length_cons] at this
                    omega
                  · obtain ⟨n1, n2⟩ := hj5 i hi
                    refine ⟨n1, ?_⟩
                    rcases hloc7 with e | e
                    · rw [e]; exact n2
                    · have := (hob i hi).2
                      omega
                  · rw [hbeh]
                    exact ((HK2.out hA).push hq h0).perm hperm7
                case measure => simp [intOf]; omega
              · have h0 : beh bO q - 1 ≠ 0 := by rw [← hXe, hY]; exact hY0
                have e0 : (Y == 0) = false := beq_eq_false_iff_ne.2 hY0
                have hlp := Kn.live_pass (V := V) (beh := beh bO) (q := q)
                rw [← hbeh] at hlp
                have HR := Lib.hid (And.intro (And.intro (And.intro hq h0) (And.intro hown6 hM6)) (And.intro (And.intro hB6 hw6) (And.intro (And.intro hbx6 hbeh) (And.intro (And.intro hbd hlp) (And.intro hqV hVl)))))
                clear hq h0 hown6 hM6 hB6 hw6 hob hbeh hbd hlp hqV hVl hV hVn hV32 hi1 hi3 hi4 hssl hln hlV hj1 hj2 hj3 hj4 hj5 hown hbx hM hBx hXe hY hXb hg6 hbx6
                go_wp2
                obtain ⟨⟨⟨hq, h0⟩, hown6, hM6⟩, ⟨hB6, hw6⟩, ⟨hbx6, hbeh⟩, ⟨hbd, hlp⟩, hqV, hVl⟩ := HR.out
                obtain ⟨hj1, hj2, hj3, hj4, hj5⟩ := HI2.out
                go_roundw
                case rel => exact ⟨j + 1, rb, cb, fr, nb + 1, upd bO q Y, by go_num, hjl, hown6, hbx6, hM6, hB6, by omega, Lib.hid ⟨hj1, by omega, hbd, by omega, hj5⟩, Lib.hid fun hA => by rw [hbeh]; exact (HK2.out hA).pass hq h0⟩
                case measure => simp [intOf]; omega
            · obtain rfl : j = l.length := by omega
              have HR := Lib.hid (And.intro (And.intro hown hbx) (And.intro hM hBx))
              have HVi := Lib.hid hi1
              clear hown hbx hM hBx hV hVn hV32 hi1 hssl hln hlV hj1 hj2 hj3 hj4 hj5
              go_wp2
              obtain ⟨⟨hown, hbx⟩, hM, hBx⟩ := HR.out
              obtain ⟨hj1, hj2, hj3, hj4, hj5⟩ := HI2.out
              have hlen : (out ++ [x]).length = out.length + 1 := by simp
              go_roundg (gk - 1)
              case measure => omega
              case rel =>
                refine ⟨out ++ [x], o5, c5, rb, cb, fr, nb, bO, by rw [hlen], by rw [hlen]; exact hown, hbx, hM, hBx, hwx, Lib.hid ⟨fun y hy => ?_, hj1, hj2, by rw [hlen]; omega, fun q => ?_, by rw [hlen]; omega, by rw [hlen]; exact hj5⟩, Lib.hid fun hA => (HK2.out hA).close⟩
                · rw [List.mem_append, List.mem_singleton] at hy
                  rcases hy with h | rfl
                  · exact HVi.out y h
                  · exact HX.out.2.1.1
                · rw [hlen]
                  have := hj3 q
                  omega
    · obtain ⟨⟨hV, hVn⟩, ⟨hVl, hV32⟩, hlist, hFV⟩ := HG.out
      have hsV := hFV s v hfs
      obtain ⟨ol, l, cp, hFs, hss, hpar, hln, hl2, hlV, hpl⟩ := hlist s hsV
      rw [hfs] at hFs
      injection hFs with hFs
      subst hFs
      have hBn : Below w2.heap.size w2 wn := hB.trans (below_of_grown hgn (fun k hk => by cases hk; omega) hB.size)
      have hMn := hM.grown hgn (by simp)
      have HS := Lib.hid (And.intro (And.intro hss hln) (And.intro (And.intro hlV hsV) (And.intro hls hpl)))
      have hmes : ∀ wx, RF wx w.heap.size (w2.heap.size + 1) n F (fun x => left x && !decide (x = s)) cnt' → wx.rangeLeft w.heap.size (w2.heap.size + 1) < wr.rangeLeft w.heap.size (w2.heap.size + 1) := fun wx hx => by rw [hx.left_eq, hRF.left_eq]; exact hlt
      have hwn : w2.heap.size + 2 ≤ wn.heap.size := by omega
      obtain ⟨wo, rfl⟩ : ∃ wo : World, wo = wr := ⟨_, rfl⟩
      clear hM hRF hB hgn hszn hlt hfs hls hss hln hlV hsV hpl hpar hV hVn hV32 hlist hFV hVl
      go_wp2
      go_loopw [35] (fun x wx => ∃ k nb' bO', x = .int .i64 (k : Nat) ∧ k ≤ l.length ∧ RF wx w.heap.size (w2.heap.size + 1) n F (fun x => left x && !decide (x = s)) cnt' ∧ Below w2.heap.size w2 wx ∧ w2.heap.size + 2 ≤ wx.heap.size ∧ MF wx w2.heap.size nb' (imap bO') ∧
          Hid ((∀ q, beh bO' q = (Kn.cntL V (pls S) left q + Kn.has1 (l.take k) q : Nat)) ∧ nb' ≤ nb + k)) (fun x _ => l.length - (intOf x).toNat)
      case atStart =>
        refine ⟨0, nb, bO, by first | rfl | trivial, Nat.zero_le _, hRF', hBn, hwn, hMn, Lib.hid ⟨fun q => ?_, Nat.le_refl _⟩⟩
        rw [HU.out.1 q, List.take_zero]
        rw [Kn.has1_nil]
        rfl
      case round =>
        clear hRF' hBn hMn hwn
        obtain ⟨k, nb', bO', rfl, hk, hRx, hBx, hwx, hMx, HI⟩ := hrel
        obtain ⟨⟨hss, hln⟩, ⟨hlV, hsV⟩, hls, hpl⟩ := HS.out
        obtain ⟨⟨hV, hVn⟩, ⟨hVl, hV32⟩, _, _⟩ := HG.out
        by_cases hkl : k < l.length
        · obtain ⟨ad, rfl⟩ := ss_some hss hkl
          obtain ⟨q, hq⟩ : ∃ q, l[k]? = some q := ⟨l[k], List.getElem?_eq_getElem hkl⟩
          have cq := (hss.below hBx).at hq
          have hqV := hlV q (List.mem_of_getElem? hq)
          have hq32 := hV32 q hqV
          have hlk := hMx.get 54 3 Try.underlying54 (zeroI wr) q hq32 false
          rw [show (if false = true then Value.tuple #[(imap bO' q).getD (.int .i64 0), .bool (imap bO' q).isSome] else (imap bO' q).getD (.int .i64 0)) = .int .i64 (beh bO' q) from imap_get bO' q] at hlk
          have hX := HI.out.1 q
          have hXl := Kn.cntL_le V (pls S) left q
          have hone := Kn.has1_le (l.take k) q
          obtain ⟨X, hXe⟩ : ∃ X, X = beh bO' q := ⟨_, rfl⟩
          rw [← hXe] at hlk hX
          have d1 : IntKind.i64.wrap (X + 1) = X + 1 := wrap_fit _ (by omega) (by omega)
          have i16 : (k : Int) < l.length := by omega
          have i17 : IntKind.i64.wrap ((k : Int) + 1) = (k : Int) + 1 := wrap_fit _ (by omega) (by omega)
          have hfl := List.length_filter_le (fun s => !left s) V
          obtain ⟨w5, hup, hM5, hg5⟩ := hMx.put 54 3 Try.underlying54 (by have := HI.out.2; have := HU.out.2; unfold maxLen; omega) q hq32 (.int .i64 (X + 1))
          rw [imap_upd] at hM5
          have hR5 := hRx.kept hg5 (by simp; omega) (by simp)
          have hB5 := hBx.trans (below_of_grown hg5 (fun k hk => by cases hk; exact Nat.le_refl _) hBx.size)
          have hw5 := hg5.size
          have HH := Lib.hid (And.intro (And.intro hq hXe) (And.intro hR5 (And.intro hB5 (And.intro hM5 hw5))))
          clear hq hXe hX hXl hone hM5 hR5 hB5 hg5 hss hln hlV hpl hls hV hVn hV32 hMx hRx hBx hfl hw5
          go_wp2
          obtain ⟨⟨hq, hXe⟩, hR5, hB5, hM5, hw5⟩ := HH.out
          go_roundw
          case rel =>
            refine ⟨k + 1, nb' + 1, _, by go_num, hkl, hR5, hB5, by omega, hM5, Lib.hid ⟨fun x => ?_, by have := HI.out.2; omega⟩⟩
            have h1 := HI.out.1 x
            have h2 := Kn.has1_take (x := x) HS.out.1.2 hq
            rw [beh_upd, h2]
            dsimp only
            by_cases hx : x = q
            · rw [if_pos hx, if_pos hx, hXe, ← hx, h1]
              push_cast
              omega
            · rw [if_neg hx, if_neg hx, h1]
              push_cast
              omega
          case measure => simp [intOf]; omega
        · obtain rfl : k = l.length := by omega
          have hfin : (∀ q, beh bO' q = (Kn.cntL V (pls S) (fun x => left x && !decide (x = s)) q : Int)) ∧ nb' ≤ 2 * (V.filter fun x => !(fun x => left x && !decide (x = s)) x).length := by
            refine ⟨fun q => ?_, ?_⟩
            · rw [HI.out.1 q, Kn.cntL_step hVn hsV hls, List.take_length, hpl]
              rfl
            · have h1 := Kn.len_filter (f := fun x => !(fun x => left x && !decide (x = s)) x) (g := fun x => !left x) hVn hsV (fun x _ hx => by simp [hx]) (by simp [hls])
              have h2 : (!(left s && !decide (s = s))) = true := by simp
              dsimp only at h1
              rw [if_pos h2] at h1
              have h3 := HI.out.2
              have h4 := HU.out.2
              dsimp only
              omega
          have HF := Lib.hid hfin
          have HR := Lib.hid (And.intro hRx (And.intro hBx (And.intro hwx hMx)))
          clear hfin hRx hBx hwx hMx hss hln hlV hsV hls hpl hV hVn hV32
          go_wp2
          obtain ⟨hRx, hBx, hwx, hMx⟩ := HR.out
          go_roundw
          case rel => exact ⟨_, _, nb', bO', hRx, hBx, hwx, hMx, HF⟩
          case measure => exact hmes _ hRx
end Go.Proofs.Ytkjgbldooflodaa
