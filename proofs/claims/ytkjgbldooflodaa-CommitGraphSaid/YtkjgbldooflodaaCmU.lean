/-
  The walk of commit.Base at a commit and the one ahead of it.
-/
import Derived.Test.YtkjgbldooflodaaCmT
namespace Go.Proofs.Ytkjgbldooflodaa
open Go.RowKit Cm Mp
set_option maxRecDepth 100000
set_option linter.unusedVariables false
set_option linter.unusedSimpArgs false
theorem ahd_one {S : ByteArray → Option ByteArray} {a : ByteArray} (hpa : par S a = some []) (s : ByteArray) : Ahd S a s ↔ s = a := by
  constructor
  · intro h
    induction h with
    | refl => rfl
    | step hs hl hq ih =>
      subst ih
      rw [hpa] at hl
      cases hl
      cases hq
  · rintro rfl
    exact .refl
/-- The graph of one. -/
def g1 (a : ByteArray) : ByteArray → Option (List ByteArray) := fun s => if s = a then some [] else none
theorem full_one {S : ByteArray → Option ByteArray} {a : ByteArray} {g : ByteArray → Option (List ByteArray)} (hpa : par S a = some []) (h : Full S a g) : g = g1 a := by
  funext s
  unfold g1
  cases hg : g s with
  | none =>
    have hn : ¬ s = a := fun e => by
      have := (h.dom s).2 ((ahd_one hpa s).2 e)
      rw [hg] at this
      cases this
    rw [if_neg hn]
  | some l =>
    have h1 := h.tells s l hg
    have h2 := (ahd_one hpa s).1 ((h.dom s).1 (by rw [hg]; rfl))
    rw [if_pos h2]
    subst h2
    rw [hpa] at h1
    rw [h1]
set_option maxHeartbeats 1000000 in
theorem base_two (S : ByteArray → Option ByteArray) (K : List ByteArray) (hb mb ns : Nat) (a b : ByteArray) (w : World) (hS : Src w hb mb ns S) (hK : ∀ s, S s ≠ none → s ∈ K) (hKl : K.length ≤ 100000) (hz : ∀ s t, S s = some t → t.size ≤ 1000000)
    (hab : a ≠ b) (hpa : par S a = some []) (hpb : par S b = some [a]) (ha32 : a.size ≤ maxLen) (hb32 : b.size ≤ maxLen) :
    Calls Try.prog 23 #[hp hb, .string a, .string b] w fun e w' => e = .returned (.tuple #[.string a, .bool true, .int .i64 0]) ∧ Below w.heap.size w w' := by
  obtain ⟨i0, hi0, hz0, hz1, hz2⟩ := info_parts (P := Try.prog) (e := 9) (z := .string ⟨#[]⟩) (size := 1) (bytes := 16) (by kernel_rfl)
  obtain ⟨l1, l2⟩ := hS.lt
  have hwa : (w.alloc (.map #[] 0)).heap.size = w.heap.size + 1 := by simp
  obtain ⟨wb, hwb⟩ : ∃ wb, wb = (w.alloc (.map #[] 0)).alloc (.map #[] 0) := ⟨_, rfl⟩
  have hbb : Below w.heap.size w wb := by rw [hwb]; exact ((Below.refl _ _).alloc (Nat.le_refl _) _).alloc (by simp) _
  have hwbl : wb.heap.size = w.heap.size + 2 := by rw [hwb]; simp
  have hgX : GR wb w.heap.size 0 none (fun _ => none) := by rw [hwb]; exact (GR.made w none).grown (World.grownBy_alloc _ _ none) (by simp) (.inr rfl)
  have hgY : GR wb (w.heap.size + 1) 0 (some w.heap.size) (fun _ => none) := by
    have := GR.made (w.alloc (.map #[] 0)) (some w.heap.size)
    rw [hwa, ← hwb] at this
    exact this
  have hSb := hS.below hbb l1 l2
  have hx : Calls Try.prog 36 #[.map (some w.heap.size), hp hb, .string a] wb fun e w' => ∃ n F ox cpx, e = .returned (.int .i64 0) ∧ MF w' w.heap.size n F ∧ F a = some (.slice ox 0 cpx) ∧ (∀ s v, F s = some v → s = a) ∧ wb.grownBy w' (some w.heap.size) := by
    refine (add_any S K hb mb ns w.heap.size a wb hSb hK hKl hz hgX (by omega) (by omega) ha32).mono ?_
    rintro e w' ⟨hg, ⟨rfl, g, n, vis, hgr, hf, _⟩ | ⟨_, s, hs, hn⟩⟩
    · rw [full_one hpa hf] at hgr
      obtain ⟨F, hF, hT⟩ := hgr
      obtain ⟨ox, cpx, hFa⟩ : ∃ ox cpx, F a = some (.slice ox 0 cpx) := by
        have := hT a
        unfold Tells g1 at this
        rw [if_pos rfl] at this
        obtain ⟨o, cp, e1, _⟩ := this
        exact ⟨o, cp, e1⟩
      refine ⟨n, F, ox, cpx, rfl, hF, hFa, fun s v hv => ?_, hg⟩
      by_cases hs : s = a
      · exact hs
      · have := hT s
        unfold Tells g1 at this
        rw [if_neg hs] at this
        dsimp only at this
        rw [hv] at this
        cases this
    · obtain rfl := (ahd_one hpa s).1 hs
      rw [hpa] at hn
      cases hn
  have hy : ∀ w2, wb.grownBy w2 (some w.heap.size) → Calls Try.prog 36 #[.map (some (w.heap.size + 1)), hp hb, .string b] w2 fun e w' => ∃ n, e = .returned (.int .i64 0) ∧ GR w' (w.heap.size + 1) n none (g2 a b) ∧ w2.grownBy w' (some (w.heap.size + 1)) := fun w2 hg2 => by
    have hgY2 := (hgY.grown hg2 (by simp) (.inl rfl)).newrow (row' := none) (.inr fun k hk => by cases hk)
    refine (add_any S K hb mb ns (w.heap.size + 1) b w2 (hSb.grown hg2 (by omega) (by omega)) hK hKl hz hgY2 (by omega) (by omega) hb32).mono ?_
    rintro e w' ⟨hg, ⟨rfl, g, n, vis, hgr, hf, _⟩ | ⟨_, s, hs, hn⟩⟩
    · rw [full_two hpa hpb hf] at hgr
      exact ⟨n, rfl, hgr, hg⟩
    · rcases (ahd_two hpa hpb s).1 hs with rfl | rfl
      · rw [hpb] at hn; cases hn
      · rw [hpa] at hn; cases hn
  have hmm := @run_makeMap Try.prog
  have HWB := Lib.hid hwb
  have HY := Lib.hid hy
  rw [hwb] at hx
  clear hwb hgX hgY hSb hy hS
  go_enter Try.func23, Try.ntmps23
  go_wp2_with (first | (go_at_call 36; with_reducible refine hx.mono ?_; rintro e w2 ⟨nx, Fx, ox, cpx, rfl, hFx, hFa, hFn, hg2⟩; have HF := Lib.hid (And.intro hFa hFn); clear hFa hFn) | (go_at_call 36; with_reducible refine (HY.out w2 (by rw [HWB.out]; exact hg2)).mono ?_; rintro e w3 ⟨ny, rfl, hY3, hg3⟩; have hF3 := MF.grown hFx hg3 (by simp); obtain ⟨w4, cnt0, hrng, hRF, hg4, hsz4⟩ := hF3.range 79 22 Try.underlying79))
  have hw2l : w.heap.size + 2 ≤ w2.heap.size := by have := hg2.size; rw [← HWB.out, hwbl] at this; exact this
  have hw3l := hg3.size
  have hB2 : Below w.heap.size w w2 := by
    have hg2' : wb.grownBy w2 (some w.heap.size) := by rw [HWB.out]; exact hg2
    exact ⟨hg2'.os.trans hbb.os, hg2'.tape.trans hbb.tape, hg2'.output.trans hbb.output, Nat.le_trans hbb.size hg2'.size, fun k hk => (hg2'.block k (by omega) (by simp; omega)).trans (hbb.block k hk)⟩
  have hB3 : Below w.heap.size w w3 := ⟨hg3.os.trans hB2.os, hg3.tape.trans hB2.tape, hg3.output.trans hB2.output, Nat.le_trans hB2.size hg3.size, fun k hk => (hg3.block k (by omega) (by simp; omega)).trans (hB2.block k hk)⟩
  have hB4 : Below w.heap.size w w4 := hB3.trans ⟨hg4.os, hg4.tape, hg4.output, hg4.size, fun k hk => hg4.block k (by omega) (by simp)⟩
  have hY4 : GR w4 (w.heap.size + 1) ny (some w3.heap.size) (g2 a b) := (hY3.newrow (.inr fun k hk => by cases hk; exact Nat.le_refl _)).grown hg4 (by simp) (.inr rfl)
  have hsz4' : w3.heap.size < w4.heap.size := by omega
  clear hFx hg2 hg3 hg4 hsz4 hrng hF3 hY3 hx HY hB2 hB3
  go_loopw [13] (fun v wx => ∃ left cnt, RF wx w.heap.size w3.heap.size nx Fx left cnt ∧ Below w.heap.size w wx ∧ GR wx (w.heap.size + 1) ny (some w3.heap.size) (g2 a b) ∧ w3.heap.size < wx.heap.size ∧
      ((left a = true ∧ v = .slice none 0 0) ∨ (left a = false ∧ ∃ go co, v = .slice (some ⟨go, 0, none⟩) 1 co ∧ w3.heap.size < go ∧ wx.ownsRow w3.heap.size 9 1 (.slice (some ⟨go, 0, none⟩) 1 co) 1 [.string a])))
    (fun _ wx => wx.rangeLeft w.heap.size w3.heap.size)
  case atStart => exact ⟨_, _, hRF, hB4, hY4, hsz4', .inl ⟨by rw [HF.out.1]; rfl, rfl⟩⟩
  case round =>
    obtain ⟨left, cnt, hRF, hB, hY, hwl, hst⟩ := hrel
    rcases hRF.next 0 with ⟨hc0, hl0, hrun⟩ | ⟨s, v, wn, cnt', hsz, hls, hfs, hrun, hRF', hlt, hgn, hszn, hent⟩
    · rcases hst with ⟨h1, _⟩ | ⟨_, go, co, rfl, hgo, hown⟩
      · rw [hl0 a] at h1; cases h1
      · have hmf := hRF.mf
        have hov := over_one w.heap.size go co cpx ox a wr (by
          obtain ⟨o', c', e1, hss, _⟩ := own_ss (l := [a]) hown rfl
          injection e1 with e1 _ _
          rw [e1]
          exact hss) (fun w' hb' => by
          have := (hmf.below hb' hmf.lt).get 79 22 Try.underlying79 (by kernel_rfl : (zeroValue 22).run Try.prog w' = .ok (.slice none 0 0) w') a ha32 false
          rw [HF.out.1] at this
          exact this)
        have HO := Lib.hid (And.intro hown hB)
        have hwrl := hB.size
        clear hRF hmf hY hown hB hc0 hl0
        go_wp2_with (first | (go_at_call 41; with_reducible refine hov.mono ?_; rintro e w5 ⟨eb, rfl, heb, hM5, hb5⟩; have HM5 := Lib.hid (And.intro hM5 hb5); clear hM5 hb5) | (go_at_call 42; with_reducible refine (del_one go co w5.heap.size eb a ha32 _ ?hs6 ?hc6 ?hm6).mono ?_))
        case hs6 =>
          obtain ⟨o', c', e1, hss, _⟩ := own_ss (l := [a]) HO.out.1 rfl
          injection e1 with e1 _ _
          rw [← e1] at hss
          exact (hss.below HM5.out.2).below ((Below.refl _ _).alloc (Nat.le_refl _) _)
        case hc6 => exact cell_new0 w5 (.map (some eb)) 87
        case hm6 => exact HM5.out.1.block (Lib.alloc_old _ _ _ HM5.out.1.lt)
        rintro e w7 ⟨rfl, hb7⟩
        have hss7 : Ss w7 (some ⟨go, 0, none⟩) [a] := by
          obtain ⟨o', c', e1, hss, _⟩ := own_ss (l := [a]) HO.out.1 rfl
          injection e1 with e1 _ _
          rw [← e1] at hss
          exact ((hss.below HM5.out.2).below ((Below.refl _ _).alloc (Nat.le_refl _) _)).below hb7
        have hmin := Try.slices_Min_string go 0 1 co [a] w7 (by decide) (Nat.le_refl _) (by decide) (fun j hj => by
          obtain rfl : j = 0 := by simpa using hj
          exact hss7.at (i := 0) (x := a) rfl)
        rw [show Lib.minOfS (List.take 1 [a]) = a by simp [Lib.minOfS, Lib.minS]] at hmin
        have hB7 : Below w.heap.size w w7 := by
          have h5 : Below w.heap.size w w5 := HO.out.2.trans (HM5.out.2.mono HO.out.2.size)
          exact (h5.alloc h5.size _).trans (hb7.mono (Nat.le_trans h5.size (by simp)))
        clear hss7 hb7
        go_wp2_with (go_at_call 44; with_reducible refine hmin.mono ?_; rintro e w8 ⟨rfl, rfl⟩)
        exact bodyPost_ret (v := .tuple #[.string a, .bool true, .int .i64 0]) (by simp [results, Try.results23, go_sem]) rfl ⟨rfl, hB7⟩
    · obtain rfl : s = a := HF.out.2 s v hfs
      rw [HF.out.1] at hfs
      injection hfs with hfs
      subst hfs
      rcases hst with ⟨h1, rfl⟩ | ⟨h1, _⟩
      · have hYn := hY.grown hgn (by simp; omega) (.inl rfl)
        obtain ⟨o, k, cp, hlk, _⟩ := hYn.get 79 Try.underlying79 s ha32 true
        rw [show (g2 s b s).isSome = true by unfold g2; rw [if_neg hab, if_pos rfl]; rfl] at hlk
        replace hlk : (Instr.lookup 79 (.map (some (w.heap.size + 1))) (.string s) true).run Try.prog wn = .ok (.tuple #[.slice o k cp, .bool true]) wn := hlk
        have hBn : Below w.heap.size w wn := ⟨hgn.os.trans hB.os, hgn.tape.trans hB.tape, hgn.output.trans hB.output, Nat.le_trans hB.size hgn.size, fun k hk => (hgn.block k (Nat.lt_of_lt_of_le hk hB.size) (by simp; omega)).trans (hB.block k hk)⟩
        have hnl : w3.heap.size < wn.heap.size := by omega
        have HR := Lib.hid (And.intro hRF' (And.intro hBn (And.intro hYn (And.intro hRF hlt))))
        clear hRF' hRF hB hY hBn hYn h1 hls hgn hlt hszn
        go_wp2_with (at_builtin; go_loud (refine wpList_appAt rfl (.tmp 47) (.tmp 49) 22 rfl w3.heap.size 9 i0 (.string ⟨#[]⟩) 16 Try.underlying22 hi0 hz0 hz1 hz2 rfl (.slice none 0 0) 0 [] rfl (World.ownsRow_nil _ _ _ _) (some ⟨wn.heap.size, 0, none⟩) [s] 1 rfl 1 rfl (fun e => by cases e) (ss_new wn s _) ?m0 ?b0 ?s0 ?_))
        case m0 => unfold maxLen; simp
        case b0 => simp
        case s0 => simp; omega
        intro v5 w5 hown5 hg5 hloc5
        have hg45 : wn.grownBy w5 none := (World.grownBy_alloc wn (.cells #[.string s] 9) none).trans hg5
        obtain ⟨go, co, rfl, hgo⟩ : ∃ go co, v5 = .slice (some ⟨go, 0, none⟩) 1 co ∧ w3.heap.size < go := by
          rcases hown5.2 with ⟨e1, e2⟩ | ⟨g, cap, cur, e1, _⟩
          · cases e2
          · refine ⟨g, cap, e1, ?_⟩
            rw [e1] at hloc5
            simp [Value.ownBlock] at hloc5
            omega
        have hown5' : w5.ownsRow w3.heap.size 9 1 (.slice (some ⟨go, 0, none⟩) 1 co) 1 [.string s] := hown5
        have HG := Lib.hid (And.intro hg45 hown5')
        clear hg45 hown5 hown5' hg5 hloc5
        go_wp2
        go_roundw
        case rel =>
          obtain ⟨q1, q2, q3, q4, q5⟩ := HR.out
          obtain ⟨q6, q7⟩ := HG.out
          refine ⟨_, _, q1.kept q6 (by simp) (by simp), ⟨q6.os.trans q2.os, q6.tape.trans q2.tape, q6.output.trans q2.output, Nat.le_trans q2.size q6.size, fun k hk => (q6.block k (Nat.lt_of_lt_of_le hk q2.size) (by simp)).trans (q2.block k hk)⟩, q3.grown q6 (by simp) (.inr rfl), Nat.lt_of_lt_of_le hnl q6.size, .inr ⟨by simp, go, co, rfl, hgo, q7⟩⟩
        case measure =>
          obtain ⟨q1, q2, q3, q4, q5⟩ := HR.out
          obtain ⟨q6, q7⟩ := HG.out
          rw [(q1.kept q6 (by simp) (by simp)).left_eq, q4.left_eq]
          exact q5
      · rw [hls] at h1; cases h1
end Go.Proofs.Ytkjgbldooflodaa
