/-
  The walk of commit.Base, at whatever commits whose graph is whole.
-/
import Derived.Test.YtkjgbldooflodaaCn2
namespace Go.Proofs.Ytkjgbldooflodaa
open Go.RowKit Cm Mp
set_option maxRecDepth 100000
set_option linter.unusedVariables false
set_option linter.unusedSimpArgs false
theorem mem_concat {P Q : ByteArray → Prop} {td : List ByteArray} {left : ByteArray → Bool} {s : ByteArray} (h : ∀ x, x ∈ td ↔ left x = false ∧ P x ∧ Q x) (hs : P s ∧ Q s) : ∀ x, x ∈ td ++ [s] ↔ (left x && !decide (x = s)) = false ∧ P x ∧ Q x := by
  intro x
  rw [List.mem_append, List.mem_singleton, h]
  by_cases hx : x = s
  · subst hx
    simp [hs.1, hs.2]
  · simp [hx]
theorem mem_same {P Q : ByteArray → Prop} {td : List ByteArray} {left : ByteArray → Bool} {s : ByteArray} (h : ∀ x, x ∈ td ↔ left x = false ∧ P x ∧ Q x) (hs : ¬ Q s) : ∀ x, x ∈ td ↔ (left x && !decide (x = s)) = false ∧ P x ∧ Q x := by
  intro x
  rw [h]
  by_cases hx : x = s
  · subst hx
    simp [hs]
  · simp [hx]
theorem lift_sm {td : List ByteArray} (h : ∀ s ∈ td, s.size ≤ maxLen) : ∃ ks : List Sm, ks.map (·.1) = td := by
  induction td with
  | nil => exact ⟨[], rfl⟩
  | cons x r ih =>
    obtain ⟨ks, hk⟩ := ih (fun s hs => h s (List.mem_cons_of_mem _ hs))
    exact ⟨⟨x, h x (List.mem_cons_self ..)⟩ :: ks, by rw [List.map_cons, hk]⟩
theorem Tells.below {w w' : World} {fv : Option Value} {gl : Option (List ByteArray)} (h : Tells w none fv gl) (hb : Below w.heap.size w w') : Tells w' none fv gl := by
  unfold Tells at h ⊢
  cases gl with
  | none => exact h
  | some l =>
    obtain ⟨o, cp, e1, e2, e3, e4⟩ := h
    exact ⟨o, cp, e1, e2.below hb, e3, e4⟩
theorem Tells.other {w w' : World} {fv : Option Value} {gl : Option (List ByteArray)} {E m : Nat} {f : ByteArray → Option Value} (h : Tells w none fv gl) (hg : w.grownBy w' (some E)) (hm : MF w E m f) : Tells w' none fv gl := by
  unfold Tells at h ⊢
  cases gl with
  | none => exact h
  | some l =>
    obtain ⟨o, cp, e1, e2, e3, e4⟩ := h
    exact ⟨o, cp, e1, e2.grown hg (e2.notMap hm), e3, e4⟩
theorem encS_map (ks : List Sm) : ks.map encS = (ks.map (·.1)).map Value.string := by
  rw [List.map_map]
  rfl
set_option maxHeartbeats 8000000 in
theorem base_any (S : ByteArray → Option ByteArray) (K : List ByteArray) (hb mb ns : Nat) (a b : ByteArray) (w : World) (hS : Src w hb mb ns S) (hK : ∀ s, S s ≠ none → s ∈ K) (hKl : K.length ≤ 100000) (hz : ∀ s t, S s = some t → t.size ≤ 1000000) (hK32 : ∀ s ∈ K, s.size ≤ maxLen)
    (hfa : ∀ s, Ahd S a s → par S s ≠ none) (hfb : ∀ s, Ahd S b s → par S s ≠ none) (ha32 : a.size ≤ maxLen) (hb32 : b.size ≤ maxLen) :
    Calls Try.prog 23 #[hp hb, .string a, .string b] w fun e w' => ∃ c ok, e = .returned (.tuple #[.string c, .bool ok, .int .i64 0]) ∧ BaseOut S a b c ok ∧ Below w.heap.size w w' := by
  obtain ⟨i0, hi0, hz0, hz1, hz2⟩ := info_parts (P := Try.prog) (e := 9) (z := .string ⟨#[]⟩) (size := 1) (bytes := 16) (by kernel_rfl)
  obtain ⟨l1, l2⟩ := hS.lt
  have hwa : (w.alloc (.map #[] 0)).heap.size = w.heap.size + 1 := by simp
  obtain ⟨wb, hwb⟩ : ∃ wb, wb = (w.alloc (.map #[] 0)).alloc (.map #[] 0) := ⟨_, rfl⟩
  have hbb : Below w.heap.size w wb := by rw [hwb]; exact ((Below.refl _ _).alloc (Nat.le_refl _) _).alloc (by simp) _
  have hwbl : wb.heap.size = w.heap.size + 2 := by rw [hwb]; simp
  have hgX : GR wb w.heap.size 0 none (fun _ => none) := by rw [hwb]; exact (GR.made w none).grown (World.grownBy_alloc _ _ none) (by simp) (.inr rfl)
  have hgY : GR wb (w.heap.size + 1) 0 (some w.heap.size) (fun _ => none) := by
    have := GR.made (w.alloc (.map #[] 0)) (some w.heap.size)
    rw [hwa, ← hwb] at this
    exact this
  have hSb := hS.below hbb l1 l2
  have hx : Calls Try.prog 36 #[.map (some w.heap.size), hp hb, .string a] wb fun e w' => ∃ n g vis F, e = .returned (.int .i64 0) ∧ MF w' w.heap.size n F ∧ (∀ s, Tells w' none (F s) (g s)) ∧ Full S a g ∧ Under S K a g vis [] ∧ wb.grownBy w' (some w.heap.size) := by
    refine (add_any S K hb mb ns w.heap.size a wb hSb hK hKl hz hgX (by omega) (by omega) ha32).mono ?_
    rintro e w' ⟨hg, ⟨rfl, g, n, vis, hgr, hf, _, hu⟩ | ⟨_, s, hs, hn⟩⟩
    · obtain ⟨F, hF, hT⟩ := hgr
      exact ⟨n, g, vis, F, rfl, hF, hT, hf, hu, hg⟩
    · exact absurd hn (hfa s hs)
  have hy : ∀ w2, wb.grownBy w2 (some w.heap.size) → Calls Try.prog 36 #[.map (some (w.heap.size + 1)), hp hb, .string b] w2 fun e w' => ∃ n g, e = .returned (.int .i64 0) ∧ GR w' (w.heap.size + 1) n none g ∧ Full S b g ∧ (∀ fv gl, Tells w2 none fv gl → Tells w' none fv gl) ∧ w2.grownBy w' (some (w.heap.size + 1)) := fun w2 hg2 => by
    have hgY2 := (hgY.grown hg2 (by simp) (.inl rfl)).newrow (row' := none) (.inr fun k hk => by cases hk)
    refine (add_any S K hb mb ns (w.heap.size + 1) b w2 (hSb.grown hg2 (by omega) (by omega)) hK hKl hz hgY2 (by omega) (by omega) hb32).mono ?_
    rintro e w' ⟨hg, ⟨rfl, g, n, vis, hgr, hf, _⟩ | ⟨_, s, hs, hn⟩⟩
    · obtain ⟨FY, hFY, _⟩ := hgY2
      exact ⟨n, g, rfl, hgr, hf, fun fv gl h => h.other hg hFY, hg⟩
    · exact absurd hn (hfb s hs)
  have hmm := @run_makeMap Try.prog
  have HWB := Lib.hid hwb
  have HY := Lib.hid hy
  have HKK := Lib.hid (And.intro hKl hK32)
  rw [hwb] at hx
  clear hwb hgX hgY hSb hy hS hK hKl hz hK32 hfa hfb
  go_enter Try.func23, Try.ntmps23
  go_wp2_with (first | (go_at_call 36; with_reducible refine hx.mono ?_; rintro e w2 ⟨nx, gx, visx, Fx, rfl, hFx, hTx, hfx, hux, hg2⟩; have HF := Lib.hid (And.intro hTx (And.intro hfx hux)); clear hTx hfx hux) | (go_at_call 36; with_reducible refine (HY.out w2 (by rw [HWB.out]; exact hg2)).mono ?_; rintro e w3 ⟨ny, gy, rfl, hY3, hfy, hTo, hg3⟩; have hF3 := MF.grown hFx hg3 (by simp); obtain ⟨w4, cnt0, hrng, hRF, hg4, hsz4⟩ := hF3.range 79 22 Try.underlying79; have HFY := Lib.hid (And.intro hfy hTo); clear hfy hTo))
  have hw2l : w.heap.size + 2 ≤ w2.heap.size := by have := hg2.size; rw [← HWB.out, hwbl] at this; exact this
  have hw3l := hg3.size
  have hB2 : Below w.heap.size w w2 := by
    have hg2' : wb.grownBy w2 (some w.heap.size) := by rw [HWB.out]; exact hg2
    exact ⟨hg2'.os.trans hbb.os, hg2'.tape.trans hbb.tape, hg2'.output.trans hbb.output, Nat.le_trans hbb.size hg2'.size, fun k hk => (hg2'.block k (by omega) (by simp; omega)).trans (hbb.block k hk)⟩
  have hB3 : Below w.heap.size w w3 := ⟨hg3.os.trans hB2.os, hg3.tape.trans hB2.tape, hg3.output.trans hB2.output, Nat.le_trans hB2.size hg3.size, fun k hk => (hg3.block k (by omega) (by simp; omega)).trans (hB2.block k hk)⟩
  have hT3 : ∀ s, Tells w3 none (Fx s) (gx s) := fun s => HFY.out.2 _ _ (HF.out.1 s)
  have hB4 : Below w3.heap.size w3 w4 := ⟨hg4.os, hg4.tape, hg4.output, hg4.size, fun k hk => hg4.block k hk (by simp)⟩
  have hsz4' : w3.heap.size < w4.heap.size := by omega
  obtain ⟨⟨hTx, hfx, hux⟩, hfy, _⟩ := And.intro HF.out HFY.out
  have hdom : ∀ s, (Fx s).isSome = true ↔ Ahd S a s := fun s => by
    rw [← hfx.dom s]
    have h := hTx s
    unfold Tells at h
    cases hg : gx s with
    | none =>
      rw [hg] at h
      dsimp only at h
      rw [h]
      simp
    | some l =>
      rw [hg] at h
      obtain ⟨o, cp, e1, _⟩ := h
      rw [e1]
      simp
  have HD := Lib.hid (And.intro hdom (And.intro hT3 (And.intro hfx (And.intro hux hfy))))
  have HY3 := Lib.hid (And.intro (hY3.newrow (row' := some w3.heap.size) (.inr fun k hk => by cases hk; exact Nat.le_refl _)) hB3)
  have hini : ∀ x, x ∈ ([] : List ByteArray) ↔ (fun s => (Fx s).isSome) x = false ∧ Ahd S a x ∧ Ahd S b x := by
    intro x
    constructor
    · intro h
      cases h
    · rintro ⟨h1, h2, _⟩
      have h3 := (hdom x).2 h2
      dsimp only at h1
      rw [h3] at h1
      cases h1
  have HI := Lib.hid hini
  clear hFx hg2 hg3 hg4 hsz4 hrng hF3 hY3 hx HY hB2 hB3 hT3 hdom hTx hfx hux hfy hini
  go_loopw [13] (fun v wx => ∃ left cnt td o c, v = .slice o td.length c ∧ RF wx w.heap.size w3.heap.size nx Fx left cnt ∧ Below w3.heap.size w3 wx ∧ w3.heap.size < wx.heap.size ∧ wx.ownsRow (w3.heap.size + 1) 9 1 (.slice o td.length c) td.length (td.map Value.string) ∧
      Hid (td.Nodup ∧ (∀ x, x ∈ td ↔ left x = false ∧ Ahd S a x ∧ Ahd S b x) ∧ (td = [] → o = none ∧ c = 0)))
    (fun _ wx => wx.rangeLeft w.heap.size w3.heap.size)
  case atStart => exact ⟨_, _, [], none, 0, rfl, hRF, hB4, hsz4', World.ownsRow_nil _ _ _ _, Lib.hid ⟨List.nodup_nil, HI.out, fun _ => ⟨rfl, rfl⟩⟩⟩
  case round =>
    clear hRF hB4 hsz4'
    obtain ⟨left, cnt, td, o, c, rfl, hRF, hB, hwl, hown, HU⟩ := hrel
    obtain ⟨hnd, hmem, hnil⟩ := HU.out
    obtain ⟨hdom, hT3, hfx, hux, hfy⟩ := HD.out
    obtain ⟨hKl, hK32⟩ := HKK.out
    have hv32 : ∀ s ∈ visx, s.size ≤ maxLen := fun s hs => hK32 s (hux.sub s hs)
    have hvl : visx.length ≤ 100000 := by have := hux.count; omega
    have htv : ∀ s ∈ td, s ∈ visx := fun s hs => (hux.dom s).1 ((hfx.dom s).2 ((hmem s).1 hs).2.1)
    have htl : td.length ≤ 100000 := by have := len_sub td visx hnd htv; omega
    have hob : ∀ k, (Value.slice o td.length c).ownBlock = some k → w3.heap.size + 1 ≤ k ∧ k < wr.heap.size := fun k hk => by
      rcases hown.2 with ⟨e1, _⟩ | ⟨gg, cap, cur, e1, hb, hblk, _⟩
      · rw [e1] at hk; cases hk
      · rw [e1] at hk
        simp [Value.ownBlock] at hk
        subst hk
        exact ⟨hb, (Array.getElem?_eq_some_iff.1 hblk).1⟩
    have hBw : Below w.heap.size w wr := HY3.out.2.trans (hB.mono HY3.out.2.size)
    rcases hRF.next 0 with ⟨hc0, hl0, hrun⟩ | ⟨s, v, wn, cnt', hsz, hls, hfs, hrun, hRF', hlt, hgn, hszn, hent⟩
    · have hmem' : ∀ x, x ∈ td ↔ Ahd S a x ∧ Ahd S b x := fun x => by rw [hmem x]; simp [hl0 x]
      have hgg : ∀ s ∈ visx, ∃ l, gx s = some l ∧ par S s = some l ∧ ∀ q ∈ l, q ∈ visx := fun s hs => by
        have h1 := (hux.dom s).2 hs
        cases hg : gx s with
        | none => rw [hg] at h1; cases h1
        | some l =>
          obtain ⟨h2, h3⟩ := hux.tells s l hg
          exact ⟨l, rfl, h2, fun q hq => (h3 q hq).resolve_right (by simp)⟩
      have hGR : GR wr w.heap.size nx none gx := ⟨Fx, hRF.mf, fun s => (hT3 s).below hB⟩
      by_cases h0 : td = []
      · obtain ⟨rfl, rfl⟩ := hnil h0
        subst h0
        have hout : BaseOut S a b ⟨#[]⟩ false := base_none (fun x => ⟨(fun h => by cases h), fun h => (hmem' x).2 h.1⟩)
        have HE := Lib.hid (And.intro hout hBw)
        clear hout hBw hnd hmem hnil hdom hT3 hfx hux hfy hKl hK32 hv32 hvl htv htl hob hmem' hgg hGR hRF hown hB
        go_wp2_with (first | (go_at_call 41; with_reducible refine (over_nil _ _).mono ?_; rintro e w5 ⟨eb, rfl, hb5⟩; have HB5 := Lib.hid hb5; clear hb5) | (go_at_call 42; with_reducible refine (del_nil _ _).mono ?_; rintro e w7 ⟨rfl, rfl⟩))
        refine bodyPost_ret (v := .tuple #[.string ⟨#[]⟩, .bool false, .int .i64 0]) (by simp [results, Try.results23, go_sem]) rfl ⟨_, _, rfl, HE.out.1, ?_⟩
        have h5 := HE.out.2.trans (HB5.out.mono HE.out.2.size)
        exact h5.alloc h5.size _
      · obtain ⟨gb, e1, hgb, hgl⟩ : ∃ gb, o = some ⟨gb, 0, none⟩ ∧ w3.heap.size + 1 ≤ gb ∧ gb < wr.heap.size := by
          rcases hown.2 with ⟨e1, e2⟩ | ⟨gg, cap, cur, e1, hb, hblk, _⟩
          · exact absurd (List.eq_nil_of_length_eq_zero e2) h0
          · injection e1 with e1
            exact ⟨gg, e1, hb, (Array.getElem?_eq_some_iff.1 hblk).1⟩
        subst e1
        have hssd : Ss wr (some ⟨gb, 0, none⟩) td := by
          obtain ⟨o', c', e1, hss, _⟩ := own_ss hown rfl
          injection e1 with e1 _ _
          rw [e1]
          exact hss
        have hov := over_any S (fun s => Ahd S a s ∧ Ahd S b s) visx td gx w.heap.size nx gb c wr hGR hgg hvl hv32 (fun s => (hmem' s).symm) htv htl h0 hssd
        obtain ⟨ks, hks⟩ := lift_sm (fun s hs => hv32 s (htv s hs))
        have hkl : td.length = ks.length := by rw [← hks, List.length_map]
        rw [hkl] at hov htl hown ⊢
        have hown' : wr.ownsRow (w3.heap.size + 1) 9 1 (.slice (some ⟨gb, 0, none⟩) ks.length c) ks.length (ks.map encS) := by
          rw [encS_map, hks]
          exact hown
        have HE := Lib.hid (And.intro (And.intro hmem' hown') (And.intro hBw (And.intro hks htl)))
        have hgl2 : gb < wr.heap.size := hgl
        clear hown' hBw hnd hmem hnil hdom hT3 hfx hux hfy hKl hK32 hv32 hvl htv htl hob hmem' hgg hGR hRF hown hB hks hkl hssd
        go_wp2_with (first | (go_at_call 41; with_reducible refine hov.mono ?_; rintro e w5 ⟨eb, n5, vis5, rfl, heb, hM5, hv5, hb5⟩; have HM5 := Lib.hid (And.intro hM5 (And.intro hv5 hb5)); clear hM5 hv5 hb5) | (go_at_call 42; with_reducible refine (del_any (w3.heap.size + 1) w5.heap.size eb n5 gb c ks vis5 _ ?ho6 ?hc6 ?hm6 ?hp6 ?he6 ?hk6).mono ?_))
        case ho6 =>
          obtain ⟨_, _, hb5⟩ := HM5.out
          have h1 := HE.out.1.2.kept (gb_of_below hb5 none) (.inr (by simp [Value.ownBlock]))
          exact h1.kept (World.grownBy_alloc w5 _ none) (.inr (by simp [Value.ownBlock]))
        case hc6 => exact cell_new0 w5 (.map (some eb)) 87
        case hm6 => exact HM5.out.1.block (Lib.alloc_old _ _ _ HM5.out.1.lt)
        case hp6 => have := HM5.out.2.2.size; omega
        case he6 => omega
        case hk6 => have := HE.out.2.2.2; omega
        rintro e w7 ⟨fs, hfs, hfl, rfl, hown7, hb7⟩
        have hB7 : Below w.heap.size w w7 := by
          obtain ⟨_, _, hb5⟩ := HM5.out
          have h3 := HY3.out.2.size
          have h5 : Below w.heap.size w w5 := HE.out.2.1.trans (hb5.mono HE.out.2.1.size)
          exact (h5.alloc h5.size _).trans (hb7.mono (by omega))
        have hmf : ∀ x, x ∈ fs.map (·.1) ↔ Bs S a b x := fun x => by
          obtain ⟨⟨hmem', _⟩, _, hks, _⟩ := HE.out
          obtain ⟨_, hv5, _⟩ := HM5.out
          rw [List.mem_map]
          constructor
          · rintro ⟨y, hy, rfl⟩
            obtain ⟨h1, h2⟩ := (hfs y).1 hy
            refine ⟨(hmem' y.1).1 (by rw [← hks]; exact List.mem_map_of_mem h1), fun hu => h2 ((hv5 _).2 hu)⟩
          · rintro ⟨h1, h2⟩
            have h3 := (hmem' x).2 h1
            rw [← hks, List.mem_map] at h3
            obtain ⟨y, hy, rfl⟩ := h3
            exact ⟨y, (hfs y).2 ⟨hy, fun h => h2 ((hv5 _).1 h)⟩, rfl⟩
        by_cases hf0 : fs = []
        · subst hf0
          have hout : BaseOut S a b ⟨#[]⟩ false := base_none hmf
          have HE7 := Lib.hid (And.intro hout hB7)
          clear hout hB7 hmf hfs hown7 hb7 hfl
          go_wp2
          exact bodyPost_ret (v := .tuple #[.string ⟨#[]⟩, .bool false, .int .i64 0]) (by simp [results, Try.results23, go_sem]) rfl ⟨_, _, rfl, HE7.out.1, HE7.out.2⟩
        · have hfl0 : 0 < fs.length := List.length_pos_iff.2 hf0
          have hout := base_out hmf (by intro e; exact hf0 (List.map_eq_nil_iff.1 e))
          rw [encS_map] at hown7
          have hmin := Try.slices_Min_string gb 0 fs.length c (fs.map (·.1)) w7 hfl0 (by simp) (by have := HE.out.2.2.2; omega) (fun j hj => by
            have h1 := hown7.cells rfl j (.string ((fs.map (·.1)).getD j ByteArray.empty)) (by rw [List.getElem?_map, List.getElem?_eq_getElem hj, List.getD_eq_getElem?_getD, List.getElem?_eq_getElem hj]; rfl)
            rw [addr_add0] at h1
            simpa using h1)
          rw [show List.take fs.length (fs.map (·.1)) = fs.map (·.1) from List.take_of_length_le (by simp)] at hmin
          have f1 : ¬ ((fs.length : Int) = 0) := by omega
          have f2 : decide ((fs.length : Int) = 0) = false := decide_eq_false f1
          generalize Lib.minOfS (fs.map (·.1)) = mn at hmin hout
          have HE7 := Lib.hid (And.intro hout hB7)
          clear hout hB7 hmf hfs hown7 hb7 hfl hf0 hfl0
          go_wp2_with (go_at_call 44; with_reducible refine hmin.mono ?_; rintro e w8 ⟨rfl, rfl⟩)
          exact bodyPost_ret (v := .tuple #[.string mn, .bool true, .int .i64 0]) (by simp [results, Try.results23, go_sem]) rfl ⟨_, _, rfl, HE7.out.1, HE7.out.2⟩
    · have hYn := (HY3.out.1.below hB).grown hgn (by simp; omega) (.inl rfl)
      obtain ⟨ov, k, cp, hlk, _⟩ := hYn.get 79 Try.underlying79 s hsz true
      have has : Ahd S a s := (hdom s).1 (by rw [hfs]; rfl)
      have hBn : Below w3.heap.size w3 wn := hB.trans (below_of_grown hgn (fun k hk => by cases hk; exact Nat.le_refl _) hB.size)
      have hownn := hown.kept hgn (.inr (fun e => by have := (hob _ e).1; omega))
      have hst : s ∉ td := fun h => by have := ((hmem s).1 h).1; rw [hls] at this; cases this
      cases hgy : gy s with
      | none =>
        rw [hgy] at hlk
        replace hlk : (Instr.lookup 79 (.map (some (w.heap.size + 1))) (.string s) true).run Try.prog wn = .ok (.tuple #[.slice ov k cp, .bool false]) wn := hlk
        have hnb : ¬ Ahd S b s := fun h => by have := (hfy.dom s).2 h; rw [hgy] at this; cases this
        have hmm2 := mem_same hmem hnb
        have hnl : w3.heap.size < wn.heap.size := by omega
        have HR := Lib.hid (And.intro (And.intro hRF' (And.intro hBn hownn)) (And.intro (And.intro hnd hmm2) (And.intro hnil (And.intro hRF hlt))))
        clear hRF' hBn hownn hmm2 hnd hmem hnil hdom hT3 hfx hux hfy hKl hK32 hv32 hvl htv htl hob hRF hown hB hYn has hst hlt hgn hszn hfs hls hBw hgy hnb
        go_wp2
        obtain ⟨⟨q1, q2, q3⟩, ⟨q4, q5⟩, q6, q7, q8⟩ := HR.out
        go_roundw
        case rel => exact ⟨_, _, td, o, c, by first | rfl | trivial, q1, q2, by omega, q3, Lib.hid ⟨q4, q5, q6⟩⟩
        case measure =>
          rw [q1.left_eq, q7.left_eq]
          exact q8
      | some ly =>
        rw [hgy] at hlk
        replace hlk : (Instr.lookup 79 (.map (some (w.heap.size + 1))) (.string s) true).run Try.prog wn = .ok (.tuple #[.slice ov k cp, .bool true]) wn := hlk
        have hbs : Ahd S b s := (hfy.dom s).1 (by rw [hgy]; rfl)
        have hmm2 := mem_concat hmem ⟨has, hbs⟩
        have hnd2 : (td ++ [s]).Nodup := by
          rw [List.nodup_append]
          exact ⟨hnd, by simp, fun x hx y hy => by rw [List.mem_singleton] at hy; rw [hy]; intro e; rw [e] at hx; exact hst hx⟩
        have hown7 : (wn.alloc (.cells #[.string s] 9)).ownsRow (w3.heap.size + 1) 9 1 (.slice o td.length c) td.length (td.map Value.string) := hownn.kept (World.grownBy_alloc _ _ none) (Classical.em _)
        have h7a : td.length + 1 ≤ maxLen := by unfold maxLen; omega
        have h7b : (td.length + 1) * 16 ≤ 140737488355328 := by omega
        have h7c : w3.heap.size + 1 ≤ (wn.alloc (.cells #[.string s] 9)).heap.size := by simp; omega
        have hX7 : some w.heap.size ≠ (Value.slice o td.length c).ownBlock := fun e => by have := (hob _ e.symm).1; omega
        have hr7 : some w3.heap.size ≠ (Value.slice o td.length c).ownBlock := fun e => by have := (hob _ e.symm).1; omega
        have HR := Lib.hid (And.intro (And.intro hRF' (And.intro hBn hob)) (And.intro (And.intro hnd2 hmm2) (And.intro (And.intro hX7 hr7) (And.intro hRF hlt))))
        have hnl : w3.heap.size < wn.heap.size := by omega
        clear hRF' hBn hownn hmm2 hnd hmem hnil hdom hT3 hfx hux hfy hKl hK32 hv32 hvl htv htl hob hRF hown hB hYn has hst hlt hgn hszn hfs hls hBw hgy hbs hnd2 hX7 hr7
        go_wp2_with (at_builtin; go_loud (refine wpList_appAt rfl (.tmp 47) (.tmp 49) 22 rfl (w3.heap.size + 1) 9 i0 (.string ⟨#[]⟩) 16 Try.underlying22 hi0 hz0 hz1 hz2 rfl (.slice o td.length c) td.length (td.map Value.string) rfl hown7 (some ⟨wn.heap.size, 0, none⟩) [s] 1 rfl 1 rfl (fun e => by cases e) (ss_new wn s _) ?m0 ?b0 ?s0 ?_))
        case s0 => first | exact h7c | omega
        intro v5 w5 hown5 hg5 hloc5
        replace hown5 : w5.ownsRow (w3.heap.size + 1) 9 1 v5 (td.length + 1) ((td ++ [s]).map Value.string) := by rw [List.map_append]; exact hown5
        obtain ⟨o5, c5, hv5, _, _, _, _⟩ := own_ss hown5 (by simp)
        have hlen : (td ++ [s]).length = td.length + 1 := by simp
        rw [hlen] at hv5
        subst hv5
        have HG := Lib.hid (And.intro hg5 (And.intro hlen hloc5))
        clear hg5 hlen hloc5
        go_wp2
        obtain ⟨⟨q1, q2, hob⟩, ⟨q4, q5⟩, ⟨hX7, hr7⟩, q7, q8⟩ := HR.out
        obtain ⟨hg5, hlen, _⟩ := HG.out
        have hga : wn.grownBy (wn.alloc (.cells #[.string s] 9)) none := World.grownBy_alloc _ _ none
        have r1 := (q1.kept hga (by simp) (by simp)).kept hg5 hX7 hr7
        have b1 := q2.trans (below_of_grown hga (fun k hk => by cases hk) q2.size)
        have b2 := b1.trans (below_of_grown hg5 (fun k hk => by have := (hob k hk).1; omega) b1.size)
        have hg5s := hg5.size
        have hgas := hga.size
        go_roundw
        case rel => exact ⟨_, _, td ++ [s], o5, c5, by rw [hlen], r1, b2, by omega, by rw [hlen]; exact hown5, Lib.hid ⟨q4, q5, fun e => by simp at e⟩⟩
        case measure =>
          rw [r1.left_eq, q7.left_eq]
          exact q8
end Go.Proofs.Ytkjgbldooflodaa
