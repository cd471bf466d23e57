/-
  The walk of graph.over: all that is ahead of some commits.
-/
import Derived.Test.YtkjgbldooflodaaCmT
import Derived.Test.YtkjgbldooflodaaCmO
import Derived.Test.YtkjgbldooflodaaCn0
namespace Go.Proofs.Ytkjgbldooflodaa
open Go.RowKit Cm Mp
set_option maxRecDepth 100000
set_option linter.unusedVariables false
set_option linter.unusedSimpArgs false
def inB (s : ByteArray) (vis : List ByteArray) : Bool := vis.any fun x => decide (x = s)
theorem inB_iff (s : ByteArray) (vis : List ByteArray) : inB s vis = true ↔ s ∈ vis := by
  unfold inB
  rw [List.any_eq_true]
  constructor
  · rintro ⟨x, hx, h⟩
    rw [← of_decide_eq_true h]
    exact hx
  · exact fun h => ⟨s, h, decide_eq_true rfl⟩
/-- What a map of truths tells at what is told of it. -/
def memB (vis : List ByteArray) : ByteArray → Option Value := fun s => if inB s vis = true then some (.bool true) else none
theorem memB_in {s : ByteArray} {vis : List ByteArray} (h : s ∈ vis) : memB vis s = some (.bool true) := if_pos ((inB_iff _ _).2 h)
theorem memB_out {s : ByteArray} {vis : List ByteArray} (h : s ∉ vis) : memB vis s = none := if_neg (fun e => h ((inB_iff _ _).1 e))
theorem memB_cons (q : ByteArray) (vis : List ByteArray) : (fun x => if x = q then some (Value.bool true) else memB vis x) = memB (q :: vis) := by
  funext x
  by_cases h : x = q
  · rw [if_pos h, memB_in (by rw [h]; exact List.mem_cons_self ..)]
  · rw [if_neg h]
    by_cases h2 : x ∈ vis
    · rw [memB_in h2, memB_in (List.mem_cons_of_mem _ h2)]
    · rw [memB_out h2, memB_out (fun e => (List.mem_cons.1 e).elim h h2)]
theorem memB_nil : (fun _ => none : ByteArray → Option Value) = memB [] := by
  funext x
  rw [memB_out (by simp)]
theorem addr_add0 (b j : Nat) : (⟨b, 0, none⟩ : Addr).add j = ⟨b, j, none⟩ := by
  unfold Addr.add
  split <;> simp_all
theorem GR.other {w w' : World} {gb n m E : Nat} {row : Option Nat} {g : ByteArray → Option (List ByteArray)} {f : ByteArray → Option Value} (h : GR w gb n row g) (hg : w.grownBy w' (some E)) (hm : MF w E m f) (hne : gb ≠ E) : GR w' gb n row g := by
  obtain ⟨F, h, h2⟩ := h
  refine ⟨F, h.grown hg (fun e => hne (by injection e)), fun s => ?_⟩
  have h3 := h2 s
  unfold Tells at h3 ⊢
  cases hgs : g s with
  | none => rw [hgs] at h3; exact h3
  | some l =>
    rw [hgs] at h3
    obtain ⟨o, cp, e1, e2, e3, e4⟩ := h3
    exact ⟨o, cp, e1, e2.grown hg (e2.notMap hm), e3, e4⟩
theorem below_of_grown {B : Nat} {w w' : World} {row : Option Nat} (h : w.grownBy w' row) (hr : ∀ k, row = some k → B ≤ k) (hB : B ≤ w.heap.size) : Below B w w' :=
  ⟨h.os, h.tape, h.output, h.size, fun k hk => h.block k (Nat.lt_of_lt_of_le hk hB) (fun e => by have := hr k e.symm; omega)⟩
theorem par_two {S : ByteArray → Option ByteArray} {x : ByteArray} {l : List ByteArray} (h : par S x = some l) : l.length ≤ 2 ∧ ∀ q ∈ l, q.size = 32 := by
  unfold par at h
  cases hc : getC S x with
  | none => rw [hc] at h; cases h
  | some c =>
    rw [hc] at h
    injection h with h
    subst h
    have hro : right c = true := by
      unfold getC at hc
      cases hs : S x with
      | none => rw [hs] at hc; cases hc
      | some t => rw [hs] at hc; exact (write_read hc).1
    obtain ⟨hp2, _, _, _, hpf⟩ := right_parts hro
    refine ⟨hp2, fun q hq => ?_⟩
    unfold fine at hpf
    simpa using List.all_eq_true.1 hpf q hq
set_option maxHeartbeats 8000000 in
theorem over_any (S : ByteArray → Option ByteArray) (R : ByteArray → Prop) (K ks : List ByteArray) (g : ByteArray → Option (List ByteArray)) (X0 nx go c : Nat) (w : World)
    (hgr : GR w X0 nx none g) (hg : ∀ s ∈ K, ∃ l, g s = some l ∧ par S s = some l ∧ ∀ q ∈ l, q ∈ K) (hKl : K.length ≤ 100000) (hK32 : ∀ s ∈ K, s.size ≤ maxLen)
    (hR : ∀ s, R s ↔ s ∈ ks) (hkK : ∀ s ∈ ks, s ∈ K) (hkl : ks.length ≤ 100000) (hne : ks ≠ []) (hs : Ss w (some ⟨go, 0, none⟩) ks) :
    Calls Try.prog 41 #[.map (some X0), .slice (some ⟨go, 0, none⟩) ks.length c] w fun e w' => ∃ eb n vis, e = .returned (.map (some eb)) ∧ w.heap.size ≤ eb ∧ MF w' eb n (memB vis) ∧ (∀ s, s ∈ vis ↔ Up S R s) ∧ Below w.heap.size w w' := by
  obtain ⟨i0, hi0, hz0, hz1, hz2⟩ := info_parts (P := Try.prog) (e := 9) (z := .string ⟨#[]⟩) (size := 1) (bytes := 16) (by kernel_rfl)
  have hb1 : Below w.heap.size w (w.alloc (.map #[] 0)) := (Below.refl _ _).alloc (Nat.le_refl _) _
  have hs1 := hs.below hb1
  have hcl := Try.slices_Clone_string go 0 ks.length c ks (w.alloc (.map #[] 0)) (Nat.le_refl _) (by omega) (fun j hj => by
    have := hs1.at (i := j) (x := ks[j]) (List.getElem?_eq_getElem hj)
    rw [List.getD_eq_getElem?_getD, List.getElem?_eq_getElem hj]
    rw [addr_add0] at this
    simpa using this)
  rw [List.take_length] at hcl
  have hmm := @run_makeMap Try.prog
  have hws : (w.alloc (.map #[] 0)).heap.size = w.heap.size + 1 := by simp
  rw [hws] at hcl
  have HSTART : ∀ v5 w5, w5.ownsRow (w.heap.size + 1) 9 1 v5 ks.length (ks.map Value.string) → Below (w.heap.size + 1) (w.alloc (.map #[] 0)) w5 → ∃ tb cc, v5 = .slice (some ⟨tb, 0, none⟩) ks.length cc ∧ w.heap.size + 1 ≤ tb ∧ GR w5 X0 nx (some tb) g ∧ MF w5 w.heap.size 0 (memB []) ∧ Below w.heap.size w w5 := fun v5 w5 hown hb5 => by
    rcases hown.2 with ⟨e1, e2⟩ | ⟨gg, cap, cur, e1, hb, hblk, _⟩
    · have : ks.length = 0 := by simpa using e2
      exact absurd (List.eq_nil_of_length_eq_zero this) hne
    · have hl := hgr.lt
      refine ⟨gg, cap, e1, hb, ?_, by rw [← memB_nil]; exact (MF.made w).below hb5 (by omega), hb1.trans (hb5.mono (by omega))⟩
      have h1 := (hgr.newrow (row' := some gg) (.inr fun k hk => by cases hk; omega)).grown (World.grownBy_alloc w (.map #[] 0) none) (by simp) (.inr rfl)
      exact h1.grown (r2 := none) ⟨hb5.os, hb5.tape, hb5.output, hb5.size, fun k hk _ => hb5.block k (by rw [hws] at hk; exact hk)⟩ (by simp) (.inr rfl)
  have HS := Lib.hid HSTART
  have hX0 := hgr.lt
  have HC := Lib.hid (And.intro (And.intro hg hKl) (And.intro hK32 (And.intro (And.intro hkK hR) hkl)))
  have HST := Lib.hid (Ob.start S R K ks hR)
  clear hg hKl hK32 hkK hkl HSTART hs hs1 hgr hb1 hR
  go_enter Try.func41, Try.ntmps41
  go_wp2_with (go_at_call 54; refine hcl.mono ?_; rintro e w5 ⟨v5, rfl, hown5, hne5, hb5⟩; obtain ⟨tb, cc, rfl, htb, hgr5, hM5, hB5⟩ := HS.out v5 w5 hown5 hb5; clear hne5 hb5)
  go_loopg [6] (ks.length + K.length) (fun k v wr => ∃ (td vis : List ByteArray) (c : Nat) (o : Option Addr) (n : Nat),
      v = .slice o td.length c ∧ wr.ownsRow (w.heap.size + 1) 9 1 (.slice o td.length c) td.length (td.map Value.string) ∧ GR wr X0 nx ((Value.slice o td.length c).ownBlock) g ∧ MF wr w.heap.size n (memB vis) ∧
      Hid (Ob S R K vis td ∧ n ≤ vis.length ∧ td.length ≤ ks.length + vis.length ∧ k = td.length + (K.length - vis.length)) ∧ Below w.heap.size w wr)
  case atStart => exact ⟨ks, [], cc, some ⟨tb, 0, none⟩, 0, rfl, hown5, hgr5, hM5, Lib.hid ⟨HST.out, by simp, by simp, by simp⟩, hB5⟩
  case round =>
    obtain ⟨td, vis, c, o, n, rfl, hown, hgr, hM, HU, hB⟩ := hrel
    by_cases h0 : 0 < td.length
    · obtain ⟨ts, x, rfl⟩ := concat_of h0
      obtain ⟨N, hN⟩ : ∃ N, N = ts.length := ⟨_, rfl⟩
      have hl : (ts ++ [x]).length = N + 1 := by rw [hN]; simp
      obtain ⟨hUn, hn, htd, hk⟩ := HU.out
      rw [hl] at hown hgr htd hk ⊢
      have hvl := hUn.count
      obtain ⟨⟨hg, hKl⟩, hK32, ⟨hkK, hR⟩, hkl⟩ := HC.out
      rcases hown.2 with ⟨e1, _⟩ | ⟨tb2, cap, cur, e1, hbase, hblk, hcap, hmax, hcs, htk⟩
      · cases e1
      · injection e1 with e1 e2 e3
        subst e1 e3
        clear e2
        have hcx := hown.cells rfl N (.string x) (by rw [hN, List.getElem?_map, List.getElem?_append_right (Nat.le_refl _)]; simp)
        have hcx2 : wr.cell? ⟨tb2, N, none⟩ = some (.string x) := by
          rw [show (⟨tb2, 0, none⟩ : Addr).add N = ⟨tb2, N, none⟩ by unfold Addr.add; split <;> simp_all] at hcx
          exact hcx
        have hpop := ownsRow_pop (n := N) (size := 1) (xs := ts.map Value.string) (last := [.string x]) (by rw [List.length_map, hN, Nat.mul_one]) (by simpa using hown)
        have hxK : x ∈ K := by
          rcases hUn.todo x (by simp) with h | h
          · exact hkK x ((hR x).1 h)
          · exact hUn.sub x h
        have hx32 := hK32 x hxK
        obtain ⟨l, hgl, hpl, hlK⟩ := hg x hxK
        have hgr' : GR wr X0 nx (some tb2) g := hgr
        obtain ⟨vo, vk, vc, hrun, hvk, hvs, hvn, hvb⟩ := hgr'.get 79 Try.underlying79 x hx32 false
        rw [hgl] at hvk hvs hvb
        dsimp only [Option.getD] at hvk hvs hvb
        obtain rfl := hvk
        replace hrun : (Instr.lookup 79 (.map (some X0)) (.string x) false).run Try.prog wr = .ok (.slice vo l.length vc) wr := hrun
        have hov := hUn.open hpl
        have f1 : IntKind.i64.wrap (N : Int) = N := wrap_fit _ (by omega) (by omega)
        have f2 : IntKind.i64.wrap ((N : Int) + 1) = (N : Int) + 1 := wrap_fit _ (by omega) (by omega)
        have f3 : decide ((N : Int) + 1 > 0) = true := decide_eq_true (by omega)
        have f4 : decide (0 < (N : Int) + 1) = true := f3
        have f5 : (N : Int) < (N : Int) + 1 := by omega
        have f6 : (N : Int) ≤ c := by omega
        have hll := (par_two hpl).1
        have HO := Lib.hid (And.intro hov (And.intro hn (And.intro htd (And.intro hk (And.intro hN hvl)))))
        have HLK := Lib.hid (And.intro hlK hgl)
        have HPV := Lib.hid (And.intro hpop hcx)
        have hTB : tb2 < wr.heap.size := World.block_lt_of_cell? wr ⟨tb2, N, none⟩ hcx2
        clear hN hUn hn htd hk hvl HU hl h0 hcx hblk htk hcs hcap hmax hown hgr hpop hg hK32 hkK hR hpl hlK hgl hov
        go_wp2
        go_loopg [6, 31] l.length (fun k v z wx => ∃ (td vis : List ByteArray) (c : Nat) (o : Option Addr) (n i : Nat),
          v = .slice o td.length c ∧ z = .int .i64 i ∧ i ≤ l.length ∧ wx.ownsRow (w.heap.size + 1) 9 1 (.slice o td.length c) td.length (td.map Value.string) ∧ GR wx X0 nx ((Value.slice o td.length c).ownBlock) g ∧ Ss wx vo l ∧
          (∀ y, vo = some y → l ≠ [] → some y.block ≠ (Value.slice o td.length c).ownBlock) ∧ MF wx w.heap.size n (memB vis) ∧
          Hid (Ov S R K vis td x l i ∧ n ≤ vis.length ∧ td.length ≤ ks.length + vis.length ∧ k = l.length - i ∧ td.length + (K.length - vis.length) < gk) ∧ Below w.heap.size w wx)
        case atStart =>
          obtain ⟨hov, hn, htd, hk, hN, hvl⟩ := HO.out
          refine ⟨ts, vis, c, some ⟨tb2, 0, none⟩, n, 0, by rw [← hN], by first | rfl | trivial, Nat.zero_le _, by rw [← hN]; exact HPV.out.1, by rw [← hN]; exact hgr', hvs, by rw [← hN]; exact hvb, hM, Lib.hid ⟨hov, hn, by omega, by omega, by omega⟩, hB⟩
        case round =>
          clear hM hB hgr' hcx2 hrun hvs hvb f1 f2 f3 f4 f5 f6 HPV hTB
          obtain ⟨td2, vis2, c2, o2, n2, i, rfl, rfl, hi, hown, hgr, hvs, hvb, hM, HU, hB⟩ := hrel
          by_cases hil : i < l.length
          · obtain ⟨q, hq⟩ : ∃ q, l[i]? = some q := ⟨l[i], List.getElem?_eq_getElem hil⟩
            have hlne : l ≠ [] := by intro e; rw [e] at hil; simp at hil
            obtain ⟨va, rfl⟩ := hvs.1 hlne
            have cq := hvs.at hq
            have hqK := HLK.out.1 q (List.mem_of_getElem? hq)
            have hq32 : q.size ≤ maxLen := HC.out.2.1 q hqK
            have hlk := hM.get 87 4 Try.underlying87 (zeroB wr) q hq32 false
            have i1 : IntKind.i64.wrap ((i : Int) + 1) = (i : Int) + 1 := wrap_fit _ (by omega) (by omega)
            have i2 : (i : Int) < l.length := by omega
            have HQ := Lib.hid (And.intro hq hqK)
            clear hq hqK
            by_cases hqv : q ∈ vis2
            · replace hlk : (Instr.lookup 87 (.map (some w.heap.size)) (.string q) false).run Try.prog wr = .ok (.bool true) wr := by
                have e : memB vis2 q = some (.bool true) := memB_in hqv
                rw [e] at hlk
                exact hlk
              have HQV := Lib.hid hqv
              clear hqv
              go_wp2
              obtain ⟨u1, u2, u3, u4, u5⟩ := HU.out
              go_roundg (l.length - (i + 1))
              case measure => omega
              case rel => exact ⟨td2, vis2, c2, o2, n2, i + 1, rfl, by go_num, hil, hown, hgr, hvs, hvb, hM, Lib.hid ⟨u1.skip HQ.out.1 HQV.out, u2, u3, rfl, u5⟩, hB⟩
            · replace hlk : (Instr.lookup 87 (.map (some w.heap.size)) (.string q) false).run Try.prog wr = .ok (.bool false) wr := by
                have e : memB vis2 q = none := memB_out hqv
                rw [e] at hlk
                exact hlk
              obtain ⟨u1, u2, u3, u4, u5⟩ := HU.out
              have hvc := u1.count
              have hmore := u1.more HQ.out.1 hqv HQ.out.2
              have hvc2 := hmore.count
              rw [List.length_cons] at hvc2
              have hKl := HC.out.1.2
              have hkl := HC.out.2.2.2
              have hob : ∀ k, (Value.slice o2 td2.length c2).ownBlock = some k → w.heap.size + 1 ≤ k ∧ k < wr.heap.size := fun k hk => by
                rcases hown.2 with ⟨e1, _⟩ | ⟨gg, cap, cur, e1, hb, hblk, _⟩
                · rw [e1] at hk; cases hk
                · rw [e1] at hk
                  simp [Value.ownBlock] at hk
                  subst hk
                  exact ⟨hb, (Array.getElem?_eq_some_iff.1 hblk).1⟩
              obtain ⟨w6, hup, hM6, hg6⟩ := hM.put 87 4 Try.underlying87 (by unfold maxLen; omega) q hq32 (.bool true)
              rw [memB_cons] at hM6
              have hE : (Value.slice o2 td2.length c2).ownBlock ≠ some w.heap.size := fun e => by have := (hob _ e).1; omega
              have hgr6 := hgr.other hg6 hM (by omega)
              have hown6 := hown.kept hg6 (.inr hE)
              have hvs6 := hvs.grown hg6 (hvs.notMap hM)
              have hg7 : w6.grownBy (w6.alloc (.cells #[.string q] 9)) none := World.grownBy_alloc _ _ _
              have hgr7 := hgr6.grown hg7 (by simp) (.inr rfl)
              have hvs7 := hvs6.grown hg7 (fun _ _ _ => by simp)
              have hM7 := hM6.grown hg7 (by simp)
              have hown7 : (w6.alloc (.cells #[.string q] 9)).ownsRow (w.heap.size + 1) 9 1 (.slice o2 td2.length c2) td2.length (td2.map Value.string) := hown6.kept hg7 (Classical.em _)
              have hB6 := hB.trans (below_of_grown hg6 (fun k hk => by cases hk; exact Nat.le_refl _) hB.size)
              have hB7 := hB6.trans (below_of_grown hg7 (fun k hk => by cases hk) hB6.size)
              have hsz6 := hg6.size
              have hsz7 : (w6.alloc (.cells #[.string q] 9)).heap.size = w6.heap.size + 1 := by simp
              have HP := Lib.hid (And.intro (And.intro hgr7 (And.intro hvs7 hM7)) (And.intro (And.intro hmore (And.intro u2 (And.intro u3 u5))) (And.intro (And.intro hvc2 hob) (And.intro hB7 hsz6))))
              have HVB := Lib.hid (And.intro hvb hvs6)
              have h7a : td2.length + 1 ≤ maxLen := by unfold maxLen; omega
              have h7b : (td2.length + 1) * 16 ≤ 140737488355328 := by omega
              have h7c : w.heap.size + 1 ≤ (w6.alloc (.cells #[.string q] 9)).heap.size := by have := hB6.size; omega
              clear hqv u1 u2 u3 u5 hvc hmore hvc2 hob hM6 hE hgr6 hown6 hvs6 hg7 hgr7 hvs7 hM7 hB6 hB7 hg6 hown hgr hvs hvb hM hKl hkl hsz6 hsz7 hB
              go_wp2_with (at_builtin; go_loud (refine wpList_appAt rfl (.tmp 41) (.tmp 43) 22 rfl (w.heap.size + 1) 9 i0 (.string ⟨#[]⟩) 16 Try.underlying22 hi0 hz0 hz1 hz2 rfl (.slice o2 td2.length c2) td2.length (td2.map Value.string) rfl hown7 (some ⟨w6.heap.size, 0, none⟩) [q] 1 rfl 1 rfl (fun e => by cases e) (ss_new w6 q _) ?m0 ?b0 ?s0 ?_))
              case m0 => exact h7a
              case b0 => exact h7b
              case s0 => exact h7c
              intro v8 w8 hown8 hg8 hloc8
              replace hown8 : w8.ownsRow (w.heap.size + 1) 9 1 v8 (td2.length + 1) ((td2 ++ [q]).map Value.string) := by rw [List.map_append]; exact hown8
              obtain ⟨o8, c8, hv8, _, _, _, _⟩ := own_ss hown8 (by simp)
              have hlen : (td2 ++ [q]).length = td2.length + 1 := by simp
              rw [hlen] at hv8
              subst hv8
              have hsz7 : (w6.alloc (.cells #[.string q] 9)).heap.size = w6.heap.size + 1 := by simp
              obtain ⟨⟨hgr7, hvs7, hM7⟩, ⟨hmore, u2, u3, u5⟩, ⟨hvc2, hob⟩, hB7, hsz6⟩ := HP.out
              have hE7 : (Value.slice o2 td2.length c2).ownBlock ≠ some w.heap.size := fun e => by have := (hob _ e).1; omega
              have hX7 : some X0 ≠ (Value.slice o2 td2.length c2).ownBlock := fun e => by have := (hob _ e.symm).1; omega
              have hvb8 : ∀ y, some va = some y → l ≠ [] → some y.block ≠ (Value.slice o8 (td2.length + 1) c8).ownBlock := fun y hy hn he => by
                rcases hloc8 with h | h
                · exact HVB.out.1 y hy hn (by rw [he]; exact h)
                · have h1 := (hvs7.2 y hy).1 hn
                  have h2 := Option.some.inj (he.trans h)
                  omega
              have hR8 : GR w8 X0 nx ((Value.slice o8 (td2.length + 1) c8).ownBlock) g := hgr7.grown2 hg8 hX7 (by
                rcases hloc8 with h | h
                · exact .inl h
                · exact .inr fun k hk => by rw [h] at hk; cases hk; omega)
              have hV8 := hvs7.grown hg8 (fun y hy hn => HVB.out.1 y hy hn)
              have hM8 := hM7.grown hg8 (fun e => hE7 e.symm)
              have hB8 := hB7.trans (below_of_grown hg8 (fun k hk => by have := (hob k hk).1; omega) hB7.size)
              have HF := Lib.hid (And.intro (And.intro hR8 (And.intro hV8 hM8)) (And.intro hB8 (And.intro hmore (And.intro u2 (And.intro u3 (And.intro u5 (And.intro hvc2 hlen)))))))
              have HVB8 := Lib.hid hvb8
              clear hgr7 hvs7 hM7 hmore u2 u3 u5 hvc2 hob hB7 hsz6 hlen hE7 hX7 hvb8 hR8 hV8 hM8 hB8 hloc8 hg8
              go_wp2
              obtain ⟨⟨hR8, hV8, hM8⟩, hB8, hmore, u2, u3, u5, hvc2, hlen⟩ := HF.out
              go_roundg (l.length - (i + 1))
              case measure => omega
              case rel =>
                refine ⟨td2 ++ [q], q :: vis2, c8, o8, n2 + 1, i + 1, by rw [hlen], by go_num, hil, by rw [hlen]; exact hown8, by rw [hlen]; exact hR8, hV8, by rw [hlen]; exact HVB8.out, hM8, Lib.hid ⟨hmore, by rw [List.length_cons]; omega, by rw [hlen, List.length_cons]; omega, rfl, by rw [hlen, List.length_cons]; omega⟩, hB8⟩
          · obtain rfl : i = l.length := by omega
            have i2 : ¬ ((l.length : Int) < l.length) := by omega
            go_wp2
            obtain ⟨u1, u2, u3, u4, u5⟩ := HU.out
            go_roundg (td2.length + (K.length - vis2.length))
            case measure => omega
            case rel => exact ⟨td2, vis2, c2, o2, n2, rfl, hown, hgr, hM, Lib.hid ⟨u1.close, u2, u3, rfl⟩, hB⟩
    · obtain rfl : td = [] := List.eq_nil_of_length_eq_zero (by omega)
      obtain ⟨hUn, hn, htd, hk⟩ := HU.out
      have hdone := hUn.done
      go_wp2
      go_ret
      exact ⟨w.heap.size, n, vis, rfl, Nat.le_refl _, hM, hdone, hB⟩
end Go.Proofs.Ytkjgbldooflodaa
