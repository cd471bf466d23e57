/-
  The walk of graph.add.
-/
import Derived.Test.YtkjgbldooflodaaCmN
namespace Go.Proofs.Ytkjgbldooflodaa
open Go.RowKit Cm Mp
set_option maxRecDepth 100000
set_option linter.unusedVariables false
set_option linter.unusedSimpArgs false
/-- What telling all that is ahead of a commit leaves. -/
def AddOut (S : ByteArray → Option ByteArray) (K : List ByteArray) (p : ByteArray) (gb : Nat) (w : World) (e : Ending) (w' : World) : Prop :=
  w.grownBy w' (some gb) ∧ ((e = .returned (.int .i64 0) ∧ ∃ g n vis, GR w' gb n none g ∧ Full S p g ∧ n ≤ K.length ∧ Under S K p g vis []) ∨ (e = .returned (.int .i64 6) ∧ ∃ s, Ahd S p s ∧ par S s = none))
theorem gb_of_below {w w' : World} (h : Below w.heap.size w w') (row : Option Nat) : w.grownBy w' row := ⟨h.os, h.tape, h.output, h.size, fun k hk _ => h.block k hk⟩
theorem GR.grown2 {w w' : World} {gb n : Nat} {r2 row' : Option Nat} {g : ByteArray → Option (List ByteArray)} (h : GR w gb n r2 g) (hg : w.grownBy w' r2) (hgb : some gb ≠ r2) (hr : row' = r2 ∨ ∀ k, row' = some k → w.heap.size ≤ k) : GR w' gb n row' g := by
  obtain ⟨F, h, h2⟩ := h
  refine ⟨F, h.grown hg hgb, fun s => ?_⟩
  have h3 := h2 s
  unfold Tells at h3 ⊢
  cases hgs : g s with
  | none => rw [hgs] at h3; exact h3
  | some l =>
    rw [hgs] at h3
    obtain ⟨o, cp, e1, e2, e3, e4⟩ := h3
    refine ⟨o, cp, e1, e2.grown hg e4, e3, fun x hx hn he => ?_⟩
    rcases hr with hr | hr
    · exact e4 x hx hn (by rw [he, hr])
    · have h5 := hr x.block he.symm
      have h6 := (e2.2 x hx).1 hn
      omega
theorem Src.grown {w w' : World} {hb mb n gb : Nat} {S : ByteArray → Option ByteArray} (h : Src w hb mb n S) (hg : w.grownBy w' (some gb)) (h1 : gb ≠ mb) (h2 : gb ≠ hb) : Src w' hb mb n S :=
  ⟨(hg.block hb h.lt.1 (fun e => h2 (by injection e with e; exact e.symm))).trans h.blk, h.mf.grown hg (fun e => h1 (by injection e with e; exact e.symm))⟩
theorem concat_of {l : List ByteArray} (h : 0 < l.length) : ∃ ts x, l = ts ++ [x] := by
  rcases List.eq_nil_or_concat l with rfl | ⟨ts, x, rfl⟩
  · exact absurd h (by simp)
  · exact ⟨ts, x, by simp⟩
set_option maxHeartbeats 8000000 in
theorem add_any (S : ByteArray → Option ByteArray) (K : List ByteArray) (hb mb ns gb : Nat) (p : ByteArray) (w : World) (hS : Src w hb mb ns S) (hK : ∀ s, S s ≠ none → s ∈ K) (hKl : K.length ≤ 100000) (hz : ∀ s t, S s = some t → t.size ≤ 1000000)
    (hgb : GR w gb 0 none (fun _ => none)) (hne : gb ≠ mb) (hnh : gb ≠ hb) (hp32 : p.size ≤ maxLen) :
    Calls Try.prog 36 #[.map (some gb), hp hb, .string p] w fun e w' => AddOut S K p gb w e w' := by
  obtain ⟨i0, hi0, hz0, hz1, hz2⟩ := info_parts (P := Try.prog) (e := 9) (z := .string ⟨#[]⟩) (size := 1) (bytes := 16) (by kernel_rfl)
  have hown0 := World.ownsRow_lit (base := w.heap.size) (e := 9) (size := 1) w #[.string p] 1 (Nat.le_refl _) (by unfold maxLen; omega) rfl
  have hg0 : w.grownBy (w.alloc (.cells #[.string p] 9)) (some gb) := World.grownBy_alloc _ _ _
  have hgr0 : GR (w.alloc (.cells #[.string p] 9)) gb 0 (some w.heap.size) (fun _ => none) := (hgb.newrow (row' := some w.heap.size) (.inr fun k hk => by cases hk; exact Nat.le_refl _)).grown (World.grownBy_alloc _ _ none) (by simp) (.inr rfl)
  go_enter Try.func36, Try.ntmps36
  go_wp2
  go_loopg [7] (3 * K.length + 1) (fun k v wr => ∃ (td vis : List ByteArray) (c : Nat) (o : Option Addr) (g : ByteArray → Option (List ByteArray)) (n : Nat),
      v = .slice o td.length c ∧ wr.ownsRow w.heap.size 9 1 (.slice o td.length c) td.length (td.map Value.string) ∧ GR wr gb n ((Value.slice o td.length c).ownBlock) g ∧ Hid (Under S K p g vis td ∧ n ≤ vis.length ∧ (∀ s ∈ td, s.size ≤ maxLen) ∧ td.length ≤ 2 * vis.length + 1 ∧ k = 3 * (K.length - vis.length) + td.length) ∧ w.grownBy wr (some gb))
  case atStart =>
    refine ⟨[p], [], 1, some ⟨w.heap.size, 0, none⟩, fun _ => none, 0, rfl, by simpa using hown0, hgr0, Lib.hid ⟨Under.start S K p, Nat.zero_le _, (fun s hs => by rw [List.mem_singleton] at hs; rw [hs]; exact hp32), by simp, by simp⟩, hg0⟩
  case round =>
    obtain ⟨td, vis, c, o, g, n, rfl, hown, hgr, HU, hG⟩ := hrel
    have hSr := hS.grown hG hne hnh
    have hgl := hgb.lt
    by_cases h0 : 0 < td.length
    · obtain ⟨ts, x, rfl⟩ := concat_of h0
      obtain ⟨N, hN⟩ : ∃ N, N = ts.length := ⟨_, rfl⟩
      have hl : (ts ++ [x]).length = N + 1 := by rw [hN]; simp
      obtain ⟨hUn, hn, hsz, htd, hk⟩ := HU.out
      rw [hl] at hown hgr htd hk ⊢
      have hvl := hUn.count
      rcases hown.2 with ⟨e1, _⟩ | ⟨tb, cap, cur, e1, hbase, hblk, hcap, hmax, hcs, htk⟩
      · cases e1
      · injection e1 with e1 e2 e3
        subst e1 e3
        clear e2
        have hcx := hown.cells rfl N (.string x) (by rw [hN, List.getElem?_map, List.getElem?_append_right (Nat.le_refl _)]; simp)
        have hcx2 : wr.cell? ⟨tb, N, none⟩ = some (.string x) := by
          rw [show (⟨tb, 0, none⟩ : Addr).add N = ⟨tb, N, none⟩ by unfold Addr.add; split <;> simp_all] at hcx
          exact hcx
        have hpop := ownsRow_pop (n := N) (size := 1) (xs := ts.map Value.string) (last := [.string x]) (by rw [List.length_map, hN, Nat.mul_one]) (by simpa using hown)
        have hx32 : x.size ≤ maxLen := hsz x (by simp)
        have hgr' : GR wr gb n (some tb) g := hgr
        have hgtb : gb ≠ tb := by omega
        have f1 : IntKind.i64.wrap (N : Int) = N := wrap_fit _ (by omega) (by omega)
        have f2 : IntKind.i64.wrap ((N : Int) + 1) = (N : Int) + 1 := wrap_fit _ (by omega) (by omega)
        have f3 : decide ((N : Int) + 1 > 0) = true := decide_eq_true (by omega)
        have f4 : decide (0 < (N : Int) + 1) = true := f3
        have f5 : (N : Int) < (N : Int) + 1 := by omega
        have f6 : (N : Int) ≤ c := by omega
        obtain ⟨vo, vk, vc, hrun, hvk, hvs, hvn, hvb⟩ := hgr'.get 79 Try.underlying79 x hx32 true
        replace hrun : (Instr.lookup 79 (.map (some gb)) (.string x) true).run Try.prog wr = .ok (.tuple #[.slice vo vk vc, .bool (g x).isSome]) wr := hrun
        have HN := Lib.hid hN
        have HUn := Lib.hid (And.intro (And.intro hUn (And.intro hn hsz)) (And.intro htd (And.intro hk hvl)))
        cases hgx : g x with
        | some l0 =>
          rw [hgx] at hrun
          replace hrun : (Instr.lookup 79 (.map (some gb)) (.string x) true).run Try.prog wr = .ok (.tuple #[.slice vo vk vc, .bool true]) wr := hrun
          clear hN hUn hn hsz htd hk hvl HU hl h0 hvk hcx hblk htk hcs hcap hmax hvb hvs hvn
          go_wp2
          obtain ⟨⟨hUn, hn, hsz⟩, htd, hk, hvl⟩ := HUn.out
          go_roundg (3 * (K.length - vis.length) + N)
          case measure => omega
          case rel =>
            have hN := HN.out
            exact ⟨ts, vis, c, some ⟨tb, 0, none⟩, g, n, by rw [← hN], by rw [← hN]; exact hpop, by rw [← hN]; exact hgr', Lib.hid ⟨hUn.skip (by rw [hgx]; rfl), hn, fun s hs => hsz s (List.mem_append_left _ hs), by omega, by omega⟩, hG⟩
        | none =>
          rw [hgx] at hrun
          replace hrun : (Instr.lookup 79 (.map (some gb)) (.string x) true).run Try.prog wr = .ok (.tuple #[.slice vo vk vc, .bool false]) wr := hrun
          clear hN hUn hn hsz htd hk hvl HU hl h0 hvk hcx hblk htk hcs hcap hmax hvb hvs hvn
          cases hgc : getC S x with
          | none =>
            have hcall := fun w h => cget_none hb mb ns S x w h hx32 (fun t => hz x t) hgc
            go_wp2_with (go_at_call 18; refine (hcall _ hSr).mono ?_; rintro e w1 ⟨⟨cc, co, ccp, rfl⟩, hb1⟩)
            go_ret
            obtain ⟨⟨hUn, hn, hsz⟩, htd, hk, hvl⟩ := HUn.out
            refine ⟨?_, .inr ⟨rfl, x, hUn.reach x (.inr (by simp)), by unfold par; rw [hgc]; rfl⟩⟩
            have hg1 := (gb_of_below hb1 (some gb)).trans (gb_of_below ((Below.refl _ _).alloc (Nat.le_refl _) (.cells #[.string cc.root, .slice co cc.par.length ccp, .string cc.msg] 24)) (some gb))
            exact hG.trans hg1
          | some c0 =>
            have hcall := fun w h => cget_some hb mb ns S x c0 w h hx32 (fun t => hz x t) hgc
            have hro : right c0 = true := by
              unfold getC at hgc
              cases hs : S x with
              | none => rw [hs] at hgc; cases hgc
              | some t => rw [hs] at hgc; exact (write_read hgc).1
            obtain ⟨hp2, _, _, _, hpf⟩ := right_parts hro
            have hxK : x ∈ K := hK x (by
              intro e
              unfold getC at hgc
              rw [e] at hgc
              cases hgc)
            have hnk : n ≤ 100000 := by
              obtain ⟨⟨hUn, hn, hsz⟩, htd, hk, hvl⟩ := HUn.out
              omega
            have hNk : N ≤ 200001 := by
              obtain ⟨⟨hUn, hn, hsz⟩, htd, hk, hvl⟩ := HUn.out
              omega
            have HRO := Lib.hid (And.intro hro hpf)
            clear hro hpf
            obtain ⟨rr, ll, mm⟩ := c0
            dsimp only at hcall hp2 HRO
            have HGC := Lib.hid hgc
            have HXK := Lib.hid hxK
            clear hgc hxK
            have htl : tb < wr.heap.size := World.block_lt_of_cell? wr ⟨tb, N, none⟩ hcx2
            have hg1l : gb < wr.heap.size := hgr'.lt
            go_wp2_with (first | (go_at_call 18; refine (hcall _ hSr).mono ?_; rintro e w1 ⟨co, ccp, rfl, hcs1, hcn1, hcc1, hcf1, hb1⟩; have hb2 : Below w1.heap.size w1 (w1.alloc (.cells #[.string rr, .slice co ll.length ccp, .string mm] 24)) := (Below.refl _ _).alloc (Nat.le_refl _) _; have hnb : ∀ y, co = some y → ll ≠ [] → some y.block ≠ some tb := (fun y hy _ he => by (have h1 := hcf1 y hy; injection he with he; omega)); obtain ⟨w3, hup, hgr3, hg3⟩ := ((hgr'.below hb1).below hb2).put 79 Try.underlying79 (by (unfold maxLen; omega)) x hx32 co ll ccp (hcs1.below hb2) hcn1 hnb; have hw1l := hb1.size; have hblk3 := (hg3.block w1.heap.size (by simp) (by (simp; omega))).trans (heap_alloc_new w1 (.cells #[.string rr, .slice co ll.length ccp, .string mm] 24)); have k3 : w3.cell? ⟨w1.heap.size, 1, none⟩ = some (.slice co ll.length ccp) := (by (rw [Lib.cell_of_heap hblk3]; rfl)); have hown3 := ((hpop.kept (gb_of_below hb1 none) (.inr (by simp [Value.ownBlock]))).kept (gb_of_below hb2 none) (.inr (by simp [Value.ownBlock]))).kept hg3 (.inr (by (simp [Value.ownBlock]; omega))); have hss3 : Ss w3 co ll := (hcs1.below hb2).grown hg3 (fun y hy _ he => by (have h1 := hcf1 y hy; injection he with he; omega)); have HB2 := Lib.hid hb2; have HG3 := Lib.hid hg3; clear hb2 hblk3 hg3) | (at_builtin; go_loud (refine wpList_appAt rfl (.tmp 49) (.tmp 51) 22 rfl w.heap.size 9 i0 (.string ⟨#[]⟩) 16 Try.underlying22 hi0 hz0 hz1 hz2 rfl _ N (ts.map Value.string) rfl hown3 co ll ll.length rfl ccp rfl hcn1 hss3 ?m0 ?b0 ?s0 ?_)))
            case m0 => unfold maxLen; omega
            case b0 => omega
            case s0 => exact Nat.le_trans (Nat.le_trans hG.size hw1l) (Nat.le_trans HB2.out.size HG3.out.size)
            intro v4 w4 hown4 hg4 hloc
            rw [← List.map_append] at hown4
            have hN := HN.out
            obtain ⟨o4, c4, rfl, hss4, _, _, _⟩ := own_ss hown4 (by rw [List.length_append, hN])
            have hlen : (ts ++ ll).length = N + ll.length := by rw [List.length_append, hN]
            have HL := Lib.hid hlen
            clear hN hlen
            go_wp2
            obtain ⟨⟨hUn, hn, hsz⟩, htd, hk, hvl⟩ := HUn.out
            have hmore := hUn.more hgx (show par S x = some ll by unfold par; rw [HGC.out]; rfl) HXK.out
            have hcnt := hmore.count
            rw [List.length_cons] at hcnt
            go_roundg (3 * (K.length - (vis.length + 1)) + (N + ll.length))
            case measure => omega
            case rel =>
              have hl := HL.out
              rw [hl] at hown4 hloc
              refine ⟨ts ++ ll, x :: vis, c4, o4, fun s => if s = x then some ll else g s, n + 1, by rw [hl], by rw [hl]; exact hown4, ?_, Lib.hid ⟨hmore, by rw [List.length_cons]; omega, fun s hs => ?_, by rw [List.length_cons, hl]; omega, by rw [List.length_cons, hl]⟩, ?_⟩
              · rw [hl]
                refine hgr3.grown2 hg4 (by simp [Value.ownBlock]; omega) ?_
                rcases hloc with h | h
                · exact .inl h
                · exact .inr fun k hk => by rw [h] at hk; cases hk; exact Nat.le_refl _
              · rcases List.mem_append.1 hs with h | h
                · exact hsz s (List.mem_append_left _ h)
                · have := HRO.out.2
                  unfold fine at this
                  have h2 := List.all_eq_true.1 this s h
                  have h3 : s.size = 32 := by simpa using h2
                  rw [h3]
                  decide
              · have e1 : w.grownBy w3 (some gb) := ((hG.trans (gb_of_below hb1 _)).trans (gb_of_below HB2.out _)).trans HG3.out
                exact ⟨hg4.os.trans e1.os, hg4.tape.trans e1.tape, hg4.output.trans e1.output, Nat.le_trans e1.size hg4.size, fun k hk hne2 => (hg4.block k (Nat.lt_of_lt_of_le hk e1.size) (by simp [Value.ownBlock]; omega)).trans (e1.block k hk hne2)⟩
    · obtain rfl : td = [] := List.eq_nil_of_length_eq_zero (by omega)
      obtain ⟨hUn, hn, hsz, htd, hk⟩ := HU.out
      have hvl := hUn.count
      go_wp2
      go_ret
      exact ⟨hG, .inl ⟨rfl, g, n, vis, hgr.newrow (.inr fun k hk => by cases hk), hUn.done, by omega, hUn⟩⟩
end Go.Proofs.Ytkjgbldooflodaa
