/-
  The walk of the law's Graph.
-/
import Derived.Test.YtkjgbldooflodaaCn6
import Derived.Deep.RegionHeld3
import Derived.Deep.AppendLies
namespace Go.Proofs.Ytkjgbldooflodaa
open Go.RowKit Cm Mp
set_option maxRecDepth 100000
set_option linter.unusedVariables false
set_option linter.unusedSimpArgs false
theorem own_lt {w : World} {base n : Nat} {e : TypeId} {v : Value} {xs : List Value} (h : w.ownsRow base e 1 v n xs) : ∀ k, v.ownBlock = some k → base ≤ k ∧ k < w.heap.size := fun k hk => by
  rcases h.2 with ⟨e1, _⟩ | ⟨gg, cap, cur, e1, hb, hbk, _⟩
  · rw [e1] at hk; cases hk
  · rw [e1] at hk
    simp [Value.ownBlock] at hk
    subst hk
    exact ⟨hb, (Array.getElem?_eq_some_iff.1 hbk).1⟩
theorem dis_ne {a b : Option Nat} (h : ∀ k, a = some k → b ≠ some k) : b = none ∨ b ≠ a := by
  cases a with
  | none => exact Classical.em _
  | some k => exact .inr (h k rfl)
theorem dis_ne2 {a b : Option Nat} (h : ∀ k, a = some k → b ≠ some k) : a = none ∨ a ≠ b := by
  cases a with
  | none => exact .inl rfl
  | some k => exact .inr (fun e => h k rfl e.symm)
theorem ml_le (i : Nat) {n : Nat} (h : i < n) (hn : n ≤ 24) : i + 1 ≤ maxLen := by unfold maxLen; omega
theorem mb_le (i : Nat) {n : Nat} (h : i < n) (hn : n ≤ 24) : (i + 1) * 16 ≤ 140737488355328 := by omega
theorem graph_fine {ps : List ByteArray} (h3 : ∀ q ∈ ps, q.size = 32) : fine ps = true := List.all_eq_true.2 fun q hq => decide_eq_true (h3 q hq)
theorem graph_right (B1 B2 : UInt8) (ps : List ByteArray) (h1 : ps.length ≤ 2) (h2 : twice ps = false) (h3 : ∀ q ∈ ps, q.size = 32) : right ⟨⟨#[48, 49, 50, 51, 52, 53, 54, 55, 56, 57, 48, 49, 50, 51, 52, 53, 54, 55, 56, 57, 48, 49, 50, 51, 52, 53, 54, 55, 56, 57, 48, 49]⟩, ps, ⟨#[B1, B2]⟩⟩ = true := by
  unfold right
  rw [decide_eq_true h1, h2, graph_fine h3]
  rfl
theorem graph_size (B1 B2 : UInt8) (ps : List ByteArray) (h1 : ps.length ≤ 2) (h3 : ∀ q ∈ ps, q.size = 32) : (⟨(writeB ⟨⟨#[48, 49, 50, 51, 52, 53, 54, 55, 56, 57, 48, 49, 50, 51, 52, 53, 54, 55, 56, 57, 48, 49, 50, 51, 52, 53, 54, 55, 56, 57, 48, 49]⟩, ps, ⟨#[B1, B2]⟩⟩).toArray⟩ : ByteArray).size ≤ 2000 := by
  have := joined_length ps (graph_fine h3)
  show (writeB ⟨⟨#[48, 49, 50, 51, 52, 53, 54, 55, 56, 57, 48, 49, 50, 51, 52, 53, 54, 55, 56, 57, 48, 49, 50, 51, 52, 53, 54, 55, 56, 57, 48, 49]⟩, ps, ⟨#[B1, B2]⟩⟩).toArray.size ≤ _
  rw [List.size_toArray]
  unfold writeB
  simp only [List.length_cons, List.length_append, this, List.length_nil]
  omega
theorem graph_mod (n : Int) (i : Nat) (hi : 0 < i) : ∃ j : Nat, (n.tmod i + i).tmod i = j ∧ j < i ∧ -(i : Int) < n.tmod i ∧ n.tmod i < i := by
  have h1 := Int.tmod_lt_of_pos n (show (0 : Int) < i by omega)
  have h2 := Int.lt_tmod_of_pos n (show (0 : Int) < i by omega)
  have h3 := Int.tmod_nonneg (i : Int) (show (0 : Int) ≤ n.tmod i + i by omega)
  have h4 := Int.tmod_lt_of_pos (n.tmod i + i) (show (0 : Int) < i by omega)
  exact ⟨((n.tmod i + i).tmod i).toNat, by omega, by omega, h2, h1⟩
set_option maxHeartbeats 8000000 in
theorem graph_any (o : Option Addr) (L : List (List Int)) (c : Nat) (w : World) (hL : LL w o L) (hl : L.length ≤ 24) (hll : ∀ l ∈ L, l.length ≤ 9223372036854775807) :
    Calls Try.prog 26 #[.slice o L.length c] w fun e w' => ∃ T o1 c1 o2 c2, e = .returned (.tuple #[.slice o1 T.length c1, .slice o2 T.length c2]) ∧ T.length = L.length ∧ GOK T ∧ Ss w' o1 T ∧ Ss w' o2 (T.map Sha.sha) ∧ Below w.heap.size w w' := by
  obtain ⟨i0, hi0, hz0, hz1, hz2⟩ := info_parts (P := Try.prog) (e := 9) (z := .string ⟨#[]⟩) (size := 1) (bytes := 16) (by kernel_rfl)
  go_enter Try.func26, Try.ntmps26
  go_wp2
  go_loopw [4, 5, 16] (fun v1 v2 vi wr => ∃ (i : Nat) (T : List ByteArray) (o1 : Option Addr) (c1 : Nat) (o2 : Option Addr) (c2 : Nat), v1 = .slice o1 i c1 ∧ v2 = .slice o2 i c2 ∧ vi = .int .i64 i ∧ i ≤ L.length ∧
      wr.ownsRow w.heap.size 9 1 (.slice o1 i c1) i (T.map Value.string) ∧ wr.ownsRow w.heap.size 9 1 (.slice o2 i c2) i ((T.map Sha.sha).map Value.string) ∧ Hid (T.length = i ∧ GOK T ∧ ∀ k, (Value.slice o1 i c1).ownBlock = some k → (Value.slice o2 i c2).ownBlock ≠ some k) ∧ Below w.heap.size w wr)
    (fun _ _ v _ => L.length - (intOf v).toNat)
  case atStart => exact ⟨0, [], none, 0, none, 0, by first | rfl | trivial, by first | rfl | trivial, by first | rfl | trivial, Nat.zero_le _, World.ownsRow_nil _ _ _ _, World.ownsRow_nil _ _ _ _, Lib.hid ⟨rfl, GOK.nil, fun k hk => by cases hk⟩, Below.refl _ _⟩
  case round =>
    obtain ⟨wo, rfl⟩ : ∃ wo : World, wo = wr := ⟨_, rfl⟩
    obtain ⟨i, T, o1, c1, o2, c2, rfl, rfl, rfl, hi, how1, how2, HT, hB⟩ := hrel
    by_cases hil : i < L.length
    · obtain ⟨a, rfl⟩ := hL.1 (by intro e; rw [e] at hil; simp at hil)
      obtain ⟨l, hl1⟩ : ∃ l, L[i]? = some l := ⟨L[i], List.getElem?_eq_getElem hil⟩
      have hlz := hll l (List.mem_of_getElem? hl1)
      obtain ⟨ol, cl, cx, hIs⟩ := ((hL.below hB).2 a rfl).2 i l hl1
      have i16 : (i : Int) < L.length := by omega
      have i17 : IntKind.i64.wrap ((i : Int) + 1) = (i : Int) + 1 := wrap_fit _ (by omega) (by omega)
      have i18 : IntKind.u8.wrap (i : Int) = i := by
        unfold IntKind.wrap
        simp [IntKind.bits, IntKind.signed]
        omega
      obtain ⟨B1, hB1⟩ : ∃ b : UInt8, (i : Int) = b.toNat := ⟨UInt8.ofNat i, by rw [UInt8.toNat_ofNat']; omega⟩
      obtain ⟨z2, B2, hz2', hB2⟩ : ∃ (z : Int) (b : UInt8), IntKind.u8.wrap (l.length : Int) = z ∧ z = b.toNat := ⟨_, UInt8.ofNat l.length, rfl, by
        rw [UInt8.toNat_ofNat']
        unfold IntKind.wrap
        simp [IntKind.bits, IntKind.signed]⟩
      have cv := fun g w h h' => conv_two g i z2 B1 B2 w hB1 hB2 h h'
      have HH := Lib.hid (And.intro hl1 (And.intro hB1 hB2))
      clear hl1 hB1 hB2
      go_wp2
      go_loopw [31] (fun v wx => ∃ (k : Nat) (ps : List ByteArray) (op : Option Addr) (cp : Nat), v = .int .i64 k ∧ k ≤ l.length ∧
          wx.heap[wo.heap.size + 1]? = some (.cells #[.string ⟨#[48, 49, 50, 51, 52, 53, 54, 55, 56, 57, 48, 49, 50, 51, 52, 53, 54, 55, 56, 57, 48, 49, 50, 51, 52, 53, 54, 55, 56, 57, 48, 49]⟩, .slice op ps.length cp, .string ⟨#[B1, B2]⟩] 24 (0, 0)) ∧
          wx.ownsRow (wo.heap.size + 2) 9 1 (.slice op ps.length cp) ps.length (ps.map Value.string) ∧ Hid (ps.length ≤ 2 ∧ twice ps = false ∧ ∀ q ∈ ps, q ∈ T.map Sha.sha) ∧ Below wo.heap.size wo wx)
        (fun v _ => l.length - (intOf v).toNat)
      case atStart =>
        refine ⟨0, [], none, 0, by first | rfl | trivial, Nat.zero_le _, ?_, World.ownsRow_nil _ _ _ _, Lib.hid ⟨Nat.zero_le _, rfl, fun q hq => by cases hq⟩, ((Below.refl _ _).alloc (Nat.le_refl _) _).alloc (by simp) _⟩
        have := heap_alloc_new (wo.alloc (.cells #[.int .u8 i, .int .u8 z2] 5)) (.cells #[.string ⟨#[48, 49, 50, 51, 52, 53, 54, 55, 56, 57, 48, 49, 50, 51, 52, 53, 54, 55, 56, 57, 48, 49, 50, 51, 52, 53, 54, 55, 56, 57, 48, 49]⟩, .slice none 0 0, .string ⟨#[B1, B2]⟩] 24)
        simpa using this
      case round =>
        obtain ⟨k, ps, op, cp, rfl, hk, hblk, hown, HP, hBx⟩ := hrel
        obtain ⟨wx, rfl⟩ : ∃ wx : World, wx = wr := ⟨_, rfl⟩
        have hbs := hBx.size
        have hcl : wo.heap.size + 1 < wx.heap.size := (Array.getElem?_eq_some_iff.1 hblk).1
        have k0 : wx.cell? ⟨wo.heap.size + 1, 0, none⟩ = some (.string ⟨#[48, 49, 50, 51, 52, 53, 54, 55, 56, 57, 48, 49, 50, 51, 52, 53, 54, 55, 56, 57, 48, 49, 50, 51, 52, 53, 54, 55, 56, 57, 48, 49]⟩) := by rw [Lib.cell_of_heap hblk]; rfl
        have k1 : wx.cell? ⟨wo.heap.size + 1, 1, none⟩ = some (.slice op ps.length cp) := by rw [Lib.cell_of_heap hblk]; rfl
        have k2 : wx.cell? ⟨wo.heap.size + 1, 2, none⟩ = some (.string ⟨#[B1, B2]⟩) := by rw [Lib.cell_of_heap hblk]; rfl
        by_cases hex : k = l.length ∨ i = 0 ∨ ps.length = 2
        · obtain ⟨hp2, htw, hpm⟩ := HP.out
          obtain ⟨hTl, hG, hdis⟩ := HT.out
          have hp32 : ∀ q ∈ ps, q.size = 32 := fun q hq => by
            obtain ⟨t, _, rfl⟩ := List.mem_map.1 (hpm q hq)
            exact sha_size t
          have hright := graph_right B1 B2 ps hp2 htw hp32
          have hbz := graph_size B1 B2 ps hp2 hp32
          have hrd := read_write _ hright
          have hwr := fun w h => rwrite_any ⟨#[48, 49, 50, 51, 52, 53, 54, 55, 56, 57, 48, 49, 50, 51, 52, 53, 54, 55, 56, 57, 48, 49, 50, 51, 52, 53, 54, 55, 56, 57, 48, 49]⟩ ps ⟨#[B1, B2]⟩ op cp w h (by omega) (by show (2 : Nat) ≤ _; omega)
          rw [hright, if_pos rfl] at hwr
          generalize (⟨(writeB ⟨⟨#[48, 49, 50, 51, 52, 53, 54, 55, 56, 57, 48, 49, 50, 51, 52, 53, 54, 55, 56, 57, 48, 49, 50, 51, 52, 53, 54, 55, 56, 57, 48, 49]⟩, ps, ⟨#[B1, B2]⟩⟩).toArray⟩ : ByteArray) = b at hwr hbz hrd
          have hpr := fun w => rprint_any b w (by omega)
          obtain ⟨pb, hpb⟩ : ∃ p, p = Sha.sha b := ⟨_, rfl⟩
          rw [← hpb] at hpr
          have hss : Ss wx op ps := by
            obtain ⟨o', c', e1, h, _⟩ := own_ss hown rfl
            injection e1 with e1
            rw [e1]
            exact h
          have hGT : GOK (T ++ [b]) := hG.step hbz hrd (fun q hq => hpm q hq)
          obtain ⟨N, hN⟩ : ∃ N, N = ps.length := ⟨_, rfl⟩
          rw [← hN] at k1 hwr
          have how1x := how1.kept (gb_of_below hBx none) (Classical.em _)
          have how2x := how2.kept (gb_of_below hBx none) (Classical.em _)
          have HE := Lib.hid (And.intro (And.intro hGT hTl) (And.intro (And.intro hdis hpb) (And.intro (hB.trans (hBx.mono hB.size)) hbs)))
          have hB1 := hB.size
          clear hGT hpb hright hbz hrd hpm hp32 hTl hG hdis htw how1 how2 hblk hown cv cx
          have hcase : (¬ ((k : Int) < l.length)) ∨ (∃ n al, ol = some al ∧ ((k : Int) < l.length) ∧ wx.cell? (al.add k) = some (.int .i64 n) ∧ i = 0) ∨ (∃ n al, ol = some al ∧ ((k : Int) < l.length) ∧ wx.cell? (al.add k) = some (.int .i64 n) ∧ (¬ (i : Int) = 0) ∧ N = 2) := by
            by_cases hkl : k = l.length
            · exact .inl (by omega)
            · obtain ⟨n, hn⟩ : ∃ n, l[k]? = some n := ⟨l[k]'(by omega), List.getElem?_eq_getElem (by omega)⟩
              obtain ⟨al, hal⟩ := hIs.1 (by intro e; rw [e] at hkl hk; simp at hkl hk; omega)
              have cn := ((hIs.below hBx).2 al hal).2 k n hn
              by_cases hi0 : i = 0
              · exact .inr (.inl ⟨n, al, hal, by omega, cn, hi0⟩)
              · exact .inr (.inr ⟨n, al, hal, by omega, cn, by omega, by omega⟩)
          clear hex hN hp2 hIs
          rcases hcase with e1 | ⟨n, al, rfl, j16, cn, rfl⟩ | ⟨n, al, rfl, j16, cn, m4, rfl⟩
          rotate_left 1
          · 
            go_wp2_with (first | (go_at_call 11; with_reducible refine (hwr _ hss).mono ?_; rintro e w3 ⟨rfl, hb3⟩; have how1a := (how1x.kept (gb_of_below hb3 none) (Classical.em _)).kept (World.grownBy_alloc w3 (.cells #[.string b] 9) none) (Classical.em _); have how2a := (how2x.kept (gb_of_below hb3 none) (Classical.em _)).kept (World.grownBy_alloc w3 (.cells #[.string b] 9) none) (Classical.em _); have s3 := hb3.size; have s3' : w.heap.size ≤ (w3.alloc (.cells #[.string b] 9)).heap.size := (by simp; omega)) | (at_builtin; refine wpList_appAt rfl (.tmp 77) (.tmp 79) 22 rfl w.heap.size 9 i0 (.string ⟨#[]⟩) 16 Try.underlying22 hi0 hz0 hz1 hz2 rfl (.slice o1 0 c1) 0 _ rfl how1a (some ⟨w3.heap.size, 0, none⟩) [b] 1 rfl 1 rfl (fun e => by cases e) (ss_new w3 b _) (ml_le 0 hil hl) (mb_le 0 hil hl) s3' ?_; intro v4 w4 hown4 hg4 hloc4; have how2b := how2a.kept hg4 (dis_ne HE.out.2.1.1); have X4 := Lib.hid (And.intro hown4 (And.intro hg4 hloc4)); have s4 := hg4.size; clear hown4 hg4 hloc4) | (go_at_call 17; with_reducible refine (hpr _).mono ?_; rintro e w5 ⟨rfl, hb5⟩; have how2c := (how2b.kept (gb_of_below hb5 none) (Classical.em _)).kept (World.grownBy_alloc w5 (.cells #[.string pb] 9) none) (Classical.em _); have s5 := hb5.size; have s5' : w.heap.size ≤ (w5.alloc (.cells #[.string pb] 9)).heap.size := (by simp at s4 ⊢; omega)) | (at_builtin; go_loud (refine wpList_appAt rfl (.tmp 81) (.tmp 84) 22 rfl w.heap.size 9 i0 (.string ⟨#[]⟩) 16 Try.underlying22 hi0 hz0 hz1 hz2 rfl (.slice o2 0 c2) 0 _ rfl how2c (some ⟨w5.heap.size, 0, none⟩) [pb] 1 rfl 1 rfl (fun e => by cases e) (ss_new w5 pb _) (ml_le 0 hil hl) (mb_le 0 hil hl) s5' ?_; intro v6 w6 hown6 hg6 hloc6; have X6 := Lib.hid (And.intro hown6 (And.intro hg6 hloc6)); clear hown6 hg6 hloc6)))
            obtain ⟨hown4, hg4, hloc4⟩ := X4.out
            obtain ⟨hown6, hg6, hloc6⟩ := X6.out
            obtain ⟨⟨hGT, hTl⟩, ⟨hdis, hpb⟩, hBw, hbs'⟩ := HE.out
            replace hown4 : w4.ownsRow w.heap.size 9 1 v4 (0 + 1) ((T ++ [b]).map Value.string) := by rw [List.map_append]; exact hown4
            replace hown6 : w6.ownsRow w.heap.size 9 1 v6 (0 + 1) (((T ++ [b]).map Sha.sha).map Value.string) := by rw [hpb] at hown6; rw [List.map_append, List.map_append]; exact hown6
            have hlen4 : (T ++ [b]).length = 0 + 1 := by rw [List.length_append, hTl]; rfl
            have hlen6 : ((T ++ [b]).map Sha.sha).length = 0 + 1 := by rw [List.length_map]; exact hlen4
            obtain ⟨o4, c4, hv4, _⟩ := own_ss hown4 hlen4.symm
            obtain ⟨o6, c6, hv6, _⟩ := own_ss hown6 hlen6.symm
            rw [hlen4] at hv4
            rw [hlen6] at hv6
            subst hv4 hv6
            have sa3 : (w3.alloc (.cells #[.string b] 9)).heap.size = w3.heap.size + 1 := by simp
            have sa5 : (w5.alloc (.cells #[.string pb] 9)).heap.size = w5.heap.size + 1 := by simp
            have l4 := hg4.size
            have l5 := hb5.size
            have dis45 : ∀ k, (Value.slice o4 (0 + 1) c4).ownBlock = some k → (Value.slice o2 0 c2).ownBlock ≠ some k := fun k hk h2 => by
              rcases hloc4 with h | h
              · exact hdis k (h ▸ hk) h2
              · have q1 := (own_lt how2x k h2).2
                have q2 := Option.some.inj (hk.symm.trans h)
                have q3 := hb3.size
                omega
            have dis46 : ∀ k, (Value.slice o4 (0 + 1) c4).ownBlock = some k → (Value.slice o6 (0 + 1) c6).ownBlock ≠ some k := fun k hk h6 => by
              rcases hloc6 with h | h
              · exact dis45 k hk (h ▸ h6)
              · have q1 := (own_lt hown4 k hk).2
                have q2 := Option.some.inj (h6.symm.trans h)
                omega
            have hown4' := ((hown4.kept (gb_of_below hb5 none) (Classical.em _)).kept (World.grownBy_alloc w5 (.cells #[.string pb] 9) none) (Classical.em _)).kept hg6 (dis_ne2 dis45)
            have b3 := hBw.trans (hb3.mono hBw.size)
            have b3a := b3.trans (below_of_grown (World.grownBy_alloc w3 (.cells #[.string b] 9) none) (fun k hk => by cases hk) b3.size)
            have b4 := b3a.trans (below_of_grown hg4 (fun k hk => (own_lt how1x k hk).1) b3a.size)
            have b5 := b4.trans (hb5.mono b4.size)
            have b5a := b5.trans (below_of_grown (World.grownBy_alloc w5 (.cells #[.string pb] 9) none) (fun k hk => by cases hk) b5.size)
            have b6 := b5a.trans (below_of_grown hg6 (fun k hk => (own_lt how2x k hk).1) b5a.size)
            go_roundw
            case rel => exact ⟨0 + 1, T ++ [b], o4, c4, o6, c6, by first | rfl | trivial, by first | rfl | trivial, by go_num, hil, hown4', hown6, Lib.hid ⟨hlen4, hGT, dis46⟩, b6⟩
            case measure => simp [intOf]; omega
          all_goals (
            go_wp2_with (first | (go_at_call 11; with_reducible refine (hwr _ hss).mono ?_; rintro e w3 ⟨rfl, hb3⟩; have how1a := (how1x.kept (gb_of_below hb3 none) (Classical.em _)).kept (World.grownBy_alloc w3 (.cells #[.string b] 9) none) (Classical.em _); have how2a := (how2x.kept (gb_of_below hb3 none) (Classical.em _)).kept (World.grownBy_alloc w3 (.cells #[.string b] 9) none) (Classical.em _); have s3 := hb3.size; have s3' : w.heap.size ≤ (w3.alloc (.cells #[.string b] 9)).heap.size := (by simp; omega)) | (at_builtin; refine wpList_appAt rfl (.tmp 77) (.tmp 79) 22 rfl w.heap.size 9 i0 (.string ⟨#[]⟩) 16 Try.underlying22 hi0 hz0 hz1 hz2 rfl (.slice o1 i c1) i _ rfl how1a (some ⟨w3.heap.size, 0, none⟩) [b] 1 rfl 1 rfl (fun e => by cases e) (ss_new w3 b _) (ml_le i hil hl) (mb_le i hil hl) s3' ?_; intro v4 w4 hown4 hg4 hloc4; have how2b := how2a.kept hg4 (dis_ne HE.out.2.1.1); have X4 := Lib.hid (And.intro hown4 (And.intro hg4 hloc4)); have s4 := hg4.size; clear hown4 hg4 hloc4) | (go_at_call 17; with_reducible refine (hpr _).mono ?_; rintro e w5 ⟨rfl, hb5⟩; have how2c := (how2b.kept (gb_of_below hb5 none) (Classical.em _)).kept (World.grownBy_alloc w5 (.cells #[.string pb] 9) none) (Classical.em _); have s5 := hb5.size; have s5' : w.heap.size ≤ (w5.alloc (.cells #[.string pb] 9)).heap.size := (by simp at s4 ⊢; omega)) | (at_builtin; go_loud (refine wpList_appAt rfl (.tmp 81) (.tmp 84) 22 rfl w.heap.size 9 i0 (.string ⟨#[]⟩) 16 Try.underlying22 hi0 hz0 hz1 hz2 rfl (.slice o2 i c2) i _ rfl how2c (some ⟨w5.heap.size, 0, none⟩) [pb] 1 rfl 1 rfl (fun e => by cases e) (ss_new w5 pb _) (ml_le i hil hl) (mb_le i hil hl) s5' ?_; intro v6 w6 hown6 hg6 hloc6; have X6 := Lib.hid (And.intro hown6 (And.intro hg6 hloc6)); clear hown6 hg6 hloc6)))
            obtain ⟨hown4, hg4, hloc4⟩ := X4.out
            obtain ⟨hown6, hg6, hloc6⟩ := X6.out
            obtain ⟨⟨hGT, hTl⟩, ⟨hdis, hpb⟩, hBw, hbs'⟩ := HE.out
            replace hown4 : w4.ownsRow w.heap.size 9 1 v4 (i + 1) ((T ++ [b]).map Value.string) := by rw [List.map_append]; exact hown4
            replace hown6 : w6.ownsRow w.heap.size 9 1 v6 (i + 1) (((T ++ [b]).map Sha.sha).map Value.string) := by rw [hpb] at hown6; rw [List.map_append, List.map_append]; exact hown6
            have hlen4 : (T ++ [b]).length = i + 1 := by rw [List.length_append, hTl]; rfl
            have hlen6 : ((T ++ [b]).map Sha.sha).length = i + 1 := by rw [List.length_map]; exact hlen4
            obtain ⟨o4, c4, hv4, _⟩ := own_ss hown4 hlen4.symm
            obtain ⟨o6, c6, hv6, _⟩ := own_ss hown6 hlen6.symm
            rw [hlen4] at hv4
            rw [hlen6] at hv6
            subst hv4 hv6
            have sa3 : (w3.alloc (.cells #[.string b] 9)).heap.size = w3.heap.size + 1 := by simp
            have sa5 : (w5.alloc (.cells #[.string pb] 9)).heap.size = w5.heap.size + 1 := by simp
            have l4 := hg4.size
            have l5 := hb5.size
            have dis45 : ∀ k, (Value.slice o4 (i + 1) c4).ownBlock = some k → (Value.slice o2 i c2).ownBlock ≠ some k := fun k hk h2 => by
              rcases hloc4 with h | h
              · exact hdis k (h ▸ hk) h2
              · have q1 := (own_lt how2x k h2).2
                have q2 := Option.some.inj (hk.symm.trans h)
                have q3 := hb3.size
                omega
            have dis46 : ∀ k, (Value.slice o4 (i + 1) c4).ownBlock = some k → (Value.slice o6 (i + 1) c6).ownBlock ≠ some k := fun k hk h6 => by
              rcases hloc6 with h | h
              · exact dis45 k hk (h ▸ h6)
              · have q1 := (own_lt hown4 k hk).2
                have q2 := Option.some.inj (h6.symm.trans h)
                omega
            have hown4' := ((hown4.kept (gb_of_below hb5 none) (Classical.em _)).kept (World.grownBy_alloc w5 (.cells #[.string pb] 9) none) (Classical.em _)).kept hg6 (dis_ne2 dis45)
            have b3 := hBw.trans (hb3.mono hBw.size)
            have b3a := b3.trans (below_of_grown (World.grownBy_alloc w3 (.cells #[.string b] 9) none) (fun k hk => by cases hk) b3.size)
            have b4 := b3a.trans (below_of_grown hg4 (fun k hk => (own_lt how1x k hk).1) b3a.size)
            have b5 := b4.trans (hb5.mono b4.size)
            have b5a := b5.trans (below_of_grown (World.grownBy_alloc w5 (.cells #[.string pb] 9) none) (fun k hk => by cases hk) b5.size)
            have b6 := b5a.trans (below_of_grown hg6 (fun k hk => (own_lt how2x k hk).1) b5a.size)
            go_roundw
            case rel => exact ⟨i + 1, T ++ [b], o4, c4, o6, c6, by first | rfl | trivial, by first | rfl | trivial, by go_num, hil, hown4', hown6, Lib.hid ⟨hlen4, hGT, dis46⟩, b6⟩
            case measure => simp [intOf]; omega)
        · have hkl : k < l.length := by omega
          have h0i : 0 < i := by omega
          obtain ⟨n, hn⟩ : ∃ n, l[k]? = some n := ⟨l[k], List.getElem?_eq_getElem hkl⟩
          obtain ⟨al, rfl⟩ := hIs.1 (by intro e; rw [e] at hkl; simp at hkl)
          have cn := ((hIs.below hBx).2 al rfl).2 k n hn
          have j16 : (k : Int) < l.length := by omega
          have j17 : IntKind.i64.wrap ((k : Int) + 1) = (k : Int) + 1 := wrap_fit _ (by omega) (by omega)
          obtain ⟨j, hj, hji, hr1, hr2⟩ := graph_mod n i h0i
          obtain ⟨r, hr⟩ : ∃ r, n.tmod (i : Int) = r := ⟨_, rfl⟩
          rw [hr] at hj hr1 hr2
          have m1 : IntKind.i64.wrap r = r := wrap_fit _ (by omega) (by omega)
          have m2 : IntKind.i64.wrap (r + i) = r + i := wrap_fit _ (by omega) (by omega)
          have m3 : IntKind.i64.wrap (j : Int) = j := wrap_fit _ (by omega) (by omega)
          have m4 : ¬ ((i : Int) = 0) := by omega
          have m5 : (j : Int) < i := by omega
          obtain ⟨hTl, hG, hdis⟩ := HT.out
          have hjl : j < (T.map Sha.sha).length := by rw [List.length_map, hTl]; exact hji
          obtain ⟨pj, hpj⟩ : ∃ x, (T.map Sha.sha)[j]? = some x := ⟨_, List.getElem?_eq_getElem hjl⟩
          have hss2 : Ss wo o2 (T.map Sha.sha) := by
            obtain ⟨o', c', e1, h, _⟩ := own_ss how2 (by rw [List.length_map, hTl])
            injection e1 with e1
            rw [e1]
            exact h
          obtain ⟨a2, rfl⟩ := ss_some hss2 hjl
          have cp2 := (hss2.below hBx).at hpj
          have HPJ := Lib.hid (List.mem_of_getElem? hpj)
          clear hpj hjl hss2 hTl hG hdis hn
          rcases ps with _ | ⟨p0, _ | ⟨p1, rest⟩⟩
          · rw [List.length_nil] at k1 hown
            have hown7 : (wx.alloc (.cells #[.string pj] 9)).ownsRow (wo.heap.size + 2) 9 1 (.slice op 0 cp) 0 (([] : List ByteArray).map Value.string) := hown.kept (World.grownBy_alloc _ _ none) (Classical.em _)
            have hob : ∀ k, (Value.slice op 0 cp).ownBlock = some k → wo.heap.size + 2 ≤ k ∧ k < wx.heap.size := fun k hk => by
              rcases hown.2 with ⟨e1, _⟩ | ⟨gg, cap, cur, e1, hb, hbk, _⟩
              · rw [e1] at hk; cases hk
              · rw [e1] at hk
                simp [Value.ownBlock] at hk
                subst hk
                exact ⟨hb, (Array.getElem?_eq_some_iff.1 hbk).1⟩
            have HW := Lib.hid (And.intro (And.intro hown hob) (And.intro hblk hBx))
            have hbL : wo.heap.size + 2 ≤ (wx.alloc (.cells #[.string pj] 9)).heap.size := by simp; omega
            clear hown hblk hBx hob how1 how2 hIs hB cv cx
            go_wp2_with (at_builtin; go_loud (refine wpList_appAt rfl (.tmp 66) (.tmp 68) 22 rfl (wo.heap.size + 2) 9 i0 (.string ⟨#[]⟩) 16 Try.underlying22 hi0 hz0 hz1 hz2 rfl (.slice op 0 cp) 0 _ rfl hown7 (some ⟨wx.heap.size, 0, none⟩) [pj] 1 rfl 1 rfl (fun e => by cases e) (ss_new wx pj _) (by unfold maxLen; exact of_decide_eq_true rfl) (of_decide_eq_true rfl) hbL ?_))
            intro v8 w8 hown8 hg8 hloc8
            replace hown8 : w8.ownsRow (wo.heap.size + 2) 9 1 v8 (0 + 1) (([pj] : List ByteArray).map Value.string) := hown8
            obtain ⟨⟨hown, hob⟩, hblk, hBx⟩ := HW.out
            obtain ⟨o8, c8, hv8, _, _, _, _⟩ := own_ss hown8 rfl
            subst hv8
            have hblk7 : (wx.alloc (.cells #[.string pj] 9)).heap[wo.heap.size + 1]? = _ := (Lib.alloc_old _ _ _ hcl).trans hblk
            have hcb : some (wo.heap.size + 1) ≠ (Value.slice op 0 cp).ownBlock := fun e => by have := (hob _ e.symm).1; omega
            have hblk8 := (hg8.block (wo.heap.size + 1) (by simp; omega) hcb).trans hblk7
            have q1 : w8.cell? ⟨wo.heap.size + 1, 1, none⟩ = some (.slice op 0 cp) := by rw [Lib.cell_of_heap hblk8]; rfl
            have q2 : w8.frozen? ⟨wo.heap.size + 1, 1, none⟩ = false := by simp [World.frozen?, hblk8]
            have b7 := hBx.trans (below_of_grown (World.grownBy_alloc wx (.cells #[.string pj] 9) none) (fun k hk => by cases hk) hBx.size)
            have b8 := b7.trans (below_of_grown hg8 (fun k hk => by have := (hob k hk).1; omega) b7.size)
            have HF := Lib.hid (And.intro hblk8 (And.intro hown8 b8))
            clear hown hob hblk hBx hblk7 hcb hblk8 b7 b8 hown8 hg8 hloc8 hown7
            go_wp2
            obtain ⟨hblk8, hown8, b8⟩ := HF.out
            go_roundw
            case rel => exact ⟨k + 1, [pj], o8, c8, by go_num, hkl, block_set hblk8 (i := 1) _, ownsRow_setCell_below hown8 (show wo.heap.size + 1 < wo.heap.size + 2 by omega) _, Lib.hid ⟨by simp, rfl, fun q hq => by rw [List.mem_singleton] at hq; rw [hq]; exact HPJ.out⟩, b8.setCell (by show wo.heap.size ≤ wo.heap.size + 1; omega) _⟩
            case measure => simp [intOf]; omega
          · rw [List.length_singleton] at k1 hown
            obtain ⟨b0, rfl⟩ : ∃ b0, op = some b0 := by
              rcases hown.2 with ⟨_, e1⟩ | ⟨gg, cap, cur, e1, _⟩
              · cases e1
              · injection e1 with e1
                exact ⟨_, e1⟩
            have cp0 : wx.cell? b0 = some (.string p0) := by
              obtain ⟨o', c', e1, h, _⟩ := own_ss (l := [p0]) hown rfl
              injection e1 with e1
              have := (h.2 b0 e1.symm).2 0 p0 rfl
              rwa [show b0.add 0 = b0 from rfl] at this
            by_cases heq : p0 = pj
            · subst heq
              have HW := Lib.hid (And.intro hown (And.intro hblk hBx))
              clear hown hblk hBx how1 how2 hIs hB cv k0 k2 cx
              go_wp2
              obtain ⟨hown, hblk, hBx⟩ := HW.out
              go_roundw
              case rel => exact ⟨k + 1, [p0], some b0, cp, by go_num, hkl, hblk, hown, HP, hBx⟩
              case measure => simp [intOf]; omega
            · have hnl := ne_list heq
              have HNL := Lib.hid hnl
              have hown7 : (wx.alloc (.cells #[.string pj] 9)).ownsRow (wo.heap.size + 2) 9 1 (.slice (some b0) 1 cp) 1 (([p0] : List ByteArray).map Value.string) := hown.kept (World.grownBy_alloc _ _ none) (Classical.em _)
              have hob : ∀ k, (Value.slice (some b0) 1 cp).ownBlock = some k → wo.heap.size + 2 ≤ k ∧ k < wx.heap.size := fun k hk => by
                rcases hown.2 with ⟨e1, _⟩ | ⟨gg, cap, cur, e1, hb, hbk, _⟩
                · rw [e1] at hk; cases hk
                · rw [e1] at hk
                  simp [Value.ownBlock] at hk
                  subst hk
                  exact ⟨hb, (Array.getElem?_eq_some_iff.1 hbk).1⟩
              have HW := Lib.hid (And.intro (And.intro hown hob) (And.intro hblk hBx))
              have hbL : wo.heap.size + 2 ≤ (wx.alloc (.cells #[.string pj] 9)).heap.size := by simp; omega
              clear heq hown hblk hBx hob how1 how2 hIs hB cv cx
              go_wp2_with (at_builtin; go_loud (refine wpList_appAt rfl (.tmp 66) (.tmp 68) 22 rfl (wo.heap.size + 2) 9 i0 (.string ⟨#[]⟩) 16 Try.underlying22 hi0 hz0 hz1 hz2 rfl (.slice (some b0) 1 cp) 1 _ rfl hown7 (some ⟨wx.heap.size, 0, none⟩) [pj] 1 rfl 1 rfl (fun e => by cases e) (ss_new wx pj _) (by unfold maxLen; exact of_decide_eq_true rfl) (of_decide_eq_true rfl) hbL ?_))
              intro v8 w8 hown8 hg8 hloc8
              replace hown8 : w8.ownsRow (wo.heap.size + 2) 9 1 v8 (1 + 1) (([p0, pj] : List ByteArray).map Value.string) := hown8
              obtain ⟨⟨hown, hob⟩, hblk, hBx⟩ := HW.out
              obtain ⟨o8, c8, hv8, _, _, _, _⟩ := own_ss hown8 rfl
              subst hv8
              have hblk7 : (wx.alloc (.cells #[.string pj] 9)).heap[wo.heap.size + 1]? = _ := (Lib.alloc_old _ _ _ hcl).trans hblk
              have hcb : some (wo.heap.size + 1) ≠ (Value.slice (some b0) 1 cp).ownBlock := fun e => by have := (hob _ e.symm).1; omega
              have hblk8 := (hg8.block (wo.heap.size + 1) (by simp; omega) hcb).trans hblk7
              have q1 : w8.cell? ⟨wo.heap.size + 1, 1, none⟩ = some (.slice (some b0) 1 cp) := by rw [Lib.cell_of_heap hblk8]; rfl
              have q2 : w8.frozen? ⟨wo.heap.size + 1, 1, none⟩ = false := by simp [World.frozen?, hblk8]
              have b7 := hBx.trans (below_of_grown (World.grownBy_alloc wx (.cells #[.string pj] 9) none) (fun k hk => by cases hk) hBx.size)
              have b8 := b7.trans (below_of_grown hg8 (fun k hk => by have := (hob k hk).1; omega) b7.size)
              have HF := Lib.hid (And.intro hblk8 (And.intro hown8 b8))
              clear hown hob hblk hBx hblk7 hcb hblk8 b7 b8 hown8 hg8 hloc8 hown7
              go_wp2
              obtain ⟨hblk8, hown8, b8⟩ := HF.out
              go_roundw
              case rel => exact ⟨k + 1, [p0, pj], o8, c8, by go_num, hkl, block_set hblk8 (i := 1) _, ownsRow_setCell_below hown8 (show wo.heap.size + 1 < wo.heap.size + 2 by omega) _, Lib.hid ⟨by simp, HNL.out, fun q hq => by (rcases List.mem_cons.1 hq with rfl | hq; exact HP.out.2.2 _ (List.mem_singleton.2 rfl); rw [List.mem_singleton] at hq; rw [hq]; exact HPJ.out)⟩, b8.setCell (by show wo.heap.size ≤ wo.heap.size + 1; omega) _⟩
              case measure => simp [intOf]; omega
          · exfalso
            have := HP.out.1
            simp at this
            subst this
            exact hex (.inr (.inr rfl))
    · obtain rfl : i = L.length := by omega
      obtain ⟨hTl, hG, hdis⟩ := HT.out
      have hs1 : Ss wo o1 T := by
        obtain ⟨o', c', e1, h, _⟩ := own_ss how1 hTl.symm
        injection e1 with e1
        rw [e1]
        exact h
      have hs2 : Ss wo o2 (T.map Sha.sha) := by
        obtain ⟨o', c', e1, h, _⟩ := own_ss how2 (by rw [List.length_map]; exact hTl.symm)
        injection e1 with e1
        rw [e1]
        exact h
      have HE := Lib.hid (And.intro (And.intro hTl hG) (And.intro hs1 hs2))
      clear hTl hG hdis hs1 hs2
      go_wp2
      exact bodyPost_ret (v := .tuple #[.slice o1 L.length c1, .slice o2 L.length c2]) (by simp [results, Try.results26, go_sem]) rfl ⟨T, o1, c1, o2, c2, by rw [HE.out.1.1], HE.out.1.1, HE.out.1.2, HE.out.2.1, HE.out.2.2, hB⟩
end Go.Proofs.Ytkjgbldooflodaa
