/-
  The walk of the law SplitBehind.
-/
import Derived.Test.YtncjggobpmmonaaParts2
import Derived.Laws.AppendOwnNone
namespace Go.Proofs.Ytncjggobpmmonaa
open Go.RowKit
set_option maxRecDepth 100000
/-- An append onto a row of the call's own of a slice that reads as ys; it may be nil. -/
theorem wpList_app {P : Program} {w : World} {ops : Array Oper} {rest : List Oper} {o : Oper} {a : Act} {Q : Exit → Act → World → Prop} (hgd : o.guard = none) (s x : Operand) (t : TypeId)
    (ho : o.op = .call { callee := .builtin .append, args := #[s, x], argTypes := #[t, t] })
    (base : Nat) (e : TypeId) (i : TypeInfo) (z : Value) (bytes : Nat) (ht : P.underlying t = some (.slice e)) (hi : P.info? e = some i) (hz : i.zero = some z)
    (hsize : i.size = 1) (hby : i.bytes = bytes) (hzs : z.cells.size = 1) (v : Value) (n : Nat) (xs : List Value) (hs : a.eval s = v) (hown : w.ownsRow base e 1 v n xs)
    (oa : Option Addr) (m c : Nat) (ys : List Value) (hx : a.eval x = .slice oa m c) (hl : ys.length = m) (hn : oa = none → c = 0) (hvs : Vs w oa ys) (h1 : ∀ u ∈ ys, u.oneCell' = true)
    (h63 : n + m ≤ maxLen) (hbytes : (n + m) * bytes ≤ 140737488355328) (hbase : base ≤ w.heap.size)
    (h : ∀ v' w', w'.ownsRow base e 1 v' (n + m) (xs ++ ys) → w.grownBy w' v.ownBlock → wpList P ops Q rest (a.put o.dst v') w') : wpList P ops Q (o :: rest) a w := by
  cases oa with
  | none =>
    have hy : ys = [] := by
      cases ys with
      | nil => rfl
      | cons y r => obtain ⟨ad, h⟩ := hvs.1 (by simp); cases h
    subst hy
    obtain rfl : m = 0 := by simpa using hl.symm
    obtain rfl := hn rfl
    exact wpList_append_own_none hgd s x t ho base e i 1 ht hi v n xs hs hown hx (h v w (by simpa using hown) (World.grownBy.refl w _))
  | some ad =>
    exact wpList_append_own w hgd s x t ho base e i z 1 bytes ht hi hz hsize hby hzs (by decide) v n xs hs hown ad m c ys hx (by omega) (fun j u hu => hvs.2 ad rfl j u hu) h1 h63 hbytes hbase (fun v' w' a b _ => h v' w' a b)
theorem ints_take (l : List Nat) (k : Nat) : (ints l).take k = ints (l.take k) := by simp [ints, List.map_take]
theorem getD_append (l m : List ByteArray) (i : Nat) : (l ++ m).getD i ByteArray.empty = if i < l.length then l.getD i ByteArray.empty else m.getD (i - l.length) ByteArray.empty := by
  simp only [List.getD_eq_getElem?_getD]
  split
  · rw [List.getElem?_append_left (by omega)]
  · rw [List.getElem?_append_right (by omega)]
theorem Fit.append {l m : List ByteArray} (h : l.length + m.length ≤ 1000) (hl : ∀ i, i < l.length → (l.getD i ByteArray.empty).size ≤ 140737488351232) (hm : ∀ i, i < m.length → (m.getD i ByteArray.empty).size ≤ 140737488351232) : Fit (l ++ m) := by
  refine ⟨by rw [List.length_append]; exact h, fun i hi => ?_⟩
  rw [List.length_append] at hi
  rw [getD_append]
  split
  · exact hl i (by omega)
  · exact hm _ (by omega)
set_option maxHeartbeats 4000000 in
theorem splitBehind_walk (o1 o2 : Option Addr) (c1 c2 : Nat) (l1 l2 : List ByteArray) (w : World) (hv1 : Vs w o1 (l1.map Value.string)) (hv2 : Vs w o2 (l2.map Value.string)) (hlc1 : l1.length ≤ c1) (hlc2 : l2.length ≤ c2)
    (hn1 : o1 = none → c1 = 0) (hn2 : o2 = none → c2 = 0)
    (hz1 : ∀ i, i < l1.length → (l1.getD i ByteArray.empty).size ≤ 140737488351232) (hz2 : ∀ i, i < l2.length → (l2.getD i ByteArray.empty).size ≤ 140737488351232) (hm1 : l1.length ≤ maxLen) (hm2 : l2.length ≤ maxLen) :
    Calls Try.prog 5 #[.slice o1 l1.length c1, .slice o2 l2.length c2] w fun e w' => e = .returned (.bool true) ∧ Below w.heap.size w w' := by
  obtain ⟨i0, hi0, hy0, hy1, hy2⟩ := info_parts (P := Try.prog) (e := 9) (z := .string ⟨#[]⟩) (size := 1) (bytes := 16) (by kernel_rfl)
  go_enter Try.func5, Try.ntmps5
  go_wp2_with (fail)
  go_at_call 6
  refine (awake_any w).mono ?_
  rintro e w1 ⟨rfl, hb1⟩
  have hv1a := hv1.below (Nat.le_refl _) hb1
  go_wp2_with (fail)
  go_at_call 7
  refine (few_any o1 c1 l1 w1 hv1a hz1 hm1).mono ?_
  rintro e w2 ⟨⟨b, rfl, hfew1⟩, hb2⟩
  have hB2 := hb1.trans (hb2.mono hb1.size)
  have hv2a := hv2.below (Nat.le_refl _) hB2
  clear hv1a hb1 hb2
  cases b
  · go_wp2
    go_ret
    exact ⟨rfl, hB2⟩
  obtain ⟨h200, _⟩ := hfew1 (by first | trivial | rfl)
  clear hfew1
  go_wp2_with (fail)
  go_at_call 7
  refine (few_any o2 c2 l2 w2 hv2a hz2 hm2).mono ?_
  rintro e w3 ⟨⟨b, rfl, hfew2⟩, hb3⟩
  have hB3 := hB2.trans (hb3.mono hB2.size)
  clear hv2a hb3 hB2
  cases b
  · go_wp2
    go_ret
    exact ⟨rfl, hB3⟩
  obtain ⟨h200', _⟩ := hfew2 (by first | trivial | rfl)
  clear hfew2
  have hv1a := hv1.below (Nat.le_refl _) hB3
  have hf1 : Fit l1 := ⟨by omega, hz1⟩
  have hf2 : Fit (l1 ++ l2) := Fit.append (by omega) hz1 hz2
  go_wp2_with (fail)
  go_at_call 11
  refine (cut_any o1 c1 l1 w3 hv1a hlc1 hf1).mono ?_
  rintro e w4 ⟨⟨va, k1, rfl, hown1, hcut1⟩, hb4⟩
  have hB4 := hB3.trans (hb4.mono hB3.size)
  obtain ⟨oa, ca, rfl, hca, hvs1, _⟩ := Vs.own hown1
  clear hown1 hv1a hB3 hb4
  have hv1b := hv1.below (Nat.le_refl _) hB4
  have hv2b := hv2.below (Nat.le_refl _) hB4
  go_wp2_with (at_builtin; refine wpList_app rfl (.tmp 20) (.tmp 21) 22 rfl w4.heap.size 9 i0 (.string ⟨#[]⟩) 16 Try.underlying22 hi0 hy0 hy1 hy2 rfl _ 0 [] rfl ?h0 o1 l1.length c1 (l1.map Value.string) rfl (by simp) hn1 ?v0 ?e0 ?m0 ?b0 ?s0 ?_)
  case h0 => exact ⟨rfl, .inr ⟨w4.heap.size, 0, #[], rfl, Nat.le_refl _, heap_alloc_new w4 _, Nat.le_refl _, by unfold maxLen; omega, rfl, rfl⟩⟩
  case v0 => exact hv1b.below (Nat.le_refl _) ((Below.refl _ _).alloc (Nat.le_refl _) _)
  case e0 => simp [Value.oneCell']
  case m0 => unfold maxLen; omega
  case b0 => omega
  case s0 => simp
  intro vb w5 hown5 hgrow5
  have hB5 : Below w4.heap.size w4 w5 := ((Below.refl _ _).alloc (Nat.le_refl _) _).grown hgrow5 (by simp) (fun k hk => by simp [Value.ownBlock] at hk; omega)
  go_wp2_with (at_builtin; refine wpList_app rfl (.tmp 22) (.tmp 23) 22 rfl w4.heap.size 9 i0 (.string ⟨#[]⟩) 16 Try.underlying22 hi0 hy0 hy1 hy2 rfl _ l1.length (l1.map Value.string) rfl ?h1 o2 l2.length c2 (l2.map Value.string) rfl (by simp) hn2 ?v1 ?e1 ?m1 ?b1 ?s1 ?_)
  case h1 => exact hown5
  case v1 => exact hv2b.below (Nat.le_refl _) hB5
  case e1 => simp [Value.oneCell']
  case m1 => unfold maxLen; omega
  case b1 => omega
  case s1 => exact hB5.size
  intro vc w6 hown6 hgrow6
  have hB6 : Below w4.heap.size w4 w6 := hB5.grown hgrow6 hB5.size (fun k hk => (hown5.lt k hk).1)
  rw [← List.map_append] at hown6
  obtain ⟨ob, cb, rfl, hcb, hvs2, _⟩ := Vs.own hown6
  have hBB := hB4.trans (hB6.mono hB4.size)
  have hvs1b := hvs1.below (Nat.le_refl _) hB6
  clear hown5 hgrow5 hown6 hgrow6 hB5 hv1b hv2b hvs1
  go_wp2_with (fail)
  go_at_call 11
  refine (cut_len ob cb (l1.length + l2.length) (l1 ++ l2) w6 (by rw [List.length_append]) hvs2 (by rw [List.length_append]; exact hcb) hf2).mono ?_
  rintro e w7 ⟨⟨vb, k2, rfl, hown2, hcut2⟩, hb7⟩
  have hB7 := hBB.trans (hb7.mono hBB.size)
  obtain ⟨od, cd, rfl, hcd, hvs4, _⟩ := Vs.own hown2
  have hvs3 := hvs1b.below (Nat.le_refl _) hb7
  clear hown2 hvs1b hvs2 hBB
  by_cases hk1 : k1 = []
  · subst hk1
    go_wp2
    go_ret
    exact ⟨rfl, hB7⟩
  obtain ⟨b1, b2, b3⟩ := hcut1.behind hcut2 hk1
  have hl1 := hcut1.length_le
  have hl2 := hcut2.length_le
  rw [List.length_append] at hl2
  obtain ⟨K, hK⟩ : ∃ K, k1.length = K + 1 := ⟨k1.length - 1, by
    cases k1 with
    | nil => exact absurd rfl hk1
    | cons _ _ => simp⟩
  rw [hK] at b1 b2 b3 hl1 hca ⊢
  rw [show K + 1 - 1 = K by omega] at b2 b3
  obtain ⟨aa, rfl⟩ := hvs3.1 (by intro h; have h2 : k1.length = 0 := by { rw [← ints_length, h]; rfl }; omega)
  obtain ⟨ab, rfl⟩ := hvs4.1 (by intro h; have h2 : k2.length = 0 := by { rw [← ints_length, h]; rfl }; omega)
  have qa := hvs3.geti' K (by omega)
  have qb := hvs4.geti' K (by omega)
  have va := hvs3.take K
  have vb := hvs4.take K
  rw [ints_take] at va vb
  rw [b2] at vb
  have hla : (k1.take K).length = K := by rw [List.length_take]; omega
  generalize k1.take K = ka at va vb hla
  generalize k1.getD K 0 = x at qa b3
  generalize k2.getD K 0 = y at qb b3
  obtain ⟨n2, hn2'⟩ : ∃ n2, n2 = k2.length := ⟨_, rfl⟩
  rw [← hn2'] at b1 hcd hl2 ⊢
  have hs1 := fun W => slice_upto (P := Try.prog) (t := 27) rfl (fun W => by kernel_rfl) ab n2 cd K (by omega) hcd W
  have hs2 := fun W => slice_upto (P := Try.prog) (t := 27) rfl (fun W => by kernel_rfl) aa (K + 1) ca K (by omega) hca W
  clear hvs3 hvs4 hcut1 hcut2 b2 hk1 hK hn2' hf1 hf2 hn1 hn2
  have HK := Lib.hid hla
  clear hla
  go_wp2_with (fail)
  have j1 : (0 : Int) ≤ (K : Int) := by omega
  have j2 : (K : Int) < (n2 : Int) := by omega
  have j3 : K < n2 := by omega
  have j4 : ((K : Int)).toNat = K := by omega
  have j5 : decide ((K : Int) < (n2 : Int)) = true := decide_eq_true j2
  have j6 : (n2 : Int) ≤ (cd : Int) := by omega
  have j7 : ((K : Int) + 1) ≤ (ca : Int) := by omega
  have j8 : (K : Int) < ((K : Int) + 1) := by omega
  have j9 : K < K + 1 := by omega
  have jx : decide ((x : Int) ≤ (y : Int)) = true := decide_eq_true (by omega)
  have HL := Lib.hid (And.intro hl1 hl2)
  clear hl1 hl2 b1 hca hcd
  have hsame := fun (W : World) (ha : Vs W (some aa) (ints ka)) (hb : Vs W (some ab) (ints ka)) => same_len (some ab) (some aa) cd ca K K ka ka W HK.out.symm HK.out.symm hb ha (by have := HL.out; have := HK.out; omega) (by have := HL.out; have := HK.out; omega)
  go_region_held3 (fun w' => w'.cell? (aa.add K) = some (.int .i64 (x : Int)) ∧ w'.cell? (ab.add K) = some (.int .i64 (y : Int))) (first | exact ⟨qa, qb⟩ | assumption | go_keep) ((go_at_call 10; go_loud (refine (hsame w7.drew va.drew vb.drew).mono ?_; rintro e w8 ⟨rfl, hb8⟩; have hc8 : w8.cell? (aa.add K) = some (.int .i64 (x : Int)) ∧ w8.cell? (ab.add K) = some (.int .i64 (y : Int)) := ⟨(hb8.cell (World.block_lt_of_cell? w7.drew (aa.add K) qa)).trans qa, (hb8.cell (World.block_lt_of_cell? w7.drew (ab.add K) qb)).trans qb⟩)))
  go_wp2_with (fail)
  go_ret
  have b8 : Below w.heap.size w w8 := (drewN_below hB7 1).trans (hb8.mono hB7.size)
  first | exact ⟨by simp, b8⟩ | exact ⟨by simp, drewN_below b8 1⟩
end Go.Proofs.Ytncjggobpmmonaa
