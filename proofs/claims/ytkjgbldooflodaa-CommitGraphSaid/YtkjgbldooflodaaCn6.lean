/-
  Lists of lists of numbers in memory; graphs of texts: plain laws.
-/
import Derived.Test.YtkjgbldooflodaaCn4
import Derived.Test.YtkjgbldooflodaaCn5
import Derived.Test.YtkjgbldooflodaaCm5
namespace Go.Proofs.Ytkjgbldooflodaa
open Go.RowKit Cm Mp
set_option maxRecDepth 100000
set_option linter.unusedVariables false
set_option linter.unusedSimpArgs false
def I64 (n : Int) : Prop := -9223372036854775808 ≤ n ∧ n ≤ 9223372036854775807
/-- A list of numbers in memory. -/
def Is (w : World) (o : Option Addr) (l : List Int) : Prop :=
  (l ≠ [] → ∃ a, o = some a) ∧ ∀ a, o = some a → (l ≠ [] → a.block < w.heap.size) ∧ ∀ (i : Nat) (x : Int), l[i]? = some x → w.cell? (a.add i) = some (.int .i64 x)
theorem Is.below {w w' : World} {o : Option Addr} {l : List Int} (h : Is w o l) (hb : Below w.heap.size w w') : Is w' o l :=
  ⟨h.1, fun a ha => ⟨fun hn => Nat.lt_of_lt_of_le ((h.2 a ha).1 hn) hb.size, fun i x hx => by
    have hn : l ≠ [] := by intro e; rw [e] at hx; simp at hx
    exact (hb.cell (by rw [addr_add_block]; exact (h.2 a ha).1 hn)).trans ((h.2 a ha).2 i x hx)⟩⟩
/-- A list of such lists. -/
def LL (w : World) (o : Option Addr) (L : List (List Int)) : Prop :=
  (L ≠ [] → ∃ a, o = some a) ∧ ∀ a, o = some a → (L ≠ [] → a.block < w.heap.size) ∧ ∀ (i : Nat) (l : List Int), L[i]? = some l → ∃ oi ci, w.cell? (a.add i) = some (.slice oi l.length ci) ∧ Is w oi l
theorem LL.below {w w' : World} {o : Option Addr} {L : List (List Int)} (h : LL w o L) (hb : Below w.heap.size w w') : LL w' o L :=
  ⟨h.1, fun a ha => ⟨fun hn => Nat.lt_of_lt_of_le ((h.2 a ha).1 hn) hb.size, fun i l hl => by
    have hn : L ≠ [] := by intro e; rw [e] at hl; simp at hl
    obtain ⟨oi, ci, h1, h2⟩ := (h.2 a ha).2 i l hl
    exact ⟨oi, ci, (hb.cell (by rw [addr_add_block]; exact (h.2 a ha).1 hn)).trans h1, h2.below hb⟩⟩⟩
/-- Texts of commits, each of whose parents are prints of ones ahead in the list. -/
def GOK (T : List ByteArray) : Prop := ∀ (i : Nat) (t : ByteArray), T[i]? = some t → t.size ≤ 2000 ∧ ∃ c, readC t = some c ∧ ∀ q ∈ c.par, ∃ j u, j < i ∧ T[j]? = some u ∧ q = Sha.sha u
theorem GOK.nil : GOK [] := fun i t h => by simp at h
theorem GOK.step {T : List ByteArray} {t : ByteArray} {c : C} (h : GOK T) (hz : t.size ≤ 2000) (hc : readC t = some c) (hp : ∀ q ∈ c.par, q ∈ T.map Sha.sha) : GOK (T ++ [t]) := by
  intro i u hu
  by_cases hi : i < T.length
  · rw [List.getElem?_append_left hi] at hu
    obtain ⟨h1, d, h2, h3⟩ := h i u hu
    refine ⟨h1, d, h2, fun q hq => ?_⟩
    obtain ⟨j, v, h4, h5, h6⟩ := h3 q hq
    exact ⟨j, v, h4, by rw [List.getElem?_append_left (by omega)]; exact h5, h6⟩
  · rw [List.getElem?_append_right (by omega)] at hu
    obtain rfl : i = T.length := by
      have := (List.getElem?_eq_some_iff.1 hu).1
      simp at this
      omega
    rw [Nat.sub_self] at hu
    obtain rfl : t = u := by simpa using hu
    refine ⟨hz, c, hc, fun q hq => ?_⟩
    obtain ⟨v, hv, rfl⟩ := List.mem_map.1 (hp q hq)
    obtain ⟨j, hj⟩ := List.getElem?_of_mem hv
    have hjl := (List.getElem?_eq_some_iff.1 hj).1
    exact ⟨j, v, hjl, by rw [List.getElem?_append_left hjl]; exact hj, rfl⟩
/-- Of a print in the list there is a text: the first one of that print. -/
theorem src_some {T : List ByteArray} {p : ByteArray} (hp : p ∈ T.map Sha.sha) : ∃ t, srcOf T p = some t ∧ t ∈ T ∧ Sha.sha t = p := by
  unfold srcOf
  cases h : T.find? fun t => decide (Sha.sha t = p) with
  | none =>
    obtain ⟨t, ht, rfl⟩ := List.mem_map.1 hp
    have := List.find?_eq_none.1 h t ht
    simp at this
  | some t => exact ⟨t, rfl, List.mem_of_find?_eq_some h, by simpa using List.find?_some h⟩
theorem src_mem {T : List ByteArray} {p t : ByteArray} (h : srcOf T p = some t) : t ∈ T ∧ Sha.sha t = p := by
  unfold srcOf at h
  exact ⟨List.mem_of_find?_eq_some h, by simpa using List.find?_some h⟩
theorem gok_par {T : List ByteArray} (h : GOK T) {p : ByteArray} (hp : p ∈ T.map Sha.sha) : ∃ l, par (srcOf T) p = some l ∧ ∀ q ∈ l, q ∈ T.map Sha.sha := by
  obtain ⟨t, h1, h2, h3⟩ := src_some hp
  obtain ⟨i, hi⟩ := List.getElem?_of_mem h2
  obtain ⟨_, c, hc, hq⟩ := h i t hi
  refine ⟨c.par, by unfold par getC; rw [h1]; show (readC t).map _ = _; rw [hc]; rfl, fun q hq' => ?_⟩
  obtain ⟨j, u, _, hu, rfl⟩ := hq q hq'
  exact List.mem_map_of_mem (List.mem_of_getElem? hu)
theorem gok_ahd {T : List ByteArray} (h : GOK T) {p s : ByteArray} (hp : p ∈ T.map Sha.sha) (hs : Ahd (srcOf T) p s) : s ∈ T.map Sha.sha := by
  induction hs with
  | refl => exact hp
  | step _ hl hq ih =>
    obtain ⟨l, h1, h2⟩ := gok_par h ih
    rw [h1] at hl
    cases hl
    exact h2 _ hq
theorem gok_whole {T : List ByteArray} (h : GOK T) {p : ByteArray} (hp : p ∈ T.map Sha.sha) : ∀ s, Ahd (srcOf T) p s → par (srcOf T) s ≠ none := fun s hs hn => by
  obtain ⟨l, h1, _⟩ := gok_par h (gok_ahd h hp hs)
  rw [h1] at hn
  cases hn
theorem map_get {T : List ByteArray} {j : Nat} {u : ByteArray} (h : T[j]? = some u) : (T.map Sha.sha)[j]? = some (Sha.sha u) := by rw [List.getElem?_map, h]; rfl
/-- Where no two have one print, a step goes to a text ahead in the list. -/
theorem gok_less {T : List ByteArray} (h : GOK T) (hn : NoClash T) {i : Nat} {t q : ByteArray} {l : List ByteArray} (ht : T[i]? = some t) (hl : par (srcOf T) (Sha.sha t) = some l) (hq : q ∈ l) : ∃ j u, j < i ∧ T[j]? = some u ∧ q = Sha.sha u := by
  obtain ⟨u, h1, h2, h3⟩ := src_some (List.mem_map_of_mem (f := Sha.sha) (List.mem_of_getElem? ht))
  obtain rfl := hn u h2 t (List.mem_of_getElem? ht) h3
  obtain ⟨_, c, hc, hp⟩ := h i u ht
  have : par (srcOf T) (Sha.sha u) = some c.par := by unfold par getC; rw [h1]; show (readC u).map _ = _; rw [hc]; rfl
  rw [this] at hl
  cases hl
  exact hp q hq
/-- The place of a print. -/
def At (T : List ByteArray) (p : ByteArray) (i : Nat) : Prop := ∃ t, T[i]? = some t ∧ p = Sha.sha t
theorem at_ahd {T : List ByteArray} (h : GOK T) (hn : NoClash T) {p s : ByteArray} (hs : Ahd (srcOf T) p s) : ∀ i, At T p i → ∃ j, j ≤ i ∧ At T s j := by
  induction hs with
  | refl => exact fun i hi => ⟨i, Nat.le_refl _, hi⟩
  | step _ hl hq ih =>
    intro i hi
    obtain ⟨j, hj, t, ht, rfl⟩ := ih i hi
    obtain ⟨k, u, h1, h2, h3⟩ := gok_less h hn ht hl hq
    exact ⟨k, by omega, u, h2, h3⟩
theorem at_up {T : List ByteArray} (h : GOK T) (hn : NoClash T) {b x : ByteArray} (hx : Up (srcOf T) (fun s => Ahd (srcOf T) b s) x) : ∀ i, At T b i → ∃ j, j < i ∧ At T x j := by
  induction hx with
  | one hk hl hq =>
    intro i hi
    obtain ⟨j, hj, t, ht, rfl⟩ := at_ahd h hn hk i hi
    obtain ⟨k, u, h1, h2, h3⟩ := gok_less h hn ht hl hq
    exact ⟨k, by omega, u, h2, h3⟩
  | step _ hl hq ih =>
    intro i hi
    obtain ⟨j, hj, t, ht, rfl⟩ := ih i hi
    obtain ⟨k, u, h1, h2, h3⟩ := gok_less h hn ht hl hq
    exact ⟨k, by omega, u, h2, h3⟩
theorem no_round {T : List ByteArray} (h : GOK T) (hn : NoClash T) {b : ByteArray} (hb : b ∈ T.map Sha.sha) : ¬ Up (srcOf T) (fun s => Ahd (srcOf T) b s) b := fun hu => by
  have hall : ∀ n i, i ≤ n → ¬ At T b i := by
    intro n
    induction n with
    | zero =>
      intro i hi ha
      obtain ⟨j, hj, _⟩ := at_up h hn hu i ha
      omega
    | succ n ih =>
      intro i hi ha
      obtain ⟨j, hj, haj⟩ := at_up h hn hu i ha
      exact ih j (by omega) haj
  obtain ⟨t, ht, rfl⟩ := List.mem_map.1 hb
  obtain ⟨i, hi⟩ := List.getElem?_of_mem ht
  exact hall i i (Nat.le_refl _) ⟨t, hi, rfl⟩
theorem up_mono {S : ByteArray → Option ByteArray} {R R' : ByteArray → Prop} (hR : ∀ s, R s → R' s) {x : ByteArray} (h : Up S R x) : Up S R' x := by
  induction h with
  | one hk hl hq => exact .one (hR _ hk) hl hq
  | step _ hl hq ih => exact .step ih hl hq
theorem ahd_up {S : ByteArray → Option ByteArray} {R : ByteArray → Prop} {b x : ByteArray} (hb : R b) (h : Ahd S b x) : x = b ∨ Up S R x := by
  induction h with
  | refl => exact .inl rfl
  | step _ hl hq ih =>
    rcases ih with rfl | ih
    · exact .inr (.one hb hl hq)
    · exact .inr (.step ih hl hq)
/-- Of a commit and one ahead of it the base is that one. -/
theorem base_elder {T : List ByteArray} (h : GOK T) (hn : NoClash T) {a b c : ByteArray} {ok : Bool} (hb : b ∈ T.map Sha.sha) (hab : Ahd (srcOf T) a b) (ho : BaseOut (srcOf T) a b c ok) : c = b := by
  have hB : Bs (srcOf T) a b b := ⟨⟨hab, .refl⟩, fun hu => no_round h hn hb (up_mono (fun s hs => hs.2) hu)⟩
  rcases ho with ⟨_, h1, _⟩ | ⟨_, _, h1⟩
  · rcases ahd_up (R := fun s => Ahd (srcOf T) a s ∧ Ahd (srcOf T) b s) ⟨hab, .refl⟩ h1.1.2 with h2 | h2
    · exact h2
    · exact absurd h2 h1.2
  · exact absurd hB (h1 b)
end Go.Proofs.Ytkjgbldooflodaa
