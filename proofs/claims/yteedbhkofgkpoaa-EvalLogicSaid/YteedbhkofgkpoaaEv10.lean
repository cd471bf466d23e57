/-
  The walk of eval.Work at every expression without columns.
-/
import Derived.Test.YteedbhkofgkpoaaEv9
namespace Go.Proofs.Yteedbhkofgkpoaa
open Go.RowKit Ev
set_option maxRecDepth 100000
set_option linter.unusedVariables false
set_option linter.unusedSimpArgs false
def Ok : X → Prop
  | .int n => In64 n
  | .bool _ => True
  | .null => True
  | .isnull e => Ok e
  | .not e => Ok e
  | .neg e => Ok e
  | .bin k a b => k ≤ 12 ∧ Ok a ∧ Ok b
def Good (v : Vl) : Prop := In64 v.n ∧ (v.k = 2 → v = ⟨2, 0, emp⟩ ∨ v = ⟨2, 1, emp⟩)
theorem good_tr (b : Bool) : Good (tr b) := by
  cases b
  · exact ⟨by unfold In64 tr; simp, fun _ => .inl rfl⟩
  · exact ⟨by unfold In64 tr; simp, fun _ => .inr rfl⟩
theorem good_nul : Good nul := ⟨by unfold In64 nul; simp, fun h => by simp [nul] at h⟩
theorem good_num {n : Int} (h : In64 n) : Good (num n) := ⟨h, fun h => by simp [num] at h⟩
theorem chk_in64 (r : Int) : In64 (chk r).1 := by
  unfold chk
  split
  · assumption
  · unfold In64; simp
theorem work_in64 (o : Nat) (a b : Int) (ha : In64 a) (hb : In64 b) : In64 (work o a b).1 := by
  unfold work
  split
  · exact chk_in64 _
  · exact chk_in64 _
  · exact chk_in64 _
  · split
    · unfold In64; simp
    · exact chk_in64 _
  · split
    · unfold In64; simp
    · rename_i h0
      have h1 := Int.natAbs_tmod a b
      have h2 : a.natAbs % b.natAbs < b.natAbs := Nat.mod_lt _ (by omega)
      unfold In64 at *
      simp only
      omega
theorem good_numd (o : Nat) (a b : Int) (ha : In64 a) (hb : In64 b) : Good (numd o a b).1 := by
  unfold numd
  split
  · exact good_num (work_in64 o a b ha hb)
  · exact good_nul
theorem good_two (k : Nat) (a : Vl) (q : Vl × Int) (ha : Good a) (hq : Good q.1) : Good (two k a q).1 := by
  unfold two
  repeat' split
  all_goals first | exact ha | exact hq | exact good_nul | exact good_tr _ | exact good_numd _ _ _ ha.1 hq.1
theorem good_workX : ∀ x : X, Ok x → Good (workX x).1 := by
  intro x
  induction x with
  | int n => intro h; exact good_num h
  | bool n => intro _; exact good_tr _
  | null => intro _; exact good_nul
  | isnull e ih => intro h; simp only [workX]; split; exact good_nul; exact good_tr _
  | not e ih =>
    intro h; simp only [workX]
    split
    · exact good_nul
    · split
      · exact ih h
      · exact good_tr _
  | neg e ih =>
    intro h; simp only [workX]
    split
    · exact good_nul
    · split
      · exact ih h
      · exact good_numd _ _ _ (by unfold In64; simp) (ih h).1
  | bin k a b iha ihb =>
    intro h; simp only [workX]
    split
    · exact good_nul
    · exact good_two _ _ _ (iha h.2.1) (ihb h.2.2)
theorem two_any (k : Nat) (hk : k ≤ 12) (a : Vl) (y : X) (ih : WorkC y) (ha : Good a) (hy : Good (workX y).1) (op : ByteArray) (n : Int) (g c : Nat) (o t : ByteArray) (m : Int) (q fs rs : Value) (w : World) (hq : NodeAt w g 4 o t m q) (hx : IsX w y o t m q) :
    Calls Try.prog 32 #[nd op (binS k) n (.slice (some ⟨g, 0, none⟩) 2 c), vv a, fs, rs] w fun e w' => e = .returned (wv (two k a (workX y))) ∧ Below w.heap.size w w' := by
  match k, hk with
  | 0, _ => exact two_0 a y ih ha.1 hy.1 op n g c o t m q fs rs w hq hx
  | 1, _ => exact two_1 a y ih ha.1 hy.1 op n g c o t m q fs rs w hq hx
  | 2, _ => exact two_2 a y ih ha.1 hy.1 op n g c o t m q fs rs w hq hx
  | 3, _ => exact two_3 a y ih ha.1 hy.1 op n g c o t m q fs rs w hq hx
  | 4, _ => exact two_4 a y ih ha.1 hy.1 op n g c o t m q fs rs w hq hx
  | 5, _ => exact two_5 a y ih ha.2 hy.2 op n g c o t m q fs rs w hq hx
  | 6, _ => exact two_6 a y ih ha.2 hy.2 op n g c o t m q fs rs w hq hx
  | 7, _ => exact two_7 a y ih op n g c o t m q fs rs w hq hx
  | 8, _ => exact two_8 a y ih op n g c o t m q fs rs w hq hx
  | 9, _ => exact two_9 a y ih op n g c o t m q fs rs w hq hx
  | 10, _ => exact two_10 a y ih op n g c o t m q fs rs w hq hx
  | 11, _ => exact two_11 a y ih op n g c o t m q fs rs w hq hx
  | 12, _ => exact two_12 a y ih op n g c o t m q fs rs w hq hx
set_option maxHeartbeats 400000 in
theorem work_bin (b : Nat) (hb12 : b ≤ 12) (x y : X) (ih : WorkC x) (ihy : WorkC y) (hgx : Good (workX x).1) (hgy : Good (workX y).1) : WorkC (.bin b x y) := by
  intro op text m k fs rs w hx
  obtain ⟨rfl, rfl, g, c, o, t, n, q, o', t', n', q', rfl, ha, hx, ha', hx'⟩ := hx
  obtain ⟨text, htext⟩ : ∃ text, text = binS b := ⟨_, rfl⟩
  obtain ⟨v, hv⟩ : ∃ v, v = (workX x).1 := ⟨_, rfl⟩
  obtain ⟨f, hf⟩ : ∃ f, f = (workX x).2 := ⟨_, rfl⟩
  have hxv : workX x = (v, f) := by rw [hv, hf]
  have hw : workX (.bin b x y) = (if f ≠ 0 then (nul, f) else two b v (workX y)) := by rw [workX, hxv]
  rw [hw]
  have hih : ∀ W, IsX W x o t n q → Calls Try.prog 14 #[nd o t n q, fs, rs] W fun e w' => e = .returned (wv (v, f)) ∧ Below W.heap.size W w' := fun W h => by
    rw [← hxv]; exact ih o t n q fs rs W h
  rw [hxv] at hgx
  have hgv : Good v := hgx
  have htwo := fun op W h1 h2 => two_any b hb12 v y ihy hgv hgy op m g c o' t' n' q' fs rs W h1 h2
  rw [← htext] at htwo ⊢
  clear htext
  clear hw hv hf ih
  unfold nd
  go_enter Try.func14, Try.ntmps14
  go_wp2_with (fail)
  go_at_call 23
  refine (shaped_bin text m _ c _).mono ?_
  rintro e w1 ⟨rfl, hB⟩
  have hN := (lay2_box w ⟨#[98, 105, 110]⟩ text m (.slice (some ⟨g, 0, none⟩) 2 c)).below hB
  have hL := (lay2_lies w ⟨#[98, 105, 110]⟩ text m (.slice (some ⟨g, 0, none⟩) 2 c)).below hB
  have hb := (lay2_below w ⟨#[98, 105, 110]⟩ text m (.slice (some ⟨g, 0, none⟩) 2 c)).trans (hB.mono (by simp; omega))
  clear hB
  obtain ⟨a0, a1, a2, a3⟩ := ha.below hb
  obtain ⟨n0, n1, n2, n3⟩ := hN.at
  go_wp2_with (fail)
  go_at_call 14
  refine (hih w1 (hx.below hb)).mono ?_
  rintro e w2 ⟨rfl, hB2⟩
  have hb2 := hb.trans (hB2.mono hb.size)
  have ha2 := ha'.below hb2
  have hx2 := hx'.below hb2
  have hN2 := hN.below hB2
  have hL2 := hL.below hB2
  clear a0 a1 a2 a3 n0 n1 n2 n3 hB2 hN hL hb hx ha hih ha' hx'
  have l1 := hN2.lt
  have l2 := hL2.lt
  obtain ⟨n0, n1, n2, n3⟩ := hN2.at
  have c0 := hL2.c0
  have c1 := hL2.c1
  have c2 := hL2.c2
  have f0 := hL2.free 0
  have f1 := hL2.free 1
  have f2 := hL2.free 2
  unfold wv vv
  by_cases hf0 : f ≠ 0
  · have hfb : (f != 0) = true := bne_iff_ne.2 hf0
    go_wp2
    exact bodyPost_ret (v := wv (nul, f)) (work_res rfl rfl ((hL2.set3 nul).alloc _)) rfl ⟨rfl, (set3 hb2 (by omega) _ _ _).alloc (by simpa using hb2.size) _⟩
  · obtain rfl : f = 0 := by omega
    clear hf0
    obtain ⟨r, hr⟩ : ∃ r, r = two b v (workX y) := ⟨_, rfl⟩
    rw [← hr] at htwo
    have HR := Lib.hid hr
    clear hr
    obtain ⟨r1, r2⟩ := r
    have hal : Below w2.heap.size w2 (w2.alloc (.cells #[.int .i64 v.k, .int .i64 v.n, .string v.s] 38)) := (Below.refl _ _).alloc (Nat.le_refl _) _
    have ha3 := ha2.below hal
    have hx3 := hx2.below hal
    clear hal
    go_wp2_with (fail)
    go_at_call 32
    refine (htwo _ _ ha3 hx3).mono ?_
    rintro e w3 ⟨rfl, hB3⟩
    clear ha3 hx3 ha2 hx2 htwo n0 n1 n2 n3 c0 c1 c2 f0 f1 f2 l1 l2
    have hN3 := (hN2.alloc _).below hB3
    have hL3 := (hL2.alloc _).below hB3
    have hA3 := (Lies.new w2 v).below hB3
    have hb3 := (hb2.alloc hb2.size _).trans (hB3.mono (by have := hb2.size; simp; omega))
    clear hB3 hN2 hL2 hb2
    have l1 := hN3.lt
    have l2 := hL3.lt
    have l3 := hA3.lt
    obtain ⟨n0, n1, n2, n3⟩ := hN3.at
    have c0 := hL3.c0
    have c1 := hL3.c1
    have c2 := hL3.c2
    have f0 := hL3.free 0
    have f1 := hL3.free 1
    have f2 := hL3.free 2
    have a0 := hA3.c0
    have a1 := hA3.c1
    have a2 := hA3.c2
    unfold wv vv
    go_wp2
    exact bodyPost_ret (v := wv (r1, r2)) (work_res rfl rfl (hL3.set3 r1)) rfl ⟨by first | rw [HR.out] | (rw [if_neg (by simp), HR.out]), set3 hb3 (by omega) _ _ _⟩
theorem work_any : ∀ x : X, Ok x → WorkC x := by
  intro x
  induction x with
  | int n => intro _; exact work_int n
  | bool n => intro _; exact work_bool n
  | null => intro _; exact work_null
  | isnull e ih => intro h; exact work_isnull e (ih h)
  | not e ih => intro h; exact work_not e (ih h)
  | neg e ih => intro h; exact work_neg e (ih h) (good_workX e h).1
  | bin k a b iha ihb => intro h; exact work_bin k h.1 a b (iha h.2.1) (ihb h.2.2) (good_workX a h.2.1) (good_workX b h.2.2)
end Go.Proofs.Yteedbhkofgkpoaa
