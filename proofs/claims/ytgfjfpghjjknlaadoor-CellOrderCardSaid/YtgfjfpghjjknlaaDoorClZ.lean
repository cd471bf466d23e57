/-
  The walk of the law CellOrder.
-/
import Derived.Test.YtgfjfpghjjknlaaDoorClY
import Derived.Test.YtgfjfpghjjknlaaDoorClF
namespace Go.Proofs.YtgfjfpghjjknlaaDoor
open Go.RowKit Cl
set_option maxRecDepth 100000
set_option linter.unusedVariables false
set_option linter.unusedSimpArgs false
theorem key_data (l : List UInt8) : (⟨l.toArray⟩ : ByteArray).toList = l := by rw [toList_data]
/-- What the keys and bytes of two tuples say of their order. -/
theorem order_said (l m : List V) (hl : tuple l = true) (hm : tuple m = true) (nl : ∀ v ∈ l, In64 v.n) (nm : ∀ v ∈ m, In64 v.n) :
    Op.bytesLess (⟨(keyB l).toArray⟩ : ByteArray).toList (⟨(keyB m).toArray⟩ : ByteArray).toList = decide (Od.ord l m < 0) ∧ ((⟨(keyB l).toArray⟩ : ByteArray).toList == (⟨(keyB m).toArray⟩ : ByteArray).toList) = decide (Od.ord l m = 0) ∧ ((⟨(writeB l).toArray⟩ : ByteArray).toList == (⟨(writeB m).toArray⟩ : ByteArray).toList) = decide (Od.ord l m = 0) := by
  rw [key_data, key_data, key_data, key_data]
  refine ⟨(Od.key_order l m hl hm nl nm).symm, ?_, ?_⟩
  · rw [Bool.eq_iff_iff, beq_iff_eq, decide_eq_true_iff]
    exact (Od.key_same l m hl hm nl nm).symm
  · rw [Bool.eq_iff_iff, beq_iff_eq, decide_eq_true_iff]
    exact (Od.write_same l m hl hm nl nm).symm
set_option maxHeartbeats 8000000 in
theorem cellOrder_walk (l1 : List V) (o1 : Option Addr) (c1 : Nat) (l2 : List V) (o2 : Option Addr) (c2 : Nat) (w : World) (he : Env w) (h1 : Sl w o1 l1) (hn1 : o1 = none → c1 = 0) (nl1 : ∀ v ∈ l1, In64 v.n) (hl1 : l1.length ≤ 140737488351232)
    (h2 : Sl w o2 l2) (hn2 : o2 = none → c2 = 0) (nl2 : ∀ v ∈ l2, In64 v.n) (hl2 : l2.length ≤ 140737488351232) :
    Calls Tryd.prog 8 #[.slice o1 l1.length c1, .slice o2 l2.length c2] w fun e w' => e = .returned (.bool true) ∧ Below w.heap.size w w' := by
  go_enter Tryd.func8, Tryd.ntmps8
  go_wp2_with (fail)
  go_at_call 9
  refine (awake_any w he).mono ?_
  rintro e w1 ⟨rfl, hb1⟩
  have h11 := h1.below hb1
  have h21 := h2.below hb1
  have he1 := he.below hb1 he.lt
  have hbl := (Below.refl w1.heap.size w1).alloc (Nat.le_refl _) (.cells #[.slice o1 l1.length c1, .slice o2 l2.length c2] 27)
  have hlt : w1.heap.size < (w1.alloc (.cells #[.slice o1 l1.length c1, .slice o2 l2.length c2] 27)).heap.size := by simp
  have hfew := few_any [⟨o1, c1, l1⟩, ⟨o2, c2, l2⟩] ⟨w1.heap.size, 0, none⟩ (w1.alloc (.cells #[.slice o1 l1.length c1, .slice o2 l2.length c2] 27)) hlt (fun i x hx => by
    have hc := Lib.cell_of_heap (heap_alloc_new w1 (.cells #[.slice o1 l1.length c1, .slice o2 l2.length c2] 27))
    match i, hx with
    | 0, hx =>
      cases hx
      exact ⟨hc 0, h11.below hbl, hl1⟩
    | 1, hx =>
      cases hx
      exact ⟨hc 1, h21.below hbl, hl2⟩) (by simp)
  rw [show ([⟨o1, c1, l1⟩, ⟨o2, c2, l2⟩] : List Ls).length = 2 from rfl] at hfew
  have hB1 := hb1.trans (hbl.mono hb1.size)
  have h12 := h11.below hbl
  have h22 := h21.below hbl
  have he2 := he1.below hbl he1.lt
  obtain ⟨fw, hfw⟩ : ∃ fw : Bool, fw = ([⟨o1, c1, l1⟩, ⟨o2, c2, l2⟩] : List Ls).all fun x => fewL x.l := ⟨_, rfl⟩
  rw [← hfw] at hfew
  clear hfw hbl hlt h11 h21 he1 hb1
  go_wp2_with (fail)
  go_at_call 14
  refine hfew.mono ?_
  rintro e w3 ⟨rfl, hb3⟩
  have hB3 := hB1.trans (hb3.mono hB1.size)
  have h13 := h12.below hb3
  have h23 := h22.below hb3
  have he3 := he2.below hb3 he2.lt
  clear hfew h12 h22 he2 hb3 hB1 h1 h2 he
  cases fw
  · go_wp2
    go_ret
    exact ⟨rfl, hB3⟩
  · have k1 := fun w h1 h2 => compare_any l1 l2 c1 c2 o1 o2 w h1 h2 hl1 hl2
    have k2 := fun w h1 h2 => rcompare_any l1 l2 c1 c2 o1 o2 w h1 h2 hl1 hl2
    have k3 := fun w h2 h1 => compare_any l2 l1 c2 c1 o2 o1 w h2 h1 hl2 hl1
    have k4 := fun w (he : Env w) h => key_any l1 c1 o1 w he h hl1
    have k5 := fun w (he : Env w) h => key_any l2 c2 o2 w he h hl2
    have k6 := fun w (he : Env w) h => write_any l1 c1 o1 w he h hl1
    have k7 := fun w (he : Env w) h => write_any l2 c2 o2 w he h hl2
    have hsaid := fun a b => order_said l1 l2 a b nl1 nl2
    have hrng := Od.ord_range l1 l2
    rw [Od.ord_neg l1 l2] at k3
    obtain ⟨c, hc⟩ : ∃ c, c = Od.ord l1 l2 := ⟨_, rfl⟩
    rw [← hc] at k1 k2 k3 hsaid hrng
    obtain ⟨t1, ht1⟩ : ∃ t : Bool, t = tuple l1 := ⟨_, rfl⟩
    obtain ⟨t2, ht2⟩ : ∃ t : Bool, t = tuple l2 := ⟨_, rfl⟩
    rw [← ht1] at k4 k6 hsaid
    rw [← ht2] at k5 k7 hsaid
    have hwr : IntKind.i64.wrap (-c) = -c := i64_wrap_in _ (by omega) (by omega)
    obtain ⟨r1, hr1⟩ : ∃ r : ByteArray, r = (if t1 then (⟨(keyB l1).toArray⟩ : ByteArray) else ⟨#[]⟩) := ⟨_, rfl⟩
    obtain ⟨r2, hr2⟩ : ∃ r : ByteArray, r = (if t2 then (⟨(keyB l2).toArray⟩ : ByteArray) else ⟨#[]⟩) := ⟨_, rfl⟩
    obtain ⟨r3, hr3⟩ : ∃ r : ByteArray, r = (if t1 then (⟨(writeB l1).toArray⟩ : ByteArray) else ⟨#[]⟩) := ⟨_, rfl⟩
    obtain ⟨r4, hr4⟩ : ∃ r : ByteArray, r = (if t2 then (⟨(writeB l2).toArray⟩ : ByteArray) else ⟨#[]⟩) := ⟨_, rfl⟩
    rw [← hr1] at k4
    rw [← hr2] at k5
    rw [← hr3] at k6
    rw [← hr4] at k7
    have hs2 : t1 = true → t2 = true → Op.bytesLess r1.toList r2.toList = decide (c < 0) ∧ (r1.toList == r2.toList) = decide (c = 0) ∧ (r3.toList == r4.toList) = decide (c = 0) := by
      intro a b
      rw [hr1, hr2, hr3, hr4, a, b]
      exact hsaid a b
    have HS := Lib.hid hs2
    have HRng := Lib.hid hrng
    clear hs2 hrng hsaid hr1 hr2 hr3 hr4 ht1 ht2 hc nl1 nl2 hn1 hn2
    go_wp2_with (fail)
    go_at_call 24
    refine (k1 _ h13 h23).mono ?_
    rintro e w4 ⟨rfl, hb4⟩
    have hB4 := hB3.trans (hb4.mono hB3.size)
    have h14 := h13.below hb4
    have h24 := h23.below hb4
    have he4 := he3.below hb4 he3.lt
    clear h13 h23 he3 hb4 hB3
    go_wp2_with (fail)
    go_at_call 25
    refine (k2 _ h14 h24).mono ?_
    rintro e w5 ⟨rfl, hb5⟩
    have hB5 := hB4.trans (hb5.mono hB4.size)
    have h15 := h14.below hb5
    have h25 := h24.below hb5
    have he5 := he4.below hb5 he4.lt
    clear h14 h24 he4 hb5 hB4
    go_wp2_with (fail)
    go_at_call 24
    refine (k3 _ h25 h15).mono ?_
    rintro e w6 ⟨rfl, hb6⟩
    have hB6 := hB5.trans (hb6.mono hB5.size)
    have h16 := h15.below hb6
    have h26 := h25.below hb6
    have he6 := he5.below hb6 he5.lt
    clear h15 h25 he5 hb6 hB5 k1 k2 k3
    go_wp2_with (fail)
    go_at_call 15
    refine (k4 _ he6 h16).mono ?_
    rintro e w7 ⟨rfl, hb7⟩
    have hB7 := hB6.trans (hb7.mono hB6.size)
    have h17 := h16.below hb7
    have h27 := h26.below hb7
    have he7 := he6.below hb7 he6.lt
    clear h16 h26 he6 hb7 hB6 k4
    go_wp2_with (fail)
    go_at_call 15
    refine (k5 _ he7 h27).mono ?_
    rintro e w8 ⟨rfl, hb8⟩
    have hB8 := hB7.trans (hb8.mono hB7.size)
    have h18 := h17.below hb8
    have h28 := h27.below hb8
    have he8 := he7.below hb8 he7.lt
    clear h17 h27 he7 hb8 hB7 k5
    go_wp2_with (fail)
    go_at_call 16
    refine (k6 _ he8 h18).mono ?_
    rintro e w9 ⟨rfl, hb9⟩
    have hB9 := hB8.trans (hb9.mono hB8.size)
    have h29 := h28.below hb9
    have he9 := he8.below hb9 he8.lt
    clear h18 h28 he8 hb9 hB8 k6
    go_wp2_with (fail)
    go_at_call 16
    refine (k7 _ he9 h29).mono ?_
    rintro e w10 ⟨rfl, hb10⟩
    have hB10 := hB9.trans (hb10.mono hB9.size)
    clear h29 he9 hb10 hB9 k7 hwr
    cases t1
    · go_wp2
      go_ret
      exact ⟨rfl, hB10⟩
    · cases t2
      · go_wp2
        go_ret
        exact ⟨rfl, hB10⟩
      · obtain ⟨s1, s2, s3⟩ := HS.out rfl rfl
        rcases HRng.out with rfl | rfl | rfl
        · replace s1 : Op.bytesLess r1.toList r2.toList = true := s1
          replace s2 : (r1.toList == r2.toList) = false := s2
          replace s3 : (r3.toList == r4.toList) = false := s3
          go_wp2
          go_ret
          exact ⟨rfl, hB10⟩
        · replace s1 : Op.bytesLess r1.toList r2.toList = false := s1
          replace s2 : (r1.toList == r2.toList) = true := s2
          replace s3 : (r3.toList == r4.toList) = true := s3
          go_wp2
          go_ret
          exact ⟨rfl, hB10⟩
        · replace s1 : Op.bytesLess r1.toList r2.toList = false := s1
          replace s2 : (r1.toList == r2.toList) = false := s2
          replace s3 : (r3.toList == r4.toList) = false := s3
          go_wp2
          go_ret
          exact ⟨rfl, hB10⟩
end Go.Proofs.YtgfjfpghjjknlaaDoor
