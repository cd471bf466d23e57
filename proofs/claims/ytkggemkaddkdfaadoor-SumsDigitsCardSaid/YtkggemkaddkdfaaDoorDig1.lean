/-
  The walk of sums.Raw: the bytes of digits.
-/
import Derived.Test.YtkggemkaddkdfaaDoorDig0
import Derived.Shelf.Strings.SlTrimAscii
import Derived.Deep.RegionHeld3
namespace Go.Proofs.YtkggemkaddkdfaaDoor
open Go.RowKit
set_option maxRecDepth 100000
set_option linter.unusedVariables false
set_option linter.unusedSimpArgs false
namespace Dg
def raw (s : ByteArray) : ByteArray := if good s.data.toList then ⟨(unhex s.data.toList).toArray⟩ else ⟨#[]⟩
theorem byte_of (x y : UInt8) (hx : isD x = true) (hy : isD y = true) : IntKind.u8.wrap (Go.bits .or .i64 (IntKind.i64.wrap (dg x * 16)) (dg y)) = ((UInt8.ofNat (dg x * 16 + dg y).toNat).toNat : Int) := by
  have h : ∀ a b : Fin 16, IntKind.u8.wrap (Go.bits .or .i64 (IntKind.i64.wrap ((a.1 : Int) * 16)) (b.1 : Int)) = ((UInt8.ofNat ((a.1 : Int) * 16 + (b.1 : Int)).toNat).toNat : Int) := by decide +kernel
  have bx := dg_ge hx
  have ey := dg_ge hy
  obtain ⟨n, hn⟩ : ∃ n : Nat, dg x = n := ⟨(dg x).toNat, by omega⟩
  obtain ⟨m, hm⟩ : ∃ m : Nat, dg y = m := ⟨(dg y).toNat, by omega⟩
  rw [hn, hm]
  exact h ⟨n, by omega⟩ ⟨m, by omega⟩
end Dg
abbrev hexDigits : ByteArray := ⟨#[48, 49, 50, 51, 52, 53, 54, 55, 56, 57, 97, 98, 99, 100, 101, 102]⟩
theorem trim_any (s : ByteArray) (w : World) (hs : s.size ≤ 140737488351232) :
    Calls Tryd.prog 13 #[.string s, .string ⟨#[48, 49, 50, 51, 52, 53, 54, 55, 56, 57, 97, 98, 99, 100, 101, 102]⟩] w fun e w' => e = .returned (.string ⟨(Lib.trimS s.data.toList Dg.dl).toArray⟩) ∧ Below w.heap.size w w' :=
  Any.strings_Trim_laid Tryd.lays160 (by kernel_rfl) s ⟨#[48, 49, 50, 51, 52, 53, 54, 55, 56, 57, 97, 98, 99, 100, 101, 102]⟩ w (by omega) (by decide) (ascii_of_all (by decide))
theorem index_any (c : UInt8) (n : Int) (hn : n = (c.toNat : Int)) (w : World) :
    Calls Tryd.prog 14 #[.string ⟨#[48, 49, 50, 51, 52, 53, 54, 55, 56, 57, 97, 98, 99, 100, 101, 102]⟩, .int .u8 n] w fun e w' => e = .returned (.int .i64 (Dg.dg c)) ∧ w' = w := by
  subst hn
  refine (Tryd.strings_IndexByte _ _ w).mono ?_
  rintro e w' ⟨rfl, rfl⟩
  refine ⟨?_, rfl⟩
  rw [show ((c.toNat : Int)).toNat.toUInt8 = c by simp]
  rw [← Dg.idx_dg c]
  rfl
theorem isb_drew {T e : TypeId} {B b : Nat} {bs : List Value} {w : World} (h : Lib.IsBuilder T e B b bs w) : Lib.IsBuilder T e B b bs w.drew := h
set_option maxHeartbeats 4000000 in
theorem raw_any (s : ByteArray) (w : World) (hs : s.size ≤ 140737488351232) :
    Calls Tryd.prog 6 #[.string s] w fun e w' => e = .returned (.tuple #[.string (Dg.raw s), .bool (Dg.good s.data.toList)]) ∧ Below w.heap.size w w' := by
  have hl : s.data.toList.length = s.size := rfl
  by_cases hp : s.size % 2 = 1
  · have h1 : Int.tmod (s.size : Int) 2 = 1 := by rw [Int.tmod_eq_emod_of_nonneg (by omega)]; omega
    have hg : Dg.good s.data.toList = false := by unfold Dg.good; rw [hl, hp]; rfl
    have hr : Dg.raw s = ⟨#[]⟩ := by unfold Dg.raw; rw [hg]; rfl
    rw [hg, hr]
    clear hg hr
    go_enter Tryd.func6, Tryd.ntmps6
    go_wp2
    exact bodyPost_ret (v := .tuple #[.string ⟨#[]⟩, .bool false]) (by simp [results, Tryd.results6, go_sem]) rfl ⟨rfl, Below.refl _ _⟩
  · have h1 : Int.tmod (s.size : Int) 2 = 0 := by rw [Int.tmod_eq_emod_of_nonneg (by omega)]; omega
    by_cases hd : s.data.toList.all Dg.isD = true
    · have hg : Dg.good s.data.toList = true := by unfold Dg.good; rw [hl, hd, show s.size % 2 = 0 by omega]; rfl
      have hr : Dg.raw s = ⟨(Dg.unhex s.data.toList).toArray⟩ := by unfold Dg.raw; rw [hg]; rfl
      rw [hg, hr]
      have HR := Lib.hid hd
      clear hg hr
      go_enter Tryd.func6, Tryd.ntmps6
      go_wp2_with (fail)
      go_at_call 13
      refine (trim_any s _ hs).mono ?_
      rintro e w1 ⟨rfl, hb1⟩
      rw [(Dg.trim_nil _).2 hd]
      clear hd
      have hb1s := hb1.size
      go_wp2
      go_loopw [0] (fun v wr => ∃ (cur : ByteArray) (k : Nat), v = .string cur ∧ 2 * k ≤ s.size ∧ cur.data.toList = s.data.toList.drop (2 * k) ∧ Lib.IsBuilder 32 5 w1.heap.size w1.heap.size (Lib.byteCells (Dg.unhex (s.data.toList.take (2 * k)))) wr ∧ Below w.heap.size w wr ∧ w1.heap.size ≤ wr.heap.size)
        (fun v _ => strSize v)
      case atStart => exact ⟨s, 0, rfl, by omega, rfl, Lib.fresh_isBuilder _ _ w1, hb1.alloc hb1s _, by simp⟩
      case round =>
        obtain ⟨cur, k, rfl, hk, hcur, hb, hB, hsz⟩ := hrel
        have hcs := size_of_drop hk hcur
        by_cases hlt : 2 ≤ cur.size
        · obtain ⟨x, hx⟩ : ∃ x : UInt8, x = cur[0] := ⟨_, rfl⟩
          obtain ⟨y, hy⟩ : ∃ y : UInt8, y = cur[1] := ⟨_, rfl⟩
          have hxv : Sha.byteAt cur 0 = (x.toNat : Int) := by unfold Sha.byteAt; rw [dif_pos (by omega), hx]
          have hyv : Sha.byteAt cur 1 = (y.toNat : Int) := by unfold Sha.byteAt; rw [dif_pos (by omega), hy]
          have hix := fun w => run_index_byteAt (P := Tryd.prog) (t := 9) rfl cur 0 0 rfl (by omega) w
          have hiy := fun w => run_index_byteAt (P := Tryd.prog) (t := 9) rfl cur 1 1 rfl (by omega) w
          rw [hxv] at hix
          rw [hyv] at hiy
          have hxd : s.data.toList[2 * k]'(by rw [hl]; omega) = x := by
            rw [hx]
            have e : cur.data.toList[0]'(by show 0 < cur.size; omega) = (s.data.toList.drop (2 * k))[0]'(by rw [List.length_drop, hl]; omega) := by congr 1
            rw [List.getElem_drop] at e
            exact e.symm
          have hyd : s.data.toList[2 * k + 1]'(by rw [hl]; omega) = y := by
            rw [hy]
            have e : cur.data.toList[1]'(by show 1 < cur.size; omega) = (s.data.toList.drop (2 * k))[1]'(by rw [List.length_drop, hl]; omega) := by congr 1
            rw [List.getElem_drop] at e
            exact e.symm
          have ix : Dg.isD x = true := by rw [← hxd]; exact List.all_eq_true.1 HR.out _ (List.getElem_mem _)
          have iy : Dg.isD y = true := by rw [← hyd]; exact List.all_eq_true.1 HR.out _ (List.getElem_mem _)
          have HI := Lib.hid (And.intro ix iy)
          have hcne : cur.toList.isEmpty = false := by
            have e : cur.data.toList.length = cur.size := rfl
            rw [toList_data]
            cases hh : cur.data.toList with
            | nil => rw [hh] at e; simp at e; omega
            | cons a l => rfl
          have hln : (Lib.byteCells (Dg.unhex (s.data.toList.take (2 * k)))).length < 140737488355328 := by
            have e := Dg.unhex_length (s.data.toList.take (2 * k))
            have e2 : (s.data.toList.take (2 * k)).length ≤ s.data.toList.length := by rw [List.length_take]; omega
            simp [Lib.byteCells]
            omega
          obtain ⟨ul, hul⟩ : ∃ ul, ul = Dg.unhex (s.data.toList.take (2 * k)) := ⟨_, rfl⟩
          rw [← hul] at hb hln
          have HU := Lib.hid hul
          have HC := Lib.hid hcur
          have HX := Lib.hid (And.intro hxd hyd)
          clear hul hxv hyv hx hy hxd hyd ix iy hcur
          go_wp2_with (fail)
          go_region_held3 (fun _ => True) (exact trivial) ((first | (go_at_call 14; refine (index_any x _ rfl _).mono ?_; rintro e w' ⟨rfl, rfl⟩) | (go_at_call 14; refine (index_any y _ rfl _).mono ?_; rintro e w' ⟨rfl, rfl⟩) | (go_at_call 11; go_loud (refine (writeByte_any w1.heap.size w1.heap.size (Lib.byteCells ul) _ _ (isb_drew hb) hsz hln).mono ?_; rintro e w5 ⟨rfl, hb5, hB5⟩))))
          all_goals (
            rw [Dg.byte_of x y HI.out.1 HI.out.2, ← byteCells_snoc] at hb5
            go_wp2
            go_roundw
            (case rel =>
              refine ⟨cur.extract 2 cur.size, k + 1, rfl, by omega, ?_, ?_, hB.drew.trans (hB5.mono hb1s), Nat.le_trans hsz hB5.size⟩
              · rw [Lib.extract_to_end, HC.out, List.drop_drop]; rfl
              · rw [Dg.take2 _ k (by rw [hl]; omega), HX.out.1, HX.out.2, Dg.unhex_snoc k _ (by rw [List.length_take, hl]; omega), ← HU.out]
                exact hb5)
            (case measure => simp [strSize]; omega))
        · obtain rfl : cur = ⟨#[]⟩ := by
            have e : cur.data.toList.length = 0 := by show cur.size = 0; omega
            have e2 := List.eq_nil_of_length_eq_zero e
            exact ByteArray.ext (Array.ext' e2)
          go_wp2_with (fail)
          go_at_call 12
          refine (Tryd.Builder_String_any w1.heap.size w1.heap.size _ wr hb hsz).mono ?_
          rintro e w2 ⟨rfl, hB2⟩
          have hall : s.data.toList.take (2 * k) = s.data.toList := by
            refine List.take_of_length_le ?_
            have e : (⟨#[]⟩ : ByteArray).size = 0 := rfl
            rw [hl]
            omega
          rw [hall]
          go_wp2
          exact bodyPost_ret (v := .tuple #[.string ⟨(Dg.unhex s.data.toList).toArray⟩, .bool true]) (by simp [results, Tryd.results6, go_sem]) rfl ⟨rfl, hB.trans (hB2.mono hb1s)⟩
    · have hg : Dg.good s.data.toList = false := by unfold Dg.good; rw [show s.data.toList.all Dg.isD = false by simpa using hd]; simp
      have hr : Dg.raw s = ⟨#[]⟩ := by unfold Dg.raw; rw [hg]; rfl
      have hne : Lib.trimS s.data.toList Dg.dl ≠ [] := fun h => hd ((Dg.trim_nil _).1 h)
      rw [hg, hr]
      clear hg hr hd
      go_enter Tryd.func6, Tryd.ntmps6
      go_wp2_with (fail)
      go_at_call 13
      refine (trim_any s _ hs).mono ?_
      rintro e w1 ⟨rfl, hb1⟩
      generalize Lib.trimS s.data.toList Dg.dl = t at hne ⊢
      have hne2 : t.isEmpty = false := by cases t with
        | nil => exact absurd rfl hne
        | cons a l => rfl
      go_wp2
      exact bodyPost_ret (v := .tuple #[.string ⟨#[]⟩, .bool false]) (by simp [results, Tryd.results6, go_sem]) rfl ⟨rfl, hb1⟩
end Go.Proofs.YtkggemkaddkdfaaDoor
