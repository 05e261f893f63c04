/- ascii.Hex, msgid.digits and msgid.Print, walked. -/
import Derived.Test.YtafpndmoognjlaaBldByte
import Derived.Test.YtafpndmoognjlaaStr
import Derived.Test.YtafpndmoognjlaaBits
import Derived.Test.YtafpndmoognjlaaShelf
namespace Go.Proofs.Ytafpndmoognjlaa
open Go.ChangeShapes Go.WideShapes Go.ChangeAt Go.RowKit

theorem blk_new_bld (w : World) (B b : Nat) (hB : B ≤ b) (h : Blk w b 87 #[.pointer none, .slice none 0 0]) : BldF B b [] w :=
  .inl ⟨hB, .slice none 0 0, h, ⟨rfl, .inl ⟨rfl, rfl⟩⟩, by simp [Value.ownBlock]⟩
theorem string_calls (B b : Nat) (l : List UInt8) (w : World) (h : BldF B b (idc l) w) (hBw : B ≤ w.heap.size) :
    Calls Try.prog 52 #[.pointer (some ⟨b, 0, none⟩)] w fun e w' => e = .returned (.string (str l)) ∧ (BldF B b (idc l) w' ∧ Below B w w') := Try.Builder_String_any_f B b l w h hBw

def hexs : List UInt8 := [48, 49, 50, 51, 52, 53, 54, 55, 56, 57, 97, 98, 99, 100, 101, 102]
def hexB (b : UInt8) : List UInt8 := [byteAt hexs (b.toNat / 16), byteAt hexs (b.toNat % 16)]
def hexL (l : List UInt8) : List UInt8 := l.flatMap hexB
theorem hexL_len (l : List UInt8) : (hexL l).length = 2 * l.length := by
  unfold hexL
  induction l with
  | nil => rfl
  | cons a t ih => rw [List.flatMap_cons, List.length_append, ih, List.length_cons]; simp [hexB]; omega

set_option maxHeartbeats 1600000 in
theorem hex_calls (A : Option Addr) (n c : Nat) (l : List UInt8) (hl : l.length = n) (hn : n ≤ 100000) (w : World) (hr : Row w A (idc l)) :
    Calls Try.prog 55 #[.slice A n c] w fun e w' => e = .returned (.string (str (hexL l))) ∧ Below w.heap.size w w' := by
  have Hl := Lib.hid hl
  clear hl
  have t1 : True := trivial
  go_enter Try.func55, Try.ntmps55
  go_wp2_with (first
    | (have _t := t1; refine wpList_alloc rfl rfl 87 #[.pointer none, .slice none 0 0] (by kernel_rfl) ?_; intro w1 hb1 hg1 hs1; simp only [Act.put, List.setIfInBounds_toArray, List.set_cons_succ, List.set_cons_zero]; clear t1))
  have hB1 : Below w.heap.size w w1 := ⟨hg1.os, hg1.tape, hg1.output, hg1.size, fun k hk => hg1.block k hk nofun⟩
  have hbl := blk_new_bld w1 w.heap.size w.heap.size (Nat.le_refl _) hb1
  go_loopw [8] (fun i wr => ∃ k : Nat, k ≤ n ∧ i = .int .i64 k ∧ BldF w.heap.size w.heap.size (idc (hexL (l.take k))) wr ∧ Below w.heap.size w wr ∧ w.heap.size < wr.heap.size) (fun i _ => n - (intOf i).toNat)
  case atStart => exact ⟨0, Nat.zero_le _, rfl, hbl, hB1, hs1⟩
  case round =>
    obtain ⟨k, hk, rfl, hbk, hB, hs⟩ := hrel
    clear hb1 hbl hg1 hB1 hs1
    by_cases hlt : k < n
    · have hkl : k < l.length := by rw [Hl.out]; exact hlt
      obtain ⟨ad, rfl, hcell⟩ : ∃ ad, A = some ad ∧ wr.cell? (ad.add k) = some (.int .u8 (l[k]).toNat) := by
        rcases hr.below hB with h | ⟨ad, rfl, h⟩
        · have : (idc l).length = 0 := by rw [h]; rfl
          rw [idc_length] at this; omega
        · exact ⟨ad, rfl, h k _ (by simp [idc, hkl])⟩
      obtain ⟨x, hx⟩ : ∃ x, x = l[k] := ⟨_, rfl⟩
      rw [← hx] at hcell
      have Hs : Hid (hexL (l.take (k + 1)) = hexL (l.take k) ++ [byteAt hexs (x.toNat / 16)] ++ [byteAt hexs (x.toNat % 16)]) := Lib.hid (by
        rw [take_succ_at (x := x) (by rw [hx]; exact List.getElem?_eq_getElem hkl)]; unfold hexL; rw [List.flatMap_append]; simp [hexB])
      have hlen : (hexL (l.take k)).length ≤ 2 * n := by rw [hexL_len, List.length_take]; omega
      clear hx hkl
      have hb256 := x.toNat_lt
      go_wp2_with fail
      refine (writeByte_calls w.heap.size w.heap.size (idc (hexL (l.take k))) _ _ hbk (by rw [idc_length]; omega) (by omega)).mono ?_
      rintro e w2 ⟨rfl, hbk2, hb2, hk2⟩
      have hz2 : w.heap.size < w2.heap.size := Blk.lt hbk2.2.choose_spec.1
      go_wp2_with fail
      refine (writeByte_calls w.heap.size w.heap.size _ (byteAt hexs (x.toNat % 16)).toNat _ (.inr hbk2) (by simp [idc_length]; omega) (by omega)).mono ?_
      rintro e w3 ⟨rfl, hbk3, hb3, hk3⟩
      have hz3 : w.heap.size < w3.heap.size := Blk.lt hbk3.2.choose_spec.1
      go_wp2_with fail
      go_roundw
      case rel =>
        refine ⟨k + 1, by omega, by go_num, ?_, (hB.trans hb2).trans hb3, hz3⟩
        rw [Hs.out]
        have : idc (hexL (l.take k) ++ [byteAt hexs (x.toNat / 16)] ++ [byteAt hexs (x.toNat % 16)]) = idc (hexL (l.take k)) ++ [.int .u8 (byteAt hexs (x.toNat / 16)).toNat] ++ [.int .u8 (byteAt hexs (x.toNat % 16)).toNat] := by simp [idc]
        rw [this]
        exact .inr hbk3
      case measure => simp [intOf]; omega
    · have e : k = n := by omega
      subst e
      rw [List.take_of_length_le (by rw [Hl.out]; omega)] at hbk
      go_wp2_with fail
      refine (string_calls w.heap.size w.heap.size (hexL l) _ hbk (by omega)).mono ?_
      rintro e w2 ⟨rfl, -, hb2⟩
      go_wp2
      go_ret
      exact ⟨rfl, hB.trans hb2⟩
theorem digits_calls (x : List UInt8) (hx : x.length = 32) (w : World) :
    Calls Try.prog 49 #[idv x] w fun e w' => e = .returned (.string (str (hexL x))) ∧ Below w.heap.size w w' := by
  have t1 : True := trivial
  go_enter Try.func49, Try.ntmps49
  go_wp2_with (first
    | (have _t := t1; refine wpList_alloc rfl rfl 33 (idc x).toArray (by kernel_rfl) ?_; intro w1 hb1 hg1 hs1; simp only [Act.put, List.setIfInBounds_toArray, List.set_cons_succ, List.set_cons_zero]; clear t1))
  refine (hex_calls _ 32 32 x hx (by omega) _ hb1.row).mono ?_
  rintro e w2 ⟨rfl, hb2⟩
  have hB := (below_of_none hg1).trans (hb2.mono hg1.size)
  clear hb1 hg1 hs1 hb2
  go_wp2
  go_ret
  exact ⟨rfl, hB⟩
def midL (x : List UInt8) : List UInt8 := [60] ++ hexL x ++ [64, 104, 97, 115, 104, 62]
theorem midL_len (x : List UInt8) (hx : x.length = 32) : (midL x).length = 71 := by simp [midL, hexL_len, hx]
theorem mprint_calls (x : List UInt8) (hx : x.length = 32) (w : World) :
    Calls Try.prog 42 #[idv x] w fun e w' => e = .returned (.string (str (midL x))) ∧ Below w.heap.size w w' := by
  have t1 : True := trivial
  have t2 : True := trivial
  go_enter Try.func42, Try.ntmps42
  go_wp2_with (first
    | (have _t := t1; refine wpList_alloc rfl rfl 33 (idc x).toArray (by kernel_rfl) ?_; intro w1 hb1 hg1 hs1; have hbx := hb1.id_at hx; simp only [Act.put, List.setIfInBounds_toArray, List.set_cons_succ, List.set_cons_zero]; clear t1)
    | (have _t := t2; refine wpList_load_id rfl 33 _ rfl _ rfl x (by kernel_rfl) hbx ?_; simp only [Act.put, List.setIfInBounds_toArray, List.set_cons_succ, List.set_cons_zero]; clear t2))
  refine (digits_calls x hx _).mono ?_
  rintro e w2 ⟨rfl, hb2⟩
  have hB := (below_of_none hg1).trans (hb2.mono hg1.size)
  clear hb1 hg1 hs1 hb2 hbx
  have hl := hexL_len x
  go_wp2
  go_ret
  exact ⟨rfl, hB⟩
end Go.Proofs.Ytafpndmoognjlaa
