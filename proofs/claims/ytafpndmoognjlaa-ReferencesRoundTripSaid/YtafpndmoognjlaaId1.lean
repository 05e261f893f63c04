/- Identity of the reference, walked. -/
import Derived.Test.YtafpndmoognjlaaMid2
namespace Go.Proofs.Ytafpndmoognjlaa
open Go.ChangeShapes Go.WideShapes Go.ChangeAt Go.RowKit

theorem value_calls (c : UInt8) (w : World) : Calls Try.prog 48 #[.int .u8 c.toNat] w fun e w' => e = .returned (.int .i64 (dig c)) ∧ w' = w := by
  have hc := c.toNat_lt
  have hd : dig c = if 48 ≤ c.toNat ∧ c.toNat ≤ 57 then (c.toNat : Int) - 48 else if 97 ≤ c.toNat ∧ c.toNat ≤ 102 then (c.toNat : Int) - 87 else -1 := by
    unfold dig; simp only [UInt8.le_iff_toNat_le]; rfl
  by_cases h1 : 48 ≤ c.toNat ∧ c.toNat ≤ 57
  · rw [if_pos h1] at hd
    have Hd := Lib.hid hd
    obtain ⟨h1, h2⟩ := h1
    clear hd
    go_enter Try.func48, Try.ntmps48
    go_wp2
    go_ret
    exact ⟨ret_int Hd.out.symm, rfl⟩
  · rw [if_neg h1] at hd
    have d1 : (decide ((48 : Int) ≤ c.toNat) && decide ((c.toNat : Int) ≤ 57)) = false := by simp; omega
    by_cases h2 : 97 ≤ c.toNat ∧ c.toNat ≤ 102
    · rw [if_pos h2] at hd
      have Hd := Lib.hid hd
      obtain ⟨h2, h3⟩ := h2
      have h4 : ¬ c.toNat ≤ 57 := by omega
      clear hd h1
      go_enter Try.func48, Try.ntmps48
      go_wp2
      go_ret
      exact ⟨ret_int (by rw [Hd.out]; omega), rfl⟩
    · rw [if_neg h2] at hd
      have Hd := Lib.hid hd
      have hcs : (c.toNat < 48) ∨ (57 < c.toNat ∧ c.toNat < 97) ∨ (102 < c.toNat) := by omega
      clear hd h1 h2 d1
      rcases hcs with h | ⟨h, h'⟩ | h
      all_goals
        go_enter Try.func48, Try.ntmps48
        go_wp2
        go_ret
        exact ⟨ret_int Hd.out.symm, rfl⟩

def bx (l : List UInt8) (k : Nat) : List UInt8 := (List.range 32).map fun j => if j < k then unhB l j else 0
theorem bx_len (l : List UInt8) (k : Nat) : (bx l k).length = 32 := by simp [bx]
theorem bx_zero (l : List UInt8) : bx l 0 = zid0 := by
  unfold bx zid0
  apply List.ext_getElem?
  intro i
  by_cases hi : i < 32
  · rw [List.getElem?_map, List.getElem?_range hi, List.getElem?_replicate, if_pos hi]; simp
  · rw [List.getElem?_eq_none (by simp; omega), List.getElem?_eq_none (by simp; omega)]
theorem bx_all (l : List UInt8) : bx l 32 = unh l := by
  unfold bx unh
  refine List.map_congr_left fun j hj => ?_
  rw [if_pos (List.mem_range.1 hj)]
theorem bx_set (l : List UInt8) (k : Nat) (hk : k < 32) : (idc (bx l k)).toArray.setIfInBounds k (.int .u8 (unhB l k).toNat) = (idc (bx l (k + 1))).toArray := by
  rw [List.setIfInBounds_toArray]
  congr 1
  apply List.ext_getElem?
  intro i
  rw [List.getElem?_set]
  simp only [idc, bx, List.getElem?_map, List.length_map, List.length_range]
  by_cases hi : i < 32
  · by_cases h : k = i
    · subst h
      simp [hk]
    · rw [if_neg h, List.getElem?_range hi]
      have : (i < k + 1) = (i < k) := by rw [eq_iff_iff]; omega
      simp [this]
  · have : (List.range 32)[i]? = none := List.getElem?_eq_none (by simp; omega)
    rw [if_neg (by omega), this]
    rfl
theorem formL_tail : formL.drop 65 = [64, 104, 97, 115, 104, 62] := by decide +kernel
theorem formL_head : formL[0]? = some 60 := by decide +kernel
theorem okM_head {l : List UInt8} (h : okM l = true) : l[0]? = some 60 := by
  obtain ⟨x, hx⟩ := get_le (l := l) (k := 0) (by have := okM_len h; omega)
  have := okM_at h 0 (by omega)
  unfold badAt at this
  rw [if_neg (by simp [isDigAt]), byteAt_of hx, byteAt_of formL_head] at this
  simp at this
  rw [hx, this]
theorem okM_tail {l : List UInt8} (h : okM l = true) : l.drop 65 = [64, 104, 97, 115, 104, 62] := by
  rw [← formL_tail]
  have hl := okM_len h
  apply List.ext_getElem?
  intro i
  rw [List.getElem?_drop, List.getElem?_drop]
  by_cases hi : 65 + i < 71
  · obtain ⟨x, hx⟩ := get_le (l := l) (k := 65 + i) (by omega)
    obtain ⟨y, hy⟩ := get_le (l := formL) (k := 65 + i) (by rw [formL_len]; omega)
    have := okM_at h (65 + i) hi
    unfold badAt at this
    rw [if_neg (by simp [isDigAt]), byteAt_of hx, byteAt_of hy] at this
    simp at this
    rw [hx, hy, this]
  · rw [List.getElem?_eq_none (by omega), List.getElem?_eq_none (by rw [formL_len]; omega)]
theorem okM_of {l : List UInt8} (h1 : l.length = 71) (h2 : l[0]? = some 60) (h3 : l.drop 65 = [64, 104, 97, 115, 104, 62]) (h4 : ∀ i, 1 ≤ i → i < 65 → 0 ≤ dig (byteAt l (i))) : okM l = true := by
  refine okM_mk h1 fun i hi => ?_
  unfold badAt
  by_cases h : 1 ≤ i ∧ i < 65
  · rw [if_pos (by simp [isDigAt, h])]
    have := h4 i h.1 h.2
    simpa using this
  · rw [if_neg (by simp [isDigAt]; omega)]
    have : l[i]? = formL[i]? := by
      rcases Nat.lt_or_ge i 1 with h0 | h0
      · rw [show i = 0 from by omega, h2, formL_head]
      · have e := congrArg (·[i - 65]?) (h3.trans formL_tail.symm)
        simp only [List.getElem?_drop] at e
        rwa [show 65 + (i - 65) = i from by omega] at e
    rw [show byteAt l i = byteAt formL i from by unfold byteAt; rw [this]]; simp
end Go.Proofs.Ytafpndmoognjlaa
