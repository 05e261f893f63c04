/- The plain law of message identifiers: digits, their values, which texts are identifiers. -/
import Derived.Test.YtafpndmoognjlaaHex
import Derived.Lib.Bytealg
namespace Go.Proofs.Ytafpndmoognjlaa
open Go.ChangeShapes Go.WideShapes Go.ChangeAt Go.RowKit

/-- the value of a digit, or -1 -/
def dig (c : UInt8) : Int := if 48 ≤ c ∧ c ≤ 57 then (c.toNat : Int) - 48 else if 97 ≤ c ∧ c ≤ 102 then (c.toNat : Int) - 87 else -1
theorem all256 {p : UInt8 → Prop} [DecidablePred p] (h : ∀ n, n < 256 → p (UInt8.ofNat n)) (c : UInt8) : p c := by
  have := h c.toNat c.toNat_lt
  rwa [UInt8.ofNat_toNat] at this
theorem dig_index (c : UInt8) : Lib.indexByte hexs c = dig c := all256 (p := fun c => Lib.indexByte hexs c = dig c) (by decide +kernel) c
theorem dig_range (c : UInt8) : -1 ≤ dig c ∧ dig c < 16 := all256 (p := fun c => -1 ≤ dig c ∧ dig c < 16) (by decide +kernel) c
theorem dig_hex (v : Nat) (h : v < 16) : dig (byteAt hexs (v)) = v := by
  have : ∀ v : Nat, v < 16 → dig (byteAt hexs (v)) = (v : Int) := by decide +kernel
  exact this v h
/-- what an identifier looks like -/
def formL : List UInt8 := midL (List.replicate 32 0)
def isDigAt (i : Nat) : Bool := decide (1 ≤ i ∧ i < 65)
/-- the byte at a place is wrong -/
def badAt (l : List UInt8) (i : Nat) : Bool := if isDigAt i then decide (dig (byteAt l (i)) < 0) else !decide (byteAt l (i) = byteAt formL (i))
def okM (l : List UInt8) : Bool := decide (l.length = 71) && (List.range 71).all fun i => !badAt l i
/-- the bytes of an identifier -/
def unhB (l : List UInt8) (j : Nat) : UInt8 := UInt8.ofNat (16 * (dig (byteAt l (1 + 2 * j))).toNat + (dig (byteAt l (2 + 2 * j))).toNat)
def unh (l : List UInt8) : List UInt8 := (List.range 32).map (unhB l)
theorem unh_len (l : List UInt8) : (unh l).length = 32 := by simp [unh]
theorem okM_len {l : List UInt8} (h : okM l = true) : l.length = 71 := by
  unfold okM at h; simp only [Bool.and_eq_true, decide_eq_true_eq] at h; exact h.1
theorem okM_at {l : List UInt8} (h : okM l = true) (i : Nat) (hi : i < 71) : badAt l i = false := by
  unfold okM at h
  simp only [Bool.and_eq_true, List.all_eq_true, List.mem_range] at h
  have := h.2 i hi
  simpa using this
theorem okM_dig {l : List UInt8} (h : okM l = true) (i : Nat) (h1 : 1 ≤ i) (h2 : i < 65) : 0 ≤ dig (byteAt l (i)) := by
  have := okM_at h i (by omega)
  unfold badAt at this
  rw [if_pos (by simp [isDigAt, h1, h2])] at this
  simpa using this
theorem okM_mk {l : List UInt8} (h1 : l.length = 71) (h2 : ∀ i, i < 71 → badAt l i = false) : okM l = true := by
  unfold okM
  simp only [Bool.and_eq_true, decide_eq_true_eq, List.all_eq_true, List.mem_range]
  exact ⟨h1, fun i hi => by rw [h2 i hi]; rfl⟩
theorem hexL_at : ∀ (x : List UInt8) (j : Nat) (b : UInt8), x[j]? = some b → (hexL x)[2 * j]? = some (byteAt hexs (b.toNat / 16)) ∧ (hexL x)[2 * j + 1]? = some (byteAt hexs (b.toNat % 16))
  | [], j, b, h => by simp at h
  | a :: t, 0, b, h => by
    simp at h; subst h
    simp [hexL, hexB]
  | a :: t, j + 1, b, h => by
    have := hexL_at t j b (by simpa using h)
    have e : hexL (a :: t) = hexB a ++ hexL t := by simp [hexL]
    rw [e, show 2 * (j + 1) = 2 + 2 * j from by omega, show 2 + 2 * j + 1 = 2 + (2 * j + 1) from by omega]
    have hl : (hexB a).length = 2 := rfl
    rw [List.getElem?_append_right (by omega), List.getElem?_append_right (by omega), hl]
    rw [show 2 + 2 * j - 2 = 2 * j from by omega, show 2 + (2 * j + 1) - 2 = 2 * j + 1 from by omega]
    exact this
theorem midL_at (x : List UInt8) (hx : x.length = 32) (i : Nat) (h : ¬ (1 ≤ i ∧ i < 65)) : (midL x)[i]? = formL[i]? := by
  have hl := hexL_len x
  rw [hx] at hl
  have hz : (List.replicate 32 (0 : UInt8)).length = 32 := by simp
  have hl2 := hexL_len (List.replicate 32 0)
  rw [hz] at hl2
  unfold formL midL
  generalize List.replicate 32 (0 : UInt8) = z at *
  rcases Nat.lt_or_ge i 1 with h1 | h1
  · have : i = 0 := by omega
    subst this; rfl
  · rw [List.getElem?_append_right (by simp [hl]; omega), List.getElem?_append_right (by simp [hl2]; omega)]
    simp [hl, hl2]
theorem midL_dig (x : List UInt8) (j : Nat) (b : UInt8) (h : x[j]? = some b) : (midL x)[1 + 2 * j]? = some (byteAt hexs (b.toNat / 16)) ∧ (midL x)[2 + 2 * j]? = some (byteAt hexs (b.toNat % 16)) := by
  obtain ⟨h1, h2⟩ := hexL_at x j b h
  have hlt := (List.getElem?_eq_some_iff.1 h1).1
  have hlt2 := (List.getElem?_eq_some_iff.1 h2).1
  unfold midL
  have e1 : (1 + 2 * j) = [60].length + 2 * j := rfl
  rw [List.append_assoc]
  constructor
  · rw [List.getElem?_append_right (by simp), List.getElem?_append_left (by simp; omega)]
    rw [show 1 + 2 * j - [(60 : UInt8)].length = 2 * j from by simp]
    exact h1
  · rw [List.getElem?_append_right (by simp; omega), List.getElem?_append_left (by simp; omega)]
    rw [show 2 + 2 * j - [(60 : UInt8)].length = 2 * j + 1 from by simp; omega]
    exact h2
theorem okM_mid (x : List UInt8) (hx : x.length = 32) : okM (midL x) = true := by
  refine okM_mk (midL_len x hx) fun i hi => ?_
  unfold badAt
  by_cases h : 1 ≤ i ∧ i < 65
  · rw [if_pos (by simp [isDigAt, h.1, h.2])]
    obtain ⟨b, hb⟩ := get_le (l := x) (k := (i - 1) / 2) (by omega)
    have hb256 := b.toNat_lt
    obtain ⟨h1, h2⟩ := midL_dig x _ b hb
    rw [decide_eq_false_iff_not]
    rcases Nat.mod_two_eq_zero_or_one (i - 1) with hm | hm
    · rw [show i = 1 + 2 * ((i - 1) / 2) from by omega, byteAt_of h1, dig_hex _ (by omega)]; omega
    · rw [show i = 2 + 2 * ((i - 1) / 2) from by omega, byteAt_of h2, dig_hex _ (by omega)]; omega
  · rw [if_neg (by simp [isDigAt]; omega)]
    have : byteAt (midL x) i = byteAt formL i := by unfold byteAt; rw [midL_at x hx i h]
    rw [this]; simp
theorem unh_mid (x : List UInt8) (hx : x.length = 32) : unh (midL x) = x := by
  apply List.ext_getElem?
  intro j
  unfold unh
  by_cases hj : j < 32
  · obtain ⟨b, hb⟩ := get_le (l := x) (k := j) (by omega)
    have hb256 := b.toNat_lt
    obtain ⟨h1, h2⟩ := midL_dig x j b hb
    rw [hb, List.getElem?_map, List.getElem?_range hj, Option.map_some]
    congr 1
    unfold unhB
    rw [byteAt_of h1, byteAt_of h2, dig_hex _ (by omega), dig_hex _ (by omega)]
    rw [Int.toNat_natCast, Int.toNat_natCast, show 16 * (b.toNat / 16) + b.toNat % 16 = b.toNat from by omega, UInt8.ofNat_toNat]
  · rw [List.getElem?_eq_none (by simp; omega), List.getElem?_eq_none (by omega)]
/-- an identifier is the text of its bytes -/
theorem mid_unh_dig {l : List UInt8} (_h : okM l = true) (j : Nat) (hj : j < 32) : (unh l)[j]? = some (unhB l j) := by
  unfold unh; rw [List.getElem?_map, List.getElem?_range hj]; rfl
end Go.Proofs.Ytafpndmoognjlaa
