/- The reference's Encode, walked. -/
import Derived.Test.YtkmkidbajmbigaaDoorT3
namespace Go.Proofs.YtkmkidbajmbigaaDoor
open Go.ChangeShapes Go.WideShapes Go.ChangeAt Go.RowKit

def bitS (s : St) (b : Nat) : St := if s.cnt + 1 = 6 then ⟨s.out ++ [chr (2 * s.bits + b)], 0, 0⟩ else ⟨s.out, 2 * s.bits + b, s.cnt + 1⟩
def bitOf (x : UInt8) (k : Nat) : Nat := x.toNat / 2 ^ k % 2
def goS (s : St) (x : UInt8) : Nat → St
  | 0 => s
  | j + 1 => bitS (goS s x j) (bitOf x (7 - j))
theorem goS_all (s : St) (x : UInt8) (h : okS s) : goS s x 8 = stepS s x := by
  obtain ⟨o, b, n⟩ := s
  obtain ⟨h1, h2⟩ := h
  simp only at h1 h2
  have hx := x.toNat_lt
  rcases h1 with rfl | rfl | rfl
  all_goals simp [goS, bitS, stepS, emitS, pushS, bitOf]
  all_goals repeat' first | (refine And.intro ?_ ?_) | (refine congrArg chr ?_)
  all_goals omega
def bitOk (s : St) : Prop := s.cnt < 6 ∧ s.bits < 2 ^ s.cnt
theorem bit_ok {s : St} (h : bitOk s) {b : Nat} (hb : b < 2) : bitOk (bitS s b) := by
  obtain ⟨h1, h2⟩ := h
  unfold bitS
  split
  · exact ⟨show (0:Nat) < 6 by decide, show (0:Nat) < 2 ^ 0 by decide⟩
  · rename_i h3
    refine ⟨by simp only; omega, ?_⟩
    simp only
    rw [Nat.pow_succ]
    omega
theorem goS_ok (s : St) (x : UInt8) (h : bitOk s) : ∀ j, bitOk (goS s x j)
  | 0 => h
  | j + 1 => bit_ok (goS_ok s x h j) (Nat.mod_lt _ (by decide))
theorem bitS_len (s : St) (b : Nat) : (bitS s b).out.length ≤ s.out.length + 1 := by
  unfold bitS
  split <;> simp
theorem goS_len (s : St) (x : UInt8) : ∀ j, (goS s x j).out.length ≤ s.out.length + j
  | 0 => Nat.le_refl _
  | j + 1 => by
    have := goS_len s x j
    have := bitS_len (goS s x j) (bitOf x (7 - j))
    simp only [goS]
    omega
theorem ok_bitOk {s : St} (h : okS s) : bitOk s := ⟨by have := h.1; omega, h.2⟩
def str (l : List UInt8) : ByteArray := ⟨l.toArray⟩
theorem str_size (l : List UInt8) : (str l).size = l.length := by simp [str, ByteArray.size]
def alph : ByteArray := { data := #[65, 66, 67, 68, 69, 70, 71, 72, 73, 74, 75, 76, 77, 78, 79, 80, 81, 82, 83, 84, 85, 86, 87, 88, 89, 90, 97, 98, 99, 100, 101, 102, 103, 104, 105, 106, 107, 108, 109, 110, 111, 112, 113, 114, 115, 116, 117, 118, 119, 120, 121, 122, 48, 49, 50, 51, 52, 53, 54, 55, 56, 57, 43, 47] }
theorem alph_at (v : Nat) (h : v < 64) : alph.extract v (v + 1) = str [chr v] := by
  have : ∀ v, v < 64 → (alph.extract v (v + 1)).data.toList = [chr v] := by decide +kernel
  have h2 := this v h
  apply ByteArray.ext
  apply Array.toList_inj.1
  rw [h2]
  rfl
theorem str_append (a b : List UInt8) : str a ++ str b = str (a ++ b) := by
  apply ByteArray.ext
  apply Array.toList_inj.1
  simp [str]

end Go.Proofs.YtkmkidbajmbigaaDoor
