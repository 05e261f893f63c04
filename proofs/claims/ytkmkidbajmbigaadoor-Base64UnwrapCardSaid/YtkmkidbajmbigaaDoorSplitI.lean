/- A text read byte by byte up to a separator: where a reader stands between the pieces. -/
import Derived.Test.YtkmkidbajmbigaaDoorSplitP
namespace Go.Proofs.YtkmkidbajmbigaaDoor
open Go Go.ChangeShapes Go.WideShapes Go.ChangeAt Go.RowKit
theorem drop_upto {l : List UInt8} {f i : Nat} {x : UInt8} (hf : f ≤ i) (hi : l[i]? = some x) : l.drop f = (l.drop f).take (i - f) ++ x :: l.drop (i + 1) := by
  have h := List.take_append_drop (i - f) (l.drop f)
  rw [List.drop_drop, show f + (i - f) = i by omega, drop_cons hi] at h
  exact h.symm
def SInv (c : UInt8) (l : List UInt8) (ps : List (List UInt8)) (f i : Nat) : Prop :=
  (i ≤ l.length ∧ f ≤ i ∧ c ∉ (l.drop f).take (i - f) ∧ splitN c (l.drop f) = ps) ∨ (i = l.length + 1 ∧ ps = [] ∧ f = i)
theorem sinv_start (c : UInt8) (l : List UInt8) : SInv c l (splitN c l) 0 0 := .inl ⟨Nat.zero_le _, Nat.le_refl _, by simp, rfl⟩
theorem sinv_step {c l ps f i x} (h : SInv c l ps f i) (hi : l[i]? = some x) (hx : x ≠ c) : SInv c l ps f (i + 1) := by
  have hlt := (List.getElem?_eq_some_iff.1 hi).1
  rcases h with ⟨h1, h2, h3, h4⟩ | ⟨h1, _⟩
  · refine .inl ⟨by omega, by omega, ?_, h4⟩
    rw [show i + 1 - f = (i - f) + 1 by omega, take_succ_at (by rw [List.getElem?_drop, show f + (i - f) = i by omega]; exact hi)]
    intro hm
    rcases List.mem_append.1 hm with hm | hm
    · exact h3 hm
    · simp at hm; exact hx hm.symm
  · omega
/-- a piece is read: at a separator or at the end -/
theorem sinv_piece {c l ps f i} (h : SInv c l ps f i) (hi : i ≤ l.length) (hx : i = l.length ∨ l[i]? = some c) :
    f ≤ i ∧ ∃ rest, ps = (l.drop f).take (i - f) :: rest ∧ SInv c l rest (i + 1) (i + 1) ∧ (rest = [] ↔ i = l.length) := by
  rcases h with ⟨h1, h2, h3, h4⟩ | ⟨h1, _⟩
  · refine ⟨h2, ?_⟩
    by_cases he : i = l.length
    · have e : (l.drop f).take (i - f) = l.drop f := List.take_of_length_le (by rw [List.length_drop]; omega)
      rw [e] at h3 ⊢
      rw [splitN_none _ _ h3] at h4
      exact ⟨[], h4.symm, .inr ⟨by omega, rfl, rfl⟩, by simp [he]⟩
    · rcases hx with hx | hx
      · exact absurd hx he
      · have hlt := (List.getElem?_eq_some_iff.1 hx).1
        rw [drop_upto h2 hx, splitN_hit _ _ _ h3] at h4
        exact ⟨_, h4.symm, .inl ⟨by omega, Nat.le_refl _, by simp, rfl⟩, ⟨fun h => absurd h (splitN_ne _ _), fun h => absurd h he⟩⟩
  · omega
theorem sinv_le {c l ps f i} (h : SInv c l ps f i) : f ≤ i ∧ i ≤ l.length + 1 := by
  rcases h with ⟨h1, h2, _⟩ | ⟨h1, _, h2⟩ <;> omega
theorem splitN_join (c : UInt8) : ∀ l : List UInt8, (splitN c l).flatten.length ≤ l.length
  | [] => by simp [splitN]
  | b :: t => by
    have ih := splitN_join c t
    rw [splitN]
    split
    · rw [List.flatten_cons, List.nil_append, List.length_cons]; omega
    · split
      · simp
      · next h =>
        rw [h, List.flatten_cons, List.length_append] at ih
        rw [List.flatten_cons, List.length_append, List.length_cons, List.length_cons]
        omega
end Go.Proofs.YtkmkidbajmbigaaDoor
