/- The pieces of a text at one byte: plain laws, and what the library's split says of them. -/
import Derived.Test.YtkmkidbajmbigaaDoorStr
import Derived.Lib.Join
import Derived.Lib.SplitLaws
import Derived.Lib.CountLaws
import Derived.Lib.CutLaws
import Derived.Lib.IndexBytes
import Derived.Lib.IndexLaws
namespace Go.Proofs.YtkmkidbajmbigaaDoor
open Go Go.ChangeShapes Go.WideShapes Go.ChangeAt Go.RowKit
def splitN (c : UInt8) : List UInt8 → List (List UInt8)
  | [] => [[]]
  | b :: t => if b = c then [] :: splitN c t else match splitN c t with
    | [] => [[b]]
    | p :: ps => (b :: p) :: ps
theorem splitN_ne (c : UInt8) : ∀ l : List UInt8, splitN c l ≠ []
  | [] => by simp [splitN]
  | b :: t => by rw [splitN]; split; simp; split <;> simp
theorem splitN_none (c : UInt8) : ∀ l : List UInt8, c ∉ l → splitN c l = [l]
  | [], _ => rfl
  | b :: t, h => by
    rw [splitN, if_neg (by rintro rfl; simp at h), splitN_none c t (by simp at h; exact h.2)]
theorem splitN_hit (c : UInt8) (t : List UInt8) : ∀ p : List UInt8, c ∉ p → splitN c (p ++ c :: t) = p :: splitN c t
  | [], _ => by rw [List.nil_append, splitN, if_pos rfl]
  | b :: p, h => by
    rw [List.cons_append, splitN, if_neg (by rintro rfl; simp at h), splitN_hit c t p (by simp at h; exact h.2)]
theorem index_none {s : ByteArray} {c : UInt8} (h : Lib.indexB s ⟨#[c]⟩ = -1) : c ∉ s.data.toList := by
  intro hm
  obtain ⟨k, hk⟩ := List.getElem?_of_mem hm
  exact Lib.indexByte_none ((Lib.index_one _ _).symm.trans h) k hk
theorem drop_cons {α : Type} {l : List α} {k : Nat} {x : α} (h : l[k]? = some x) : l.drop k = x :: l.drop (k + 1) := by
  obtain ⟨h1, h2⟩ := List.getElem?_eq_some_iff.1 h
  rw [List.drop_eq_getElem_cons h1, h2]
theorem index_some {s : ByteArray} {c : UInt8} {i : Nat} (h : Lib.indexB s ⟨#[c]⟩ = i) : s.data.toList = s.data.toList.take i ++ c :: s.data.toList.drop (i + 1) ∧ c ∉ s.data.toList.take i := by
  obtain ⟨h1, h2⟩ := Lib.indexByte_some ((Lib.index_one _ _).symm.trans h)
  constructor
  · rw [← drop_cons h1, List.take_append_drop]
  · intro hm
    obtain ⟨k, hk⟩ := List.getElem?_of_mem hm
    rw [List.getElem?_take] at hk
    split at hk
    · next hlt => exact h2 k hlt hk
    · cases hk
theorem splitB_N (c : UInt8) : ∀ (k : Nat) (s : ByteArray), Lib.countB s ⟨#[c]⟩ = k → (Lib.splitB ⟨#[c]⟩ 0 k s).map (·.data.toList) = splitN c s.data.toList := by
  intro k
  induction k with
  | zero =>
    intro s hk
    rcases Lib.indexB_cases s ⟨#[c]⟩ with h | ⟨i, h, _⟩
    · rw [Lib.splitB_miss _ _ _ _ h, splitN_none _ _ (index_none h)]; rfl
    · rw [Lib.countB_hit s _ i (Nat.le_refl _) h] at hk; omega
  | succ k ih =>
    intro s hk
    rcases Lib.indexB_cases s ⟨#[c]⟩ with h | ⟨i, h, _⟩
    · rw [Lib.countB_miss _ _ h] at hk; omega
    · rw [Lib.countB_hit s _ i (Nat.le_refl _) h] at hk
      rw [Lib.splitB_hit _ _ _ _ i h, List.map_cons, ih _ (by omega)]
      obtain ⟨h1, h2⟩ := index_some h
      have e1 : (s.extract 0 (i + 0)).data.toList = s.data.toList.take i := by
        rw [ByteArray.data_extract, Array.toList_extract, List.extract_eq_take_drop]; simp
      have e2 : (s.extract (i + (ByteArray.mk #[c]).size) s.size).data.toList = s.data.toList.drop (i + 1) := by
        rw [ByteArray.data_extract, Array.toList_extract, List.extract_eq_take_drop]
        refine List.take_of_length_le ?_
        rw [List.length_drop]
        exact Nat.le_refl _
      rw [e1, e2]
      conv => rhs; rw [h1]
      rw [splitN_hit _ _ _ h2]
theorem splitN_cells (c : UInt8) (l : List UInt8) : (Lib.splitB ⟨#[c]⟩ 0 (Lib.countB (ust l) ⟨#[c]⟩) (ust l)).map Value.string = (splitN c l).map fun l => .string (ust l) := by
  have := splitB_N c _ (ust l) rfl
  rw [str_data] at this
  rw [← this, List.map_map]
  rfl
theorem splitN_count (c : UInt8) (l : List UInt8) : Lib.countB (ust l) ⟨#[c]⟩ + 1 = (splitN c l).length := by
  have h := splitN_cells c l
  have := congrArg List.length h
  rw [List.length_map, List.length_map] at this
  rw [← this, Lib.splitB_all _ (Nat.le_refl _) 0 _ _ rfl]
end Go.Proofs.YtkmkidbajmbigaaDoor
