/- Parse of routes: the plain part. -/
import Derived.Test.YtdmnphebkkfjmaaDoorCut
import Derived.Lib.SplitLaws
import Derived.Lib.CountLaws
import Derived.Lib.CutLaws
import Derived.Lib.IndexBytes
import Derived.Lib.IndexLaws
namespace Go.Proofs.YtdmnphebkkfjmaaDoor
open Go.ChangeShapes Go.WideShapes Go.ChangeAt Go.RowKit
def splitL : List UInt8 → List (List UInt8)
  | [] => [[]]
  | b :: t => if b = 33 then [] :: splitL t else match splitL t with
    | [] => [[b]]
    | p :: ps => (b :: p) :: ps
theorem splitL_none : ∀ l : List UInt8, 33 ∉ l → splitL l = [l]
  | [], _ => rfl
  | b :: t, h => by
    rw [splitL, if_neg (by rintro rfl; simp at h), splitL_none t (by simp at h; exact h.2)]
theorem splitL_hit (t : List UInt8) : ∀ p : List UInt8, 33 ∉ p → splitL (p ++ 33 :: t) = p :: splitL t
  | [], _ => by rw [List.nil_append, splitL, if_pos rfl]
  | b :: p, h => by
    rw [List.cons_append, splitL, if_neg (by rintro rfl; simp at h), splitL_hit t p (by simp at h; exact h.2)]
theorem splitL_join : ∀ l : List UInt8, linkL (splitL l) = l
  | [] => rfl
  | b :: t => by
    have ih := splitL_join t
    rw [splitL]
    split
    · next h =>
      subst h
      rcases hs : splitL t with _ | ⟨p, ps⟩
      · exfalso
        rcases t with _ | ⟨c, t⟩
        · simp [splitL] at hs
        · rw [splitL] at hs; split at hs
          · simp at hs
          · split at hs <;> simp at hs
      · rw [hs] at ih
        unfold linkL at ih ⊢
        rw [Lib.join_cons] at ih ⊢
        rw [← ih]
        simp [Lib.joinTail]
    · split
      · next h => rw [h] at ih; rw [← ih]; simp [linkL, Lib.join]
      · next h =>
        rw [h] at ih
        unfold linkL at ih ⊢
        rw [Lib.join_cons] at ih ⊢
        rw [← ih]; simp
theorem index33_none {s : ByteArray} (h : Lib.indexB s ⟨#[33]⟩ = -1) : 33 ∉ s.data.toList := by
  intro hm
  obtain ⟨k, hk⟩ := List.getElem?_of_mem hm
  exact Lib.indexByte_none ((Lib.index_one _ _).symm.trans h) k hk
theorem index33_some {s : ByteArray} {i : Nat} (h : Lib.indexB s ⟨#[33]⟩ = i) : s.data.toList = s.data.toList.take i ++ 33 :: s.data.toList.drop (i + 1) ∧ 33 ∉ s.data.toList.take i := by
  obtain ⟨h1, h2⟩ := Lib.indexByte_some ((Lib.index_one _ _).symm.trans h)
  constructor
  · rw [← drop_at h1, List.take_append_drop]
  · intro hm
    obtain ⟨k, hk⟩ := List.getElem?_of_mem hm
    rw [List.getElem?_take] at hk
    split at hk
    · next hlt => exact h2 k hlt hk
    · cases hk
theorem splitB_eq : ∀ (k : Nat) (s : ByteArray), Lib.countB s ⟨#[33]⟩ = k → (Lib.splitB ⟨#[33]⟩ 0 k s).map (·.data.toList) = splitL s.data.toList := by
  intro k
  induction k with
  | zero =>
    intro s hk
    rcases Lib.indexB_cases s ⟨#[33]⟩ with h | ⟨i, h, _⟩
    · rw [Lib.splitB_miss _ _ _ _ h, splitL_none _ (index33_none h)]; rfl
    · rw [Lib.countB_hit s _ i (Nat.le_refl _) h] at hk; omega
  | succ k ih =>
    intro s hk
    rcases Lib.indexB_cases s ⟨#[33]⟩ with h | ⟨i, h, _⟩
    · rw [Lib.countB_miss _ _ h] at hk; omega
    · rw [Lib.countB_hit s _ i (Nat.le_refl _) h] at hk
      rw [Lib.splitB_hit _ _ _ _ i h, List.map_cons, ih _ (by omega)]
      obtain ⟨h1, h2⟩ := index33_some h
      have e1 : (s.extract 0 (i + 0)).data.toList = s.data.toList.take i := by
        rw [ByteArray.data_extract, Array.toList_extract, List.extract_eq_take_drop]; simp
      have e2 : (s.extract (i + (ByteArray.mk #[33]).size) s.size).data.toList = s.data.toList.drop (i + 1) := by
        rw [ByteArray.data_extract, Array.toList_extract, List.extract_eq_take_drop]
        refine List.take_of_length_le ?_
        rw [List.length_drop]
        exact Nat.le_refl _
      rw [e1, e2]
      conv => rhs; rw [h1]
      rw [splitL_hit _ _ h2]
theorem split_cells (l : List UInt8) : (Lib.splitB ⟨#[33]⟩ 0 (Lib.countB (str l) ⟨#[33]⟩) (str l)).map Value.string = strsV (splitL l) := by
  have := splitB_eq _ (str l) rfl
  rw [str_data] at this
  rw [← this]
  unfold strsV
  rw [List.map_map]
  rfl
theorem split_count (l : List UInt8) : Lib.countB (str l) ⟨#[33]⟩ + 1 = (splitL l).length := by
  have h := split_cells l
  have := congrArg List.length h
  rw [List.length_map, strsV_len] at this
  rw [← this, Lib.splitB_all _ (Nat.le_refl _) 0 _ _ rfl]
def parsS : List (List UInt8) → List (List UInt8) → Nat → List (List UInt8) × Nat × Nat
  | [], out, _ => (out, 0, 0)
  | p :: ps, out, a => if out.length = 50 then ([], a, 9) else if (siteS p).2 = 0 then parsS ps (out ++ [p]) (a + p.length + 1) else ([], a + (siteS p).1, (siteS p).2)
def parseS (l : List UInt8) : List (List UInt8) × Nat × Nat := if l = [] then ([], 0, 0) else parsS (splitL l) [] 0
theorem site_len {l : List UInt8} (h : (siteS l).2 = 0) : l.length ≤ 30 := by
  rcases Nat.lt_or_ge 30 l.length with h1 | h1
  · rw [site_long h1] at h; cases h
  · exact h1
theorem site_pos (l : List UInt8) : (siteS l).1 ≤ 30 := by
  unfold siteS
  split
  · decide
  · split
    · decide
    · split
      · next h => have := List.mem_of_find?_eq_some h; rw [List.mem_range] at this; show _ ≤ 30; omega
      · split
        · next h => have := List.mem_of_find?_eq_some h; rw [List.mem_range] at this; show _ ≤ 30; omega
        · decide
theorem site_err (l : List UInt8) : (siteS l).2 ≤ 20 := by
  unfold siteS
  split
  · decide
  · split
    · decide
    · split
      · exact (by decide : 6 ≤ 20)
      · split
        · exact (by decide : 12 ≤ 20)
        · decide
end Go.Proofs.YtdmnphebkkfjmaaDoor
