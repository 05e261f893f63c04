/- Unwrap: the plain part. -/
import Derived.Test.YtkmkidbajmbigaaDoorSplitI
namespace Go.Proofs.YtkmkidbajmbigaaDoor
open Go Go.ChangeShapes Go.WideShapes Go.ChangeAt Go.RowKit
def badL (w : Nat) (l : List UInt8) (last : Bool) : Bool := decide (l.length = 0 ∨ 998 < l.length ∨ w < l.length ∨ (l.length < w ∧ last = false))
def chkL (w : Nat) : List (List UInt8) → Nat → Option Nat
  | [], _ => none
  | l :: t, a => if badL w l t.isEmpty then some a else chkL w t (a + l.length + 1)
def unwL (ls : List (List UInt8)) : List UInt8 × Nat × Nat :=
  match chkL (ls.headD []).length ls 0 with
  | some a => ([], a, 3)
  | none => (ls.flatten, 0, 0)
def unwS (l : List UInt8) : List UInt8 × Nat × Nat :=
  if l = [] then ([], 0, 0) else if byteAt l (l.length - 1) ≠ 10 then ([], l.length, 4) else unwL (splitN 10 (l.take (l.length - 1)))
def unwV (R : List UInt8 × Nat × Nat) : Value := .tuple #[.string (ust R.1), .int .i64 R.2.1, .int .i64 R.2.2]
theorem bad_iff {w : Nat} {l : List UInt8} {b : Bool} : badL w l b = true ↔ (l.length = 0 ∨ 998 < l.length ∨ w < l.length ∨ (l.length < w ∧ b = false)) := by unfold badL; rw [decide_eq_true_eq]
theorem good_iff {w : Nat} {l : List UInt8} {b : Bool} : badL w l b = false ↔ (0 < l.length ∧ l.length ≤ 998 ∧ l.length ≤ w ∧ (w ≤ l.length ∨ b = true)) := by
  unfold badL; rw [decide_eq_false_iff_not]; generalize l.length = n; cases b <;> simp only [Bool.false_eq_true, Bool.true_eq_false, and_true, and_false, or_false, or_true] <;> omega
/-- where the reference stands behind k pieces: the width, the pieces that are left, what the check says of them -/
def widL (ps : List (List UInt8)) (k : Nat) : Nat := if k = 0 then 0 else (ps.headD []).length
theorem chkL_drop {w a : Nat} {C : Option Nat} {l : List UInt8} {ps rest : List (List UInt8)} (h : chkL w ps a = C) (he : ps = l :: rest) : (badL w l rest.isEmpty = true ∧ C = some a) ∨ (badL w l rest.isEmpty = false ∧ chkL w rest (a + l.length + 1) = C) := by
  subst he
  rw [chkL] at h
  cases hb : badL w l rest.isEmpty
  · rw [hb] at h; exact .inr ⟨rfl, by simpa using h⟩
  · rw [hb] at h; exact .inl ⟨rfl, by simpa using h.symm⟩
theorem unwL_some {ls : List (List UInt8)} {a : Nat} (h : chkL (ls.headD []).length ls 0 = some a) : unwL ls = ([], a, 3) := by unfold unwL; rw [h]
theorem unwL_none {ls : List (List UInt8)} (h : chkL (ls.headD []).length ls 0 = none) : unwL ls = (ls.flatten, 0, 0) := by unfold unwL; rw [h]
theorem take_drop_take (l : List UInt8) {f i n : Nat} (h : i ≤ n) : ((l.take n).drop f).take (i - f) = (l.drop f).take (i - f) := by
  rw [List.drop_take, List.take_take]; congr 1; omega
end Go.Proofs.YtkmkidbajmbigaaDoor
