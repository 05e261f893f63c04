/- The plain law of the pieces. -/
import Derived.Test.YtkmkidbajmbigaaP1
import Derived.Test.YtkmkidbajmbigaaT10
namespace Go.Proofs.Ytkmkidbajmbigaa
/-- the part that fills groups of three -/
def whS (l : List UInt8) : List UInt8 := l.take (l.length / 3 * 3)
theorem whS_len (l : List UInt8) : (whS l).length = l.length / 3 * 3 := by unfold whS; rw [List.length_take]; omega
theorem whS_rest (l : List UInt8) : whS l ++ restS l = l := List.take_append_drop _ _
theorem wholeS_len (l b : List UInt8) : (wholeS l b).length = (allS l b).length / 3 * 3 := by unfold wholeS; rw [List.length_take]; omega
theorem whS_app (l b : List UInt8) : whS (l ++ b) = whS l ++ wholeS l b := by
  have h1 := rest_app l b
  have h2 := whS_rest (l ++ b)
  rw [h1] at h2
  have h3 : l ++ b = whS l ++ (wholeS l b ++ (allS l b).drop ((allS l b).length / 3 * 3)) := by
    unfold wholeS
    rw [List.take_append_drop]
    unfold allS
    rw [← List.append_assoc, whS_rest]
  rw [← List.append_assoc] at h3
  exact List.append_cancel_right (h2.trans h3)
/-- what has been returned -/
def gotS (l : List UInt8) : List UInt8 := encG (whS l)
theorem gotS_nil : gotS [] = [] := rfl
theorem gotS_app (l b : List UInt8) : gotS (l ++ b) = gotS l ++ encS (wholeS l b) := by
  unfold gotS
  rw [whS_app, enc_append _ _ (by rw [whS_len]; omega), enc_eq]
theorem gotS_len (l : List UInt8) : (gotS l).length = l.length / 3 * 4 := by
  unfold gotS
  rw [enc_len, whS_len]; omega
theorem gotS_close (l : List UInt8) : gotS l ++ encS (restS l) = encS l := by
  unfold gotS
  rw [enc_eq, enc_eq, ← enc_append _ _ (by rw [whS_len]; omega), whS_rest]
theorem flat_take_succ {ps : List (List UInt8)} {k : Nat} {b : List UInt8} (h : ps[k]? = some b) : (ps.take (k + 1)).flatten = (ps.take k).flatten ++ b := by
  rw [List.take_add_one, h]; simp
end Go.Proofs.Ytkmkidbajmbigaa
