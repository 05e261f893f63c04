/- Opening an argument that is a slice of bools. -/
import Derived.Test.YtafpndmoognjlaaBase
import Derived.Deep.Slices
namespace Go.Proofs.Ytafpndmoognjlaa
open Go.ChangeShapes Go.WideShapes Go.ChangeAt Go.RowKit Go.Deep
def BoolsAt (w : World) (A : Option Addr) (n : Nat) (B : Nat → Bool) : Prop := ∀ i, i < n → ∃ ad, A = some ad ∧ w.cell? (ad.add i) = some (.bool (B i))
theorem BoolsAt.below {w w' : World} {A : Option Addr} {n : Nat} {B : Nat → Bool} (h : BoolsAt w A n B) (hb : Below w.heap.size w w') : BoolsAt w' A n B := fun i hi => by
  obtain ⟨ad, h1, h2⟩ := h i hi
  exact ⟨ad, h1, (hb.cell (World.block_lt_of_cell? w _ h2)).trans h2⟩
section
variable {H : Type} {enc : TypeId × Value → H} {P : Program} {w : World} {base : Nat} {spare : Nat → Bool} {held : Bool}
theorem open_bools_d {t e : TypeId} {r : Reach} {b0 : Nat} {v : Value} {d : DataW H} {p : List MemPlace} (ht : P.underlying t = some (.slice e)) (he : P.underlying e = some .bool) (hce : P.cellsOf e = 1)
    (hval : Value.okWide P w r b0 t v) (h : DataW.Trod enc P w base spare held t v d p) :
    ∃ A n c, ∃ B : Nat → Bool, v = .slice A n c ∧ n ≤ c ∧ c ≤ maxLen ∧ BoolsAt w A n B := by
  obtain ⟨A, n, c, rfl⟩ := okWide_slice ht hval
  obtain ⟨fuel, hf0⟩ := h
  have hf : DataW.trod enc P w base spare held fuel t [.slice A n c] = some (d, p) := hf0
  rcases open_slice1 ht hce hf with ⟨hcs, _⟩ | ⟨a, len, cap, m, n', V, D, Pl, hcs, _, hl, hm, hmm, hd, hi⟩
  · simp at hcs
    obtain ⟨rfl, rfl, rfl⟩ := hcs
    exact ⟨none, 0, 0, fun _ => false, rfl, Nat.le_refl _, Nat.zero_le _, fun i h => absurd h (Nat.not_lt_zero _)⟩
  · simp at hcs
    obtain ⟨rfl, rfl, rfl⟩ := hcs
    have hlm : n ≤ m := by rw [hmm]; split <;> omega
    obtain ⟨f, hf'⟩ := choose_lt (α := Bool) (n := n) (p := fun i b => w.cell? (a.add i) = some (.bool b)) (fun i hin => by
      obtain ⟨h1, h2⟩ := hi i (by omega)
      obtain ⟨b, h3, _⟩ := DataW.trod_bool he h2
      injection h3 with h3
      exact ⟨b, by rw [h1, h3]⟩)
    exact ⟨some a, n, c, f, rfl, hl, hm, fun i hin => ⟨a, rfl, hf' i hin⟩⟩
end
end Go.Proofs.Ytafpndmoognjlaa
