/- Opening an argument that is a slice of slices of bytes. -/
import Derived.Test.YtkmkidbajmbigaaOpenBytes
namespace Go.Proofs.Ytkmkidbajmbigaa
open Go.ChangeShapes Go.WideShapes Go.ChangeAt Go.RowKit Go.Deep
/-- the slice at A holds slices of these bytes -/
def PcsAt (w : World) (A : Option Addr) (ps : List (List UInt8)) : Prop :=
  ∀ k l, ps[k]? = some l → ∃ ad A' c, A = some ad ∧ w.cell? (ad.add k) = some (.slice A' l.length c) ∧ Row w A' (idc l) ∧ l.length ≤ c
theorem PcsAt.below {w w' : World} {A : Option Addr} {ps : List (List UInt8)} (h : PcsAt w A ps) (hb : Below w.heap.size w w') : PcsAt w' A ps := fun k l hk => by
  obtain ⟨ad, A', c, h1, h2, h3, h4⟩ := h k l hk
  exact ⟨ad, A', c, h1, (hb.cell (World.block_lt_of_cell? w _ h2)).trans h2, h3.below hb, h4⟩
section
variable {H : Type} {enc : TypeId × Value → H} {P : Program} {w : World} {base : Nat} {spare : Nat → Bool} {held : Bool}
theorem open_pieces_d {t e2 e : TypeId} {r : Reach} {b0 : Nat} {v : Value} {d : DataW H} {p : List MemPlace} (ht : P.underlying t = some (.slice e2)) (he2 : P.underlying e2 = some (.slice e)) (hc2 : P.cellsOf e2 = 1)
    (he : P.underlying e = some (.int .u8)) (hce : P.cellsOf e = 1) (hval : Value.okWide P w r b0 t v) (h : DataW.Trod enc P w base spare held t v d p) :
    ∃ A n c, ∃ ps : List (List UInt8), v = .slice A n c ∧ ps.length = n ∧ n ≤ c ∧ c ≤ maxLen ∧ PcsAt w A ps := by
  obtain ⟨A, n, c, rfl⟩ := okWide_slice ht hval
  obtain ⟨fuel, hf0⟩ := h
  have hf : DataW.trod enc P w base spare held fuel t [.slice A n c] = some (d, p) := hf0
  rcases open_slice1 ht hc2 hf with ⟨hcs, _⟩ | ⟨a, len, cap, m, n', V, D, Pl, hcs, _, hl, hm, hmm, hd, hi⟩
  · simp at hcs
    obtain ⟨rfl, rfl, rfl⟩ := hcs
    exact ⟨none, 0, 0, [], rfl, rfl, Nat.le_refl _, Nat.zero_le _, fun k l h => by simp at h⟩
  · simp at hcs
    obtain ⟨rfl, rfl, rfl⟩ := hcs
    have hlm : n ≤ m := by rw [hmm]; split <;> omega
    obtain ⟨f, hf'⟩ := choose_lt (α := List UInt8) (n := n) (p := fun i l => ∃ A' c', w.cell? (a.add i) = some (.slice A' l.length c') ∧ Row w A' (idc l) ∧ l.length ≤ c') (fun i hin => by
      obtain ⟨h1, h2⟩ := hi i (by omega)
      have hv : ∃ A' n' c', V i = .slice A' n' c' := by
        rcases open_slice1 he2 hce h2 with ⟨hcs, _⟩ | ⟨a, len, cap, m, n', V', D', Pl', hcs, _⟩
        · simp at hcs; exact ⟨_, _, _, hcs⟩
        · simp at hcs; exact ⟨_, _, _, hcs⟩
      obtain ⟨A', n', c', hv⟩ := hv
      rw [hv] at h1 h2
      obtain ⟨l, g1, g2, g3, g4, _⟩ := open_bytes_trod he2 he hce h2
      exact ⟨l, A', c', by rw [h1, g1], g4, by omega⟩)
    refine ⟨some a, n, c, (List.range n).map f, rfl, by simp, hl, hm, fun k l hk => ?_⟩
    have hin : k < n := by
      have := (List.getElem?_eq_some_iff.1 hk).1
      simpa using this
    obtain ⟨A', c', g1, g2, g3⟩ := hf' k hin
    simp [hin] at hk
    subst hk
    exact ⟨a, A', c', rfl, g1, g2, g3⟩
end
end Go.Proofs.Ytkmkidbajmbigaa
