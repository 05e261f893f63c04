/- Opening an argument that is a slice of bytes. -/
import Derived.Test.YtkmkidbajmbigaaBase
import Derived.Deep.Slices
import Derived.ChangeOld
import Derived.SizedLaws
namespace Go.Proofs.Ytkmkidbajmbigaa
open Go.ChangeShapes Go.WideShapes Go.ChangeAt Go.RowKit Go.Deep
section
variable {H : Type} {enc : TypeId × Value → H} {P : Program} {w : World} {base : Nat} {spare : Nat → Bool} {held : Bool}
theorem Row.of_bytes {w : World} {a : Addr} {l : List UInt8} (h : ∀ i b, l[i]? = some b → w.cell? (a.add i) = some (.int .u8 b.toNat)) : Row w (some a) (idc l) := by
  refine .inr ⟨a, rfl, fun j u hu => ?_⟩
  simp only [idc, List.getElem?_map, Option.map_eq_some_iff] at hu
  obtain ⟨b, hb, rfl⟩ := hu
  exact h j b hb
/-- a row of bytes that the reader trod -/
theorem open_bytes_trod {t e : TypeId} {fuel : Nat} {A : Option Addr} {n c : Nat} {x : DataW H × List MemPlace} (ht : P.underlying t = some (.slice e)) (he : P.underlying e = some (.int .u8)) (hce : P.cellsOf e = 1)
    (hf : DataW.trod enc P w base spare held fuel t [.slice A n c] = some x) :
    ∃ l : List UInt8, l.length = n ∧ n ≤ c ∧ c ≤ maxLen ∧ Row w A (idc l) ∧ (n = 0 ∨ ∃ elems spare, x.1 = .slice elems spare ∧ elems.length = n) := by
  rcases open_slice1 ht hce hf with ⟨hcs, _⟩ | ⟨a, len, cap, m, n', V, D, Pl, hcs, _, hl, hm, hmm, hd, hi⟩
  · simp at hcs
    obtain ⟨rfl, rfl, rfl⟩ := hcs
    exact ⟨[], rfl, Nat.le_refl _, Nat.zero_le _, .inl rfl, .inl rfl⟩
  · simp at hcs
    obtain ⟨rfl, rfl, rfl⟩ := hcs
    have hlm : n ≤ m := by rw [hmm]; split <;> omega
    obtain ⟨f, hf'⟩ := choose_lt (α := UInt8) (n := n) (p := fun i b => w.cell? (a.add i) = some (.int .u8 b.toNat)) (fun i hin => by
      obtain ⟨h1, h2⟩ := hi i (by omega)
      obtain ⟨z, hz, _, hwf⟩ := DataW.trod_int he h2
      injection hz with hz
      have hb := bounds_u8 hwf
      refine ⟨UInt8.ofNat z.toNat, ?_⟩
      rw [h1, hz]
      congr 2
      rw [UInt8.toNat_ofNat']
      omega)
    refine ⟨(List.range n).map f, by simp, hl, hm, Row.of_bytes ?_, .inr ⟨_, _, by rw [hd], by simp⟩⟩
    intro i b hib
    have hin : i < n := by
      have := (List.getElem?_eq_some_iff.1 hib).1
      simpa using this
    have := hf' i hin
    simp [hin] at hib
    subst hib
    exact this
theorem open_bytes_d {t e : TypeId} {r : Reach} {b0 : Nat} {v : Value} {d : DataW H} {p : List MemPlace} (ht : P.underlying t = some (.slice e)) (he : P.underlying e = some (.int .u8)) (hce : P.cellsOf e = 1)
    (hval : Value.okWide P w r b0 t v) (h : DataW.Trod enc P w base spare held t v d p) :
    ∃ A n c, ∃ l : List UInt8, v = .slice A n c ∧ l.length = n ∧ n ≤ c ∧ c ≤ maxLen ∧ Row w A (idc l) ∧ (n = 0 ∨ ∃ elems spare, d = .slice elems spare ∧ elems.length = n) := by
  obtain ⟨A, n, c, rfl⟩ := okWide_slice ht hval
  obtain ⟨fuel, hf⟩ := h
  obtain ⟨l, h1, h2, h3, h4, h5⟩ := open_bytes_trod ht he hce hf
  exact ⟨A, n, c, l, rfl, h1, h2, h3, h4, h5⟩
theorem bytes_reach {ts : List TypeId} {ds : List (DataW H)} {d : DataW H} {n j t e : Nat} (hsz : (DataW.weightsEach P ts ds).all (· ≤ reachBytes) = true) (hx : n = 0 ∨ ∃ elems spare, d = .slice elems spare ∧ elems.length = n)
    (ht : ts[j]? = some t) (hd : ds[j]? = some d) (hu : P.underlying t = some (.slice e)) (hb : P.bytesOf e = 1) : n ≤ 140737488351232 := by
  rcases hx with h0 | ⟨elems, spare, rfl, hn⟩
  · subst h0; omega
  · have := sized_slice hsz ht hd hu
    rw [hb] at this
    unfold reachBytes at this
    omega
end
end Go.Proofs.Ytkmkidbajmbigaa
