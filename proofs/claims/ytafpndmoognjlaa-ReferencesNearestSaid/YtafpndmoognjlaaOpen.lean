/- Opening an argument that is a slice of identities. -/
import Derived.Test.YtafpndmoognjlaaBase
import Derived.Deep.Slices
import Derived.ChangeOld
import Derived.SizedLaws
namespace Go.Proofs.Ytafpndmoognjlaa
open Go.ChangeShapes Go.WideShapes Go.ChangeAt Go.RowKit Go.Deep

theorem Ids.of_at {w : World} : ∀ (ls : List (List UInt8)) (ad : Addr), (∀ i l, ls[i]? = some l → IdAt w (ad.add (i * 32)) l) → ∀ j u, (ls.flatMap idc)[j]? = some u → w.cell? (ad.add j) = some u
  | [], _, _, j, u, hu => by simp at hu
  | l :: ls, ad, h, j, u, hu => by
    have h0 := h 0 l rfl
    rw [List.flatMap_cons] at hu
    have hl : (idc l).length = 32 := by rw [idc_length, h0.len]
    by_cases hj : j < 32
    · rw [List.getElem?_append_left (by omega)] at hu
      have := h0.cells j u hu
      rwa [Addr.add_add', Nat.zero_mul, Nat.zero_add] at this
    · rw [List.getElem?_append_right (by omega), hl] at hu
      have := Ids.of_at ls (ad.add 32) (fun i l hi => by
        rw [Addr.add_add', show 32 + i * 32 = (i + 1) * 32 from by omega]
        exact h (i + 1) l hi) (j - 32) u hu
      rwa [Addr.add_add', show 32 + (j - 32) = j from by omega] at this

section
variable {H : Type} {enc : TypeId × Value → H} {P : Program} {w : World} {base : Nat} {spare : Nat → Bool} {held : Bool}
theorem open_id {t : TypeId} {fuel : Nat} {cs : List Value} {x : DataW H × List MemPlace} (ht : isId P t = true) (h : DataW.trod enc P w base spare held fuel t cs = some x) :
    ∃ l : List UInt8, l.length = 32 ∧ cs = idc l := by
  obtain ⟨e, i, hu, he, hc, _, hs⟩ := isId_parts ht
  obtain ⟨xs, m, _, _, hlen, hxl, hat⟩ := DataW.trod_array hu h
  have hcs : cs.length = 32 := by
    rw [hlen, Program.cellsOf]
    rw [hs]
    rfl
  have hone : ∀ k, k < 32 → ∃ b : UInt8, cs[k]? = some (.int .u8 b.toNat) := by
    intro k hk
    have h1 := hat k hk
    rw [hc, Nat.mul_one] at h1
    have hk' : k < cs.length := by omega
    rw [List.drop_eq_getElem_cons hk', List.take_succ_cons, List.take_zero, List.getElem?_eq_getElem (by omega)] at h1
    obtain ⟨z, hz, _, hwf⟩ := DataW.trod_int he h1
    injection hz with hz
    have hb := bounds_u8 hwf
    refine ⟨UInt8.ofNat z.toNat, ?_⟩
    rw [List.getElem?_eq_getElem hk', hz]
    congr 2
    have : (UInt8.ofNat z.toNat).toNat = z.toNat % 256 := UInt8.toNat_ofNat'
    omega
  obtain ⟨f, hf⟩ := choose_lt (α := UInt8) (p := fun k b => cs[k]? = some (.int .u8 b.toNat)) hone
  refine ⟨(List.range 32).map f, by simp, ?_⟩
  apply List.ext_getElem?
  intro k
  by_cases hk : k < 32
  · rw [hf k hk]
    simp [idc, hk]
  · rw [List.getElem?_eq_none (by omega), List.getElem?_eq_none (by simp [idc]; omega)]
theorem open_idv {t : TypeId} {r : Reach} {b0 : Nat} {v : Value} {d : DataW H} {p : List MemPlace} (ht : isId P t = true) (hval : Value.okWide P w r b0 t v) (h : DataW.Trod enc P w base spare held t v d p) :
    ∃ l, v = idv l ∧ l.length = 32 := by
  obtain ⟨e, _, hu, _, _, _, _⟩ := isId_parts ht
  simp only [Value.okWide, hu] at hval
  obtain ⟨cs, rfl, _, _⟩ := hval
  obtain ⟨fuel, hf⟩ := h
  obtain ⟨l, hl, hc⟩ := open_id ht hf
  refine ⟨l, ?_, hl⟩
  simp only [Value.cells] at hc
  unfold idv
  rw [← hc]
theorem open_ids_d {t e : TypeId} {r : Reach} {b0 : Nat} {v : Value} {d : DataW H} {p : List MemPlace} (ht : P.underlying t = some (.slice e)) (he : isId P e = true)
    (hval : Value.okWide P w r b0 t v) (h : DataW.Trod enc P w base spare held t v d p) :
    ∃ A n c ls, v = .slice A n c ∧ ls.length = n ∧ n ≤ c ∧ c ≤ maxLen ∧ Ids w A ls ∧ (n = 0 ∨ ∃ elems spare, d = .slice elems spare ∧ elems.length = n) := by
  obtain ⟨A, n, c, rfl⟩ := okWide_slice ht hval
  obtain ⟨fuel, hf⟩ := h
  obtain ⟨_, _, _, _, _, _, hs⟩ := isId_parts he
  have hce : P.cellsOf e = 32 := by rw [Program.cellsOf, hs]; rfl
  rcases open_slice ht hf with ⟨hcs, _⟩ | ⟨a, len, cap, m, n', D, Pl, hcs, _, hl, hm, hmm, hd, hi⟩
  · simp [Value.cells] at hcs
    obtain ⟨rfl, rfl, rfl⟩ := hcs
    exact ⟨none, 0, 0, [], rfl, rfl, Nat.le_refl _, Nat.zero_le _, Ids.nil _ _, .inl rfl⟩
  · simp [Value.cells] at hcs
    obtain ⟨rfl, rfl, rfl⟩ := hcs
    have hlm : n ≤ m := by rw [hmm]; split <;> omega
    obtain ⟨f, hf'⟩ := choose_lt (α := List UInt8) (n := n) (p := fun i l => IdAt w (a.add (i * 32)) l) (fun i hin => by
      obtain ⟨cs', hc, htr⟩ := hi i (by omega)
      rw [hce] at hc
      obtain ⟨l, hl32, rfl⟩ := open_id he htr
      obtain ⟨_, hcl, hat⟩ := World.cells?_some hc
      refine ⟨l, hl32, fun j u hu => ?_⟩
      have hj : j < 32 := by
        have := (List.getElem?_eq_some_iff.1 hu).1
        rwa [idc_length, hl32] at this
      rw [hat j hj, hu])
    have hls : ∀ i l, ((List.range n).map f)[i]? = some l → IdAt w (a.add (i * 32)) l := by
      intro i l hil
      have hin : i < n := by
        have := (List.getElem?_eq_some_iff.1 hil).1
        simpa using this
      have := hf' i hin
      simp [hin] at hil
      subst hil
      exact this
    refine ⟨some a, n, c, (List.range n).map f, rfl, by simp, hl, hm, ⟨.inr ⟨a, rfl, Ids.of_at _ a hls⟩, fun l hl => ?_⟩, .inr ⟨_, _, (Prod.mk.inj hd).1, by simp⟩⟩
    obtain ⟨i, hi⟩ := List.getElem?_of_mem hl
    exact (hls i l hi).len
theorem open_ids {t e : TypeId} {r : Reach} {b0 : Nat} {v : Value} {d : DataW H} {p : List MemPlace} (ht : P.underlying t = some (.slice e)) (he : isId P e = true)
    (hval : Value.okWide P w r b0 t v) (h : DataW.Trod enc P w base spare held t v d p) :
    ∃ A n c ls, v = .slice A n c ∧ ls.length = n ∧ n ≤ c ∧ c ≤ maxLen ∧ Ids w A ls := by
  obtain ⟨A, n, c, ls, h1, h2, h3, h4, h5, _⟩ := open_ids_d ht he hval h
  exact ⟨A, n, c, ls, h1, h2, h3, h4, h5⟩
theorem ids_reach {ts : List TypeId} {ds : List (DataW H)} {d : DataW H} {n j t e : Nat} (hsz : (DataW.weightsEach P ts ds).all (· ≤ reachBytes) = true) (hx : n = 0 ∨ ∃ elems spare, d = .slice elems spare ∧ elems.length = n)
    (ht : ts[j]? = some t) (hd : ds[j]? = some d) (hu : P.underlying t = some (.slice e)) (hb : P.bytesOf e = 32) : n * 32 ≤ 140737488351232 := by
  rcases hx with h0 | ⟨elems, spare, rfl, hn⟩
  · subst h0; omega
  · have := sized_slice hsz ht hd hu
    rw [hb] at this
    unfold reachBytes at this
    omega
end
end Go.Proofs.Ytafpndmoognjlaa
