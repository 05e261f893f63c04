/- Plain laws of routes: what the check, the text and the parsing say of one another. -/
import Derived.Test.YtdmnphebkkfjmaaDoorLCom
import Derived.Test.YtdmnphebkkfjmaaDoorParF
namespace Go.Proofs.YtdmnphebkkfjmaaDoor
open Go Go.ChangeShapes Go.WideShapes Go.ChangeAt Go.RowKit
theorem site_all {l : List UInt8} (h : (siteS l).2 = 0) : l ≠ [] ∧ l.length ≤ 30 ∧ 33 ∉ l := by
  have h0 : l ≠ [] := by rintro rfl; rw [site_nil rfl] at h; cases h
  have h1 : ¬ 30 < l.length := fun h1 => by rw [site_long h1] at h; cases h
  refine ⟨h0, by omega, fun hm => ?_⟩
  unfold siteS at h
  rw [if_neg h0, if_neg h1] at h
  obtain ⟨k, hk⟩ := List.getElem?_of_mem hm
  have hkl := (List.getElem?_eq_some_iff.1 hk).1
  rcases hf : (List.range l.length).find? (fun i => !permB (byteAt l i).toNat) with _ | i
  · rw [List.find?_eq_none] at hf
    have := hf k (List.mem_range.2 hkl)
    rw [byteAt_of hk] at this
    exact this (by decide)
  · rw [hf] at h; cases h
theorem chkFrom_zero : ∀ {ls : List (List UInt8)}, chkFrom ls = 0 → ∀ l ∈ ls, (siteS l).2 = 0
  | [], _, _, h => by simp at h
  | x :: t, h, l, hl => by
    rw [chkFrom] at h
    by_cases hx : (siteS x).2 = 0
    · rw [if_pos hx] at h
      rcases List.mem_cons.1 hl with rfl | h2
      · exact hx
      · exact chkFrom_zero h l h2
    · rw [if_neg hx] at h; exact absurd h hx
theorem chkFrom_of : ∀ {ls : List (List UInt8)}, (∀ l ∈ ls, (siteS l).2 = 0) → chkFrom ls = 0
  | [], _ => rfl
  | x :: t, h => by
    rw [chkFrom, if_pos (h x List.mem_cons_self)]
    exact chkFrom_of fun l hl => h l (List.mem_cons_of_mem _ hl)
theorem chk_zero {ls : List (List UInt8)} (h : chk ls = 0) : ls.length ≤ 50 ∧ ∀ l ∈ ls, (siteS l).2 = 0 := by
  unfold chk at h
  by_cases h50 : 50 < ls.length
  · rw [if_pos h50] at h; cases h
  · rw [if_neg h50] at h; exact ⟨by omega, chkFrom_zero h⟩
theorem chk_of {ls : List (List UInt8)} (h1 : ls.length ≤ 50) (h2 : ∀ l ∈ ls, (siteS l).2 = 0) : chk ls = 0 := by
  unfold chk; rw [if_neg (by omega)]; exact chkFrom_of h2
theorem splitL_link : ∀ {ls : List (List UInt8)}, ls ≠ [] → (∀ l ∈ ls, 33 ∉ l) → splitL (linkL ls) = ls
  | [], h, _ => absurd rfl h
  | [x], _, h => by rw [show linkL [x] = x by simp [linkL, Lib.join, Lib.joinTail]]; exact splitL_none _ (h x List.mem_cons_self)
  | x :: y :: t, _, h => by
    have ih := splitL_link (ls := y :: t) (by simp) (fun l hl => h l (List.mem_cons_of_mem _ hl))
    have e : linkL (x :: y :: t) = x ++ 33 :: linkL (y :: t) := by
      unfold linkL; rw [Lib.join_cons, Lib.join_cons]; simp [Lib.joinTail]
    rw [e, splitL_hit _ _ (h x List.mem_cons_self), ih]
theorem parsS_all : ∀ (ps out : List (List UInt8)) (a : Nat), (∀ p ∈ ps, (siteS p).2 = 0) → out.length + ps.length ≤ 50 → parsS ps out a = (out ++ ps, 0, 0)
  | [], out, _, _, _ => by rw [parsS, List.append_nil]
  | p :: ps, out, a, h, hn => by
    rw [List.length_cons] at hn
    rw [parsS, if_neg (by omega), if_pos (h p List.mem_cons_self), parsS_all ps _ _ (fun q hq => h q (List.mem_cons_of_mem _ hq)) (by rw [List.length_append]; simp; omega)]
    simp
theorem parse_link {ls : List (List UInt8)} (h : chk ls = 0) : parseS (linkL ls) = (ls, 0, 0) := by
  obtain ⟨h1, h2⟩ := chk_zero h
  by_cases h0 : ls = []
  · subst h0; rfl
  · have hne : linkL ls ≠ [] := by
      rcases ls with _ | ⟨x, t⟩
      · exact absurd rfl h0
      · intro e
        unfold linkL at e
        rw [Lib.join_cons] at e
        exact (site_all (h2 x List.mem_cons_self)).1 (List.append_eq_nil_iff.1 e).1
    unfold parseS
    rw [if_neg hne, splitL_link h0 (fun l hl => (site_all (h2 l hl)).2.2), parsS_all _ _ _ h2 (by simpa using h1)]
    rfl
theorem parsS_zero : ∀ (ps out : List (List UInt8)) (a : Nat), (parsS ps out a).2.2 = 0 → parsS ps out a = (out ++ ps, 0, 0) ∧ (∀ p ∈ ps, (siteS p).2 = 0)
  | [], out, _, _ => by rw [parsS, List.append_nil]; exact ⟨rfl, fun _ h => by simp at h⟩
  | p :: ps, out, a, h => by
    rw [parsS] at h ⊢
    by_cases h1 : out.length = 50
    · rw [if_pos h1] at h; cases h
    · rw [if_neg h1] at h ⊢
      by_cases h2 : (siteS p).2 = 0
      · rw [if_pos h2] at h ⊢
        obtain ⟨e, hall⟩ := parsS_zero ps _ _ h
        rw [e]
        refine ⟨by simp, fun q hq => ?_⟩
        rcases List.mem_cons.1 hq with rfl | h3
        · exact h2
        · exact hall q h3
      · rw [if_neg h2] at h; exact absurd h h2
theorem parsS_len : ∀ (ps out : List (List UInt8)) (a : Nat), out.length ≤ 50 → (parsS ps out a).1.length ≤ 50
  | [], out, _, h => h
  | p :: ps, out, a, h => by
    rw [parsS]
    by_cases h1 : out.length = 50
    · rw [if_pos h1]; exact Nat.zero_le _
    · rw [if_neg h1]
      by_cases h2 : (siteS p).2 = 0
      · rw [if_pos h2]; exact parsS_len ps _ _ (by rw [List.length_append]; simp; omega)
      · rw [if_neg h2]; exact Nat.zero_le _
theorem parseS_len (l : List UInt8) : (parseS l).1.length ≤ 50 := by
  unfold parseS; split
  · decide
  · exact parsS_len _ _ _ (by decide)
theorem parse_back {l : List UInt8} (h : (parseS l).2.2 = 0) : linkL (parseS l).1 = l ∧ ∀ p ∈ (parseS l).1, p.length ≤ 30 := by
  by_cases h0 : l = []
  · subst h0; exact ⟨rfl, fun _ h => by cases h⟩
  · unfold parseS at h ⊢
    rw [if_neg h0] at h ⊢
    obtain ⟨e, hall⟩ := parsS_zero _ _ _ h
    rw [e]
    exact ⟨by rw [List.nil_append]; exact splitL_join l, fun p hp => (site_all (hall p (by simpa using hp))).2.1⟩
theorem cut_le (ls : List (List UInt8)) : ∀ l ∈ cutS ls, l.length ≤ 40 := by
  intro l hl
  obtain ⟨x, _, rfl⟩ := List.mem_map.1 hl
  simp; omega
theorem link_len {ls : List (List UInt8)} {n B : Nat} (hn : ls.length ≤ n) (h : ∀ l ∈ ls, l.length ≤ B) : (linkL ls).length ≤ (B + 1) * n := by
  have := linkL_len ls B h ls.length
  rw [List.take_length] at this
  exact Nat.le_trans this (Nat.mul_le_mul_left _ hn)
end Go.Proofs.YtdmnphebkkfjmaaDoor
