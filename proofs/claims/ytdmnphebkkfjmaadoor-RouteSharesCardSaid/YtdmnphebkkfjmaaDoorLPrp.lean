/- Prepend in two contracts: where it answers, and where it refuses; the common end of two routes that part. -/
import Derived.Test.YtdmnphebkkfjmaaDoorLPl
namespace Go.Proofs.YtdmnphebkkfjmaaDoor
open Go Go.ChangeShapes Go.WideShapes Go.ChangeAt Go.RowKit
theorem prepE_zero {ls : List (List UInt8)} {s : List UInt8} (h : prepE ls s = 0) : (siteS s).2 = 0 ∧ chk ls = 0 := by
  unfold prepE at h
  by_cases h1 : (siteS s).2 = 0
  · rw [if_neg (by omega)] at h; exact ⟨h1, h⟩
  · rw [if_pos h1] at h; exact absurd h h1
def PrepOk (w : World) (s : List UInt8) (ls : List (List UInt8)) (n m : Nat) (e : Ending) (w' : World) : Prop :=
  ∃ g c, e = .returned (.tuple #[.slice (some ⟨g, 0, none⟩) m c, .int .i64 0]) ∧ m ≤ c ∧ w.heap.size ≤ g ∧ w'.ownsRow w.heap.size 9 1 (.slice (some ⟨g, 0, none⟩) (n + 1) c) (n + 1) (strsV (s :: ls)) ∧
    w'.cell? ⟨g, 0, none⟩ = some (.string (str s)) ∧ Strs w' (some ⟨g, 0, none⟩) ((s :: ls).take m) ∧ Below w.heap.size w w'
theorem prep_ok_of {w w' : World} {ls : List (List UInt8)} {s : List UInt8} {n m : Nat} {e : Ending} (hm : min (n + 1) 50 = m) (hE : prepE ls s = 0) (h : PrepPost e w w' ls s n) : PrepOk w s ls n m e w' := by
  rcases h with ⟨h, _⟩ | ⟨_, _, g, c, m', rfl, rfl, hc, hown, hB⟩
  · exact absurd hE h
  · rw [hm]
    refine ⟨g, c, rfl, by omega, ?_, hown, own_cell hown rfl, ?_, hB⟩
    · obtain ⟨A, c', hv, _, _, _, h6⟩ := Row.of_own hown
      injection hv with h1 _ _
      exact h6 _ h1.symm
    · show Row w' _ (strsV ((s :: ls).take m))
      rw [strsV_take]
      exact (own_strs hown).1.take m
theorem prep_ok (A : Option Addr) (ls : List (List UInt8)) (n c : Nat) (s : List UInt8) (m : Nat) (hm : min (n + 1) 50 = m) (hln : ls.length = n) (hnc : n ≤ c) (hn : n ≤ 1000) (hE : prepE ls s = 0) (w : World) (hl : Strs w A ls) :
    Calls Tryd.prog 19 #[.slice A n c, .string (str s)] w (PrepOk w s ls n m) :=
  (prepend_calls A ls n c s hln hnc hn w hl).mono fun _ _ h => prep_ok_of hm hE h
theorem fprep_ok (A : Option Addr) (ls : List (List UInt8)) (n c : Nat) (s : List UInt8) (m : Nat) (hm : min (n + 1) 50 = m) (hln : ls.length = n) (hnc : n ≤ c) (hn : n ≤ 1000) (hE : prepE ls s = 0) (w : World) (hl : Strs w A ls) :
    Calls Tryd.prog 20 #[.slice A n c, .string (str s)] w (PrepOk w s ls n m) :=
  (fprepend_calls A ls n c s hln hnc hn w hl).mono fun _ _ h => prep_ok_of hm hE h
theorem prep_no (A : Option Addr) (ls : List (List UInt8)) (n c : Nat) (s : List UInt8) (E : Nat) (hE : prepE ls s = E) (h0 : E ≠ 0) (hln : ls.length = n) (hnc : n ≤ c) (hn : n ≤ 1000) (w : World) (hl : Strs w A ls) :
    Calls Tryd.prog 19 #[.slice A n c, .string (str s)] w fun e w' => e = .returned (.tuple #[.slice none 0 0, .int .i64 E]) ∧ w' = w :=
  (prepend_calls A ls n c s hln hnc hn w hl).mono fun e w' h => by
    rcases h with ⟨_, h1, h2⟩ | ⟨h, _⟩
    · rw [hE] at h1; exact ⟨h1, h2⟩
    · rw [hE] at h; exact absurd h h0
theorem fprep_no (A : Option Addr) (ls : List (List UInt8)) (n c : Nat) (s : List UInt8) (E : Nat) (hE : prepE ls s = E) (h0 : E ≠ 0) (hln : ls.length = n) (hnc : n ≤ c) (hn : n ≤ 1000) (w : World) (hl : Strs w A ls) :
    Calls Tryd.prog 20 #[.slice A n c, .string (str s)] w fun e w' => e = .returned (.tuple #[.slice none 0 0, .int .i64 E]) ∧ w' = w :=
  (fprepend_calls A ls n c s hln hnc hn w hl).mono fun e w' h => by
    rcases h with ⟨_, h1, h2⟩ | ⟨h, _⟩
    · rw [hE] at h1; exact ⟨h1, h2⟩
    · rw [hE] at h; exact absurd h h0
theorem comP_app : ∀ p s t : List (List UInt8), comP (p ++ s) (p ++ t) = p.length + comP s t
  | [], s, t => by simp
  | x :: p, s, t => by rw [List.cons_append, List.cons_append, comP, if_pos rfl, comP_app p s t, List.length_cons]; omega
theorem comS_part {x y : List UInt8} (r : List (List UInt8)) (h : x ≠ y) : comS (x :: r) (y :: r) = r := by
  have e : comN (x :: r) (y :: r) = r.length := by
    unfold comN
    rw [List.reverse_cons, List.reverse_cons, comP_app, comP, if_neg h, List.length_reverse]; rfl
  unfold comS
  rw [e, List.length_cons, show r.length + 1 - r.length = 1 by omega]; rfl
end Go.Proofs.YtdmnphebkkfjmaaDoor
