/- The calls of known of chapter 16, each at its arguments. -/
import Derived.Test.YtdmnphebkkfjmaaDoorLnk
import Derived.Test.YtdmnphebkkfjmaaDoorParF
import Derived.Test.YtdmnphebkkfjmaaDoorCom2
namespace Go.Proofs.YtdmnphebkkfjmaaDoor
open Go Go.ChangeShapes Go.WideShapes Go.ChangeAt Go.RowKit
theorem own_cell {w : World} {base n size : Nat} {e : TypeId} {g c : Nat} {xs : List Value} (h : w.ownsRow base e size (.slice (some ⟨g, 0, none⟩) n c) n xs) {k : Nat} {u : Value} (hk : xs[k]? = some u) : w.cell? ⟨g, k, none⟩ = some u := by
  obtain ⟨A, c', hv, _, _, hr, _⟩ := Row.of_own h
  injection hv with h1 _ _
  subst h1
  rcases hr with hr | ⟨ad, h1, h2⟩
  · rw [hr] at hk; cases hk
  · injection h1 with h1; subst h1
    have := h2 k u hk
    rwa [Addr.add_mid, Nat.zero_add] at this
theorem own_strs {w : World} {base n : Nat} {e : TypeId} {A : Option Addr} {c : Nat} {ls : List (List UInt8)} (h : w.ownsRow base e 1 (.slice A n c) n (strsV ls)) : Strs w A ls ∧ n ≤ c := by
  obtain ⟨A', c', hv, _, h2, _, h3, _⟩ := strs_own h
  injection hv with h4 _ h5
  subst h4; subst h5
  exact ⟨h3, h2⟩
theorem par1 : parseS [99, 33, 98, 33, 97] = ([[99], [98], [97]], 0, 0) := by decide +kernel
theorem par2 : parseS [97, 33, 33, 98] = ([], 2, 4) := by decide +kernel
theorem k1_calls (m : Int) (w : World) (hm : w.cell? ⟨0, 0, none⟩ = some (.int .i64 m)) :
    Calls Tryd.prog 10 #[.string ⟨#[99, 33, 98, 33, 97]⟩] w fun e w' => ∃ g c, e = .returned (.tuple #[.slice (some ⟨g, 0, none⟩) 3 c, .int .i64 0, .int .i64 0]) ∧ w'.ownsRow w.heap.size 9 1 (.slice (some ⟨g, 0, none⟩) 3 c) 3 (strsV [[99], [98], [97]]) ∧ Below w.heap.size w w' := by
  refine (parse_calls [99, 33, 98, 33, 97] (by decide) m w hm).mono ?_
  rw [par1]
  rintro e w' ⟨v, rfl, hown, hB⟩
  obtain ⟨g, c, rfl, _⟩ := own_some hown (by decide)
  exact ⟨g, c, rfl, hown, hB⟩
theorem k2_calls (m : Int) (w : World) (hm : w.cell? ⟨0, 0, none⟩ = some (.int .i64 m)) :
    Calls Tryd.prog 10 #[.string ⟨#[97, 33, 33, 98]⟩] w fun e w' => ∃ v, e = .returned (.tuple #[v, .int .i64 2, .int .i64 4]) ∧ Below w.heap.size w w' := by
  refine (parse_calls [97, 33, 33, 98] (by decide) m w hm).mono ?_
  rw [par2]
  rintro e w' ⟨v, rfl, hown, hB⟩
  exact ⟨v, rfl, hB⟩
theorem k3_calls (g c B : Nat) (w : World) (hr : w.ownsRow B 9 1 (.slice (some ⟨g, 0, none⟩) 3 c) 3 (strsV [[99], [98], [97]])) :
    Calls Tryd.prog 30 #[.slice (some ⟨g, 0, none⟩) 3 c] w fun e w' => ∃ g' c', e = .returned (.slice (some ⟨g', 0, none⟩) 2 c') ∧ w'.ownsRow w.heap.size 56 2 (.slice (some ⟨g', 0, none⟩) 2 c') 2 (lnk3.flatMap prc) ∧ Below w.heap.size w w' := by
  refine (links_calls _ c w (own_strs hr).1).mono ?_
  rintro e w' ⟨v, rfl, hown, hB⟩
  obtain ⟨g', c', rfl, _⟩ := own_some hown (by decide)
  exact ⟨g', c', rfl, hown, hB⟩
theorem prp1 : prepE [[99], [98], [97]] [100] = 0 := by decide +kernel
theorem k4_calls (g c B : Nat) (w : World) (hr : w.ownsRow B 9 1 (.slice (some ⟨g, 0, none⟩) 3 c) 3 (strsV [[99], [98], [97]])) :
    Calls Tryd.prog 19 #[.slice (some ⟨g, 0, none⟩) 3 c, .string ⟨#[100]⟩] w fun e w' => ∃ g' c', e = .returned (.tuple #[.slice (some ⟨g', 0, none⟩) 4 c', .int .i64 0]) ∧ w'.ownsRow w.heap.size 9 1 (.slice (some ⟨g', 0, none⟩) 4 c') 4 (strsV [[100], [99], [98], [97]]) ∧ Below w.heap.size w w' := by
  refine (prepend_calls _ [[99], [98], [97]] 3 c [100] rfl (own_strs hr).2 (by decide) w (own_strs hr).1).mono ?_
  rintro e w' (⟨h, _⟩ | ⟨_, _, g', c', k, rfl, rfl, _, hown, hB⟩)
  · exact absurd prp1 h
  · exact ⟨g', c', rfl, hown, hB⟩
theorem lop1 : loopS [[98], [99], [98], [97]] = some [98] := by decide +kernel
theorem k5_calls (g c : Nat) (hc : 4 ≤ c) (w : World) (hr : Strs w (some ⟨g, 0, none⟩) [[98], [99], [98], [97]]) :
    Calls Tryd.prog 22 #[.slice (some ⟨g, 0, none⟩) 4 c] w fun e w' => e = .returned (.tuple #[.string ⟨#[98]⟩, .bool true]) ∧ w' = w := by
  refine (loop_calls _ [[98], [99], [98], [97]] 4 c rfl (by decide) hc w hr).mono ?_
  rintro e w' ⟨rfl, rfl⟩
  unfold loopV
  rw [lop1]
  exact ⟨rfl, rfl⟩
theorem com1 : comS [[120], [98], [97]] [[121], [122], [98], [97]] = [[98], [97]] := by decide +kernel
theorem k6_calls (g h c d : Nat) (hc : 3 ≤ c) (w : World) (hr : Strs w (some ⟨g, 0, none⟩) [[120], [98], [97]]) (hs : Strs w (some ⟨h, 0, none⟩) [[121], [122], [98], [97]]) :
    Calls Tryd.prog 25 #[.slice (some ⟨g, 0, none⟩) 3 c, .slice (some ⟨h, 0, none⟩) 4 d] w fun e w' => ∃ g' c', e = .returned (.slice (some ⟨g', 0, none⟩) 2 c') ∧ w'.ownsRow w.heap.size 9 1 (.slice (some ⟨g', 0, none⟩) 2 c') 2 (strsV [[98], [97]]) ∧ Below w.heap.size w w' := by
  refine (common_calls _ _ [[120], [98], [97]] [[121], [122], [98], [97]] 3 4 c d rfl rfl (by decide) (by decide) hc w hr hs).mono ?_
  rw [com1]
  rintro e w' ⟨v, rfl, hown, hB⟩
  obtain ⟨g', c', rfl, _⟩ := own_some hown (by decide)
  exact ⟨g', c', rfl, hown, hB⟩
theorem k7_calls (g c B : Nat) (w : World) (hr : w.ownsRow B 9 1 (.slice (some ⟨g, 0, none⟩) 4 c) 4 (strsV [[100], [99], [98], [97]])) :
    Calls Tryd.prog 14 #[.slice (some ⟨g, 0, none⟩) 4 c] w fun e w' => e = .returned (.string ⟨#[100, 33, 99, 33, 98, 33, 97]⟩) ∧ Below w.heap.size w w' := by
  refine (string_calls _ [[100], [99], [98], [97]] 4 c rfl (by decide) (own_strs hr).2 (by decide) (.inr ⟨g, rfl⟩) w (own_strs hr).1).mono ?_
  rintro e w' ⟨rfl, hB⟩
  exact ⟨by rfl, hB⟩
end Go.Proofs.YtdmnphebkkfjmaaDoor
