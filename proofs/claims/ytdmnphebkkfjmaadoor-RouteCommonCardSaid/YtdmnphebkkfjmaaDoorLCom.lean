/- The law RouteCommon. -/
import Derived.Test.YtdmnphebkkfjmaaDoorLLoops
namespace Go.Proofs.YtdmnphebkkfjmaaDoor
open Go Go.ChangeShapes Go.WideShapes Go.ChangeAt Go.RowKit
theorem below_of_drew {w w' : World} (h : ∃ q, w' = w.drewN q) : Below w.heap.size w w' := by
  obtain ⟨q, rfl⟩ := h; exact below_drewN0 _ _ _
theorem ssame_refl (A B : Option Addr) (l : List (List UInt8)) (c d n : Nat) (hln : l.length = n) (hn : n ≤ 1000000000) (w : World) (hl : Strs w A l) (hm : Strs w B l) :
    Calls Tryd.prog 13 #[.slice A n c, .slice B n d] w fun e w' => e = .returned (.bool true) ∧ ∃ q, w' = w.drewN q :=
  (ssame_calls A B l l c d n n hln hln hn w hl hm).mono fun e w' h => by rw [decide_eq_true rfl] at h; exact h
end Go.Proofs.YtdmnphebkkfjmaaDoor
namespace Go.Proofs.YtdmnphebkkfjmaaDoor.lawCom
open Go Go.ChangeShapes Go.WideShapes Go.ChangeAt Go.RowKit Go.Deep Go.ChangeMaps
theorem comP_comm : ∀ s t : List (List UInt8), comP s t = comP t s
  | [], t => by rw [comP_nil]; rfl
  | _ :: _, [] => rfl
  | x :: s, y :: t => by
    rw [comP, comP]
    by_cases h : x = y
    · rw [if_pos h, if_pos h.symm, comP_comm s t]
    · rw [if_neg h, if_neg (fun e => h e.symm)]
theorem comP_take : ∀ s t : List (List UInt8), s.take (comP s t) = t.take (comP s t)
  | [], t => by simp [comP]
  | _ :: _, [] => by simp [comP]
  | x :: s, y :: t => by
    rw [comP]
    by_cases h : x = y
    · rw [if_pos h, List.take_succ_cons, List.take_succ_cons, comP_take s t, h]
    · rw [if_neg h]; rfl
theorem comP_self : ∀ s : List (List UInt8), comP s s = s.length
  | [] => rfl
  | x :: s => by rw [comP, if_pos rfl, comP_self s]; rfl
theorem comS_comm (a b : List (List UInt8)) : comS a b = comS b a := by
  have e : comN b a = comN a b := comP_comm _ _
  have h := comP_take a.reverse b.reverse
  rw [List.take_reverse, List.take_reverse] at h
  have h2 := congrArg List.reverse h
  rw [List.reverse_reverse, List.reverse_reverse] at h2
  unfold comS
  rw [e]
  exact h2
theorem comS_self (a : List (List UInt8)) : comS a a = a := by
  have e : comN a a = a.length := by unfold comN; rw [comP_self, List.length_reverse]
  unfold comS
  rw [e, Nat.sub_self]; rfl
end Go.Proofs.YtdmnphebkkfjmaaDoor.lawCom
