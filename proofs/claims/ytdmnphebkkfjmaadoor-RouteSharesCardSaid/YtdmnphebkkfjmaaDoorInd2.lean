/- Loop of the reference of routes, walked. -/
import Derived.Test.YtdmnphebkkfjmaaDoorInd
namespace Go.Proofs.YtdmnphebkkfjmaaDoor
open Go.ChangeShapes Go.WideShapes Go.ChangeAt Go.RowKit
set_option maxHeartbeats 400000 in
theorem rloop_calls (A : Option Addr) (ls : List (List UInt8)) (n c : Nat) (hln : ls.length = n) (hn : n ≤ 1000000) (hnc : n ≤ c) (w : World) (hl : Strs w A ls) :
    Calls Tryd.prog 23 #[.slice A n c] w fun e w' => e = .returned (loopV ls) ∧ ∃ q, w' = w.drewN q := by
  have Hl := Lib.hid hln
  obtain ⟨R, hR⟩ : ∃ R, loopS ls = R := ⟨_, rfl⟩
  have hV : loopV ls = .tuple #[.string (str (R.getD [])), .bool R.isSome] := by unfold loopV; rw [hR]
  rw [hV]
  have HR := Lib.hid hR
  clear hln hR hV
  go_enter Tryd.func23, Tryd.ntmps23
  go_wp2_with fail
  go_loopw [4] (fun i wr => ∃ k : Nat, k ≤ n ∧ i = .int .i64 k ∧ loopS (ls.drop k) = R ∧ ∃ q, wr = w.drewN q) (fun i _ => n - (intOf i).toNat)
  case atStart => exact ⟨0, Nat.zero_le _, rfl, HR.out, 0, rfl⟩
  case round =>
    obtain ⟨k, hk, rfl, hr, q, rfl⟩ := hrel
    by_cases hlt : k < n
    · obtain ⟨x, hx⟩ : ∃ x, ls[k]? = some x := ⟨_, List.getElem?_eq_getElem (by rw [Hl.out]; exact hlt)⟩
      obtain ⟨ad, rfl, hA⟩ := strs_at hl hx
      rw [drop_at hx, loopS] at hr
      have i0 : (0 : Int) ≤ (k : Int) + 1 := by omega
      have i1 : (k : Int) + 1 ≤ n := by omega
      have i2 : (k : Int) < n := by omega
      have i3 : (0 : Int) ≤ k := by omega
      have s1 : IntKind.i64.wrap ((k : Int) + 1) = (k : Int) + 1 := IntWalk.i64_in _ (by omega)
      have s2 : ((k : Int) + 1).toNat = k + 1 := by omega
      have Hr := Lib.hid hr
      clear hr hx
      by_cases hck : c = k + 1
      · subst hck
        by_cases hm : x ∈ ls.drop (k + 1)
        · have HM := Lib.hid hm
          have hd : decide (x ∈ ls.drop (k + 1)) = true := decide_eq_true hm
          clear hm
          have hh := fun (W : World) (A' : Option Addr) (m c' : Nat) (e1 : (ls.drop (k + 1)).length = m) (h : Strs W A' (ls.drop (k + 1))) => has_calls A' (ls.drop (k + 1)) m c' x e1 W (by rw [← e1, List.length_drop, Hl.out]; omega) h
          rw [hd] at hh
          have HH := Lib.hid hh
          clear hh
          go_wp2_with fail
          refine wp_region_quiet_lit (by kernel_rfl) (by kernel_rfl) ?_
          repeat (go_big_quiet_step ((go_at_call 24; exact quiet_again (fun W _ hWW => hWW ▸ HH.out _ _ _ _ (by rw [List.length_drop, Hl.out]; try omega) (Row.drewN (strs_drop_any hl (by rw [Hl.out]; exact hnc) (by first | (left; rfl; done) | (right; left; rfl; done) | (right; left; simp [Addr.add]; done) | (right; right; assumption) | (right; right; rfl))) _)))))
          refine wpQuiet_nil ?_
          intro _ hw'
          obtain ⟨nq, hw''⟩ := hw'
          subst hw''
          go_wp2_with fail
          go_ret2
          have hr := Hr.out
          rw [if_pos HM.out] at hr
          rw [← hr]
          exact ⟨rfl, q + nq, rfl⟩
        · have HM := Lib.hid hm
          have hd : decide (x ∈ ls.drop (k + 1)) = false := decide_eq_false hm
          have hr := Hr.out
          rw [if_neg hm] at hr
          have Hr2 := Lib.hid hr
          clear hm hr
          have hh := fun (W : World) (A' : Option Addr) (m c' : Nat) (e1 : (ls.drop (k + 1)).length = m) (h : Strs W A' (ls.drop (k + 1))) => has_calls A' (ls.drop (k + 1)) m c' x e1 W (by rw [← e1, List.length_drop, Hl.out]; omega) h
          rw [hd] at hh
          have HH := Lib.hid hh
          clear hh
          go_wp2_with fail
          refine wp_region_quiet_lit (by kernel_rfl) (by kernel_rfl) ?_
          repeat (go_big_quiet_step ((go_at_call 24; exact quiet_again (fun W _ hWW => hWW ▸ HH.out _ _ _ _ (by rw [List.length_drop, Hl.out]; try omega) (Row.drewN (strs_drop_any hl (by rw [Hl.out]; exact hnc) (by first | (left; rfl; done) | (right; left; rfl; done) | (right; left; simp [Addr.add]; done) | (right; right; assumption) | (right; right; rfl))) _)))))
          refine wpQuiet_nil ?_
          intro _ hw'
          obtain ⟨nq, hw''⟩ := hw'
          subst hw''
          go_wp2_with fail
          go_round
          case rel => exact ⟨k + 1, by omega, by go_num, Hr2.out, q + nq, rfl⟩
          case measure => simp [intOf]; omega
      · have hck' : k + 1 < c := by omega
        by_cases hm : x ∈ ls.drop (k + 1)
        · have HM := Lib.hid hm
          have hd : decide (x ∈ ls.drop (k + 1)) = true := decide_eq_true hm
          clear hm
          have hh := fun (W : World) (A' : Option Addr) (m c' : Nat) (e1 : (ls.drop (k + 1)).length = m) (h : Strs W A' (ls.drop (k + 1))) => has_calls A' (ls.drop (k + 1)) m c' x e1 W (by rw [← e1, List.length_drop, Hl.out]; omega) h
          rw [hd] at hh
          have HH := Lib.hid hh
          clear hh
          go_wp2_with fail
          refine wp_region_quiet_lit (by kernel_rfl) (by kernel_rfl) ?_
          repeat (go_big_quiet_step ((go_at_call 24; exact quiet_again (fun W _ hWW => hWW ▸ HH.out _ _ _ _ (by rw [List.length_drop, Hl.out]; try omega) (Row.drewN (strs_drop_any hl (by rw [Hl.out]; exact hnc) (by first | (left; rfl; done) | (right; left; rfl; done) | (right; left; simp [Addr.add]; done) | (right; right; assumption) | (right; right; rfl))) _)))))
          refine wpQuiet_nil ?_
          intro _ hw'
          obtain ⟨nq, hw''⟩ := hw'
          subst hw''
          go_wp2_with fail
          go_ret2
          have hr := Hr.out
          rw [if_pos HM.out] at hr
          rw [← hr]
          exact ⟨rfl, q + nq, rfl⟩
        · have HM := Lib.hid hm
          have hd : decide (x ∈ ls.drop (k + 1)) = false := decide_eq_false hm
          have hr := Hr.out
          rw [if_neg hm] at hr
          have Hr2 := Lib.hid hr
          clear hm hr
          have hh := fun (W : World) (A' : Option Addr) (m c' : Nat) (e1 : (ls.drop (k + 1)).length = m) (h : Strs W A' (ls.drop (k + 1))) => has_calls A' (ls.drop (k + 1)) m c' x e1 W (by rw [← e1, List.length_drop, Hl.out]; omega) h
          rw [hd] at hh
          have HH := Lib.hid hh
          clear hh
          go_wp2_with fail
          refine wp_region_quiet_lit (by kernel_rfl) (by kernel_rfl) ?_
          repeat (go_big_quiet_step ((go_at_call 24; exact quiet_again (fun W _ hWW => hWW ▸ HH.out _ _ _ _ (by rw [List.length_drop, Hl.out]; try omega) (Row.drewN (strs_drop_any hl (by rw [Hl.out]; exact hnc) (by first | (left; rfl; done) | (right; left; rfl; done) | (right; left; simp [Addr.add]; done) | (right; right; assumption) | (right; right; rfl))) _)))))
          refine wpQuiet_nil ?_
          intro _ hw'
          obtain ⟨nq, hw''⟩ := hw'
          subst hw''
          go_wp2_with fail
          go_round
          case rel => exact ⟨k + 1, by omega, by go_num, Hr2.out, q + nq, rfl⟩
          case measure => simp [intOf]; omega
    · have e : k = n := by omega
      subst e
      rw [List.drop_eq_nil_of_le (by rw [Hl.out]; omega)] at hr
      have hr : R = none := hr.symm
      subst hr
      go_wp2_with fail
      go_ret2
      exact ⟨rfl, q, rfl⟩
end Go.Proofs.YtdmnphebkkfjmaaDoor
