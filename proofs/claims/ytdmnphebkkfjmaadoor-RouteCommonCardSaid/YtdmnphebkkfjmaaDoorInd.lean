/- Index, Contains, Has and Loop of routes, walked. -/
import Derived.Test.YtdmnphebkkfjmaaDoorChk
namespace Go.Proofs.YtdmnphebkkfjmaaDoor
open Go.ChangeShapes Go.WideShapes Go.ChangeAt Go.RowKit
theorem take_not {α : Type} {l : List α} {k : Nat} {x y : α} (hk : l[k]? = some y) (h : x ∉ l.take k) (hxy : x ≠ y) : x ∉ l.take (k + 1) := by
  rw [take_succ_at hk]
  simp [h, hxy]
set_option maxHeartbeats 400000 in
theorem index_calls (A : Option Addr) (ls : List (List UInt8)) (n c : Nat) (x : List UInt8) (hln : ls.length = n) (w : World) (hn : n ≤ 1000000000) (hl : Strs w A ls) :
    Calls Tryd.prog 40 #[.slice A n c, .string (str x)] w fun e w' => (∃ z : Int, e = .returned (.int .i64 z) ∧ decide (0 ≤ z) = decide (x ∈ ls)) ∧ w' = w := by
  have Hl := Lib.hid hln
  clear hln
  go_enter Tryd.func40, Tryd.ntmps40
  go_wp2_with fail
  go_loop [8] (fun i => ∃ k : Nat, k ≤ n ∧ i = .int .i64 k ∧ x ∉ ls.take k) (fun i => n - (intOf i).toNat)
  case atStart => exact ⟨0, Nat.zero_le _, rfl, by simp⟩
  case round =>
    obtain ⟨k, hk, rfl, hno⟩ := hrel
    by_cases hlt : k < n
    · obtain ⟨y, hy⟩ : ∃ y, ls[k]? = some y := ⟨_, List.getElem?_eq_getElem (by rw [Hl.out]; exact hlt)⟩
      obtain ⟨ad, rfl, hA⟩ := strs_at hl hy
      by_cases he : x = y
      · have hb : (x == y) = true := by simpa using he
        have hin : x ∈ ls := by rw [he]; obtain ⟨h1, h2⟩ := List.getElem?_eq_some_iff.1 hy; rw [← h2]; exact List.getElem_mem h1
        have Hin := Lib.hid hin
        clear he hno hin hy
        go_wp2_with fail
        go_ret
        exact ⟨⟨k, rfl, ⟨fun _ => Hin.out, fun _ => by omega⟩⟩, rfl⟩
      · have hb : (x == y) = false := by simpa using he
        have hn2 := Lib.hid (take_not hy hno he)
        clear he hno hy
        go_wp2_with fail
        go_round
        case rel => exact ⟨k + 1, by omega, by go_num, hn2.out⟩
        case measure => simp [intOf]; omega
    · have e : k = n := by omega
      subst e
      rw [List.take_of_length_le (by rw [Hl.out]; omega)] at hno
      have Hno := Lib.hid hno
      clear hno
      go_wp2_with fail
      go_ret
      exact ⟨⟨-1, rfl, ⟨fun h => by omega, fun h => absurd h Hno.out⟩⟩, rfl⟩
theorem contains_calls (A : Option Addr) (ls : List (List UInt8)) (n c : Nat) (x : List UInt8) (hln : ls.length = n) (w : World) (hn : n ≤ 1000000000) (hl : Strs w A ls) :
    Calls Tryd.prog 21 #[.slice A n c, .string (str x)] w fun e w' => e = .returned (.bool (decide (x ∈ ls))) ∧ w' = w := by
  have hc : Calls Tryd.prog 32 #[.slice A n c, .string (str x)] w fun e w' => e = .returned (.bool (decide (x ∈ ls))) ∧ w' = w := by
    go_enter Tryd.func32, Tryd.ntmps32
    go_wp2_with fail
    refine (index_calls A ls n c x hln _ hn hl).mono ?_
    rintro e w' ⟨⟨z, rfl, hz⟩, rfl⟩
    have Hz := Lib.hid hz
    clear hz
    go_wp2
    go_ret
    exact ⟨ret_bool Hz.out, rfl⟩
  have Hc := Lib.hid hc
  clear hc
  go_enter Tryd.func21, Tryd.ntmps21
  go_wp2_with fail
  refine Hc.out.mono ?_
  rintro e w' ⟨rfl, rfl⟩
  go_wp2
  go_ret
  exact ⟨rfl, rfl⟩
set_option maxHeartbeats 400000 in
theorem has_calls (A : Option Addr) (ls : List (List UInt8)) (n c : Nat) (x : List UInt8) (hln : ls.length = n) (w : World) (hn : n ≤ 1000000000) (hl : Strs w A ls) :
    Calls Tryd.prog 24 #[.slice A n c, .string (str x)] w fun e w' => e = .returned (.bool (decide (x ∈ ls))) ∧ w' = w := by
  have Hl := Lib.hid hln
  clear hln
  go_enter Tryd.func24, Tryd.ntmps24
  go_wp2_with fail
  go_loop [5] (fun i => ∃ k : Nat, k ≤ n ∧ i = .int .i64 k ∧ x ∉ ls.take k) (fun i => n - (intOf i).toNat)
  case atStart => exact ⟨0, Nat.zero_le _, rfl, by simp⟩
  case round =>
    obtain ⟨k, hk, rfl, hno⟩ := hrel
    by_cases hlt : k < n
    · obtain ⟨y, hy⟩ : ∃ y, ls[k]? = some y := ⟨_, List.getElem?_eq_getElem (by rw [Hl.out]; exact hlt)⟩
      obtain ⟨ad, rfl, hA⟩ := strs_at hl hy
      by_cases he : x = y
      · have hb : (y == x) = true := by simpa using he.symm
        have hin : x ∈ ls := by rw [he]; obtain ⟨h1, h2⟩ := List.getElem?_eq_some_iff.1 hy; rw [← h2]; exact List.getElem_mem h1
        have Hin := Lib.hid hin
        clear he hno hin hy
        go_wp2_with fail
        go_ret
        exact ⟨ret_bool (decide_eq_true Hin.out).symm, rfl⟩
      · have hb : (y == x) = false := by simpa using fun e => he e.symm
        have hn2 := Lib.hid (take_not hy hno he)
        clear he hno hy
        go_wp2_with fail
        go_round
        case rel => exact ⟨k + 1, by omega, by go_num, hn2.out⟩
        case measure => simp [intOf]; omega
    · have e : k = n := by omega
      subst e
      rw [List.take_of_length_le (by rw [Hl.out]; omega)] at hno
      have Hno := Lib.hid hno
      clear hno
      go_wp2_with fail
      go_ret
      exact ⟨ret_bool (decide_eq_false Hno.out).symm, rfl⟩
/-- the first one that occurs again -/
def loopS : List (List UInt8) → Option (List UInt8)
  | [] => none
  | x :: t => if x ∈ t then some x else loopS t
def loopV (ls : List (List UInt8)) : Value := .tuple #[.string (str ((loopS ls).getD [])), .bool (loopS ls).isSome]
theorem strs_drop {w : World} {A : Option Addr} {ls : List (List UInt8)} (h : Strs w A ls) {m : Nat} (C : Prop) [Decidable C] (hc : C → ls.length ≤ m) : Strs w (if C then A else A.map (·.add m)) (ls.drop m) := by
  have := Row.cut h C (m := m) (fun hC => by rw [strsV_len]; exact hc hC)
  rwa [← strsV_drop] at this
theorem strs_drop_any {w : World} {A A' : Option Addr} {ls : List (List UInt8)} {m c : Nat} (h : Strs w A ls) (hc : ls.length ≤ c) (hA : A' = (if c = m then A else A.map (·.add m)) ∨ A' = A.map (·.add m) ∨ c = m) : Strs w A' (ls.drop m) := by
  rcases hA with rfl | rfl | rfl
  · exact strs_drop h _ (fun e => by omega)
  · have := strs_drop h (m := m) False (fun h => h.elim)
    simpa using this
  · rw [List.drop_eq_nil_of_le hc]; exact .inl rfl
set_option maxHeartbeats 400000 in
theorem loop_calls (A : Option Addr) (ls : List (List UInt8)) (n c : Nat) (hln : ls.length = n) (hn : n ≤ 1000000) (hnc : n ≤ c) (w : World) (hl : Strs w A ls) :
    Calls Tryd.prog 22 #[.slice A n c] w fun e w' => e = .returned (loopV ls) ∧ w' = w := by
  have Hl := Lib.hid hln
  obtain ⟨R, hR⟩ : ∃ R, loopS ls = R := ⟨_, rfl⟩
  have hV : loopV ls = .tuple #[.string (str (R.getD [])), .bool R.isSome] := by unfold loopV; rw [hR]
  rw [hV]
  have HR := Lib.hid hR
  clear hln hR hV
  go_enter Tryd.func22, Tryd.ntmps22
  go_wp2_with fail
  go_loop [8] (fun i => ∃ k : Nat, k ≤ n ∧ i = .int .i64 k ∧ loopS (ls.drop k) = R) (fun i => n - (intOf i).toNat)
  case atStart => exact ⟨0, Nat.zero_le _, rfl, HR.out⟩
  case round =>
    obtain ⟨k, hk, rfl, hr⟩ := hrel
    by_cases hlt : k < n
    · obtain ⟨x, hx⟩ : ∃ x, ls[k]? = some x := ⟨_, List.getElem?_eq_getElem (by rw [Hl.out]; exact hlt)⟩
      obtain ⟨ad, rfl, hA⟩ := strs_at hl hx
      rw [drop_at hx, loopS] at hr
      have i0 : (0 : Int) ≤ (k : Int) + 1 := by omega
      have i1 : (k : Int) + 1 ≤ n := by omega
      have Hr := Lib.hid hr
      clear hr hx
      by_cases hck : c = k + 1
      · subst hck
        by_cases hm : x ∈ ls.drop (k + 1)
        · have HM := Lib.hid hm
          have hd : decide (x ∈ ls.drop (k + 1)) = true := decide_eq_true hm
          clear hm
          go_wp2_with fail
          refine (contains_calls _ (ls.drop (k + 1)) _ _ x (by rw [List.length_drop, Hl.out]; try omega) _ (by omega) (strs_drop_any hl (by rw [Hl.out]; exact hnc) (by first | (left; rfl; done) | (right; left; rfl; done) | (right; left; simp [Addr.add]; done) | (right; right; assumption) | (right; right; rfl)))).mono ?_
          rw [hd]
          rintro e w' ⟨rfl, rfl⟩
          go_wp2_with fail
          go_ret2
          have hr := Hr.out
          rw [if_pos HM.out] at hr
          rw [← hr]
          exact ⟨rfl, rfl⟩
        · have HM := Lib.hid hm
          have hd : decide (x ∈ ls.drop (k + 1)) = false := decide_eq_false hm
          have hr := Hr.out
          rw [if_neg hm] at hr
          have Hr2 := Lib.hid hr
          clear hm hr
          go_wp2_with fail
          refine (contains_calls _ (ls.drop (k + 1)) _ _ x (by rw [List.length_drop, Hl.out]; try omega) _ (by omega) (strs_drop_any hl (by rw [Hl.out]; exact hnc) (by first | (left; rfl; done) | (right; left; rfl; done) | (right; left; simp [Addr.add]; done) | (right; right; assumption) | (right; right; rfl)))).mono ?_
          rw [hd]
          rintro e w' ⟨rfl, rfl⟩
          go_wp2_with fail
          go_round
          case rel => exact ⟨k + 1, by omega, by go_num, Hr2.out⟩
          case measure => simp [intOf]; omega
      · have hck' : k + 1 < c := by omega
        by_cases hm : x ∈ ls.drop (k + 1)
        · have HM := Lib.hid hm
          have hd : decide (x ∈ ls.drop (k + 1)) = true := decide_eq_true hm
          clear hm
          go_wp2_with fail
          refine (contains_calls _ (ls.drop (k + 1)) _ _ x (by rw [List.length_drop, Hl.out]; try omega) _ (by omega) (strs_drop_any hl (by rw [Hl.out]; exact hnc) (by first | (left; rfl; done) | (right; left; rfl; done) | (right; left; simp [Addr.add]; done) | (right; right; assumption) | (right; right; rfl)))).mono ?_
          rw [hd]
          rintro e w' ⟨rfl, rfl⟩
          go_wp2_with fail
          go_ret2
          have hr := Hr.out
          rw [if_pos HM.out] at hr
          rw [← hr]
          exact ⟨rfl, rfl⟩
        · have HM := Lib.hid hm
          have hd : decide (x ∈ ls.drop (k + 1)) = false := decide_eq_false hm
          have hr := Hr.out
          rw [if_neg hm] at hr
          have Hr2 := Lib.hid hr
          clear hm hr
          go_wp2_with fail
          refine (contains_calls _ (ls.drop (k + 1)) _ _ x (by rw [List.length_drop, Hl.out]; try omega) _ (by omega) (strs_drop_any hl (by rw [Hl.out]; exact hnc) (by first | (left; rfl; done) | (right; left; rfl; done) | (right; left; simp [Addr.add]; done) | (right; right; assumption) | (right; right; rfl)))).mono ?_
          rw [hd]
          rintro e w' ⟨rfl, rfl⟩
          go_wp2_with fail
          go_round
          case rel => exact ⟨k + 1, by omega, by go_num, Hr2.out⟩
          case measure => simp [intOf]; omega
    · have e : k = n := by omega
      subst e
      rw [List.drop_eq_nil_of_le (by rw [Hl.out]; omega)] at hr
      have hr : R = none := hr.symm
      subst hr
      go_wp2_with fail
      go_ret2
      exact ⟨rfl, rfl⟩
end Go.Proofs.YtdmnphebkkfjmaaDoor
