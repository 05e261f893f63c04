/- Check, String and Text of routes, walked. -/
import Derived.Test.YtdmnphebkkfjmaaDoorStrs
import Derived.Test.YtdmnphebkkfjmaaDoorSite2
import Derived.Test.YtdmnphebkkfjmaaDoorShelf
import Derived.Lib.Join
namespace Go.Proofs.YtdmnphebkkfjmaaDoor
open Go.ChangeShapes Go.WideShapes Go.ChangeAt Go.RowKit
def chkFrom : List (List UInt8) → Nat
  | [] => 0
  | l :: t => if (siteS l).2 = 0 then chkFrom t else (siteS l).2
def chk (ls : List (List UInt8)) : Nat := if 50 < ls.length then 9 else chkFrom ls
theorem drop_at {α : Type} {l : List α} {k : Nat} {x : α} (h : l[k]? = some x) : l.drop k = x :: l.drop (k + 1) := by
  obtain ⟨h1, h2⟩ := List.getElem?_eq_some_iff.1 h
  rw [List.drop_eq_getElem_cons h1, h2]
set_option maxHeartbeats 400000 in
theorem rcheck_calls (A : Option Addr) (ls : List (List UInt8)) (n c : Nat) (hln : ls.length = n) (hnc : n ≤ c) (w : World) (hl : Strs w A ls) :
    Calls Tryd.prog 16 #[.slice A n c] w fun e w' => e = .returned (.int .i64 (chk ls)) ∧ w' = w := by
  by_cases h50 : 50 < n
  · have hE : Hid (chk ls = 9) := Lib.hid (by unfold chk; rw [if_pos (by omega)])
    rw [hE.out]
    have h50' : (50 : Int) < n := by omega
    go_enter Tryd.func16, Tryd.ntmps16
    go_wp2
    go_ret
    exact ⟨rfl, rfl⟩
  · have hE : Hid (chk ls = chkFrom ls) := Lib.hid (by unfold chk; rw [if_neg (by omega)])
    rw [hE.out]
    have Hl := Lib.hid hln
    have h50' : ¬ (50 : Int) < n := by omega
    generalize hcf : chkFrom ls = E
    have hCF := Lib.hid hcf
    clear hcf hln hE
    go_enter Tryd.func16, Tryd.ntmps16
    go_wp2_with fail
    go_loop [12] (fun i => ∃ k : Nat, k ≤ n ∧ i = .int .i64 k ∧ chkFrom (ls.drop k) = E) (fun i => n - (intOf i).toNat)
    case atStart => exact ⟨0, Nat.zero_le _, rfl, hCF.out⟩
    case round =>
      obtain ⟨k, hk, rfl, hcf⟩ := hrel
      by_cases hlt : k < n
      · obtain ⟨x, hx⟩ : ∃ x, ls[k]? = some x := ⟨_, List.getElem?_eq_getElem (by rw [Hl.out]; exact hlt)⟩
        obtain ⟨ad, rfl, hA⟩ := strs_at hl hx
        rw [drop_at hx, chkFrom] at hcf
        have hs := fun W => site_calls x W
        by_cases hz : (siteS x).2 = 0
        · rw [if_pos hz] at hcf
          rw [hz] at hs
          have Hcf := Lib.hid hcf
          have Hs := Lib.hid hs
          clear hcf hs hz hx
          go_wp2_with (go_at_call 28; refine (Hs.out _).mono ?_; rintro e w' ⟨rfl, rfl⟩)
          go_round
          case rel => exact ⟨k + 1, by omega, by go_num, Hcf.out⟩
          case measure => simp [intOf]; omega
        · rw [if_neg hz] at hcf
          rw [hcf] at hs hz
          have hne : ((E : Int) != 0) = true := by rw [bne_iff_ne]; omega
          have Hs := Lib.hid hs
          clear hcf hs hz hx hCF
          go_wp2_with (go_at_call 28; refine (Hs.out _).mono ?_; rintro e w' ⟨rfl, rfl⟩)
          go_ret
          exact ⟨rfl, rfl⟩
      · have e : k = n := by omega
        subst e
        rw [List.drop_eq_nil_of_le (by rw [Hl.out]; omega)] at hcf
        have : E = 0 := hcf.symm
        subst this
        clear hcf
        go_wp2
        go_ret
        exact ⟨rfl, rfl⟩
set_option maxHeartbeats 400000 in
theorem fcheck_calls (A : Option Addr) (ls : List (List UInt8)) (n c : Nat) (hln : ls.length = n) (hnc : n ≤ c) (w : World) (hl : Strs w A ls) :
    Calls Tryd.prog 17 #[.slice A n c] w fun e w' => e = .returned (.int .i64 (chk ls)) ∧ w' = w := by
  by_cases h50 : 50 < n
  · have hE : Hid (chk ls = 9) := Lib.hid (by unfold chk; rw [if_pos (by omega)])
    rw [hE.out]
    have h50' : (50 : Int) < n := by omega
    go_enter Tryd.func17, Tryd.ntmps17
    go_wp2
    go_ret
    exact ⟨rfl, rfl⟩
  · have hE : Hid (chk ls = chkFrom ls) := Lib.hid (by unfold chk; rw [if_neg (by omega)])
    rw [hE.out]
    have Hl := Lib.hid hln
    have h50' : ¬ (50 : Int) < n := by omega
    generalize hcf : chkFrom ls = E
    have hCF := Lib.hid hcf
    clear hcf hln hE
    go_enter Tryd.func17, Tryd.ntmps17
    go_wp2_with fail
    go_loop [3] (fun i => ∃ k : Nat, k ≤ n ∧ i = .int .i64 k ∧ chkFrom (ls.drop k) = E) (fun i => n - (intOf i).toNat)
    case atStart => exact ⟨0, Nat.zero_le _, rfl, hCF.out⟩
    case round =>
      obtain ⟨k, hk, rfl, hcf⟩ := hrel
      by_cases hlt : k < n
      · obtain ⟨x, hx⟩ : ∃ x, ls[k]? = some x := ⟨_, List.getElem?_eq_getElem (by rw [Hl.out]; exact hlt)⟩
        obtain ⟨ad, rfl, hA⟩ := strs_at hl hx
        rw [drop_at hx, chkFrom] at hcf
        have hs := fun W => rsite_calls x W
        by_cases hz : (siteS x).2 = 0
        · rw [if_pos hz] at hcf
          rw [hz] at hs
          have Hcf := Lib.hid hcf
          have Hs := Lib.hid hs
          clear hcf hs hz hx
          go_wp2_with (go_at_call 29; refine (Hs.out _).mono ?_; rintro e w' ⟨rfl, rfl⟩)
          go_round
          case rel => exact ⟨k + 1, by omega, by go_num, Hcf.out⟩
          case measure => simp [intOf]; omega
        · rw [if_neg hz] at hcf
          rw [hcf] at hs hz
          have hne : ((E : Int) != 0) = true := by rw [bne_iff_ne]; omega
          have Hs := Lib.hid hs
          clear hcf hs hz hx hCF
          go_wp2_with (go_at_call 29; refine (Hs.out _).mono ?_; rintro e w' ⟨rfl, rfl⟩)
          go_ret
          exact ⟨rfl, rfl⟩
      · have e : k = n := by omega
        subst e
        rw [List.drop_eq_nil_of_le (by rw [Hl.out]; omega)] at hcf
        have : E = 0 := hcf.symm
        subst this
        clear hcf
        go_wp2
        go_ret
        exact ⟨rfl, rfl⟩
/-- the text of a route -/
def linkL (ls : List (List UInt8)) : List UInt8 := Lib.join ls [33]
theorem join_snoc (xs : List (List UInt8)) (y sep : List UInt8) : Lib.join (xs ++ [y]) sep = (if xs = [] then [] else Lib.join xs sep ++ sep) ++ y := by
  cases xs with
  | nil => simp [Lib.join_one]
  | cons a r =>
    rw [if_neg (by simp), List.cons_append, Lib.join_cons, Lib.join_cons]
    unfold Lib.joinTail
    simp
theorem linkL_len (ls : List (List UInt8)) (B : Nat) (h : ∀ l ∈ ls, l.length ≤ B) : ∀ k, (linkL (ls.take k)).length ≤ (B + 1) * k
  | 0 => by simp [linkL, Lib.join_nil]
  | k + 1 => by
    have ih := linkL_len ls B h k
    rcases Nat.lt_or_ge k ls.length with hk | hk
    · rw [List.take_succ_eq_append_getElem hk]
      unfold linkL at *
      rw [join_snoc]
      have := h ls[k] (List.getElem_mem hk)
      rw [Nat.mul_succ]
      split <;> simp <;> omega
    · rw [List.take_of_length_le (by omega)] at ih ⊢
      rw [Nat.mul_succ]; omega
theorem string_calls (A : Option Addr) (ls : List (List UInt8)) (n c : Nat) (hln : ls.length = n) (hn : n ≤ 1000) (hnc : n ≤ c) (hB : ∀ l ∈ ls, l.length ≤ 100) (hA0 : n = 0 ∨ ∃ g, A = some ⟨g, 0, none⟩) (w : World) (hl : Strs w A ls) :
    Calls Tryd.prog 14 #[.slice A n c] w fun e w' => e = .returned (.string (str (linkL ls))) ∧ Below w.heap.size w w' := by
  by_cases h0 : n = 0
  · subst h0
    have hnil : linkL ls = [] := by rw [List.eq_nil_of_length_eq_zero hln]; rfl
    have Hnil := Lib.hid hnil
    clear hnil hln
    go_enter Tryd.func14, Tryd.ntmps14
    go_wp2_with (go_at_call 31; refine (Tryd.strings_Join_none _ _ _ _).mono ?_; rintro e w2 ⟨rfl, rfl⟩)
    go_ret
    exact ⟨by rw [Hnil.out]; rfl, Below.refl _ _⟩
  · have hlen := linkL_len ls 100 hB n
    rw [List.take_of_length_le (by omega)] at hlen
    obtain ⟨x, hx⟩ : ∃ x, ls[0]? = some x := ⟨_, List.getElem?_eq_getElem (by omega)⟩
    obtain ⟨g, rfl⟩ : ∃ g, A = some ⟨g, 0, none⟩ := hA0.resolve_left h0
    obtain ⟨ad, e, hA⟩ := strs_at hl hx
    injection e with e
    subst e
    have hcells : ∀ (j : Nat) y, (ls.map str)[j]? = some y → w.cell? ⟨g, 0 + j, none⟩ = some (.string y) := fun j y hy => by
      rw [List.getElem?_map, Option.map_eq_some_iff] at hy
      obtain ⟨l, h1, rfl⟩ := hy
      obtain ⟨ad', e, h2⟩ := strs_at hl h1
      injection e with e
      subst e
      rwa [Addr.add_mid] at h2
    have hlen5 : (ls.map str).length = n := by simp [hln]
    have hj : Lib.join ((ls.map str).map (·.data.toList)) (str [33]).data.toList = linkL ls := by
      unfold linkL
      congr 1
      rw [List.map_map]
      conv => rhs; rw [← List.map_id ls]
      exact List.map_congr_left (fun a _ => by simp [str])
    have hJ := Tryd.strings_Join g 0 c (ls.map str) (str [33]) w hcells (World.block_lt_of_cell? w _ hA) (by rw [hlen5]; omega) (by rw [hlen5]; exact hnc) (by rw [hj]; omega)
    rw [hlen5, hj] at hJ
    have HJ := Lib.hid hJ
    clear hcells hlen5 hj hJ hA0 hlen hx hln h0 hA
    go_enter Tryd.func14, Tryd.ntmps14
    go_wp2_with fail
    refine HJ.out.mono ?_
    rintro e w2 ⟨rfl, hb2⟩
    go_wp2
    go_ret
    exact ⟨rfl, hb2⟩
theorem linkL_snoc (ls : List (List UInt8)) (x : List UInt8) : linkL (ls ++ [x]) = (if ls = [] then [] else linkL ls ++ [33]) ++ x := join_snoc ls x [33]
set_option maxHeartbeats 400000 in
theorem text_calls (A : Option Addr) (ls : List (List UInt8)) (n c : Nat) (hln : ls.length = n) (hn : n ≤ 1000) (hnc : n ≤ c) (hB : ∀ l ∈ ls, l.length ≤ 100) (w : World) (hl : Strs w A ls) :
    Calls Tryd.prog 18 #[.slice A n c] w fun e w' => e = .returned (.string (str (linkL ls))) ∧ w' = w := by
  have Hl := Lib.hid hln
  have Hlen := Lib.hid (linkL_len ls 100 hB)
  have HB := Lib.hid hB
  clear hln hB
  go_enter Tryd.func18, Tryd.ntmps18
  go_wp2_with fail
  go_loop [3, 4] (fun s i => ∃ k : Nat, k ≤ n ∧ i = .int .i64 k ∧ s = .string (str (linkL (ls.take k)))) (fun _ i => n - (intOf i).toNat)
  case atStart => exact ⟨0, Nat.zero_le _, rfl, rfl⟩
  case round =>
    obtain ⟨k, hk, rfl, rfl⟩ := hrel
    by_cases hlt : k < n
    · obtain ⟨x, hx⟩ : ∃ x, ls[k]? = some x := ⟨_, List.getElem?_eq_getElem (by rw [Hl.out]; exact hlt)⟩
      obtain ⟨ad, rfl, hA⟩ := strs_at hl hx
      have Hs := Lib.hid (linkL_snoc (ls.take k) x)
      rw [← take_succ_at hx] at Hs
      have hlk : (linkL (ls.take k)).length ≤ 101 * k := Hlen.out k
      have hxl : x.length ≤ 100 := HB.out x (by obtain ⟨h1, h2⟩ := List.getElem?_eq_some_iff.1 hx; rw [← h2]; exact List.getElem_mem h1)
      clear hx
      by_cases h0 : 0 < k
      · have h0' : (0 : Int) < k := by omega
        go_wp2_with fail
        go_round
        case rel =>
          refine ⟨k + 1, by omega, by go_num, ?_⟩
          rw [Hs.out, if_neg (by intro h; have := congrArg List.length h; rw [List.length_take, Hl.out] at this; simp at this; omega)]
          try simp
        case measure => simp [intOf]; omega
      · have h00 : k = 0 := by omega
        subst h00
        have e0 : linkL [] = [] := rfl
        have hA' : w.cell? ad = some (.string (str x)) := hA
        go_wp2_with fail
        go_round
        case rel =>
          refine ⟨0 + 1, by omega, by go_num, ?_⟩
          rw [Hs.out, if_pos (by simp)]
          simp [e0]
        case measure => simp [intOf]; omega
    · have e : k = n := by omega
      subst e
      rw [List.take_of_length_le (by rw [Hl.out]; omega)]
      go_wp2
      go_ret
      exact ⟨rfl, rfl⟩
end Go.Proofs.YtdmnphebkkfjmaaDoor
