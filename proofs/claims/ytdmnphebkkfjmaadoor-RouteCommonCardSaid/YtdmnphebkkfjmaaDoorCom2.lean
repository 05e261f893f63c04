/- Common of the reference, walked. -/
import Derived.Test.YtdmnphebkkfjmaaDoorCom
namespace Go.Proofs.YtdmnphebkkfjmaaDoor
open Go.ChangeShapes Go.WideShapes Go.ChangeAt Go.RowKit
set_option maxRecDepth 100000 in
set_option maxHeartbeats 1600000 in
theorem fcommon_calls (A B : Option Addr) (a b : List (List UInt8)) (n m c d : Nat) (hla : a.length = n) (hlb : b.length = m) (hn : n ≤ 100) (hm : m ≤ 100) (hnc : n ≤ c) (w : World) (ha : Strs w A a) (hb : Strs w B b) :
    Calls Tryd.prog 26 #[.slice A n c, .slice B m d] w fun e w' => ∃ v, e = .returned v ∧ w'.ownsRow w.heap.size 9 1 v (comS a b).length (strsV (comS a b)) ∧ Below w.heap.size w w' := by
  have Ha := Lib.hid hla; have Hb := Lib.hid hlb
  obtain ⟨i0, hi0, hz0, hz1, hz2⟩ := info_parts info_str
  obtain ⟨N, hN⟩ : ∃ N, comN a b = N := ⟨_, rfl⟩
  have hNn : N ≤ n := by rw [← hN]; unfold comN; have := comP_le a.reverse b.reverse; rw [List.length_reverse] at this; omega
  have hC : comS a b = a.drop (n - N) := by unfold comS; rw [hN, hla]
  have hCl : (comS a b).length = N := by rw [hC, List.length_drop]; omega
  have HC := Lib.hid hC; have HCl := Lib.hid hCl
  have HN : Hid (comP (a.reverse.drop 0) (b.reverse.drop 0) + 0 = N) := Lib.hid (by simpa [comN] using hN)
  rw [HCl.out, HC.out]
  clear hla hlb hN hC hCl
  go_enter Tryd.func26, Tryd.ntmps26
  go_wp2_with fail
  go_loopw [5] (fun i wr => ∃ k : Nat, k ≤ n ∧ k ≤ m ∧ i = .int .i64 k ∧ comP (a.reverse.drop k) (b.reverse.drop k) + k = N ∧ ∃ q, wr = w.drewN q) (fun i _ => n - (intOf i).toNat)
  case atStart => exact ⟨0, Nat.zero_le _, Nat.zero_le _, rfl, HN.out, 0, rfl⟩
  case round =>
    obtain ⟨k, hk, hkm, rfl, hr, q, rfl⟩ := hrel
    have Hr := Lib.hid hr
    clear hr
    by_cases h1 : k < n
    · by_cases h2 : k < m
      · obtain ⟨x, hx⟩ : ∃ x, a[n - 1 - k]? = some x := ⟨_, List.getElem?_eq_getElem (by rw [Ha.out]; omega)⟩
        obtain ⟨y, hy⟩ : ∃ y, b[m - 1 - k]? = some y := ⟨_, List.getElem?_eq_getElem (by rw [Hb.out]; omega)⟩
        obtain ⟨ad, rfl, hA⟩ := strs_at ha hx
        obtain ⟨bd, rfl, hB⟩ := strs_at hb hy
        have e1 := rev_drop Ha.out h1 hx
        have e2 := rev_drop Hb.out h2 hy
        have hr := Hr.out
        rw [e1, e2, comP] at hr
        have i1 : (k : Int) < n := by omega
        have i2 : (k : Int) < m := by omega
        have s1 : IntKind.i64.wrap ((n : Int) - 1) = (n : Int) - 1 := IntWalk.i64_in _ (by omega)
        have s2 : IntKind.i64.wrap ((n : Int) - 1 - k) = (n : Int) - 1 - k := IntWalk.i64_in _ (by omega)
        have s3 : IntKind.i64.wrap ((m : Int) - 1) = (m : Int) - 1 := IntWalk.i64_in _ (by omega)
        have s4 : IntKind.i64.wrap ((m : Int) - 1 - k) = (m : Int) - 1 - k := IntWalk.i64_in _ (by omega)
        have p1 : (0 : Int) ≤ (n : Int) - 1 - k := by omega
        have p2 : (n : Int) - 1 - k < n := by omega
        have p3 : (0 : Int) ≤ (m : Int) - 1 - k := by omega
        have p4 : (m : Int) - 1 - k < m := by omega
        have n1 : ((n : Int) - 1 - k).toNat = n - 1 - k := by omega
        have n2 : ((m : Int) - 1 - k).toNat = m - 1 - k := by omega
        clear hx hy e1 e2
        by_cases he : x = y
        · rw [if_pos he] at hr
          have Hr2 := Lib.hid hr
          have hq : (x == y) = true := by simpa using he
          clear hr he
          go_wp2_with fail
          refine wp_region_quiet_lit (by kernel_rfl) (by kernel_rfl) ?_
          repeat (go_big_quiet_step (fail))
          refine wpQuiet_nil ?_
          intro _ hw'
          obtain ⟨nq, hw''⟩ := hw'
          subst hw''
          go_wp2_with fail
          go_roundw
          case rel => exact ⟨k + 1, by omega, by omega, by go_num, by have := Hr2.out; omega, q + nq, rfl⟩
          case measure => simp [intOf]; omega
        · rw [if_neg he] at hr
          have Hr2 := Lib.hid (show k = N by omega)
          have hq : (x == y) = false := by simpa using he
          clear hr he
          go_wp2_with fail
          refine wp_region_quiet_lit (by kernel_rfl) (by kernel_rfl) ?_
          repeat (go_big_quiet_step (fail))
          refine wpQuiet_nil ?_
          intro _ hw'
          obtain ⟨nq, hw''⟩ := hw'
          subst hw''
          have hkN := Hr2.out
          subst hkN
          have hown0 := own_new (w.drewN (q + nq)) w.heap.size (Nat.le_refl _) [] 9 0 1 rfl (by unfold maxLen; omega)
          have t1 : True := trivial
          go_wp2_with (have _t := t1; at_builtin; go_must (refine wpList_append_row _ rfl _ _ 22 rfl w.heap.size 9 i0 (.string .empty) 1 16 Tryd.underlying22 hi0 hz0 hz1 hz2 rfl (by decide) _ _ _ rfl hown0 _ (n - (n - k)) _ (strsV (a.drop (n - k))) rfl (by rw [strsV_len, List.length_drop, Ha.out, Nat.mul_one]) (Row.alloc (strs_q (strs_drop_any ha (by rw [Ha.out]; exact hnc) (by first | (left; rfl; done) | (right; left; rfl; done) | (right; left; simp [Addr.add]; done) | (right; right; assumption) | (right; right; rfl)))) _) (strsV_one _) (by unfold maxLen; omega) (by omega) (by simp) ?_); intro v' w1 hown1 hgrow _; clear t1)
          all_goals (
            go_ret
            rw [Nat.zero_add, show n - (n - k) = k by omega] at hown1
            exact ⟨_, rfl, hown1, (below_drewN0 w _ _).trans (((Below.refl _ _).alloc (Nat.le_refl _) _).grown hgrow (by simp) (fun k hk => (hown0.lt k hk).1))⟩)
      · have hr : k = N := by
          have := Hr.out
          rw [show b.reverse.drop k = [] from List.drop_eq_nil_of_le (by rw [List.length_reverse, Hb.out]; omega), comP_nil] at this
          omega
        have Hr2 := Lib.hid hr
        have i1 : (k : Int) < n := by omega
        have i2 : ¬ (k : Int) < m := by omega
        clear hr
        go_wp2_with fail
        refine wp_region_quiet_lit (by kernel_rfl) (by kernel_rfl) ?_
        repeat (go_big_quiet_step (fail))
        refine wpQuiet_nil ?_
        intro _ hw'
        obtain ⟨nq, hw''⟩ := hw'
        subst hw''
        have hkN := Hr2.out
        subst hkN
        have hown0 := own_new (w.drewN (q + nq)) w.heap.size (Nat.le_refl _) [] 9 0 1 rfl (by unfold maxLen; omega)
        have t1 : True := trivial
        go_wp2_with (have _t := t1; at_builtin; go_must (refine wpList_append_row _ rfl _ _ 22 rfl w.heap.size 9 i0 (.string .empty) 1 16 Tryd.underlying22 hi0 hz0 hz1 hz2 rfl (by decide) _ _ _ rfl hown0 _ (n - (n - k)) _ (strsV (a.drop (n - k))) rfl (by rw [strsV_len, List.length_drop, Ha.out, Nat.mul_one]) (Row.alloc (strs_q (strs_drop_any ha (by rw [Ha.out]; exact hnc) (by first | (left; rfl; done) | (right; left; rfl; done) | (right; left; simp [Addr.add]; done) | (right; right; assumption) | (right; right; rfl)))) _) (strsV_one _) (by unfold maxLen; omega) (by omega) (by simp) ?_); intro v' w1 hown1 hgrow _; clear t1)
        all_goals (
          go_ret
          rw [Nat.zero_add, show n - (n - k) = k by omega] at hown1
          exact ⟨_, rfl, hown1, (below_drewN0 w _ _).trans (((Below.refl _ _).alloc (Nat.le_refl _) _).grown hgrow (by simp) (fun k hk => (hown0.lt k hk).1))⟩)
    · have hr : k = N := by
        have := Hr.out
        rw [show a.reverse.drop k = [] from List.drop_eq_nil_of_le (by rw [List.length_reverse, Ha.out]; omega)] at this
        simp only [comP] at this
        omega
      have Hr2 := Lib.hid hr
      have i1 : ¬ (k : Int) < n := by omega
      clear hr
      go_wp2_with fail
      refine wp_region_quiet_lit (by kernel_rfl) (by kernel_rfl) ?_
      repeat (go_big_quiet_step (fail))
      refine wpQuiet_nil ?_
      intro _ hw'
      obtain ⟨nq, hw''⟩ := hw'
      subst hw''
      have hkN := Hr2.out
      subst hkN
      have hown0 := own_new (w.drewN (q + nq)) w.heap.size (Nat.le_refl _) [] 9 0 1 rfl (by unfold maxLen; omega)
      have t1 : True := trivial
      go_wp2_with (have _t := t1; at_builtin; go_must (refine wpList_append_row _ rfl _ _ 22 rfl w.heap.size 9 i0 (.string .empty) 1 16 Tryd.underlying22 hi0 hz0 hz1 hz2 rfl (by decide) _ _ _ rfl hown0 _ (n - (n - k)) _ (strsV (a.drop (n - k))) rfl (by rw [strsV_len, List.length_drop, Ha.out, Nat.mul_one]) (Row.alloc (strs_q (strs_drop_any ha (by rw [Ha.out]; exact hnc) (by first | (left; rfl; done) | (right; left; rfl; done) | (right; left; simp [Addr.add]; done) | (right; right; assumption) | (right; right; rfl)))) _) (strsV_one _) (by unfold maxLen; omega) (by omega) (by simp) ?_); intro v' w1 hown1 hgrow _; clear t1)
      all_goals (
        go_ret
        rw [Nat.zero_add, show n - (n - k) = k by omega] at hown1
        exact ⟨_, rfl, hown1, (below_drewN0 w _ _).trans (((Below.refl _ _).alloc (Nat.le_refl _) _).grown hgrow (by simp) (fun k hk => (hown0.lt k hk).1))⟩)
end Go.Proofs.YtdmnphebkkfjmaaDoor
