/- ReferencesTrim returns true: its walk, in two cases by the length of the list; no other conditions. -/
import Derived.Test.YtafpndmoognjlaaT4
namespace Go.Proofs.Ytafpndmoognjlaa
open Go.ChangeShapes Go.WideShapes Go.ChangeAt Go.RowKit

theorem trimPost_ok {e : Ending} {w w' : World} {ls : List (List UInt8)} {m : Int} (h : TrimPost e w w' ls m) (h0 : trimE ls.length m = 0) :
    ∃ A c, e = .returned (.tuple #[.slice A (cut ls m.toNat).length c, .int .i64 0]) ∧ (cut ls m.toNat).length ≤ c ∧ c ≤ maxLen ∧ Ids w' A (cut ls m.toNat) ∧ Below w.heap.size w w' := by
  obtain ⟨A, c, n, he, hn, h1, h2, h3, h4⟩ := h
  rw [h0, if_pos rfl] at h3
  rw [h0, if_pos rfl] at hn
  subst hn
  rw [h0] at he
  exact ⟨A, c, he, h1, h2, h3, h4⟩
theorem trimPost_no {e : Ending} {w w' : World} {ls : List (List UInt8)} {m : Int} (h : TrimPost e w w' ls m) (h0 : trimE ls.length m = 2) :
    ∃ A c, e = .returned (.tuple #[.slice A 0 c, .int .i64 2]) ∧ c ≤ maxLen ∧ Below w.heap.size w w' := by
  obtain ⟨A, c, n, he, hn, h1, h2, h3, h4⟩ := h
  rw [h0, if_neg (by omega)] at hn
  have : n = 0 := hn
  subst this
  rw [h0] at he
  exact ⟨A, c, he, h2, h4⟩

theorem cut_length (ls : List (List UInt8)) (m : Nat) (h1 : 1 ≤ m) : (cut ls m).length = min ls.length m := by
  unfold cut
  split
  · omega
  · split
    · rw [List.length_drop]; omega
    · rw [List.length_append, List.length_take, List.length_drop]; omega
theorem cut_cut (ls : List (List UInt8)) (m k : Nat) (h1 : 1 ≤ k) (h2 : k ≤ m) : cut (cut ls m) k = cut ls k := by
  by_cases h : ls.length ≤ m
  · rw [show cut ls m = ls from by unfold cut; rw [if_pos h]]
  · have hl := cut_length ls m (by omega)
    by_cases hk : m ≤ k
    · have : m = k := by omega
      subst this
      rw [show cut (cut ls m) m = cut ls m from by rw [cut, if_pos (by omega)]]
    · have hl' : (cut ls m).length = m := by omega
      have e1 : cut ls m = ls.take 1 ++ ls.drop (ls.length - m + 1) := by rw [cut, if_neg h, if_neg (by omega)]
      have l1 : (ls.take 1).length = 1 := by rw [List.length_take]; omega
      have e2 : cut ls k = if k = 1 then ls.drop (ls.length - 1) else ls.take 1 ++ ls.drop (ls.length - k + 1) := by rw [cut, if_neg (by omega)]
      have ed : ∀ j, (cut ls m).drop (j + 1) = ls.drop (ls.length - m + 1 + j) := by
        intro j
        rw [e1, List.drop_append, l1, List.drop_eq_nil_of_le (by omega), List.nil_append, List.drop_drop, show j + 1 - 1 = j from by omega]
      have et : (cut ls m).take 1 = ls.take 1 := by rw [e1, List.take_append_of_le_length (by omega), List.take_take]; rfl
      rw [e2]
      generalize cut ls m = t at hl' ed et
      have e0 : cut t k = if k = 1 then t.drop (m - 1) else t.take 1 ++ t.drop (m - k + 1) := by
        rw [cut, if_neg (by omega), hl']
      rw [e0]
      by_cases hk1 : k = 1
      · rw [if_pos hk1, if_pos hk1, show m - 1 = (m - 2) + 1 from by omega, ed]
        congr 1
        omega
      · rw [if_neg hk1, if_neg hk1, ed, et]
        congr 2
        omega

set_option maxHeartbeats 400000 in
theorem law_long (A : Option Addr) (c n : Nat) (m k : Int) (hn : 60 < n) (w : World) :
    Calls Try.prog 3 #[.slice A n c, .int .i64 m, .int .i64 k] w fun e w' => e = .returned (.bool true) ∧ Below w.heap.size w w' := by
  have h60 : (60 : Int) < n := by omega
  go_enter Try.func3, Try.ntmps3
  go_wp2_with fail
  refine (known_calls _).mono ?_
  rintro e w1 ⟨rfl, hb1⟩
  go_wp2_with fail
  refine (known_calls _).mono ?_
  rintro e w2 ⟨rfl, hb2⟩
  go_wp2
  go_ret
  exact ⟨rfl, hb1.trans (hb2.mono hb1.size)⟩
set_option maxRecDepth 100000 in
set_option maxHeartbeats 1000000 in
theorem law_main (A : Option Addr) (ls : List (List UInt8)) (c n : Nat) (m k : Int) (hln : ls.length = n) (hn : n ≤ 60) (hnc : n ≤ c) (w : World) (hl : Ids w A ls) :
    Calls Try.prog 3 #[.slice A n c, .int .i64 m, .int .i64 k] w fun e w' => e = .returned (.bool true) ∧ Below w.heap.size w w' := by
  have Hl := Lib.hid hln
  have h60 : ¬ (60 : Int) < n := by omega
  by_cases hE : trimE n m = 0
  · have hm1 : 1 ≤ m ∧ m ≤ 20 := by
      unfold trimE at hE
      split at hE
      · cases hE
      · omega
    obtain ⟨m, rfl⟩ := Int.eq_ofNat_of_zero_le (show 0 ≤ m by omega)
    have hm : 1 ≤ m ∧ m ≤ 20 := by omega
    clear hm1
    have HE : Hid (trimE ls.length m = 0) := Lib.hid (by rw [hln]; exact hE)
    have hlc := cut_length ls m hm.1
    clear hE
    by_cases hk : 1 ≤ k ∧ k ≤ m
    · obtain ⟨k, rfl⟩ := Int.eq_ofNat_of_zero_le (show 0 ≤ k by omega)
      have hkm : 1 ≤ k ∧ k ≤ m := by omega
      clear hk
      have hcc := Lib.hid (cut_cut ls m k hkm.1 hkm.2)
      have hlck := cut_length ls k hkm.1
      have HEk : Hid (trimE ls.length k = 0) := Lib.hid (by unfold trimE; rw [if_neg (by omega), if_neg (by omega)])
      have HEc : Hid (trimE (cut ls m).length k = 0) := Lib.hid (by unfold trimE; rw [if_neg (by omega), if_neg (by omega)])
      have Hlc : Hid ((cut ls m).length = min ls.length m) := Lib.hid hlc
      have hlcb : (cut ls m).length ≤ 60 := by omega
      have hlkb : (cut ls k).length ≤ 60 := by omega
      have Hlk := Lib.hid hlck
      clear hlc hln hlck
      go_enter Try.func3, Try.ntmps3
      go_wp2_with fail
      refine (known_calls _).mono ?_
      rintro e w1 ⟨rfl, hb1⟩
      go_wp2_with fail
      refine (own_calls A ls c n Hl.out (by omega) _ (hl.below hb1)).mono ?_
      rintro e w2 ⟨v, rfl, hown, hb2⟩
      obtain ⟨A2, c2, rfl, -, h5, h6, h7, -⟩ := Ids.of_own hown hl.len
      go_wp2_with fail
      refine (trimX_calls A2 ls c2 n m Hl.out (by omega) h5 h6 _ h7).mono ?_
      intro e w3 h3
      obtain ⟨A3, c3, rfl, hlc3, hc3, hI3, hb3⟩ := trimPost_ok h3 HE.out
      have hb13 := (hb1.trans (hb2.mono hb1.size)).trans (hb3.mono (by have := hb1.size; have := hb2.size; omega))
      clear h3
      rw [show (m : Int).toNat = m from rfl] at hlc3 hI3 ⊢
      go_wp2_with fail
      refine (rtrim_calls A ls c n m Hl.out (by omega) hnc _ (hl.below hb13)).mono ?_
      intro e w4 h4
      obtain ⟨A4, c4, rfl, -, -, hI4, hb4⟩ := trimPost_ok h4 HE.out
      have hb14 := hb13.trans (hb4.mono hb13.size)
      clear h4
      go_wp2_with fail
      refine (same_calls A3 A4 (cut ls m) (cut ls m) c3 c4 _ _ rfl rfl (by omega) _ (hI3.below hb4) hI4).mono ?_
      rw [decide_eq_true (rfl : cut ls m = cut ls m)]
      rintro e w5 ⟨rfl, q, rfl⟩
      have hb15 := hb14.trans (below_drewN w4 q _)
      go_wp2_with fail
      refine (trimX_calls A3 (cut ls m) c3 _ k rfl (by omega) hlc3 hc3 _ ((hI3.below hb4).drewN q)).mono ?_
      intro e w6 h6'
      obtain ⟨A6, c6, rfl, -, -, hI6, hb6⟩ := trimPost_ok h6' HEc.out
      have hb16 := hb15.trans (hb6.mono hb15.size)
      clear h6'
      rw [show (k : Int).toNat = k from rfl, hcc.out] at hI6 ⊢
      go_wp2_with fail
      refine (own_calls A ls c n Hl.out (by omega) _ (hl.below hb16)).mono ?_
      rintro e w7 ⟨v, rfl, hown, hb7⟩
      obtain ⟨A7, c7, rfl, -, h57, h67, h77, -⟩ := Ids.of_own hown hl.len
      have hb17 := hb16.trans (hb7.mono hb16.size)
      go_wp2_with fail
      refine (trimX_calls A7 ls c7 n k Hl.out (by omega) h57 h67 _ h77).mono ?_
      intro e w8 h8
      obtain ⟨A8, c8, rfl, -, -, hI8, hb8⟩ := trimPost_ok h8 HEk.out
      have hb18 := hb17.trans (hb8.mono hb17.size)
      clear h8
      have hI68 := (hI6.below hb7).below hb8
      rw [show (k : Int).toNat = k from rfl] at hI8 ⊢
      clear h7 hI3 hI4 hI6 h77 hl hb1 hb2 hb3 hb4 hb6 hb7 hb8 hb13 hb14 hb15 hb16 hb17
      have hlen32 := hI8.len
      have Hn : Hid ((cut ls k).length = (cut ls k).length) := Lib.hid rfl
      generalize hcg : cut ls k = cs at hI8 hI68 hlkb Hn ⊢
      generalize hng : cs.length = p at hlkb Hn ⊢
      have Hp := Lib.hid hng
      clear hcg hng
      have hpp : ((p : Int) != (p : Int)) = false := by simp
      go_wp2
      go_loopw [15] (fun i wr => ∃ j : Nat, j ≤ p ∧ i = .int .i64 j ∧ ∃ q, wr = w8.drewN q) (fun i _ => p - (intOf i).toNat)
      case atStart => exact ⟨0, Nat.zero_le _, rfl, 0, rfl⟩
      case round =>
        obtain ⟨j, hj, rfl, q2, rfl⟩ := hrel
        by_cases hlt : j < p
        · obtain ⟨ad, x, rfl, hx, hx32, hA⟩ := hI68.at_ (k := j) (by rw [Hp.out]; exact hlt)
          obtain ⟨bd, y, rfl, hy, hy32, hB⟩ := hI8.at_ (k := j) (by rw [Hp.out]; exact hlt)
          obtain rfl : x = y := Option.some.inj (hx.symm.trans hy)
          clear hx hy hy32
          go_wp2
          refine wp_region_quiet_lit (by kernel_rfl) (by kernel_rfl) ?_
          have hC : ∀ W : World, (∃ k, W = (w8.drewN q2).drewN k) → IdAt W (ad.add (j * 32)) x := by rintro W ⟨_, rfl⟩; exact (hA.drewN _).drewN _
          have hD : ∀ W : World, (∃ k, W = (w8.drewN q2).drewN k) → IdAt W (bd.add (j * 32)) x := by rintro W ⟨_, rfl⟩; exact (hB.drewN _).drewN _
          repeat (first | ((first | refine wpQuiet_load_id rfl _ _ rfl _ rfl _ (by kernel_rfl) hC ?_ | refine wpQuiet_load_id rfl _ _ rfl _ rfl _ (by kernel_rfl) hD ?_); simp only [Act.put, List.setIfInBounds_toArray, List.set_cons_succ, List.set_cons_zero]) | go_big_quiet_step (fail))
          refine wpQuiet_nil ?_
          intro _ hw'
          obtain ⟨nq, hw''⟩ := hw'
          subst hw''
          go_wp2
          go_roundw
          case rel => exact ⟨j + 1, by omega, by go_num, q2 + nq, rfl⟩
          case measure => simp [intOf]; omega
        · have e : j = p := by omega
          subst e
          go_wp2
          go_ret
          exact ⟨rfl, hb18.trans (below_drewN _ _ _)⟩
    · have Hlc : Hid ((cut ls m).length = min ls.length m) := Lib.hid hlc
      have hlcb : (cut ls m).length ≤ 60 := by omega
      clear hlc hln
      by_cases hk1 : k < 1
      all_goals
        go_enter Try.func3, Try.ntmps3
        go_wp2_with fail
        refine (known_calls _).mono ?_
        rintro e w1 ⟨rfl, hb1⟩
        go_wp2_with fail
        refine (own_calls A ls c n Hl.out (by omega) _ (hl.below hb1)).mono ?_
        rintro e w2 ⟨v, rfl, hown, hb2⟩
        obtain ⟨A2, c2, rfl, -, h5, h6, h7, -⟩ := Ids.of_own hown hl.len
        go_wp2_with fail
        refine (trimX_calls A2 ls c2 n m Hl.out (by omega) h5 h6 _ h7).mono ?_
        intro e w3 h3
        obtain ⟨A3, c3, rfl, -, -, hI3, hb3⟩ := trimPost_ok h3 HE.out
        have hb13 := (hb1.trans (hb2.mono hb1.size)).trans (hb3.mono (by have := hb1.size; have := hb2.size; omega))
        clear h3
        go_wp2_with fail
        refine (rtrim_calls A ls c n m Hl.out (by omega) hnc _ (hl.below hb13)).mono ?_
        intro e w4 h4
        obtain ⟨A4, c4, rfl, -, -, hI4, hb4⟩ := trimPost_ok h4 HE.out
        have hb14 := hb13.trans (hb4.mono hb13.size)
        clear h4
        go_wp2_with fail
        refine (same_calls A3 A4 (cut ls m) (cut ls m) c3 c4 _ _ rfl rfl (by omega) _ (hI3.below hb4) hI4).mono ?_
        rw [decide_eq_true (rfl : cut ls m = cut ls m)]
        rintro e w5 ⟨rfl, q, rfl⟩
        go_wp2
        go_ret
        exact ⟨rfl, hb14.trans (below_drewN _ _ _)⟩
  · have hE2 : trimE ls.length m = 2 := by
      unfold trimE at hE ⊢
      rw [hln]
      split at hE
      · rename_i hh; rw [if_pos hh]
      · rw [if_neg (by omega)] at hE; exact absurd rfl hE
    have HE := Lib.hid hE2; clear hE hE2 hln
    go_enter Try.func3, Try.ntmps3
    go_wp2_with fail
    refine (known_calls _).mono ?_
    rintro e w1 ⟨rfl, hb1⟩
    go_wp2_with fail
    refine (own_calls A ls c n Hl.out (by omega) _ (hl.below hb1)).mono ?_
    rintro e w2 ⟨v, rfl, hown, hb2⟩
    obtain ⟨A2, c2, rfl, -, h5, h6, h7, -⟩ := Ids.of_own hown hl.len
    go_wp2_with fail
    refine (trimX_calls A2 ls c2 n m Hl.out (by omega) h5 h6 _ h7).mono ?_
    intro e w3 h3
    obtain ⟨A3, c3, rfl, -, hb3⟩ := trimPost_no h3 HE.out
    have hb13 := (hb1.trans (hb2.mono hb1.size)).trans (hb3.mono (by have := hb1.size; have := hb2.size; omega))
    clear h3
    go_wp2_with fail
    refine (rtrim_calls A ls c n m Hl.out (by omega) hnc _ (hl.below hb13)).mono ?_
    intro e w4 h4
    obtain ⟨A4, c4, rfl, -, hb4⟩ := trimPost_no h4 HE.out
    have hb14 := hb13.trans (hb4.mono hb13.size)
    clear h4
    go_wp2_with fail
    refine (same_calls A3 A4 [] [] c3 c4 0 0 rfl rfl (by omega) _ (Ids.nil _ _) (Ids.nil _ _)).mono ?_
    rintro e w5 ⟨rfl, q, rfl⟩
    go_wp2
    go_ret
    exact ⟨rfl, hb14.trans (below_drewN _ _ _)⟩
end Go.Proofs.Ytafpndmoognjlaa
