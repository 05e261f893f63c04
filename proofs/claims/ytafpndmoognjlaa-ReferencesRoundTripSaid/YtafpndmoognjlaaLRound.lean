/- ReferencesRoundTrip: for every list of identities and every list of bools the law's call returns true and leaves its arguments as they were. No conditions. -/
import Derived.Test.YtafpndmoognjlaaPa3
import Derived.Test.YtafpndmoognjlaaPr2
import Derived.Test.YtafpndmoognjlaaWd
import Derived.Test.YtafpndmoognjlaaOpen
import Derived.Test.YtafpndmoognjlaaOpenBools
import Derived.Test.YtafpndmoognjlaaT4
import Derived.ShutString
namespace Go.Proofs.Ytafpndmoognjlaa.lawRound
open Go.ChangeShapes Go.WideShapes Go.ChangeAt Go.RowKit
set_option maxRecDepth 100000 in
set_option maxHeartbeats 1600000 in
theorem law_bad (A : Option Addr) (ls : List (List UInt8)) (c n : Nat) (hln : ls.length = n) (hnc : n ≤ c) (A2 : Option Addr) (n2 c2 : Nat) (w : World) (hl : Ids w A ls) (h1 : n ≤ 20) (h2 : n2 ≤ 40) (hE : chk ls ≠ 0) :
    Calls Try.prog 10 #[.slice A n c, .slice A2 n2 c2] w fun e w' => e = .returned (.bool true) ∧ Below w.heap.size w w' := by
  have Hl := Lib.hid hln
  have HP : Hid (prL ls = []) := Lib.hid (by unfold prL; rw [if_neg hE])
  obtain ⟨E, hEe⟩ : ∃ E, chk ls = E := ⟨_, rfl⟩
  rw [hEe] at hE
  have HE := Lib.hid hEe
  have hne : ((E : Int) != 0) = true := by rw [bne_iff_ne]; omega
  have h20 : ¬ (20 : Int) < n := by omega
  have h40 : ¬ (40 : Int) < n2 := by omega
  clear hln hEe hE
  go_enter Try.func10, Try.ntmps10
  go_wp2_with fail
  refine (known_calls _).mono ?_
  rintro e w2 ⟨rfl, hB2⟩
  go_wp2_with fail
  refine (own_calls A ls c n Hl.out (by omega) _ (hl.below hB2)).mono ?_
  rintro e w3 ⟨v3, rfl, hown3, hb3⟩
  obtain ⟨A3, c3, rfl, -, h53, h63, h73, -⟩ := Ids.of_own hown3 hl.len
  have hB3 := below_then hB2 (Nat.le_refl _) hb3
  go_wp2_with fail
  refine (print_calls A3 ls c3 n Hl.out h53 _ h73).mono ?_
  rw [HP.out, HE.out]
  rintro e w4 ⟨rfl, hb4⟩
  have hB4 := below_then hB3 (Nat.le_refl _) hb4
  go_wp2_with fail
  refine (own_calls A ls c n Hl.out (by omega) _ (hl.below hB4)).mono ?_
  rintro e w6 ⟨v6, rfl, hown6, hb6⟩
  obtain ⟨A6, c6, rfl, -, h56, h66, h76, -⟩ := Ids.of_own hown6 hl.len
  have hB6 := below_then hB4 (Nat.le_refl _) hb6
  go_wp2_with fail
  refine (check_calls A6 ls c6 n Hl.out _ h76).mono ?_
  rw [HE.out]
  rintro e w7 ⟨rfl, hb7⟩
  have hB7 := below_then hB6 (Nat.le_refl _) hb7
  go_wp2
  go_ret
  exact ⟨rfl, hB7⟩
set_option maxRecDepth 100000 in
set_option maxHeartbeats 1600000 in
theorem law_good (A : Option Addr) (ls : List (List UInt8)) (c n : Nat) (hln : ls.length = n) (hnc : n ≤ c) (A2 : Option Addr) (n2 c2 : Nat) (B : Nat → Bool) (w : World) (hl : Ids w A ls) (hbs : BoolsAt w A2 n2 B) (h1 : n ≤ 20) (h2 : n2 ≤ 40) (hE : chk ls = 0) :
    Calls Try.prog 10 #[.slice A n c, .slice A2 n2 c2] w fun e w' => e = .returned (.bool true) ∧ Below w.heap.size w w' := by
  have Hl := Lib.hid hln
  have hw0 := words_link ls
  have hp0 := parS_words hw0 hl.len hE
  have hSl := linkL_len ls hl.len n
  rw [List.take_of_length_le (by omega)] at hSl
  have HP : Hid (prL ls = linkL ls) := Lib.hid (by unfold prL; rw [if_pos hE])
  have HE := Lib.hid hE
  obtain ⟨S, hS⟩ : ∃ S, linkL ls = S := ⟨_, rfl⟩
  rw [hS] at hw0 hp0 hSl
  have HS := Lib.hid hS
  have Hw0 := Lib.hid hw0
  have Hp0 := Lib.hid hp0
  have h20 : ¬ (20 : Int) < n := by omega
  have h40 : ¬ (40 : Int) < n2 := by omega
  clear hln hE hS hw0 hp0
  go_enter Try.func10, Try.ntmps10
  go_wp2_with fail
  refine (known_calls _).mono ?_
  rintro e w2 ⟨rfl, hB2⟩
  go_wp2_with fail
  refine (own_calls A ls c n Hl.out (by omega) _ (hl.below hB2)).mono ?_
  rintro e w3 ⟨v3, rfl, hown3, hb3⟩
  obtain ⟨A3, c3, rfl, -, h53, h63, h73, -⟩ := Ids.of_own hown3 hl.len
  have hB3 := below_then hB2 (Nat.le_refl _) hb3
  go_wp2_with fail
  refine (print_calls A3 ls c3 n Hl.out h53 _ h73).mono ?_
  rw [HP.out, HE.out, HS.out, show ((0 : Nat) : Int) = 0 from rfl]
  rintro e w4 ⟨rfl, hb4⟩
  have hB4 := below_then hB3 (Nat.le_refl _) hb4
  have hbs4 := hbs.below hB4
  have hl4 := hl.below hB4
  clear hB2 hb3 hB3 hb4 hown3 h73 hbs
  go_wp2_with fail
  go_loop [7, 8, 9] (fun mv nv iv => ∃ (i nn : Nat) (M : List UInt8), i ≤ S.length ∧ nn ≤ n2 ∧ runW M = runW (S.take i) ∧ M.length ≤ i + nn ∧ mv = .string (str M) ∧ nv = .int .i64 nn ∧ iv = .int .i64 i) (fun _ _ iv => S.length - (intOf iv).toNat)
  case atStart => exact ⟨0, 0, [], Nat.zero_le _, Nat.zero_le _, rfl, by simp, rfl, rfl, rfl⟩
  case round =>
    obtain ⟨i, nn, M, hi, hnn, hrun, hM, rfl, rfl, rfl⟩ := hrel
    by_cases hlt : i < S.length
    · obtain ⟨x, hx⟩ := get_le hlt
      have bx := byteAt_of hx
      have hsub : (S.drop i).take 1 = [x] := by
        rw [List.drop_eq_getElem_cons hlt]
        rw [List.getElem?_eq_getElem hlt] at hx
        injection hx with hx
        rw [hx]; rfl
      have hrun1 : runW (M ++ [x]) = runW (S.take (i + 1)) := by rw [take_succ_at hx, run_snoc, run_snoc, hrun]
      have i1 : (i : Int) < S.length := by omega
      have i2 : ((i : Int) + 1) ≤ S.length := by omega
      have Hrun := Lib.hid hrun1
      clear hx hrun hrun1
      go_wp2_with fail
      go_loop [7, 8] (fun mv nv => ∃ (nn' : Nat) (M' : List UInt8), nn' ≤ n2 ∧ runW M' = runW (S.take (i + 1)) ∧ M'.length ≤ i + 1 + nn' ∧ mv = .string (str M') ∧ nv = .int .i64 nn') (fun _ nv => n2 - (intOf nv).toNat)
      case atStart => exact ⟨nn, M ++ [x], hnn, Hrun.out, by simp; omega, rfl, rfl⟩
      case round =>
        obtain ⟨nn', M', hn', hr', hM', rfl, rfl⟩ := hrel
        have Hr' := Lib.hid hr'
        clear hr'
        by_cases hx : x = 32
        · have hx32 : ((x.toNat : Int) == 32) = true := by rw [hx]; rfl
          have Hx : Hid (blankB x = true) := Lib.hid (by rw [hx]; decide)
          clear hx
          by_cases hn2 : nn' < n2
          · obtain ⟨ad, rfl, hcb⟩ := hbs4 nn' hn2
            cases hB : B nn' with
            | true =>
              rw [hB] at hcb
              have Hr2 : Hid (runW (M' ++ [9]) = runW (S.take (i + 1))) := Lib.hid (by rw [run_snoc, Hr'.out, ← Hrun.out, run_snoc]; exact stp_twice _ (Hx.out) (by decide))
              by_cases h3 : (nn' + 1) % 3 = 0
              · have h3' : (((nn' : Int) + 1) % 3 == 0) = true := by rw [beq_iff_eq]; omega
                clear h3
                go_wp2_with fail
                go_round
                case rel => exact ⟨i + 1, nn' + 1, M' ++ [9], by omega, by omega, Hr2.out, by simp; omega, rfl, by go_num, by go_num⟩
                case measure => simp [intOf]; omega
              · have h3' : (((nn' : Int) + 1) % 3 == 0) = false := by rw [beq_eq_false_iff_ne]; omega
                clear h3
                go_wp2_with fail
                go_round
                case rel => exact ⟨nn' + 1, M' ++ [9], by omega, Hr2.out, by simp; omega, rfl, by go_num⟩
                case measure => simp [intOf]; omega
            | false =>
              rw [hB] at hcb
              have Hr2 : Hid (runW (M' ++ [32]) = runW (S.take (i + 1))) := Lib.hid (by rw [run_snoc, Hr'.out, ← Hrun.out, run_snoc]; exact stp_twice _ (Hx.out) (by decide))
              by_cases h3 : (nn' + 1) % 3 = 0
              · have h3' : (((nn' : Int) + 1) % 3 == 0) = true := by rw [beq_iff_eq]; omega
                clear h3
                go_wp2_with fail
                go_round
                case rel => exact ⟨i + 1, nn' + 1, M' ++ [32], by omega, by omega, Hr2.out, by simp; omega, rfl, by go_num, by go_num⟩
                case measure => simp [intOf]; omega
              · have h3' : (((nn' : Int) + 1) % 3 == 0) = false := by rw [beq_eq_false_iff_ne]; omega
                clear h3
                go_wp2_with fail
                go_round
                case rel => exact ⟨nn' + 1, M' ++ [32], by omega, Hr2.out, by simp; omega, rfl, by go_num⟩
                case measure => simp [intOf]; omega
          · go_wp2_with fail
            go_round
            case rel => exact ⟨i + 1, nn', M', by omega, hn', Hr'.out, by omega, rfl, rfl, by go_num⟩
            case measure => simp [intOf]; omega
        · have hx32 : ((x.toNat : Int) == 32) = false := by
            rw [beq_eq_false_iff_ne]; intro h; exact hx (UInt8.toNat_inj.1 (by rw [show (32 : UInt8).toNat = 32 from rfl]; omega))
          clear hx
          go_wp2_with fail
          go_round
          case rel => exact ⟨i + 1, nn', M', by omega, hn', Hr'.out, by omega, rfl, rfl, by go_num⟩
          case measure => simp [intOf]; omega
    · have e : i = S.length := by omega
      subst e
      rw [List.take_length] at hrun
      have hw := words_around hrun
      rw [Hw0.out] at hw
      have hp2 := parS_words hw hl.len HE.out
      rw [show [32] ++ M ++ [9] = 32 :: (M ++ [9]) from by simp] at hp2
      have Hp2 := Lib.hid hp2
      clear hw hp2 hrun
      go_wp2_with fail
      refine (parse_calls S (by omega) _).mono ?_
      rw [Hp0.out]
      rintro e w5 ⟨A5, n5, c5, rfl, hn5, hc5, hm5, hI5, hb5⟩
      have hB5 := below_then hB4 (Nat.le_refl _) hb5
      have Hn5 := Lib.hid hn5
      clear hn5
      go_wp2_with fail
      refine (parse_calls (32 :: (M ++ [9])) (by simp; omega) _).mono ?_
      rw [Hp2.out]
      rintro e w6 ⟨A6, n6, c6, rfl, hn6, hc6, hm6, hI6, hb6⟩
      have hB6 := below_then hB5 (Nat.le_refl _) hb6
      have Hn6 := Lib.hid hn6
      clear hn6
      go_wp2_with fail
      refine (same_calls A5 A ls ls c5 c n5 n Hn5.out Hl.out (by have h5 := Hn5.out; have h6 := Hl.out; omega) _ (hI5.below hb6) (hl.below hB6)).mono ?_
      rw [decide_eq_true (rfl : ls = ls)]
      rintro e w7 ⟨rfl, q, rfl⟩
      go_wp2_with fail
      refine (same_calls A6 A ls ls c6 c n6 n Hn6.out Hl.out (by have h5 := Hn6.out; have h6 := Hl.out; omega) _ (hI6.drewN q) ((hl.below hB6).drewN q)).mono ?_
      rw [decide_eq_true (rfl : ls = ls)]
      rintro e w8 ⟨rfl, q2, rfl⟩
      go_wp2
      go_ret
      exact ⟨rfl, hB6.trans (below_drewN0 _ _ _)⟩
theorem law_all (A : Option Addr) (ls : List (List UInt8)) (c n : Nat) (hln : ls.length = n) (hnc : n ≤ c) (A2 : Option Addr) (n2 c2 : Nat) (B : Nat → Bool) (w : World) (hl : Ids w A ls) (hbs : BoolsAt w A2 n2 B) :
    Calls Try.prog 10 #[.slice A n c, .slice A2 n2 c2] w fun e w' => e = .returned (.bool true) ∧ Below w.heap.size w w' := by
  by_cases h1 : 20 < n
  · have h20 : (20 : Int) < n := by omega
    go_enter Try.func10, Try.ntmps10
    go_wp2_with fail
    refine (known_calls _).mono ?_
    rintro e w2 ⟨rfl, hb2⟩
    go_wp2_with fail
    refine (known_calls _).mono ?_
    rintro e w3 ⟨rfl, hb3⟩
    go_wp2
    go_ret
    exact ⟨rfl, hb2.trans (hb3.mono hb2.size)⟩
  · have h20 : ¬ (20 : Int) < n := by omega
    by_cases h2 : 40 < n2
    · have h40 : (40 : Int) < n2 := by omega
      go_enter Try.func10, Try.ntmps10
      go_wp2_with fail
      refine (known_calls _).mono ?_
      rintro e w2 ⟨rfl, hb2⟩
      go_wp2_with fail
      refine (known_calls _).mono ?_
      rintro e w3 ⟨rfl, hb3⟩
      go_wp2
      go_ret
      exact ⟨rfl, hb2.trans (hb3.mono hb2.size)⟩
    · by_cases hE : chk ls = 0
      · exact law_good A ls c n hln hnc A2 n2 c2 B w hl hbs (by omega) (by omega) hE
      · exact law_bad A ls c n hln hnc A2 n2 c2 w hl (by omega) (by omega) hE
theorem own : ownKnob Try.prog.godebug = none := by kernel_rfl
theorem laidOut : laidOutB Try.prog = true := by kernel_rfl
set_option maxRecDepth 100000 in
theorem lifted (os : Os) (started : os.Started) (H : Type) (enc : TypeId × Value → H) :
    ReturnsInHanded {} Try.checked os 10 .any (Rows.referencesRoundTripSpec.pre6 enc Try.prog Try.f10 Rows.referencesRoundTripRow.domain false) (Rows.referencesRoundTripSpec.post enc Try.prog Try.f10 false true false false) := by
  refine returnsInHanded_of_change (C := Try.checked) own started (by kernel_rfl) Try.func10
    (ChangeSpec.witness6 (enc := enc) (C := Try.checked) false ⟨#[], #[.slice none 0 0, .slice none 0 0], []⟩ 8 (by kernel_rfl) (by kernel_rfl) (by kernel_rfl) (by kernel_rfl)) ?_
  intro W base args ds gs before hval0 hW hcnd _
  have hval : ∀ (j : Nat) t v, Try.f10.params[j]? = some t → args[j]? = some v → Value.okWide Try.prog W .any base t v := hval0
  have hW' := hW
  obtain ⟨p, q, hA0, hV, rfl, hfz, hnd⟩ := hW
  have hA : DataW.TrodAll enc Try.prog W 0 (fun _ => true) true Try.f10.params.toList args.toList ds p := hA0
  rw [Try.params10] at hA hval
  obtain ⟨v0, vs0, d0, ds0, p0, q0, hargs, rfl, rfl, h0, r0⟩ := trodAll_cons hA
  obtain ⟨v1, vs1, d1, ds1, p1, q1, rfl, rfl, rfl, h1, r1⟩ := trodAll_cons r0
  obtain ⟨rfl, rfl, rfl⟩ := trodAll_nil r1
  obtain rfl : args = #[v0, v1] := by cases args; simp_all
  obtain ⟨rfl, rfl⟩ := trodVars_none hV
  have k0 := h0
  have lt0 : ∀ x ∈ p0, x.block < W.heap.size := by obtain ⟨m, hm⟩ := k0; exact DataW.trod_lt m _ _ _ hm
  have k1 := h1
  have lt1 : ∀ x ∈ p1, x.block < W.heap.size := by obtain ⟨m, hm⟩ := k1; exact DataW.trod_lt m _ _ _ hm
  obtain ⟨A0, n0, c0, ls0, rfl, hls0, hnc0, hc0, hI0⟩ := open_ids (e := 38) Try.underlying22 (by kernel_rfl) (hval 0 22 v0 rfl rfl) h0
  obtain ⟨A1, n1, c1, B1, rfl, hnc1, hc1, hI1⟩ := open_bools_d (e := 4) Try.underlying61 Try.underlying4 (by kernel_rfl) (hval 1 61 v1 rfl rfl) h1
  clear hA0 hval0
  refine (law_all A0 ls0 c0 n0 hls0 hnc0 A1 n1 c1 B1 W hI0 hI1).mono fun e W' ⟨he, bel⟩ => ?_
  subst he
  exact ⟨_, rfl, _, _, _, [], _, [], hW', trodAll_mk1 (shut_bool Try.underlying4 _), (trodAll_cons_mk (Below.trod laidOut (by kernel_rfl) (of_decide_eq_true (by kernel_rfl)) k0 bel lt0) (trodAll_cons_mk (Below.trod laidOut (by kernel_rfl) (of_decide_eq_true (by kernel_rfl)) k1 bel lt1) trodAll_mk0)), rfl, bel.frame _, fun h => by cases h⟩
theorem proved : Rows.ReferencesRoundTripSaid :=
  OpenClaim.holds_of_wide 10 Try.f10 rfl rfl rfl rfl rfl rfl rfl ⟨rfl, rfl, rfl, rfl, rfl⟩ rfl rfl rfl rfl rfl (by kernel_rfl) Try.func10 (by kernel_rfl)
    (of_decide_eq_true (by kernel_rfl)) (by unfold Func.isWrapper; first | (rw [if_pos (by decide +kernel)]; kernel_rfl) | (rw [if_neg (by decide +kernel)]; exact ⟨rfl, rfl⟩))
    (fun os started H enc _ => lifted os started H enc)
end Go.Proofs.Ytafpndmoognjlaa.lawRound
