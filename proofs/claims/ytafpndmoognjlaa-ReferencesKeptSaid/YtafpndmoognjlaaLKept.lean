/- ReferencesKept: for every list of identities and any number the law's call returns true and leaves its arguments as they were. No conditions. -/
import Derived.Test.YtafpndmoognjlaaC2
import Derived.Test.YtafpndmoognjlaaOpen
import Derived.ShutString
namespace Go.Proofs.Ytafpndmoognjlaa.lawKept
open Go.ChangeShapes Go.WideShapes Go.ChangeAt Go.RowKit
set_option maxHeartbeats 400000 in
theorem law_bad (A : Option Addr) (ls : List (List UInt8)) (c n : Nat) (m : Int) (hln : ls.length = n) (hr : n * 32 ≤ 140737488351232) (w : World) (hl : Ids w A ls) (hE : chk ls ≠ 0) :
    Calls Try.prog 5 #[.slice A n c, .int .i64 m] w fun e w' => e = .returned (.bool true) ∧ Below w.heap.size w w' := by
  have Hl := Lib.hid hln
  have hne : ((chk ls : Int) != 0) = true := by rw [bne_iff_ne]; omega
  clear hln
  go_enter Try.func5, Try.ntmps5
  go_wp2_with fail
  refine (known_calls _).mono ?_
  rintro e w1 ⟨rfl, hb1⟩
  go_wp2_with fail
  refine (own_calls A ls c n Hl.out hr _ (hl.below hb1)).mono ?_
  rintro e w2 ⟨v, rfl, hown, hb2⟩
  obtain ⟨A2, c2, rfl, -, h5, h6, h7, -⟩ := Ids.of_own hown hl.len
  have hb12 := hb1.trans (hb2.mono hb1.size)
  go_wp2_with fail
  refine (check_calls A2 ls c2 n Hl.out _ h7).mono ?_
  rintro e w3 ⟨rfl, hb3⟩
  have hb13 := hb12.trans (hb3.mono hb12.size)
  go_wp2_with fail
  refine (known_calls _).mono ?_
  rintro e w4 ⟨rfl, hb4⟩
  go_wp2
  go_ret
  exact ⟨rfl, hb13.trans (hb4.mono hb13.size)⟩
set_option maxHeartbeats 1000000 in
theorem law_good (A : Option Addr) (ls : List (List UInt8)) (c n : Nat) (m : Int) (hln : ls.length = n) (hnc : n ≤ c) (w : World) (hl : Ids w A ls) (hE : chk ls = 0) :
    Calls Try.prog 5 #[.slice A n c, .int .i64 m] w fun e w' => e = .returned (.bool true) ∧ Below w.heap.size w w' := by
  have hn20 := (chk_zero.1 hE).1
  rw [hln] at hn20
  have HE := Lib.hid hE
  have Hl := Lib.hid hln
  clear hE
  by_cases hT : trimE n m = 0
  · have hm : 1 ≤ m ∧ m ≤ 20 := by
      unfold trimE at hT
      split at hT
      · cases hT
      · omega
    obtain ⟨m, rfl⟩ := Int.eq_ofNat_of_zero_le (show 0 ≤ m by omega)
    have hm : 1 ≤ m ∧ m ≤ 20 := by omega
    have HT : Hid (trimE ls.length m = 0) := Lib.hid (by rw [hln]; exact hT)
    have hlc := cut_length ls m hm.1
    have hcut0 := Lib.hid (chk_sub (cut_sub ls m hm.1) HE.out)
    have Hit := Lib.hid (isTr_cut ls m hm.1)
    have Hsame := Lib.hid (cut_same ls m hm.1)
    clear hT
    by_cases h0 : n = 0
    · subst h0
      have hcz : (cut ls m).length = 0 := by omega
      have Hcz := Lib.hid hcz
      clear hln hlc hcz
      go_enter Try.func5, Try.ntmps5
      go_wp2_with fail
      refine (known_calls _).mono ?_
      rintro e w1 ⟨rfl, hb1⟩
      go_wp2_with fail
      refine (own_calls A ls c 0 Hl.out (by omega) _ (hl.below hb1)).mono ?_
      rintro e w2 ⟨v, rfl, hown, hb2⟩
      obtain ⟨A2, c2, rfl, -, h5, h6, h7, -⟩ := Ids.of_own hown hl.len
      have hb12 := hb1.trans (hb2.mono hb1.size)
      go_wp2_with fail
      refine (check_calls A2 ls c2 0 Hl.out _ h7).mono ?_
      rw [HE.out, show ((0 : Nat) : Int) = 0 from rfl]
      rintro e w3 ⟨rfl, hb3⟩
      have hb13 := hb12.trans (hb3.mono hb12.size)
      go_wp2_with fail
      refine (own_calls A ls c 0 Hl.out (by omega) _ (hl.below hb13)).mono ?_
      rintro e w4 ⟨v, rfl, hown4, hb4⟩
      obtain ⟨A4, c4, rfl, -, h54, h64, h74, -⟩ := Ids.of_own hown4 hl.len
      have hb14 := hb13.trans (hb4.mono hb13.size)
      go_wp2_with fail
      refine (trimX_calls A4 ls c4 0 m Hl.out (by omega) h54 h64 _ h74).mono ?_
      intro e w5 h5'
      obtain ⟨A5, c5, rfl, -, -, hI5, hb5⟩ := trimPost_ok h5' HT.out
      have hb15 := hb14.trans (hb5.mono hb14.size)
      clear h5'
      rw [show (m : Int).toNat = m from rfl, Hcz.out]
      go_wp2
      go_ret
      exact ⟨rfl, hb15⟩
    · have hlcn : (cut ls m).length ≤ n := by omega
      have hn0 : ((n : Int) == 0) = false := by rw [beq_eq_false_iff_ne]; omega
      clear h0 hln hlc
      go_enter Try.func5, Try.ntmps5
      go_wp2_with fail
      refine (known_calls _).mono ?_
      rintro e w1 ⟨rfl, hb1⟩
      go_wp2_with fail
      refine (own_calls A ls c n Hl.out (by omega) _ (hl.below hb1)).mono ?_
      rintro e w2 ⟨v, rfl, hown, hb2⟩
      obtain ⟨A2, c2, rfl, -, h5, h6, h7, -⟩ := Ids.of_own hown hl.len
      have hb12 := hb1.trans (hb2.mono hb1.size)
      go_wp2_with fail
      refine (check_calls A2 ls c2 n Hl.out _ h7).mono ?_
      rw [HE.out, show ((0 : Nat) : Int) = 0 from rfl]
      rintro e w3 ⟨rfl, hb3⟩
      have hb13 := hb12.trans (hb3.mono hb12.size)
      go_wp2_with fail
      refine (own_calls A ls c n Hl.out (by omega) _ (hl.below hb13)).mono ?_
      rintro e w4 ⟨v, rfl, hown4, hb4⟩
      obtain ⟨A4, c4, rfl, -, h54, h64, h74, -⟩ := Ids.of_own hown4 hl.len
      have hb14 := hb13.trans (hb4.mono hb13.size)
      go_wp2_with fail
      refine (trimX_calls A4 ls c4 n m Hl.out (by omega) h54 h64 _ h74).mono ?_
      intro e w5 h5'
      obtain ⟨A5, c5, rfl, h55, h65, hI5, hb5⟩ := trimPost_ok h5' HT.out
      have hb15 := hb14.trans (hb5.mono hb14.size)
      clear h5'
      rw [show (m : Int).toNat = m from rfl] at h55 hI5 ⊢
      go_wp2_with fail
      refine (own_calls A ls c n Hl.out (by omega) _ (hl.below hb15)).mono ?_
      rintro e w6 ⟨v, rfl, hown6, hb6⟩
      obtain ⟨A6, c6, rfl, -, h56, h66, h76, -⟩ := Ids.of_own hown6 hl.len
      have hb16 := hb15.trans (hb6.mono hb15.size)
      go_wp2_with fail
      refine (merge_ok A5 A6 (cut ls m) ls c5 c6 _ n rfl Hl.out h55 h56 h65 h66 _ (hI5.below hb6) h76 hcut0.out HE.out Hit.out).mono ?_
      rintro e w7 ⟨v, rfl, hown7, hb7⟩
      have hsame : (if (cut ls m).length < n then ls else cut ls m) = ls := by
        split
        · rfl
        · rename_i h; exact Hsame.out (by rw [Hl.out]; exact h)
      rw [hsame, Hl.out] at hown7
      clear hsame
      obtain ⟨A7, c7, rfl, -, h57, h67, h77, -⟩ := Ids.of_own hown7 hl.len
      have hb17 := hb16.trans (hb7.mono hb16.size)
      go_wp2_with fail
      refine (own_calls A ls c n Hl.out (by omega) _ (hl.below hb17)).mono ?_
      rintro e w8 ⟨v, rfl, hown8, hb8⟩
      obtain ⟨A8, c8, rfl, -, h58, h68, h78, -⟩ := Ids.of_own hown8 hl.len
      have hb18 := hb17.trans (hb8.mono hb17.size)
      go_wp2_with fail
      refine (istrimmed_calls A5 A8 (cut ls m) ls c5 c8 _ n rfl Hl.out (by omega) (by omega) h58 h68 _ (((hI5.below hb6).below hb7).below hb8) h78).mono ?_
      rw [Hit.out]
      rintro e w9 ⟨rfl, hb9⟩
      have hb19 := hb18.trans (hb9.mono hb18.size)
      go_wp2_with fail
      refine (same_calls A7 A ls ls c7 c n n Hl.out Hl.out (by omega) _ ((h77.below hb8).below hb9) (hl.below hb19)).mono ?_
      rw [decide_eq_true (rfl : ls = ls)]
      rintro e w10 ⟨rfl, q, rfl⟩
      go_wp2
      go_ret
      exact ⟨rfl, hb19.trans (below_drewN _ _ _)⟩
  · have hT2 : trimE ls.length m = 2 := by
      unfold trimE at hT ⊢
      rw [hln]
      split at hT
      · rename_i hh; rw [if_pos hh]
      · rw [if_neg (by omega)] at hT; exact absurd rfl hT
    have HT := Lib.hid hT2
    clear hT hT2 hln
    go_enter Try.func5, Try.ntmps5
    go_wp2_with fail
    refine (known_calls _).mono ?_
    rintro e w1 ⟨rfl, hb1⟩
    go_wp2_with fail
    refine (own_calls A ls c n Hl.out (by omega) _ (hl.below hb1)).mono ?_
    rintro e w2 ⟨v, rfl, hown, hb2⟩
    obtain ⟨A2, c2, rfl, -, h5, h6, h7, -⟩ := Ids.of_own hown hl.len
    have hb12 := hb1.trans (hb2.mono hb1.size)
    go_wp2_with fail
    refine (check_calls A2 ls c2 n Hl.out _ h7).mono ?_
    rw [HE.out, show ((0 : Nat) : Int) = 0 from rfl]
    rintro e w3 ⟨rfl, hb3⟩
    have hb13 := hb12.trans (hb3.mono hb12.size)
    go_wp2_with fail
    refine (own_calls A ls c n Hl.out (by omega) _ (hl.below hb13)).mono ?_
    rintro e w4 ⟨v, rfl, hown4, hb4⟩
    obtain ⟨A4, c4, rfl, -, h54, h64, h74, -⟩ := Ids.of_own hown4 hl.len
    have hb14 := hb13.trans (hb4.mono hb13.size)
    go_wp2_with fail
    refine (trimX_calls A4 ls c4 n m Hl.out (by omega) h54 h64 _ h74).mono ?_
    intro e w5 h5'
    obtain ⟨A5, c5, rfl, -, hb5⟩ := trimPost_no h5' HT.out
    have hb15 := hb14.trans (hb5.mono hb14.size)
    clear h5'
    go_wp2
    go_ret
    exact ⟨rfl, hb15⟩
theorem law_all (A : Option Addr) (ls : List (List UInt8)) (c n : Nat) (m : Int) (hln : ls.length = n) (hr : n * 32 ≤ 140737488351232) (hnc : n ≤ c) (w : World) (hl : Ids w A ls) :
    Calls Try.prog 5 #[.slice A n c, .int .i64 m] w fun e w' => e = .returned (.bool true) ∧ Below w.heap.size w w' := by
  by_cases h : chk ls = 0
  · exact law_good A ls c n m hln hnc w hl h
  · exact law_bad A ls c n m hln hr w hl h
theorem own : ownKnob Try.prog.godebug = none := by kernel_rfl
theorem laidOut : laidOutB Try.prog = true := by kernel_rfl
set_option maxRecDepth 100000 in
theorem lifted (os : Os) (started : os.Started) (H : Type) (enc : TypeId × Value → H) :
    ReturnsInHanded {} Try.checked os 5 .any (Rows.referencesKeptSpec.pre6 enc Try.prog Try.f5 Rows.referencesKeptRow.domain false) (Rows.referencesKeptSpec.post enc Try.prog Try.f5 false true false false) := by
  refine returnsInHanded_of_change_sized (C := Try.checked) own started (by kernel_rfl) Try.func5
    (ChangeSpec.witness6 (enc := enc) (C := Try.checked) false ⟨#[], #[.slice none 0 0, .int .i64 0], []⟩ 8 (by kernel_rfl) (by kernel_rfl) (by kernel_rfl) (by kernel_rfl)) ?_
  intro W base args ds gs before hval0 hW hcnd hsz0 _
  have hval : ∀ (j : Nat) t v, Try.f5.params[j]? = some t → args[j]? = some v → Value.okWide Try.prog W .any base t v := hval0
  have hW' := hW
  obtain ⟨p, q, hA0, hV, rfl, hfz, hnd⟩ := hW
  have hA : DataW.TrodAll enc Try.prog W 0 (fun _ => true) true Try.f5.params.toList args.toList ds p := hA0
  have hsz : (DataW.weightsEach Try.prog (Try.f5.params.toList ++ Rows.referencesKeptSpec.plain.varTypes Try.prog) (ds ++ gs)).all (· ≤ reachBytes) = true := hsz0
  rw [Try.params5] at hA hval hsz
  obtain ⟨v0, vs0, d0, ds0, p0, q0, hargs, rfl, rfl, h0, r0⟩ := trodAll_cons hA
  obtain ⟨v1, vs1, d1, ds1, p1, q1, rfl, rfl, rfl, h1, r1⟩ := trodAll_cons r0
  obtain ⟨rfl, rfl, rfl⟩ := trodAll_nil r1
  obtain rfl : args = #[v0, v1] := by cases args; simp_all
  obtain ⟨rfl, rfl⟩ := trodVars_none hV
  have k0 := h0
  have lt0 : ∀ x ∈ p0, x.block < W.heap.size := by obtain ⟨m, hm⟩ := k0; exact DataW.trod_lt m _ _ _ hm
  have k1 := h1
  have lt1 : ∀ x ∈ p1, x.block < W.heap.size := by obtain ⟨m, hm⟩ := k1; exact DataW.trod_lt m _ _ _ hm
  obtain ⟨A0, n0, c0, ls0, rfl, hls0, hnc0, hc0, hI0, hd0⟩ := open_ids_d (e := 38) Try.underlying22 (by kernel_rfl) (hval 0 22 v0 rfl rfl) h0
  have hR0 := ids_reach hsz hd0 (j := 0) (t := 22) (e := 38) rfl rfl Try.underlying22 (by kernel_rfl)
  obtain ⟨a1, rfl, _, _, wf1⟩ := open_int Try.underlying3 (hval 1 3 v1 rfl rfl) h1
  clear hA0 hval0
  refine (law_all A0 ls0 c0 n0 a1 hls0 hR0 hnc0 W hI0).mono fun e W' ⟨he, bel⟩ => ?_
  subst he
  exact ⟨_, rfl, _, _, _, [], _, [], hW', trodAll_mk1 (shut_bool Try.underlying4 _), (trodAll_cons_mk (Below.trod laidOut (by kernel_rfl) (of_decide_eq_true (by kernel_rfl)) k0 bel lt0) (trodAll_cons_mk (Below.trod laidOut (by kernel_rfl) (of_decide_eq_true (by kernel_rfl)) k1 bel lt1) trodAll_mk0)), rfl, bel.frame _, fun h => by cases h⟩
theorem proved : Rows.ReferencesKeptSaid :=
  OpenClaim.holds_of_wide 5 Try.f5 rfl rfl rfl rfl rfl rfl rfl ⟨rfl, rfl, rfl, rfl, rfl⟩ rfl rfl rfl rfl rfl (by kernel_rfl) Try.func5 (by kernel_rfl)
    (of_decide_eq_true (by kernel_rfl)) (by unfold Func.isWrapper; first | (rw [if_pos (by decide +kernel)]; kernel_rfl) | (rw [if_neg (by decide +kernel)]; exact ⟨rfl, rfl⟩))
    (fun os started H enc _ => lifted os started H enc)
end Go.Proofs.Ytafpndmoognjlaa.lawKept
