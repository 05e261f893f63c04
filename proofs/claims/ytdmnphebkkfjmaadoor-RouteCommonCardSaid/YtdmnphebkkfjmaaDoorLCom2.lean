/- The law RouteCommon: for every two lists, the common end agrees with the reference, does not depend on the order, and is the whole route for a route and itself. -/
import Derived.Test.YtdmnphebkkfjmaaDoorLCom
namespace Go.Proofs.YtdmnphebkkfjmaaDoor.lawCom
open Go Go.ChangeShapes Go.WideShapes Go.ChangeAt Go.RowKit Go.Deep Go.ChangeMaps
theorem comS_len (a b : List (List UInt8)) : (comS a b).length ≤ a.length := by unfold comS; simp
set_option maxRecDepth 100000 in
set_option maxHeartbeats 3200000 in
theorem law_all (A B : Option Addr) (n c n' c' : Nat) (ls ms : List (List UInt8)) (hln : ls.length = n) (hmn : ms.length = n') (w : World) (hl : Strs w A ls) (hms : Strs w B ms) (h : w.ShapedOpen Tryd.prog) :
    Calls Tryd.prog 8 #[.slice A n c, .slice B n' c'] w fun e w' => e = .returned (.bool true) ∧ Below w.heap.size w w' := by
  obtain ⟨m, hm⟩ := lawLoops.maxlen h
  obtain ⟨r, hr⟩ : ∃ r, cutS ls = r := ⟨_, rfl⟩
  obtain ⟨k, hk⟩ : ∃ k, r.length = k := ⟨_, rfl⟩
  obtain ⟨s, hs⟩ : ∃ r, cutS ms = r := ⟨_, rfl⟩
  obtain ⟨j, hj⟩ : ∃ k, s.length = k := ⟨_, rfl⟩
  obtain ⟨C, hC⟩ : ∃ C, comS r s = C := ⟨_, rfl⟩
  obtain ⟨l, hlC⟩ : ∃ l, C.length = l := ⟨_, rfl⟩
  have hk60 : k ≤ 60 := by rw [← hk, ← hr]; exact lawLoops.cut_len60 ls
  have hj60 : j ≤ 60 := by rw [← hj, ← hs]; exact lawLoops.cut_len60 ms
  have hl60 : l ≤ 60 := by rw [← hlC, ← hC]; have := comS_len r s; omega
  have HC2 : Hid (comS s r = C) := Lib.hid (by rw [comS_comm, hC])
  have HC3 : Hid (comS r r = r) := Lib.hid (comS_self r)
  have Hm := Lib.hid hm; have Hr := Lib.hid hr; have Hk := Lib.hid hk; have Hs := Lib.hid hs; have Hj := Lib.hid hj; have HC := Lib.hid hC; have HlC := Lib.hid hlC
  have Hln := Lib.hid hln; have Hmn := Lib.hid hmn
  have HSa : Hid (Strs w A ls) := Lib.hid hl; have HSb : Hid (Strs w B ms) := Lib.hid hms
  have HB : Hid (Below w.heap.size w w) := Lib.hid (Below.refl _ _)
  clear hm hr hk hs hj hC hlC h hln hmn hl hms
  go_enter Tryd.func8, Tryd.ntmps8
  have tt1 : True := trivial
  go_wp2_with (first
    | (have _t := tt1; clear _t; go_at_call 15; refine (cut_calls A ls n c Hln.out _ HSa.out).mono ?_; rw [Hr.out, Hk.out]; rintro e w1 ⟨v, rfl, hown, hB⟩; obtain ⟨A1, c1, rfl, -, hkc1, -, hs, -⟩ := strs_own hown; replace HSa := Lib.hid (Row.below HSa.out hB); replace HSb := Lib.hid (Row.below HSb.out hB); replace HB := Lib.hid (below_then HB.out (Nat.le_refl _) hB); have HS1 := Lib.hid hs; clear hown hs hB; clear tt1; have tt2 : True := trivial)
    | (have _t := tt2; clear _t; go_at_call 15; refine (cut_calls B ms n' c' Hmn.out _ HSb.out).mono ?_; rw [Hs.out, Hj.out]; rintro e w2 ⟨v, rfl, hown, hB⟩; obtain ⟨A2, c2, rfl, -, hkc2, -, hs, -⟩ := strs_own hown; replace HSa := Lib.hid (Row.below HSa.out hB); replace HSb := Lib.hid (Row.below HSb.out hB); replace HS1 := Lib.hid (Row.below HS1.out hB); replace HB := Lib.hid (below_then HB.out (Nat.le_refl _) hB); have HS2 := Lib.hid hs; clear hown hs hB; clear tt2; have tt3 : True := trivial)
    | (have _t := tt3; clear _t; go_at_call 25; refine (common_calls A1 A2 r s k j c1 c2 Hk.out Hj.out (by omega) (by omega) hkc1 _ HS1.out HS2.out).mono ?_; rw [HC.out, HlC.out]; rintro e w3 ⟨v, rfl, hown, hB⟩; obtain ⟨A3, c3, rfl, -, hkc3, -, hs, -⟩ := strs_own hown; replace HSa := Lib.hid (Row.below HSa.out hB); replace HSb := Lib.hid (Row.below HSb.out hB); replace HS1 := Lib.hid (Row.below HS1.out hB); replace HS2 := Lib.hid (Row.below HS2.out hB); replace HB := Lib.hid (below_then HB.out (Nat.le_refl _) hB); have HS3 := Lib.hid hs; clear hown hs hB; clear tt3; have tt4 : True := trivial)
    | (have _t := tt4; clear _t; go_at_call 12; refine (known_calls m _ (below_at Hm.out HB.out)).mono ?_; rintro e w4 ⟨rfl, hB⟩; replace HSa := Lib.hid (Row.below HSa.out hB); replace HSb := Lib.hid (Row.below HSb.out hB); replace HS1 := Lib.hid (Row.below HS1.out hB); replace HS2 := Lib.hid (Row.below HS2.out hB); replace HS3 := Lib.hid (Row.below HS3.out hB); replace HB := Lib.hid (below_then HB.out (Nat.le_refl _) hB); clear hB; clear tt4; have tt5 : True := trivial)
    | (have _t := tt5; clear _t; go_at_call 26; refine (fcommon_calls A1 A2 r s k j c1 c2 Hk.out Hj.out (by omega) (by omega) hkc1 _ HS1.out HS2.out).mono ?_; rw [HC.out, HlC.out]; rintro e w5 ⟨v, rfl, hown, hB⟩; obtain ⟨A5, c5, rfl, -, hkc5, -, hs, -⟩ := strs_own hown; replace HSa := Lib.hid (Row.below HSa.out hB); replace HSb := Lib.hid (Row.below HSb.out hB); replace HS1 := Lib.hid (Row.below HS1.out hB); replace HS2 := Lib.hid (Row.below HS2.out hB); replace HS3 := Lib.hid (Row.below HS3.out hB); replace HB := Lib.hid (below_then HB.out (Nat.le_refl _) hB); have HS5 := Lib.hid hs; clear hown hs hB; clear tt5; have tt6 : True := trivial)
    | (have _t := tt6; clear _t; go_at_call 13; refine (ssame_refl A3 A5 C c3 c5 l HlC.out (by omega) _ HS3.out HS5.out).mono ?_; rintro e w6 ⟨rfl, hw⟩; have hB := below_of_drew hw; clear hw; replace HSa := Lib.hid (Row.below HSa.out hB); replace HSb := Lib.hid (Row.below HSb.out hB); replace HS1 := Lib.hid (Row.below HS1.out hB); replace HS2 := Lib.hid (Row.below HS2.out hB); replace HS3 := Lib.hid (Row.below HS3.out hB); replace HS5 := Lib.hid (Row.below HS5.out hB); replace HB := Lib.hid (below_then HB.out (Nat.le_refl _) hB); clear hB; clear tt6; have tt7 : True := trivial)
    | (have _t := tt7; clear _t; go_at_call 25; refine (common_calls A2 A1 s r j k c2 c1 Hj.out Hk.out (by omega) (by omega) hkc2 _ HS2.out HS1.out).mono ?_; rw [HC2.out, HlC.out]; rintro e w7 ⟨v, rfl, hown, hB⟩; obtain ⟨A6, c6, rfl, -, hkc6, -, hs, -⟩ := strs_own hown; replace HSa := Lib.hid (Row.below HSa.out hB); replace HSb := Lib.hid (Row.below HSb.out hB); replace HS1 := Lib.hid (Row.below HS1.out hB); replace HS2 := Lib.hid (Row.below HS2.out hB); replace HS3 := Lib.hid (Row.below HS3.out hB); replace HS5 := Lib.hid (Row.below HS5.out hB); replace HB := Lib.hid (below_then HB.out (Nat.le_refl _) hB); have HS6 := Lib.hid hs; clear hown hs hB; clear tt7; have tt8 : True := trivial)
    | (have _t := tt8; clear _t; go_at_call 13; refine (ssame_refl A6 A3 C c6 c3 l HlC.out (by omega) _ HS6.out HS3.out).mono ?_; rintro e w8 ⟨rfl, hw⟩; have hB := below_of_drew hw; clear hw; replace HSa := Lib.hid (Row.below HSa.out hB); replace HSb := Lib.hid (Row.below HSb.out hB); replace HS1 := Lib.hid (Row.below HS1.out hB); replace HS2 := Lib.hid (Row.below HS2.out hB); replace HS3 := Lib.hid (Row.below HS3.out hB); replace HS5 := Lib.hid (Row.below HS5.out hB); replace HS6 := Lib.hid (Row.below HS6.out hB); replace HB := Lib.hid (below_then HB.out (Nat.le_refl _) hB); clear hB; clear tt8; have tt9 : True := trivial)
    | (have _t := tt9; clear _t; go_at_call 25; refine (common_calls A1 A1 r r k k c1 c1 Hk.out Hk.out (by omega) (by omega) hkc1 _ HS1.out HS1.out).mono ?_; rw [HC3.out, Hk.out]; rintro e w9 ⟨v, rfl, hown, hB⟩; obtain ⟨A7, c7, rfl, -, hkc7, -, hs, -⟩ := strs_own hown; replace HSa := Lib.hid (Row.below HSa.out hB); replace HSb := Lib.hid (Row.below HSb.out hB); replace HS1 := Lib.hid (Row.below HS1.out hB); replace HS2 := Lib.hid (Row.below HS2.out hB); replace HS3 := Lib.hid (Row.below HS3.out hB); replace HS5 := Lib.hid (Row.below HS5.out hB); replace HS6 := Lib.hid (Row.below HS6.out hB); replace HB := Lib.hid (below_then HB.out (Nat.le_refl _) hB); have HS7 := Lib.hid hs; clear hown hs hB; clear tt9; have tt10 : True := trivial)
    | (have _t := tt10; clear _t; go_at_call 13; refine (ssame_refl A7 A1 r c7 c1 k Hk.out (by omega) _ HS7.out HS1.out).mono ?_; rintro e w10 ⟨rfl, hw⟩; have hB := below_of_drew hw; clear hw; replace HSa := Lib.hid (Row.below HSa.out hB); replace HSb := Lib.hid (Row.below HSb.out hB); replace HS1 := Lib.hid (Row.below HS1.out hB); replace HS2 := Lib.hid (Row.below HS2.out hB); replace HS3 := Lib.hid (Row.below HS3.out hB); replace HS5 := Lib.hid (Row.below HS5.out hB); replace HS6 := Lib.hid (Row.below HS6.out hB); replace HS7 := Lib.hid (Row.below HS7.out hB); replace HB := Lib.hid (below_then HB.out (Nat.le_refl _) hB); clear hB; clear tt10; have tt11 : True := trivial))
  go_ret
  exact ⟨by simp, HB.out⟩
theorem own : ownKnob Tryd.prog.godebug = none := by kernel_rfl
theorem laidOut : laidOutB Tryd.prog = true := by kernel_rfl
def laidL : List (String × DataW Unit) := [("unicode/utf8.acceptRanges", Rows.laid_unicode_utf8_acceptRanges), ("unicode/utf8.first", Rows.laid_unicode_utf8_first)]
set_option maxRecDepth 100000 in
theorem lifted (os : Os) (started : os.Started) (H : Type) (enc : TypeId × Value → H) :
    ReturnsInHanded {} Tryd.checked os 8 .any (fun w args => (Rows.routeCommonSpec.pre enc Tryd.prog Tryd.f8 [] false w args ∧ laidMetH Tryd.prog laidL w) ∧ sizedMet enc Tryd.prog Tryd.f8 (OpenSpec.ofChange Rows.routeCommonSpec) false w args) (Rows.routeCommonSpec.post enc Tryd.prog Tryd.f8 false true false false) := by
  refine returns_tied (C := Tryd.checked) (X := fun w _ => laidMetH Tryd.prog laidL w) (fun _ _ _ hh h => h.of_heap hh) own started (by kernel_rfl) Tryd.func8
    (ChangeSpec.witness_shaped (enc := enc) (C := Tryd.checked) (os := os) (X := fun w _ => laidMetH Tryd.prog laidL w) false (World.laidAll Tryd.prog os laidL) #[.slice none 0 0, .slice none 0 0] 8 (World.laidAll_os _ _ _)
      (World.shaped_of_ZipB (by kernel_rfl) (by kernel_rfl)) (by kernel_rfl) (by kernel_rfl) (by kernel_rfl)
      (by rw [MakeChecks.laidMetH_plain _ _ _ (by kernel_rfl)]; exact laidMet_laidAll _ (by kernel_rfl) (by kernel_rfl))) ?_
  intro W base args ds gs before hval0 hW hcnd _ hL hsh _
  have hval : ∀ (j : Nat) t v, Tryd.f8.params[j]? = some t → args[j]? = some v → Value.okWide Tryd.prog W .any base t v := hval0
  have hW' := hW
  obtain ⟨p, q, hA0, hV, rfl, hfz, hnd⟩ := hW
  have hA : DataW.TrodAll enc Tryd.prog W 0 (fun _ => true) true Tryd.f8.params.toList args.toList ds p := hA0
  rw [Tryd.params8] at hA hval
  obtain ⟨v0, vs0, d0, ds0, p0, q0, hargs, rfl, rfl, h0, r0⟩ := trodAll_cons hA
  obtain ⟨v1, vs1, d1, ds1, p1, q1, rfl, rfl, rfl, h1, r1⟩ := trodAll_cons r0
  obtain ⟨rfl, rfl, rfl⟩ := trodAll_nil r1
  obtain rfl : args = #[v0, v1] := by cases args; simp_all
  obtain ⟨rfl, rfl⟩ := trodVars_none hV
  have k0 := h0
  have lt0 : ∀ x ∈ p0, x.block < W.heap.size := by obtain ⟨m, hm⟩ := k0; exact DataW.trod_lt m _ _ _ hm
  have k1 := h1
  have lt1 : ∀ x ∈ p1, x.block < W.heap.size := by obtain ⟨m, hm⟩ := k1; exact DataW.trod_lt m _ _ _ hm
  obtain ⟨A0, n0, c0, ls0, rfl, hls0, hnc0, hc0, hI0, hd0⟩ := open_strs_d (e := 9) Tryd.underlying22 Tryd.underlying9 (by kernel_rfl) (hval 0 22 v0 rfl rfl) h0
  obtain ⟨A1, n1, c1, ls1, rfl, hls1, hnc1, hc1, hI1, hd1⟩ := open_strs_d (e := 9) Tryd.underlying22 Tryd.underlying9 (by kernel_rfl) (hval 1 22 v1 rfl rfl) h1
  clear hA0 hval0
  refine (law_all A0 A1 n0 c0 n1 c1 ls0 ls1 hls0 hls1 W hI0 hI1 hsh).mono fun e W' ⟨he, bel⟩ => ?_
  subst he
  exact ⟨_, rfl, _, _, _, [], _, [], hW', trodAll_mk1 (shut_bool Tryd.underlying4 _), (trodAll_cons_mk (Below.trod laidOut (by kernel_rfl) (of_decide_eq_true (by kernel_rfl)) k0 bel lt0) (trodAll_cons_mk (Below.trod laidOut (by kernel_rfl) (of_decide_eq_true (by kernel_rfl)) k1 bel lt1) trodAll_mk0)), rfl, bel.frame _, fun h => by cases h⟩
theorem bare : Rows.RouteCommonSaid :=
  OpenClaim.holds_of_wide 8 Tryd.f8 rfl rfl rfl rfl rfl rfl rfl ⟨rfl, rfl, rfl, rfl, rfl⟩ rfl rfl rfl rfl rfl (by kernel_rfl) Tryd.func8 (by kernel_rfl)
    (of_decide_eq_true (by kernel_rfl)) (by unfold Func.isWrapper; first | (rw [if_pos (by decide +kernel)]; kernel_rfl) | (rw [if_neg (by decide +kernel)]; exact ⟨rfl, rfl⟩))
    (fun os started H enc _ => lifted os started H enc)
theorem proved : Rows.RouteCommonCardSaid :=
  Claim7.holds_tied_plain_at .later [] [.data, .pinned] true (true, "8856bb8ec3b8f4f12783bf82ad44a4f2a1053028eaa4cb9d3c57b2c25d3d5669") false bare (fun _ h => by cases h) (by kernel_rfl) (fun _ h => by cases h) routeCommon_row_tie rfl ⟨rfl, rfl⟩ (by kernel_rfl) rfl
    (fun f fn hf hfn => by
      obtain rfl : f = 8 := Option.some.inj ((show Tryd.prog.funcNamed "bulletin/bulletinlaw16.RouteCommon" = some 8 by kernel_rfl).symm.trans hf) |>.symm
      obtain rfl : fn = Tryd.f8 := (Option.some.inj (Tryd.func8.symm.trans hfn)).symm
      exact ⟨by kernel_rfl, fun j t ht => by
        rw [Tryd.params8] at ht
        have hm : t ∈ [22, 22] := by simpa using Array.mem_of_getElem? ht
        have hall : ([22, 22].all fun u => !Tryd.prog.wantsStandIn u) = true := by kernel_rfl
        exact (show Tryd.prog.wantsStandIn t = false by simpa using List.all_eq_true.1 hall t hm)⟩)
    (by kernel_rfl)
end Go.Proofs.YtdmnphebkkfjmaaDoor.lawCom
