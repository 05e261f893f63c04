/- The law RouteChecks: for every list, Check and String agree with the reference, and Parse is the inverse of String for valid routes. -/
import Derived.Test.YtdmnphebkkfjmaaDoorLPl
namespace Go.Proofs.YtdmnphebkkfjmaaDoor.lawChk
open Go Go.ChangeShapes Go.WideShapes Go.ChangeAt Go.RowKit Go.Deep Go.ChangeMaps
set_option maxRecDepth 100000 in
set_option maxHeartbeats 3200000 in
theorem law_all (A : Option Addr) (n c : Nat) (ls : List (List UInt8)) (hln : ls.length = n) (w : World) (hl : Strs w A ls) (h : w.ShapedOpen Tryd.prog) :
    Calls Tryd.prog 4 #[.slice A n c] w fun e w' => e = .returned (.bool true) ∧ Below w.heap.size w w' := by
  obtain ⟨m, hm⟩ := lawLoops.maxlen h
  obtain ⟨r, hr⟩ : ∃ r, cutS ls = r := ⟨_, rfl⟩
  obtain ⟨k, hk⟩ : ∃ k, r.length = k := ⟨_, rfl⟩
  have hk60 : k ≤ 60 := by rw [← hk, ← hr]; exact lawLoops.cut_len60 ls
  obtain ⟨T, hT⟩ : ∃ T, linkL r = T := ⟨_, rfl⟩
  obtain ⟨e0, he0⟩ : ∃ e0, chk r = e0 := ⟨_, rfl⟩
  have H40 : Hid (∀ l ∈ r, l.length ≤ 100) := Lib.hid (by intro l hl; rw [← hr] at hl; have := cut_le ls l hl; omega)
  have HTl : Hid (T.length ≤ 100000) := Lib.hid (by have := link_len (ls := r) (n := 60) (B := 100) (by omega) H40.out; rw [hT] at this; omega)
  have Hm := Lib.hid hm; have Hr := Lib.hid hr; have Hk := Lib.hid hk; have HT := Lib.hid hT; have He := Lib.hid he0
  have Hln := Lib.hid hln
  have HSa : Hid (Strs w A ls) := Lib.hid hl
  have HB : Hid (Below w.heap.size w w) := Lib.hid (Below.refl _ _)
  by_cases hz : e0 = 0
  · have HP : Hid (parseS T = (r, 0, 0)) := Lib.hid (by rw [← hT]; exact parse_link (by rw [he0]; exact hz))
    subst hz
    clear hm hr hk hT he0 hln hl h
    go_enter Tryd.func4, Tryd.ntmps4
    have tt1 : True := trivial
    go_wp2_with (first
      | (have _t := tt1; clear _t; go_at_call 15; refine (cut_calls A ls n c Hln.out _ HSa.out).mono ?_; rw [Hr.out, Hk.out]; rintro e w1 ⟨v, rfl, hown, hB⟩; obtain ⟨A1, c1, rfl, -, hkc1, -, hs, -⟩ := strs_own hown; replace HSa := Lib.hid (Row.below HSa.out hB); replace HB := Lib.hid (below_then HB.out (Nat.le_refl _) hB); have HS1 := Lib.hid hs; have HO1 := Lib.hid (own_head hown); clear hown hs hB; clear tt1; have tt2 : True := trivial)
      | (have _t := tt2; clear _t; go_at_call 14; refine (string_calls A1 r k c1 Hk.out (by omega) hkc1 H40.out HO1.out _ HS1.out).mono ?_; rw [HT.out]; rintro e w2 ⟨rfl, hB⟩; replace HSa := Lib.hid (Row.below HSa.out hB); replace HS1 := Lib.hid (Row.below HS1.out hB); replace HB := Lib.hid (below_then HB.out (Nat.le_refl _) hB); clear hB; clear tt2; have tt3 : True := trivial)
      | (have _t := tt3; clear _t; go_at_call 16; refine (rcheck_calls A1 r k c1 Hk.out hkc1 _ HS1.out).mono ?_; rw [He.out]; rintro e w3 ⟨rfl, hw⟩; have hw2 := hw.symm; clear hw; subst hw2; clear tt3; have tt4 : True := trivial)
      | (have _t := tt4; clear _t; go_at_call 17; refine (fcheck_calls A1 r k c1 Hk.out hkc1 _ HS1.out).mono ?_; rw [He.out]; rintro e w4 ⟨rfl, hw⟩; have hw2 := hw.symm; clear hw; subst hw2; clear tt4; have tt5 : True := trivial)
      | (have _t := tt5; clear _t; go_at_call 18; refine (text_calls A1 r k c1 Hk.out (by omega) hkc1 H40.out _ HS1.out).mono ?_; rw [HT.out]; rintro e w5 ⟨rfl, hw⟩; have hw2 := hw.symm; clear hw; subst hw2; clear tt5; have tt6 : True := trivial)
      | (have _t := tt6; clear _t; go_at_call 16; refine (rcheck_calls A1 r k c1 Hk.out hkc1 _ HS1.out).mono ?_; rw [He.out]; rintro e w6 ⟨rfl, hw⟩; have hw2 := hw.symm; clear hw; subst hw2; clear tt6; have tt7 : True := trivial)
      | (have _t := tt7; clear _t; go_at_call 10; refine (parse_calls T HTl.out m _ (below_at Hm.out HB.out)).mono ?_; rw [HP.out]; rintro e w7 ⟨v, rfl, hown, hB⟩; simp only [Hk.out] at hown; obtain ⟨A2, c2, rfl, -, hkc2, -, hs, -⟩ := strs_own hown; replace HSa := Lib.hid (Row.below HSa.out hB); replace HS1 := Lib.hid (Row.below HS1.out hB); replace HB := Lib.hid (below_then HB.out (Nat.le_refl _) hB); have HS2 := Lib.hid hs; clear hown hs; clear hB; clear tt7; have tt8 : True := trivial)
      | (have _t := tt8; clear _t; go_at_call 12; refine (known_calls m _ (below_at Hm.out HB.out)).mono ?_; rintro e w8 ⟨rfl, hB⟩; replace HSa := Lib.hid (Row.below HSa.out hB); replace HS1 := Lib.hid (Row.below HS1.out hB); replace HS2 := Lib.hid (Row.below HS2.out hB); replace HB := Lib.hid (below_then HB.out (Nat.le_refl _) hB); clear hB; clear tt8; have tt9 : True := trivial)
      | (have _t := tt9; clear _t; go_at_call 13; refine (ssame_refl A2 A1 r c2 c1 k Hk.out (by omega) _ HS2.out HS1.out).mono ?_; rintro e w9 ⟨rfl, hw⟩; have hB := below_of_drew hw; clear hw; replace HSa := Lib.hid (Row.below HSa.out hB); replace HS1 := Lib.hid (Row.below HS1.out hB); replace HS2 := Lib.hid (Row.below HS2.out hB); replace HB := Lib.hid (below_then HB.out (Nat.le_refl _) hB); clear hB; clear tt9; have tt10 : True := trivial))
    go_ret
    exact ⟨by simp, HB.out⟩
  · have hne : ((e0 : Int) != 0) = true := by rw [bne_iff_ne]; omega
    clear hm hr hk hT he0 hln hl h
    go_enter Tryd.func4, Tryd.ntmps4
    have tt10 : True := trivial
    go_wp2_with (first
      | (have _t := tt10; clear _t; go_at_call 15; refine (cut_calls A ls n c Hln.out _ HSa.out).mono ?_; rw [Hr.out, Hk.out]; rintro e w10 ⟨v, rfl, hown, hB⟩; obtain ⟨A1, c1, rfl, -, hkc1, -, hs, -⟩ := strs_own hown; replace HSa := Lib.hid (Row.below HSa.out hB); replace HB := Lib.hid (below_then HB.out (Nat.le_refl _) hB); have HS1 := Lib.hid hs; have HO1 := Lib.hid (own_head hown); clear hown hs hB; clear tt10; have tt11 : True := trivial)
      | (have _t := tt11; clear _t; go_at_call 14; refine (string_calls A1 r k c1 Hk.out (by omega) hkc1 H40.out HO1.out _ HS1.out).mono ?_; rw [HT.out]; rintro e w11 ⟨rfl, hB⟩; replace HSa := Lib.hid (Row.below HSa.out hB); replace HS1 := Lib.hid (Row.below HS1.out hB); replace HB := Lib.hid (below_then HB.out (Nat.le_refl _) hB); clear hB; clear tt11; have tt12 : True := trivial)
      | (have _t := tt12; clear _t; go_at_call 16; refine (rcheck_calls A1 r k c1 Hk.out hkc1 _ HS1.out).mono ?_; rw [He.out]; rintro e w12 ⟨rfl, hw⟩; have hw2 := hw.symm; clear hw; subst hw2; clear tt12; have tt13 : True := trivial)
      | (have _t := tt13; clear _t; go_at_call 17; refine (fcheck_calls A1 r k c1 Hk.out hkc1 _ HS1.out).mono ?_; rw [He.out]; rintro e w13 ⟨rfl, hw⟩; have hw2 := hw.symm; clear hw; subst hw2; clear tt13; have tt14 : True := trivial)
      | (have _t := tt14; clear _t; go_at_call 18; refine (text_calls A1 r k c1 Hk.out (by omega) hkc1 H40.out _ HS1.out).mono ?_; rw [HT.out]; rintro e w14 ⟨rfl, hw⟩; have hw2 := hw.symm; clear hw; subst hw2; clear tt14; have tt15 : True := trivial)
      | (have _t := tt15; clear _t; go_at_call 16; refine (rcheck_calls A1 r k c1 Hk.out hkc1 _ HS1.out).mono ?_; rw [He.out]; rintro e w15 ⟨rfl, hw⟩; have hw2 := hw.symm; clear hw; subst hw2; clear tt15; have tt16 : True := trivial)
      | (have _t := tt16; clear _t; go_at_call 12; refine (known_calls m _ (below_at Hm.out HB.out)).mono ?_; rintro e w16 ⟨rfl, hB⟩; replace HSa := Lib.hid (Row.below HSa.out hB); replace HS1 := Lib.hid (Row.below HS1.out hB); replace HB := Lib.hid (below_then HB.out (Nat.le_refl _) hB); clear hB; clear tt16; have tt17 : True := trivial))
    go_ret
    exact ⟨by simp, HB.out⟩
theorem own : ownKnob Tryd.prog.godebug = none := by kernel_rfl
theorem laidOut : laidOutB Tryd.prog = true := by kernel_rfl
def laidL : List (String × DataW Unit) := [("unicode/utf8.acceptRanges", Rows.laid_unicode_utf8_acceptRanges), ("unicode/utf8.first", Rows.laid_unicode_utf8_first)]
set_option maxRecDepth 100000 in
theorem lifted (os : Os) (started : os.Started) (H : Type) (enc : TypeId × Value → H) :
    ReturnsInHanded {} Tryd.checked os 4 .any (fun w args => (Rows.routeChecksSpec.pre enc Tryd.prog Tryd.f4 [] false w args ∧ laidMetH Tryd.prog laidL w) ∧ sizedMet enc Tryd.prog Tryd.f4 (OpenSpec.ofChange Rows.routeChecksSpec) false w args) (Rows.routeChecksSpec.post enc Tryd.prog Tryd.f4 false true false false) := by
  refine returns_tied (C := Tryd.checked) (X := fun w _ => laidMetH Tryd.prog laidL w) (fun _ _ _ hh h => h.of_heap hh) own started (by kernel_rfl) Tryd.func4
    (ChangeSpec.witness_shaped (enc := enc) (C := Tryd.checked) (os := os) (X := fun w _ => laidMetH Tryd.prog laidL w) false (World.laidAll Tryd.prog os laidL) #[.slice none 0 0] 8 (World.laidAll_os _ _ _)
      (World.shaped_of_ZipB (by kernel_rfl) (by kernel_rfl)) (by kernel_rfl) (by kernel_rfl) (by kernel_rfl)
      (by rw [MakeChecks.laidMetH_plain _ _ _ (by kernel_rfl)]; exact laidMet_laidAll _ (by kernel_rfl) (by kernel_rfl))) ?_
  intro W base args ds gs before hval0 hW hcnd _ hL hsh _
  have hval : ∀ (j : Nat) t v, Tryd.f4.params[j]? = some t → args[j]? = some v → Value.okWide Tryd.prog W .any base t v := hval0
  have hW' := hW
  obtain ⟨p, q, hA0, hV, rfl, hfz, hnd⟩ := hW
  have hA : DataW.TrodAll enc Tryd.prog W 0 (fun _ => true) true Tryd.f4.params.toList args.toList ds p := hA0
  rw [Tryd.params4] at hA hval
  obtain ⟨v0, vs0, d0, ds0, p0, q0, hargs, rfl, rfl, h0, r0⟩ := trodAll_cons hA
  obtain ⟨rfl, rfl, rfl⟩ := trodAll_nil r0
  obtain rfl : args = #[v0] := by cases args; simp_all
  obtain ⟨rfl, rfl⟩ := trodVars_none hV
  have k0 := h0
  have lt0 : ∀ x ∈ p0, x.block < W.heap.size := by obtain ⟨m, hm⟩ := k0; exact DataW.trod_lt m _ _ _ hm
  obtain ⟨A0, n0, c0, ls0, rfl, hls0, hnc0, hc0, hI0, hd0⟩ := open_strs_d (e := 9) Tryd.underlying22 Tryd.underlying9 (by kernel_rfl) (hval 0 22 v0 rfl rfl) h0
  clear hA0 hval0
  refine (law_all A0 n0 c0 ls0 hls0 W hI0 hsh).mono fun e W' ⟨he, bel⟩ => ?_
  subst he
  exact ⟨_, rfl, _, _, _, [], _, [], hW', trodAll_mk1 (shut_bool Tryd.underlying4 _), (trodAll_cons_mk (Below.trod laidOut (by kernel_rfl) (of_decide_eq_true (by kernel_rfl)) k0 bel lt0) trodAll_mk0), rfl, bel.frame _, fun h => by cases h⟩
theorem bare : Rows.RouteChecksSaid :=
  OpenClaim.holds_of_wide 4 Tryd.f4 rfl rfl rfl rfl rfl rfl rfl ⟨rfl, rfl, rfl, rfl, rfl⟩ rfl rfl rfl rfl rfl (by kernel_rfl) Tryd.func4 (by kernel_rfl)
    (of_decide_eq_true (by kernel_rfl)) (by unfold Func.isWrapper; first | (rw [if_pos (by decide +kernel)]; kernel_rfl) | (rw [if_neg (by decide +kernel)]; exact ⟨rfl, rfl⟩))
    (fun os started H enc _ => lifted os started H enc)
theorem proved : Rows.RouteChecksCardSaid :=
  Claim7.holds_tied_plain_at .later [] [.data, .pinned] true (true, "8856bb8ec3b8f4f12783bf82ad44a4f2a1053028eaa4cb9d3c57b2c25d3d5669") false bare (fun _ h => by cases h) (by kernel_rfl) (fun _ h => by cases h) routeChecks_row_tie rfl ⟨rfl, rfl⟩ (by kernel_rfl) rfl
    (fun f fn hf hfn => by
      obtain rfl : f = 4 := Option.some.inj ((show Tryd.prog.funcNamed "bulletin/bulletinlaw16.RouteChecks" = some 4 by kernel_rfl).symm.trans hf) |>.symm
      obtain rfl : fn = Tryd.f4 := (Option.some.inj (Tryd.func4.symm.trans hfn)).symm
      exact ⟨by kernel_rfl, fun j t ht => by
        rw [Tryd.params4] at ht
        have hm : t ∈ [22] := by simpa using Array.mem_of_getElem? ht
        have hall : ([22].all fun u => !Tryd.prog.wantsStandIn u) = true := by kernel_rfl
        exact (show Tryd.prog.wantsStandIn t = false by simpa using List.all_eq_true.1 hall t hm)⟩)
    (by kernel_rfl)
end Go.Proofs.YtdmnphebkkfjmaaDoor.lawChk
