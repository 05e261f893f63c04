/- The law RouteParses: for every text, Parse accepts exactly the texts of routes, with the reference's errors and offsets. -/
import Derived.Test.YtdmnphebkkfjmaaDoorLPl
namespace Go.Proofs.YtdmnphebkkfjmaaDoor.lawPar
open Go Go.ChangeShapes Go.WideShapes Go.ChangeAt Go.RowKit Go.Deep Go.ChangeMaps
set_option maxRecDepth 100000 in
set_option maxHeartbeats 3200000 in
theorem law_all (s : List UInt8) (w : World) (h : w.ShapedOpen Tryd.prog) :
    Calls Tryd.prog 3 #[.string (str s)] w fun e w' => e = .returned (.bool true) ∧ Below w.heap.size w w' := by
  obtain ⟨m, hm⟩ := lawLoops.maxlen h
  obtain ⟨b, hb⟩ : ∃ b, min s.length 2000 = b := ⟨_, rfl⟩
  have hmin : min (s.length : Int) 2000 = (b : Int) := by omega
  have hb1 : (b : Int) ≤ s.length := by omega
  have hb2 : b ≤ 2000 := by omega
  obtain ⟨l, hl⟩ : ∃ l, s.take b = l := ⟨_, rfl⟩
  have hll : l.length ≤ 2000 := by rw [← hl, List.length_take]; omega
  obtain ⟨r, a, e0, hR⟩ : ∃ r a e0, parseS l = (r, a, e0) := ⟨_, _, _, rfl⟩
  obtain ⟨k, hk⟩ : ∃ k, r.length = k := ⟨_, rfl⟩
  have hk50 : k ≤ 50 := by have := parseS_len l; rw [hR, show (r, a, e0).1 = r from rfl, hk] at this; exact this
  have HSR : Hid (parseS (s.take b) = (r, a, e0)) := Lib.hid (by rw [hl]; exact hR)
  have hlb : (s.take b).length ≤ 100000 := by rw [hl]; omega
  have Hlb := Lib.hid hlb
  have Hm := Lib.hid hm; have Hk := Lib.hid hk; have Hl := Lib.hid hl
  have HB : Hid (Below w.heap.size w w) := Lib.hid (Below.refl _ _)
  by_cases he : e0 = 0
  · subst he
    have HE : Hid (linkL r = s.take b) := Lib.hid (by rw [hl]; have := (parse_back (l := l) (by rw [hR])).1; rwa [hR] at this)
    have HE2 : Hid (∀ p ∈ r, p.length ≤ 100) := Lib.hid (by have := (parse_back (l := l) (by rw [hR])).2; rw [hR] at this; intro p hp; have := this p hp; omega)
    clear hm hk hl h hR hb hlb
    go_enter Tryd.func3, Tryd.ntmps3
    have tt1 : True := trivial
    go_wp2_with (first
      | (have _t := tt1; clear _t; go_at_call 10; refine (parse_calls (s.take b) Hlb.out m _ (below_at Hm.out HB.out)).mono ?_; rw [HSR.out]; rintro e w1 ⟨v, rfl, hown, hB⟩; simp only [Hk.out] at hown; obtain ⟨A1, c1, rfl, -, hkc1, -, hs, -⟩ := strs_own hown; replace HB := Lib.hid (below_then HB.out (Nat.le_refl _) hB); have HO1 := Lib.hid (own_head hown); have HS1 := Lib.hid hs; clear hown hs; clear hB; clear tt1; have tt2 : True := trivial)
      | (have _t := tt2; clear _t; go_at_call 11; refine (fparse_calls (s.take b) Hlb.out _).mono ?_; rw [HSR.out]; rintro e w2 ⟨v, rfl, hown, hB⟩; simp only [Hk.out] at hown; obtain ⟨A2, c2, rfl, -, hkc2, -, hs, -⟩ := strs_own hown; replace HS1 := Lib.hid (Row.below HS1.out hB); replace HB := Lib.hid (below_then HB.out (Nat.le_refl _) hB); have HS2 := Lib.hid hs; clear hown hs; clear hB; clear tt2; have tt3 : True := trivial)
      | (have _t := tt3; clear _t; go_at_call 12; refine (known_calls m _ (below_at Hm.out HB.out)).mono ?_; rintro e w3 ⟨rfl, hB⟩; replace HS1 := Lib.hid (Row.below HS1.out hB); replace HS2 := Lib.hid (Row.below HS2.out hB); replace HB := Lib.hid (below_then HB.out (Nat.le_refl _) hB); clear hB; clear tt3; have tt4 : True := trivial)
      | (have _t := tt4; clear _t; go_at_call 13; refine (ssame_refl A1 A2 r c1 c2 k Hk.out (by omega) _ HS1.out HS2.out).mono ?_; rintro e w4 ⟨rfl, hw⟩; have hB := below_of_drew hw; clear hw; replace HS1 := Lib.hid (Row.below HS1.out hB); replace HS2 := Lib.hid (Row.below HS2.out hB); replace HB := Lib.hid (below_then HB.out (Nat.le_refl _) hB); clear hB; clear tt4; have tt5 : True := trivial)
      | (have _t := tt5; clear _t; go_at_call 14; refine (string_calls A1 r k c1 Hk.out (by omega) hkc1 HE2.out HO1.out _ HS1.out).mono ?_; rw [HE.out]; rintro e w5 ⟨rfl, hB⟩; replace HS1 := Lib.hid (Row.below HS1.out hB); replace HS2 := Lib.hid (Row.below HS2.out hB); replace HB := Lib.hid (below_then HB.out (Nat.le_refl _) hB); clear hB; clear tt5; have tt6 : True := trivial))
    go_ret
    exact ⟨by simp, HB.out⟩
  · clear hm hk hl h hR hb hlb
    have hne : ((e0 : Int) != 0) = true := by rw [bne_iff_ne]; omega
    go_enter Tryd.func3, Tryd.ntmps3
    have tt6 : True := trivial
    go_wp2_with (first
      | (have _t := tt6; clear _t; go_at_call 10; refine (parse_calls (s.take b) Hlb.out m _ (below_at Hm.out HB.out)).mono ?_; rw [HSR.out]; rintro e w6 ⟨v, rfl, hown, hB⟩; simp only [Hk.out] at hown; obtain ⟨A1, c1, rfl, -, hkc1, -, hs, -⟩ := strs_own hown; replace HB := Lib.hid (below_then HB.out (Nat.le_refl _) hB); have HO1 := Lib.hid (own_head hown); have HS1 := Lib.hid hs; clear hown hs; clear hB; clear tt6; have tt7 : True := trivial)
      | (have _t := tt7; clear _t; go_at_call 11; refine (fparse_calls (s.take b) Hlb.out _).mono ?_; rw [HSR.out]; rintro e w7 ⟨v, rfl, hown, hB⟩; simp only [Hk.out] at hown; obtain ⟨A2, c2, rfl, -, hkc2, -, hs, -⟩ := strs_own hown; replace HS1 := Lib.hid (Row.below HS1.out hB); replace HB := Lib.hid (below_then HB.out (Nat.le_refl _) hB); have HS2 := Lib.hid hs; clear hown hs; clear hB; clear tt7; have tt8 : True := trivial)
      | (have _t := tt8; clear _t; go_at_call 12; refine (known_calls m _ (below_at Hm.out HB.out)).mono ?_; rintro e w8 ⟨rfl, hB⟩; replace HS1 := Lib.hid (Row.below HS1.out hB); replace HS2 := Lib.hid (Row.below HS2.out hB); replace HB := Lib.hid (below_then HB.out (Nat.le_refl _) hB); clear hB; clear tt8; have tt9 : True := trivial)
      | (have _t := tt9; clear _t; go_at_call 13; refine (ssame_refl A1 A2 r c1 c2 k Hk.out (by omega) _ HS1.out HS2.out).mono ?_; rintro e w9 ⟨rfl, hw⟩; have hB := below_of_drew hw; clear hw; replace HS1 := Lib.hid (Row.below HS1.out hB); replace HS2 := Lib.hid (Row.below HS2.out hB); replace HB := Lib.hid (below_then HB.out (Nat.le_refl _) hB); clear hB; clear tt9; have tt10 : True := trivial))
    go_ret
    exact ⟨by simp, HB.out⟩
theorem own : ownKnob Tryd.prog.godebug = none := by kernel_rfl
theorem laidOut : laidOutB Tryd.prog = true := by kernel_rfl
def laidL : List (String × DataW Unit) := [("unicode/utf8.acceptRanges", Rows.laid_unicode_utf8_acceptRanges), ("unicode/utf8.first", Rows.laid_unicode_utf8_first)]
set_option maxRecDepth 100000 in
theorem lifted (os : Os) (started : os.Started) (H : Type) (enc : TypeId × Value → H) :
    ReturnsInHanded {} Tryd.checked os 3 .any (fun w args => (Rows.routeParsesSpec.pre enc Tryd.prog Tryd.f3 [] false w args ∧ laidMetH Tryd.prog laidL w) ∧ sizedMet enc Tryd.prog Tryd.f3 (OpenSpec.ofChange Rows.routeParsesSpec) false w args) (Rows.routeParsesSpec.post enc Tryd.prog Tryd.f3 false true false false) := by
  refine returns_tied (C := Tryd.checked) (X := fun w _ => laidMetH Tryd.prog laidL w) (fun _ _ _ hh h => h.of_heap hh) own started (by kernel_rfl) Tryd.func3
    (ChangeSpec.witness_shaped (enc := enc) (C := Tryd.checked) (os := os) (X := fun w _ => laidMetH Tryd.prog laidL w) false (World.laidAll Tryd.prog os laidL) #[.string .empty] 8 (World.laidAll_os _ _ _)
      (World.shaped_of_ZipB (by kernel_rfl) (by kernel_rfl)) (by kernel_rfl) (by kernel_rfl) (by kernel_rfl)
      (by rw [MakeChecks.laidMetH_plain _ _ _ (by kernel_rfl)]; exact laidMet_laidAll _ (by kernel_rfl) (by kernel_rfl))) ?_
  intro W base args ds gs before hval0 hW hcnd _ hL hsh _
  have hval : ∀ (j : Nat) t v, Tryd.f3.params[j]? = some t → args[j]? = some v → Value.okWide Tryd.prog W .any base t v := hval0
  have hW' := hW
  obtain ⟨p, q, hA0, hV, rfl, hfz, hnd⟩ := hW
  have hA : DataW.TrodAll enc Tryd.prog W 0 (fun _ => true) true Tryd.f3.params.toList args.toList ds p := hA0
  rw [Tryd.params3] at hA hval
  obtain ⟨v0, vs0, d0, ds0, p0, q0, hargs, rfl, rfl, h0, r0⟩ := trodAll_cons hA
  obtain ⟨rfl, rfl, rfl⟩ := trodAll_nil r0
  obtain rfl : args = #[v0] := by cases args; simp_all
  obtain ⟨rfl, rfl⟩ := trodVars_none hV
  have k0 := h0
  have lt0 : ∀ x ∈ p0, x.block < W.heap.size := by obtain ⟨m, hm⟩ := k0; exact DataW.trod_lt m _ _ _ hm
  obtain ⟨s0, rfl, _, _, hs0⟩ := open_string Tryd.underlying9 (hval 0 9 v0 rfl rfl) h0
  clear hA0 hval0
  refine (law_all s0.data.toList W hsh).mono fun e W' ⟨he, bel⟩ => ?_
  subst he
  exact ⟨_, rfl, _, _, _, [], _, [], hW', trodAll_mk1 (shut_bool Tryd.underlying4 _), (trodAll_cons_mk (Below.trod laidOut (by kernel_rfl) (of_decide_eq_true (by kernel_rfl)) k0 bel lt0) trodAll_mk0), rfl, bel.frame _, fun h => by cases h⟩
theorem bare : Rows.RouteParsesSaid :=
  OpenClaim.holds_of_wide 3 Tryd.f3 rfl rfl rfl rfl rfl rfl rfl ⟨rfl, rfl, rfl, rfl, rfl⟩ rfl rfl rfl rfl rfl (by kernel_rfl) Tryd.func3 (by kernel_rfl)
    (of_decide_eq_true (by kernel_rfl)) (by unfold Func.isWrapper; first | (rw [if_pos (by decide +kernel)]; kernel_rfl) | (rw [if_neg (by decide +kernel)]; exact ⟨rfl, rfl⟩))
    (fun os started H enc _ => lifted os started H enc)
theorem proved : Rows.RouteParsesCardSaid :=
  Claim7.holds_tied_plain_at .later [] [.data, .pinned] true (true, "8856bb8ec3b8f4f12783bf82ad44a4f2a1053028eaa4cb9d3c57b2c25d3d5669") false bare (fun _ h => by cases h) (by kernel_rfl) (fun _ h => by cases h) routeParses_row_tie rfl ⟨rfl, rfl⟩ (by kernel_rfl) rfl
    (fun f fn hf hfn => by
      obtain rfl : f = 3 := Option.some.inj ((show Tryd.prog.funcNamed "bulletin/bulletinlaw16.RouteParses" = some 3 by kernel_rfl).symm.trans hf) |>.symm
      obtain rfl : fn = Tryd.f3 := (Option.some.inj (Tryd.func3.symm.trans hfn)).symm
      exact ⟨by kernel_rfl, fun j t ht => by
        rw [Tryd.params3] at ht
        have hm : t ∈ [9] := by simpa using Array.mem_of_getElem? ht
        have hall : ([9].all fun u => !Tryd.prog.wantsStandIn u) = true := by kernel_rfl
        exact (show Tryd.prog.wantsStandIn t = false by simpa using List.all_eq_true.1 hall t hm)⟩)
    (by kernel_rfl)
end Go.Proofs.YtdmnphebkkfjmaaDoor.lawPar
