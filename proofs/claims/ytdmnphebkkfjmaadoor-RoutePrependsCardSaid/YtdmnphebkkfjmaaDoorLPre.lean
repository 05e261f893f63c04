/- The law RoutePrepends: for every route and site, Prepend agrees with the reference and does not change the route. -/
import Derived.Test.YtdmnphebkkfjmaaDoorLPrp
import Derived.Test.YtdmnphebkkfjmaaDoorApp2
namespace Go.Proofs.YtdmnphebkkfjmaaDoor.lawPre
open Go Go.ChangeShapes Go.WideShapes Go.ChangeAt Go.RowKit Go.Deep Go.ChangeMaps
theorem own_blk {w : World} {base n size : Nat} {e : TypeId} {g c : Nat} {xs : List Value} (h : w.ownsRow base e size (.slice (some ⟨g, 0, none⟩) n c) n xs) : ∃ cur, Blk w g e cur ∧ n * size ≤ cur.size := by
  rcases h.2 with ⟨h, _⟩ | ⟨g', cap, cur, h, _, hb, h2, _, h4, _⟩
  · cases h
  · injection h with h1 _ h3
    injection h1 with h1
    injection h1 with h1
    subst h1
    exact ⟨cur, hb, by rw [h4]; exact Nat.mul_le_mul_right _ h2⟩
theorem rows_under {w0 w w' : World} {A : Option Addr} {ls : List (List UInt8)} {B : Nat} (h0 : Strs w0 A ls) (hB : w0.heap.size ≤ B) (h1 : Below w0.heap.size w0 w) (h2 : Below B w w') : Strs w' A ls :=
  Row.below h0 (h1.trans (h2.mono hB))
set_option maxRecDepth 100000 in
set_option maxHeartbeats 6400000 in
theorem law_all (A : Option Addr) (n c : Nat) (ls : List (List UInt8)) (hln : ls.length = n) (s : List UInt8) (w : World) (hl : Strs w A ls) (h : w.ShapedOpen Tryd.prog) :
    Calls Tryd.prog 5 #[.slice A n c, .string (str s)] w fun e w' => e = .returned (.bool true) ∧ Below w.heap.size w w' := by
  obtain ⟨m, hm⟩ := lawLoops.maxlen h
  obtain ⟨i0, hi0, hz0, hz1, hz2⟩ := info_parts info_str
  obtain ⟨f, hf⟩ : ∃ f, min s.length 40 = f := ⟨_, rfl⟩
  have hmin2 : min (s.length : Int) 40 = (f : Int) := by omega
  have hf1 : (f : Int) ≤ s.length := by omega
  obtain ⟨r, hr⟩ : ∃ r, cutS ls = r := ⟨_, rfl⟩
  obtain ⟨k, hk⟩ : ∃ k, r.length = k := ⟨_, rfl⟩
  have hk60 : k ≤ 60 := by rw [← hk, ← hr]; exact lawLoops.cut_len60 ls
  have Hm := Lib.hid hm; have Hr := Lib.hid hr; have Hk := Lib.hid hk; have Hln := Lib.hid hln
  have HSa : Hid (Strs w A ls) := Lib.hid hl
  have HB : Hid (Below w.heap.size w w) := Lib.hid (Below.refl _ _)
  obtain ⟨E, hE⟩ : ∃ E, prepE r (s.take f) = E := ⟨_, rfl⟩
  clear hm hr hk hl h hln hf
  by_cases hE0 : E = 0
  · subst hE0
    have HE := Lib.hid hE; clear hE
    obtain ⟨M, hM⟩ : ∃ M, min (k + 1) 50 = M := ⟨_, rfl⟩
    have HM := Lib.hid hM
    have hMk : M ≤ k + 1 := by omega
    obtain ⟨R, hR⟩ : ∃ R, (s.take f :: r).take M = R := ⟨_, rfl⟩
    have HR := Lib.hid hR
    have HRl : Hid (R.length = M) := Lib.hid (by rw [← hR, List.length_take, List.length_cons, HM.out.symm, Hk.out]; omega)
    clear hR hM
    go_enter Tryd.func5, Tryd.ntmps5
    have tt1 : True := trivial
    go_wp2_with (first
      | (have _t := tt1; clear _t; go_at_call 15; refine (cut_calls A ls n c Hln.out _ HSa.out).mono ?_; rw [Hr.out, Hk.out]; rintro e w1 ⟨v, rfl, hown, hB⟩; obtain ⟨A1, c1, rfl, -, hkc1, -, hs, -⟩ := strs_own hown; replace HSa := Lib.hid (Row.below HSa.out hB); replace HB := Lib.hid (below_then HB.out (Nat.le_refl _) hB); have HS1 := Lib.hid hs; have HO1 := Lib.hid (own_head hown); clear hown hs hB; clear tt1; have tt2 : True := trivial)
      | (have _t := tt2; clear _t; at_builtin; have hown0 := own_new w1 w1.heap.size (Nat.le_refl _) [] 9 0 1 rfl (by unfold maxLen; omega); go_must (refine wpList_append_row2 _ rfl _ _ 22 23 rfl w1.heap.size 9 i0 (.string .empty) 1 16 Tryd.underlying22 Tryd.underlying23 hi0 hz0 hz1 hz2 rfl (by decide) (.slice (some ⟨w1.heap.size, 0, none⟩) 0 0) 0 [] rfl hown0 A1 k c1 (strsV r) rfl (by rw [strsV_len, Hk.out, Nat.mul_one]) (Row.alloc HS1.out _) (strsV_one _) (by unfold maxLen; omega) (by omega) (by simp) ?_); intro v2 w2 hown2 hgrow _; rw [Nat.zero_add, List.nil_append] at hown2; obtain ⟨A2, c2, rfl, -, hkc2, -, hs, -⟩ := strs_own hown2; have hB : Below w1.heap.size w1 w2 := ((Below.refl _ _).alloc (Nat.le_refl _) _).grown hgrow (by simp) (fun k hk => (hown0.lt k hk).1); replace HSa := Lib.hid (Row.below HSa.out hB); replace HS1 := Lib.hid (Row.below HS1.out hB); replace HB := Lib.hid (below_then HB.out (Nat.le_refl _) hB); have HS2 := Lib.hid hs; clear hown2 hs hgrow hown0; clear hB tt2; have tt3 : True := trivial)
      | (have _t := tt3; clear _t; go_at_call 19; refine (prep_ok A1 r k c1 (s.take f) M HM.out Hk.out hkc1 (by omega) HE.out _ HS1.out).mono ?_; rintro e w3 ⟨g3, c3, rfl, hkc3, hg3, hown3, -, hs, hB⟩; have HX1 := HS1; have HX2 := HS2; have HX := HB; have HY := Lib.hid hB; replace HSa := Lib.hid (Row.below HSa.out hB); replace HS1 := Lib.hid (Row.below HS1.out hB); replace HS2 := Lib.hid (Row.below HS2.out hB); replace HB := Lib.hid (below_then HB.out (Nat.le_refl _) hB); rw [HR.out] at hs; have HS3 := Lib.hid hs; have HO3 := Lib.hid hown3; clear hs hown3; clear hB; clear tt3; have tt4 : True := trivial)
      | (have _t := tt4; clear _t; go_at_call 20; refine (fprep_ok A1 r k c1 (s.take f) M HM.out Hk.out hkc1 (by omega) HE.out _ HS1.out).mono ?_; rintro e w4 ⟨g4, c4, rfl, hkc4, -, -, -, hs, hB⟩; replace HY := Lib.hid (HY.out.trans (hB.mono HY.out.size)); replace HO3 := Lib.hid (own_below HO3.out hB); replace HSa := Lib.hid (Row.below HSa.out hB); replace HS1 := Lib.hid (Row.below HS1.out hB); replace HS2 := Lib.hid (Row.below HS2.out hB); replace HS3 := Lib.hid (Row.below HS3.out hB); replace HB := Lib.hid (below_then HB.out (Nat.le_refl _) hB); rw [HR.out] at hs; have HS4 := Lib.hid hs; clear hs; clear hB; clear tt4; have tt5 : True := trivial)
      | (have _t := tt5; clear _t; go_at_call 13; refine (ssame_refl _ _ R c3 c4 M HRl.out (by omega) _ HS3.out HS4.out).mono ?_; rintro e w5 ⟨rfl, hw⟩; have hB := below_of_drew hw; replace HY := Lib.hid (HY.out.trans (hB.mono HY.out.size)); replace HO3 := Lib.hid (own_below HO3.out hB); clear hw; replace HSa := Lib.hid (Row.below HSa.out hB); replace HS1 := Lib.hid (Row.below HS1.out hB); replace HS2 := Lib.hid (Row.below HS2.out hB); replace HS3 := Lib.hid (Row.below HS3.out hB); replace HS4 := Lib.hid (Row.below HS4.out hB); replace HB := Lib.hid (below_then HB.out (Nat.le_refl _) hB); clear hB; clear tt5; have tt6 : True := trivial))
    obtain ⟨cs0, hcs0, hcn0⟩ := own_blk HO3.out
    have Hcs0 := Lib.hid hcs0
    have hW2 : w2.heap.size ≤ w5.heap.size := HY.out.size
    clear hcs0
    go_loopw [11] (fun i wr => ∃ j : Nat, j ≤ M ∧ i = .int .i64 j ∧ ∃ cs, Blk wr g3 9 cs ∧ M ≤ cs.size ∧ Below g3 w5 wr) (fun i _ => M - (intOf i).toNat)
    case atStart => exact ⟨0, Nat.zero_le _, rfl, cs0, Hcs0.out, by omega, Below.refl _ _⟩
    case round =>
      obtain ⟨j, hj, rfl, cs, hcs, hcn, hBl⟩ := hrel
      have Hcs := Lib.hid hcs; have HBl := Lib.hid hBl
      by_cases hlt : j < M
      · have i1 : (j : Int) < M := by omega
        obtain ⟨u, hu⟩ : ∃ u, cs[j]? = some u := ⟨_, Array.getElem?_eq_getElem (by omega)⟩
        have hcell : wr.cell? ⟨g3, j, none⟩ = some u := by rw [Hcs.out.cell]; exact hu
        have hfrz : wr.frozen? ⟨g3, j, none⟩ = false := Hcs.out.frozen j
        clear hcs hBl hu
        go_wp2_with fail
        go_roundw
        case rel => exact ⟨j + 1, by omega, by go_num, _, Hcs.out.set_ j _, by simpa using hcn, HBl.out.setCell (Nat.le_refl _) _⟩
        case measure => simp [intOf]; omega
      · have i1 : ¬ (j : Int) < M := by omega
        have HS1' : Hid (Strs wr A1 r) := Lib.hid (rows_under HX1.out hg3 HY.out HBl.out)
        have HS2' : Hid (Strs wr A2 r) := Lib.hid (rows_under HX2.out hg3 HY.out HBl.out)
        have HBw : Hid (Below w.heap.size w wr) := Lib.hid (HX.out.trans ((HY.out.trans (HBl.out.mono hg3)).mono HX.out.size))
        clear HS1 HS2 HSa HS3 HS4 HO3 HB hcs hBl
        have HS1 := HS1'; have HS2 := HS2'; have HB := HBw
        clear HS1' HS2' HBw
        have tt6 : True := trivial
        go_wp2_with (first
          | (have _t := tt6; clear _t; go_at_call 12; refine (known_calls m _ (below_at Hm.out HB.out)).mono ?_; rintro e w6 ⟨rfl, hB⟩; replace HS1 := Lib.hid (Row.below HS1.out hB); replace HS2 := Lib.hid (Row.below HS2.out hB); replace HB := Lib.hid (below_then HB.out (Nat.le_refl _) hB); clear hB; clear tt6; have tt7 : True := trivial)
          | (have _t := tt7; clear _t; go_at_call 13; refine (ssame_refl A1 A2 r c1 c2 k Hk.out (by omega) _ HS1.out HS2.out).mono ?_; rintro e w7 ⟨rfl, hw⟩; have hB := below_of_drew hw; clear hw; replace HS1 := Lib.hid (Row.below HS1.out hB); replace HS2 := Lib.hid (Row.below HS2.out hB); replace HB := Lib.hid (below_then HB.out (Nat.le_refl _) hB); clear hB; clear tt7; have tt8 : True := trivial))
        go_ret
        exact ⟨by simp, HB.out⟩
  · have H0 := Lib.hid hE0; have HE := Lib.hid hE
    clear hE0 hE
    go_enter Tryd.func5, Tryd.ntmps5
    have tt1 : True := trivial
    go_wp2_with (first
      | (have _t := tt1; clear _t; go_at_call 15; refine (cut_calls A ls n c Hln.out _ HSa.out).mono ?_; rw [Hr.out, Hk.out]; rintro e w1 ⟨v, rfl, hown, hB⟩; obtain ⟨A1, c1, rfl, -, hkc1, -, hs, -⟩ := strs_own hown; replace HSa := Lib.hid (Row.below HSa.out hB); replace HB := Lib.hid (below_then HB.out (Nat.le_refl _) hB); have HS1 := Lib.hid hs; have HO1 := Lib.hid (own_head hown); clear hown hs hB; clear tt1; have tt2 : True := trivial)
      | (have _t := tt2; clear _t; at_builtin; have hown0 := own_new w1 w1.heap.size (Nat.le_refl _) [] 9 0 1 rfl (by unfold maxLen; omega); go_must (refine wpList_append_row2 _ rfl _ _ 22 23 rfl w1.heap.size 9 i0 (.string .empty) 1 16 Tryd.underlying22 Tryd.underlying23 hi0 hz0 hz1 hz2 rfl (by decide) (.slice (some ⟨w1.heap.size, 0, none⟩) 0 0) 0 [] rfl hown0 A1 k c1 (strsV r) rfl (by rw [strsV_len, Hk.out, Nat.mul_one]) (Row.alloc HS1.out _) (strsV_one _) (by unfold maxLen; omega) (by omega) (by simp) ?_); intro v2 w2 hown2 hgrow _; rw [Nat.zero_add, List.nil_append] at hown2; obtain ⟨A2, c2, rfl, -, hkc2, -, hs, -⟩ := strs_own hown2; have hB : Below w1.heap.size w1 w2 := ((Below.refl _ _).alloc (Nat.le_refl _) _).grown hgrow (by simp) (fun k hk => (hown0.lt k hk).1); replace HSa := Lib.hid (Row.below HSa.out hB); replace HS1 := Lib.hid (Row.below HS1.out hB); replace HB := Lib.hid (below_then HB.out (Nat.le_refl _) hB); have HS2 := Lib.hid hs; clear hown2 hs hgrow hown0; clear hB tt2; have tt3 : True := trivial)
      | (have _t := tt3; clear _t; go_at_call 19; refine (prep_no A1 r k c1 (s.take f) E HE.out H0.out Hk.out hkc1 (by omega) _ HS1.out).mono ?_; rintro e w3 ⟨rfl, hw⟩; have hw2 := hw.symm; clear hw; subst hw2; clear tt3; have tt4 : True := trivial)
      | (have _t := tt4; clear _t; go_at_call 20; refine (fprep_no A1 r k c1 (s.take f) E HE.out H0.out Hk.out hkc1 (by omega) _ HS1.out).mono ?_; rintro e w4 ⟨rfl, hw⟩; have hw2 := hw.symm; clear hw; subst hw2; clear tt4; have tt5 : True := trivial)
      | (have _t := tt5; clear _t; go_at_call 13; refine (ssame_refl none none [] 0 0 0 rfl (by omega) _ (Row.nil _ _) (Row.nil _ _)).mono ?_; rintro e w5 ⟨rfl, hw⟩; have hB := below_of_drew hw; clear hw; replace HSa := Lib.hid (Row.below HSa.out hB); replace HS1 := Lib.hid (Row.below HS1.out hB); replace HS2 := Lib.hid (Row.below HS2.out hB); replace HB := Lib.hid (below_then HB.out (Nat.le_refl _) hB); clear hB; clear tt5; have tt6 : True := trivial))
    go_loopw [11] (fun i wr => i = .int .i64 0 ∧ Strs wr A1 r ∧ Strs wr A2 r ∧ Below w.heap.size w wr) (fun i _ => 0)
    case atStart => exact ⟨rfl, HS1.out, HS2.out, HB.out⟩
    case round =>
      obtain ⟨rfl, h1, h2, h3⟩ := hrel
      clear HS1 HS2 HB
      have HS1 := Lib.hid h1; have HS2 := Lib.hid h2; have HB := Lib.hid h3
      clear h1 h2 h3
      have tt6 : True := trivial
      go_wp2_with (first
        | (have _t := tt6; clear _t; go_at_call 12; refine (known_calls m _ (below_at Hm.out HB.out)).mono ?_; rintro e w6 ⟨rfl, hB⟩; replace HS1 := Lib.hid (Row.below HS1.out hB); replace HS2 := Lib.hid (Row.below HS2.out hB); replace HB := Lib.hid (below_then HB.out (Nat.le_refl _) hB); clear hB; clear tt6; have tt7 : True := trivial)
        | (have _t := tt7; clear _t; go_at_call 13; refine (ssame_refl A1 A2 r c1 c2 k Hk.out (by omega) _ HS1.out HS2.out).mono ?_; rintro e w7 ⟨rfl, hw⟩; have hB := below_of_drew hw; clear hw; replace HS1 := Lib.hid (Row.below HS1.out hB); replace HS2 := Lib.hid (Row.below HS2.out hB); replace HB := Lib.hid (below_then HB.out (Nat.le_refl _) hB); clear hB; clear tt7; have tt8 : True := trivial))
      go_ret
      exact ⟨by simp, HB.out⟩
theorem own : ownKnob Tryd.prog.godebug = none := by kernel_rfl
theorem laidOut : laidOutB Tryd.prog = true := by kernel_rfl
def laidL : List (String × DataW Unit) := [("unicode/utf8.acceptRanges", Rows.laid_unicode_utf8_acceptRanges), ("unicode/utf8.first", Rows.laid_unicode_utf8_first)]
set_option maxRecDepth 100000 in
theorem lifted (os : Os) (started : os.Started) (H : Type) (enc : TypeId × Value → H) :
    ReturnsInHanded {} Tryd.checked os 5 .any (fun w args => (Rows.routePrependsSpec.pre enc Tryd.prog Tryd.f5 [] false w args ∧ laidMetH Tryd.prog laidL w) ∧ sizedMet enc Tryd.prog Tryd.f5 (OpenSpec.ofChange Rows.routePrependsSpec) false w args) (Rows.routePrependsSpec.post enc Tryd.prog Tryd.f5 false true false false) := by
  refine returns_tied (C := Tryd.checked) (X := fun w _ => laidMetH Tryd.prog laidL w) (fun _ _ _ hh h => h.of_heap hh) own started (by kernel_rfl) Tryd.func5
    (ChangeSpec.witness_shaped (enc := enc) (C := Tryd.checked) (os := os) (X := fun w _ => laidMetH Tryd.prog laidL w) false (World.laidAll Tryd.prog os laidL) #[.slice none 0 0, .string .empty] 8 (World.laidAll_os _ _ _)
      (World.shaped_of_ZipB (by kernel_rfl) (by kernel_rfl)) (by kernel_rfl) (by kernel_rfl) (by kernel_rfl)
      (by rw [MakeChecks.laidMetH_plain _ _ _ (by kernel_rfl)]; exact laidMet_laidAll _ (by kernel_rfl) (by kernel_rfl))) ?_
  intro W base args ds gs before hval0 hW hcnd _ hL hsh _
  have hval : ∀ (j : Nat) t v, Tryd.f5.params[j]? = some t → args[j]? = some v → Value.okWide Tryd.prog W .any base t v := hval0
  have hW' := hW
  obtain ⟨p, q, hA0, hV, rfl, hfz, hnd⟩ := hW
  have hA : DataW.TrodAll enc Tryd.prog W 0 (fun _ => true) true Tryd.f5.params.toList args.toList ds p := hA0
  rw [Tryd.params5] at hA hval
  obtain ⟨v0, vs0, d0, ds0, p0, q0, hargs, rfl, rfl, h0, r0⟩ := trodAll_cons hA
  obtain ⟨v1, vs1, d1, ds1, p1, q1, rfl, rfl, rfl, h1, r1⟩ := trodAll_cons r0
  obtain ⟨rfl, rfl, rfl⟩ := trodAll_nil r1
  obtain rfl : args = #[v0, v1] := by cases args; simp_all
  obtain ⟨rfl, rfl⟩ := trodVars_none hV
  have k0 := h0
  have lt0 : ∀ x ∈ p0, x.block < W.heap.size := by obtain ⟨m, hm⟩ := k0; exact DataW.trod_lt m _ _ _ hm
  have k1 := h1
  have lt1 : ∀ x ∈ p1, x.block < W.heap.size := by obtain ⟨m, hm⟩ := k1; exact DataW.trod_lt m _ _ _ hm
  obtain ⟨A0, n0, c0, ls0, rfl, hls0, hnc0, hc0, hI0, hd0⟩ := open_strs_d (e := 9) Tryd.underlying22 Tryd.underlying9 (by kernel_rfl) (hval 0 22 v0 rfl rfl) h0
  obtain ⟨s1, rfl, _, _, hs1⟩ := open_string Tryd.underlying9 (hval 1 9 v1 rfl rfl) h1
  clear hA0 hval0
  refine (law_all A0 n0 c0 ls0 hls0 s1.data.toList W hI0 hsh).mono fun e W' ⟨he, bel⟩ => ?_
  subst he
  exact ⟨_, rfl, _, _, _, [], _, [], hW', trodAll_mk1 (shut_bool Tryd.underlying4 _), (trodAll_cons_mk (Below.trod laidOut (by kernel_rfl) (of_decide_eq_true (by kernel_rfl)) k0 bel lt0) (trodAll_cons_mk (Below.trod laidOut (by kernel_rfl) (of_decide_eq_true (by kernel_rfl)) k1 bel lt1) trodAll_mk0)), rfl, bel.frame _, fun h => by cases h⟩
theorem bare : Rows.RoutePrependsSaid :=
  OpenClaim.holds_of_wide 5 Tryd.f5 rfl rfl rfl rfl rfl rfl rfl ⟨rfl, rfl, rfl, rfl, rfl⟩ rfl rfl rfl rfl rfl (by kernel_rfl) Tryd.func5 (by kernel_rfl)
    (of_decide_eq_true (by kernel_rfl)) (by unfold Func.isWrapper; first | (rw [if_pos (by decide +kernel)]; kernel_rfl) | (rw [if_neg (by decide +kernel)]; exact ⟨rfl, rfl⟩))
    (fun os started H enc _ => lifted os started H enc)
theorem proved : Rows.RoutePrependsCardSaid :=
  Claim7.holds_tied_plain_at .later [] [.data, .pinned] true (true, "8856bb8ec3b8f4f12783bf82ad44a4f2a1053028eaa4cb9d3c57b2c25d3d5669") false bare (fun _ h => by cases h) (by kernel_rfl) (fun _ h => by cases h) routePrepends_row_tie rfl ⟨rfl, rfl⟩ (by kernel_rfl) rfl
    (fun f fn hf hfn => by
      obtain rfl : f = 5 := Option.some.inj ((show Tryd.prog.funcNamed "bulletin/bulletinlaw16.RoutePrepends" = some 5 by kernel_rfl).symm.trans hf) |>.symm
      obtain rfl : fn = Tryd.f5 := (Option.some.inj (Tryd.func5.symm.trans hfn)).symm
      exact ⟨by kernel_rfl, fun j t ht => by
        rw [Tryd.params5] at ht
        have hm : t ∈ [22, 9] := by simpa using Array.mem_of_getElem? ht
        have hall : ([22, 9].all fun u => !Tryd.prog.wantsStandIn u) = true := by kernel_rfl
        exact (show Tryd.prog.wantsStandIn t = false by simpa using List.all_eq_true.1 hall t hm)⟩)
    (by kernel_rfl)
end Go.Proofs.YtdmnphebkkfjmaaDoor.lawPre
