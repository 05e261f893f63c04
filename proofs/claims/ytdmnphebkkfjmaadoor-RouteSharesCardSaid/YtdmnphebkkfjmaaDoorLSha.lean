/- The law RouteShares: two routes that grow from one route share it as their common end, if their next sites differ. -/
import Derived.Test.YtdmnphebkkfjmaaDoorLPrp
import Derived.Deep.QuietTactic
import Derived.BigQuiet
namespace Go.Proofs.YtdmnphebkkfjmaaDoor.lawSha
open Go Go.ChangeShapes Go.WideShapes Go.ChangeAt Go.RowKit Go.Deep Go.ChangeMaps
set_option maxRecDepth 100000 in
set_option maxHeartbeats 6400000 in
theorem law_all (A : Option Addr) (n c : Nat) (ls : List (List UInt8)) (hln : ls.length = n) (hnc : n ≤ c) (s t : List UInt8) (w : World) (hl : Strs w A ls) (h : w.ShapedOpen Tryd.prog) :
    Calls Tryd.prog 9 #[.slice A n c, .string (str s), .string (str t)] w fun e w' => e = .returned (.bool true) ∧ Below w.heap.size w w' := by
  obtain ⟨m, hm⟩ := lawLoops.maxlen h
  obtain ⟨b, hb⟩ : ∃ b, min n 40 = b := ⟨_, rfl⟩
  have hmin : min (n : Int) 40 = (b : Int) := by omega
  have hb1 : (b : Int) ≤ c := by omega
  obtain ⟨f, hf⟩ : ∃ f, min s.length 40 = f := ⟨_, rfl⟩
  have hmin2 : min (s.length : Int) 40 = (f : Int) := by omega
  have hf1 : (f : Int) ≤ s.length := by omega
  obtain ⟨g, hg⟩ : ∃ g, min t.length 40 = g := ⟨_, rfl⟩
  have hmin3 : min (t.length : Int) 40 = (g : Int) := by omega
  have hg1 : (g : Int) ≤ t.length := by omega
  obtain ⟨r, hr⟩ : ∃ r, cutS (ls.take b) = r := ⟨_, rfl⟩
  obtain ⟨k, hk⟩ : ∃ k, r.length = k := ⟨_, rfl⟩
  have hk40 : k ≤ 40 := by rw [← hk, ← hr, cutS_len, List.length_take]; omega
  have Hm := Lib.hid hm; have Hr := Lib.hid hr; have Hk := Lib.hid hk
  have Hlb : Hid ((ls.take b).length = b) := Lib.hid (by rw [List.length_take]; omega)
  have HSa : Hid (Strs w A (ls.take b)) := Lib.hid (by show Row w A (strsV (ls.take b)); rw [strsV_take]; exact hl.take b)
  have HB : Hid (Below w.heap.size w w) := Lib.hid (Below.refl _ _)
  obtain ⟨E, hE⟩ : ∃ E, prepE r (s.take f) = E := ⟨_, rfl⟩
  obtain ⟨F, hF⟩ : ∃ F, prepE r (t.take g) = F := ⟨_, rfl⟩
  have Hk1 : Hid (min (k + 1) 50 = k + 1) := Lib.hid (by omega)
  have Hts : Hid ((s.take f :: r).take (k + 1) = s.take f :: r) := Lib.hid (List.take_of_length_le (by simp; omega))
  have Htt : Hid ((t.take g :: r).take (k + 1) = t.take g :: r) := Lib.hid (List.take_of_length_le (by simp; omega))
  have Hls : Hid ((s.take f :: r).length = k + 1) := Lib.hid (by simp; omega)
  have Hlt : Hid ((t.take g :: r).length = k + 1) := Lib.hid (by simp; omega)
  clear hm hr hk hl h hln hb hf hg
  by_cases hE0 : E = 0
  · subst hE0
    have HE := Lib.hid hE; clear hE
    by_cases hF0 : F = 0
    · subst hF0
      have HF := Lib.hid hF; clear hF
      obtain ⟨x, hx⟩ : ∃ x, s.take f = x := ⟨_, rfl⟩
      obtain ⟨y, hy⟩ : ∃ y, t.take g = y := ⟨_, rfl⟩
      have Hx := Lib.hid hx; have Hy := Lib.hid hy; clear hx hy
      have h0 : (((k : Int) + 1) == 0) = false := by rw [beq_eq_false_iff_ne]; omega
      by_cases hxy : x = y
      · have hb : (s.take f == t.take g) = true := by rw [Hx.out, Hy.out, hxy]; simp
        clear hxy
        go_enter Tryd.func9, Tryd.ntmps9
        have tt1 : True := trivial
        go_wp2_with (first
          | (have _t := tt1; clear _t; go_at_call 15; refine (cut_calls A (ls.take b) b c Hlb.out _ HSa.out).mono ?_; rw [Hr.out, Hk.out]; rintro e w1 ⟨v, rfl, hown, hB⟩; obtain ⟨A1, c1, rfl, -, hkc1, -, hs, -⟩ := strs_own hown; replace HSa := Lib.hid (Row.below HSa.out hB); replace HB := Lib.hid (below_then HB.out (Nat.le_refl _) hB); have HS1 := Lib.hid hs; have HO1 := Lib.hid (own_head hown); clear hown hs hB; clear tt1; have tt2 : True := trivial)
          | (have _t := tt2; clear _t; go_at_call 19; refine (prep_ok A1 r k c1 (s.take f) (k + 1) Hk1.out Hk.out hkc1 (by omega) HE.out _ HS1.out).mono ?_; rintro e w2 ⟨g2, c2, rfl, hkc2, -, -, hcell2, hs, hB⟩; replace HSa := Lib.hid (Row.below HSa.out hB); replace HS1 := Lib.hid (Row.below HS1.out hB); replace HB := Lib.hid (below_then HB.out (Nat.le_refl _) hB); rw [Hts.out] at hs; have HS2 := Lib.hid hs; have HC2 := Lib.hid hcell2; clear hs hcell2; clear hB; clear tt2; have tt3 : True := trivial)
          | (have _t := tt3; clear _t; go_at_call 19; refine (prep_ok A1 r k c1 (t.take g) (k + 1) Hk1.out Hk.out hkc1 (by omega) HF.out _ HS1.out).mono ?_; rintro e w3 ⟨g3, c3, rfl, hkc3, -, -, hcell3, hs, hB⟩; have hc2 := below_at HC2.out hB; replace HSa := Lib.hid (Row.below HSa.out hB); replace HS1 := Lib.hid (Row.below HS1.out hB); replace HS2 := Lib.hid (Row.below HS2.out hB); replace HB := Lib.hid (below_then HB.out (Nat.le_refl _) hB); rw [Htt.out] at hs; have HS3 := Lib.hid hs; have hc3 := hcell3; clear hs hcell3; clear hB; clear tt3; have tt4 : True := trivial))
        refine wp_region_quiet_lit (by kernel_rfl) (by kernel_rfl) ?_
        repeat (go_big_quiet_step (fail))
        refine wpQuiet_nil ?_
        intro _ hw'
        obtain ⟨nq, hw''⟩ := hw'
        subst hw''
        replace HB := Lib.hid (HB.out.trans (below_drewN0 _ nq _))
        have tt4 : True := trivial
        go_wp2_with (first
          | (have _t := tt4; clear _t; go_at_call 12; refine (known_calls m _ (below_at Hm.out HB.out)).mono ?_; rintro e w4 ⟨rfl, hB⟩; replace HB := Lib.hid (below_then HB.out (Nat.le_refl _) hB); clear hB; clear tt4; have tt5 : True := trivial))
        go_ret
        exact ⟨rfl, HB.out⟩
      · have hb : (s.take f == t.take g) = false := by rw [Hx.out, Hy.out]; simpa using hxy
        have HC : Hid (comS (s.take f :: r) (t.take g :: r) = r) := Lib.hid (comS_part r (by rw [Hx.out, Hy.out]; exact hxy))
        clear hxy
        go_enter Tryd.func9, Tryd.ntmps9
        have tt5 : True := trivial
        go_wp2_with (first
          | (have _t := tt5; clear _t; go_at_call 15; refine (cut_calls A (ls.take b) b c Hlb.out _ HSa.out).mono ?_; rw [Hr.out, Hk.out]; rintro e w5 ⟨v, rfl, hown, hB⟩; obtain ⟨A1, c1, rfl, -, hkc1, -, hs, -⟩ := strs_own hown; replace HSa := Lib.hid (Row.below HSa.out hB); replace HB := Lib.hid (below_then HB.out (Nat.le_refl _) hB); have HS1 := Lib.hid hs; have HO1 := Lib.hid (own_head hown); clear hown hs hB; clear tt5; have tt6 : True := trivial)
          | (have _t := tt6; clear _t; go_at_call 19; refine (prep_ok A1 r k c1 (s.take f) (k + 1) Hk1.out Hk.out hkc1 (by omega) HE.out _ HS1.out).mono ?_; rintro e w6 ⟨g2, c2, rfl, hkc2, -, -, hcell2, hs, hB⟩; replace HSa := Lib.hid (Row.below HSa.out hB); replace HS1 := Lib.hid (Row.below HS1.out hB); replace HB := Lib.hid (below_then HB.out (Nat.le_refl _) hB); rw [Hts.out] at hs; have HS2 := Lib.hid hs; have HC2 := Lib.hid hcell2; clear hs hcell2; clear hB; clear tt6; have tt7 : True := trivial)
          | (have _t := tt7; clear _t; go_at_call 19; refine (prep_ok A1 r k c1 (t.take g) (k + 1) Hk1.out Hk.out hkc1 (by omega) HF.out _ HS1.out).mono ?_; rintro e w7 ⟨g3, c3, rfl, hkc3, -, -, hcell3, hs, hB⟩; have hc2 := below_at HC2.out hB; replace HSa := Lib.hid (Row.below HSa.out hB); replace HS1 := Lib.hid (Row.below HS1.out hB); replace HS2 := Lib.hid (Row.below HS2.out hB); replace HB := Lib.hid (below_then HB.out (Nat.le_refl _) hB); rw [Htt.out] at hs; have HS3 := Lib.hid hs; have hc3 := hcell3; clear hs hcell3; clear hB; clear tt7; have tt8 : True := trivial))
        refine wp_region_quiet_lit (by kernel_rfl) (by kernel_rfl) ?_
        repeat (go_big_quiet_step (fail))
        refine wpQuiet_nil ?_
        intro _ hw'
        obtain ⟨nq, hw''⟩ := hw'
        subst hw''
        replace HB := Lib.hid (HB.out.trans (below_drewN0 _ nq _))
        replace HS1 := Lib.hid (strs_q HS1.out (k := nq)); replace HS2 := Lib.hid (strs_q HS2.out (k := nq)); replace HS3 := Lib.hid (strs_q HS3.out (k := nq))
        have tt8 : True := trivial
        go_wp2_with (first
          | (have _t := tt8; clear _t; go_at_call 12; refine (known_calls m _ (below_at Hm.out HB.out)).mono ?_; rintro e w8 ⟨rfl, hB⟩; replace HS1 := Lib.hid (Row.below HS1.out hB); replace HS2 := Lib.hid (Row.below HS2.out hB); replace HS3 := Lib.hid (Row.below HS3.out hB); replace HB := Lib.hid (below_then HB.out (Nat.le_refl _) hB); clear hB; clear tt8; have tt9 : True := trivial)
          | (have _t := tt9; clear _t; go_at_call 25; refine (common_calls _ _ (s.take f :: r) (t.take g :: r) (k + 1) (k + 1) c2 c3 Hls.out Hlt.out (by omega) (by omega) hkc2 _ HS2.out HS3.out).mono ?_; rw [HC.out, Hk.out]; rintro e w9 ⟨v, rfl, hown, hB⟩; obtain ⟨A4, c4, rfl, -, hkc4, -, hs, -⟩ := strs_own hown; replace HS1 := Lib.hid (Row.below HS1.out hB); replace HS2 := Lib.hid (Row.below HS2.out hB); replace HS3 := Lib.hid (Row.below HS3.out hB); replace HB := Lib.hid (below_then HB.out (Nat.le_refl _) hB); have HS4 := Lib.hid hs; have HO4 := Lib.hid (own_head hown); clear hown hs hB; clear tt9; have tt10 : True := trivial)
          | (have _t := tt10; clear _t; go_at_call 13; refine (ssame_refl A4 A1 r c4 c1 k Hk.out (by omega) _ HS4.out HS1.out).mono ?_; rintro e w10 ⟨rfl, hw⟩; have hB := below_of_drew hw; clear hw; replace HS1 := Lib.hid (Row.below HS1.out hB); replace HS2 := Lib.hid (Row.below HS2.out hB); replace HS3 := Lib.hid (Row.below HS3.out hB); replace HS4 := Lib.hid (Row.below HS4.out hB); replace HB := Lib.hid (below_then HB.out (Nat.le_refl _) hB); clear hB; clear tt10; have tt11 : True := trivial))
        go_ret
        exact ⟨by simp, HB.out⟩
    · have H0 := Lib.hid hF0; have HF := Lib.hid hF
      have hne : ((F : Int) != 0) = true := by rw [bne_iff_ne]; omega
      clear hF0 hF
      go_enter Tryd.func9, Tryd.ntmps9
      have tt11 : True := trivial
      go_wp2_with (first
        | (have _t := tt11; clear _t; go_at_call 15; refine (cut_calls A (ls.take b) b c Hlb.out _ HSa.out).mono ?_; rw [Hr.out, Hk.out]; rintro e w11 ⟨v, rfl, hown, hB⟩; obtain ⟨A1, c1, rfl, -, hkc1, -, hs, -⟩ := strs_own hown; replace HSa := Lib.hid (Row.below HSa.out hB); replace HB := Lib.hid (below_then HB.out (Nat.le_refl _) hB); have HS1 := Lib.hid hs; have HO1 := Lib.hid (own_head hown); clear hown hs hB; clear tt11; have tt12 : True := trivial)
        | (have _t := tt12; clear _t; go_at_call 19; refine (prep_ok A1 r k c1 (s.take f) (k + 1) Hk1.out Hk.out hkc1 (by omega) HE.out _ HS1.out).mono ?_; rintro e w12 ⟨g2, c2, rfl, hkc2, -, -, hcell2, hs, hB⟩; replace HSa := Lib.hid (Row.below HSa.out hB); replace HS1 := Lib.hid (Row.below HS1.out hB); replace HB := Lib.hid (below_then HB.out (Nat.le_refl _) hB); rw [Hts.out] at hs; have HS2 := Lib.hid hs; have HC2 := Lib.hid hcell2; clear hs hcell2; clear hB; clear tt12; have tt13 : True := trivial)
        | (have _t := tt13; clear _t; go_at_call 19; refine (prep_no A1 r k c1 (t.take g) F HF.out H0.out Hk.out hkc1 (by omega) _ HS1.out).mono ?_; rintro e w13 ⟨rfl, hw⟩; have hw2 := hw.symm; clear hw; subst hw2; clear tt13; have tt14 : True := trivial))
      have hc2 := HC2.out
      refine wp_region_quiet_lit (by kernel_rfl) (by kernel_rfl) ?_
      repeat (go_big_quiet_step (fail))
      refine wpQuiet_nil ?_
      intro _ hw'
      obtain ⟨nq, hw''⟩ := hw'
      subst hw''
      replace HB := Lib.hid (HB.out.trans (below_drewN0 _ nq _))
      have tt14 : True := trivial
      go_wp2_with (first
        | (have _t := tt14; clear _t; go_at_call 12; refine (known_calls m _ (below_at Hm.out HB.out)).mono ?_; rintro e w14 ⟨rfl, hB⟩; replace HB := Lib.hid (below_then HB.out (Nat.le_refl _) hB); clear hB; clear tt14; have tt15 : True := trivial))
      go_ret
      exact ⟨rfl, HB.out⟩
  · have H0 := Lib.hid hE0; have HE := Lib.hid hE
    have hne : ((E : Int) != 0) = true := by rw [bne_iff_ne]; omega
    clear hE0 hE
    by_cases hF0 : F = 0
    · subst hF0
      have HF := Lib.hid hF; clear hF
      go_enter Tryd.func9, Tryd.ntmps9
      have tt15 : True := trivial
      go_wp2_with (first
        | (have _t := tt15; clear _t; go_at_call 15; refine (cut_calls A (ls.take b) b c Hlb.out _ HSa.out).mono ?_; rw [Hr.out, Hk.out]; rintro e w15 ⟨v, rfl, hown, hB⟩; obtain ⟨A1, c1, rfl, -, hkc1, -, hs, -⟩ := strs_own hown; replace HSa := Lib.hid (Row.below HSa.out hB); replace HB := Lib.hid (below_then HB.out (Nat.le_refl _) hB); have HS1 := Lib.hid hs; have HO1 := Lib.hid (own_head hown); clear hown hs hB; clear tt15; have tt16 : True := trivial)
        | (have _t := tt16; clear _t; go_at_call 19; refine (prep_no A1 r k c1 (s.take f) E HE.out H0.out Hk.out hkc1 (by omega) _ HS1.out).mono ?_; rintro e w16 ⟨rfl, hw⟩; have hw2 := hw.symm; clear hw; subst hw2; clear tt16; have tt17 : True := trivial)
        | (have _t := tt17; clear _t; go_at_call 19; refine (prep_ok A1 r k c1 (t.take g) (k + 1) Hk1.out Hk.out hkc1 (by omega) HF.out _ HS1.out).mono ?_; rintro e w17 ⟨g3, c3, rfl, hkc3, -, -, hcell3, hs, hB⟩; replace HSa := Lib.hid (Row.below HSa.out hB); replace HS1 := Lib.hid (Row.below HS1.out hB); replace HB := Lib.hid (below_then HB.out (Nat.le_refl _) hB); rw [Htt.out] at hs; have HS3 := Lib.hid hs; have hc3 := hcell3; clear hs hcell3; clear hB; clear tt17; have tt18 : True := trivial))
      refine wp_region_quiet_lit (by kernel_rfl) (by kernel_rfl) ?_
      repeat (go_big_quiet_step (fail))
      refine wpQuiet_nil ?_
      intro _ hw'
      obtain ⟨nq, hw''⟩ := hw'
      subst hw''
      replace HB := Lib.hid (HB.out.trans (below_drewN0 _ nq _))
      have tt18 : True := trivial
      go_wp2_with (first
        | (have _t := tt18; clear _t; go_at_call 12; refine (known_calls m _ (below_at Hm.out HB.out)).mono ?_; rintro e w18 ⟨rfl, hB⟩; replace HB := Lib.hid (below_then HB.out (Nat.le_refl _) hB); clear hB; clear tt18; have tt19 : True := trivial))
      go_ret
      exact ⟨rfl, HB.out⟩
    · have HF := Lib.hid hF; have H0F := Lib.hid hF0
      clear hF hF0
      go_enter Tryd.func9, Tryd.ntmps9
      have tt19 : True := trivial
      go_wp2_with (first
        | (have _t := tt19; clear _t; go_at_call 15; refine (cut_calls A (ls.take b) b c Hlb.out _ HSa.out).mono ?_; rw [Hr.out, Hk.out]; rintro e w19 ⟨v, rfl, hown, hB⟩; obtain ⟨A1, c1, rfl, -, hkc1, -, hs, -⟩ := strs_own hown; replace HSa := Lib.hid (Row.below HSa.out hB); replace HB := Lib.hid (below_then HB.out (Nat.le_refl _) hB); have HS1 := Lib.hid hs; have HO1 := Lib.hid (own_head hown); clear hown hs hB; clear tt19; have tt20 : True := trivial)
        | (have _t := tt20; clear _t; go_at_call 19; refine (prep_no A1 r k c1 (s.take f) E HE.out H0.out Hk.out hkc1 (by omega) _ HS1.out).mono ?_; rintro e w20 ⟨rfl, hw⟩; have hw2 := hw.symm; clear hw; subst hw2; clear tt20; have tt21 : True := trivial)
        | (have _t := tt21; clear _t; go_at_call 19; refine (prep_no A1 r k c1 (t.take g) F HF.out H0F.out Hk.out hkc1 (by omega) _ HS1.out).mono ?_; rintro e w21 ⟨rfl, hw⟩; have hw2 := hw.symm; clear hw; subst hw2; clear tt21; have tt22 : True := trivial))
      refine wp_region_quiet_lit (by kernel_rfl) (by kernel_rfl) ?_
      repeat (go_big_quiet_step (fail))
      refine wpQuiet_nil ?_
      intro _ hw'
      obtain ⟨nq, hw''⟩ := hw'
      subst hw''
      replace HB := Lib.hid (HB.out.trans (below_drewN0 _ nq _))
      have tt22 : True := trivial
      go_wp2_with (first
        | (have _t := tt22; clear _t; go_at_call 12; refine (known_calls m _ (below_at Hm.out HB.out)).mono ?_; rintro e w22 ⟨rfl, hB⟩; replace HB := Lib.hid (below_then HB.out (Nat.le_refl _) hB); clear hB; clear tt22; have tt23 : True := trivial))
      go_ret
      exact ⟨rfl, HB.out⟩
theorem own : ownKnob Tryd.prog.godebug = none := by kernel_rfl
theorem laidOut : laidOutB Tryd.prog = true := by kernel_rfl
def laidL : List (String × DataW Unit) := [("unicode/utf8.acceptRanges", Rows.laid_unicode_utf8_acceptRanges), ("unicode/utf8.first", Rows.laid_unicode_utf8_first)]
set_option maxRecDepth 100000 in
theorem lifted (os : Os) (started : os.Started) (H : Type) (enc : TypeId × Value → H) :
    ReturnsInHanded {} Tryd.checked os 9 .any (fun w args => (Rows.routeSharesSpec.pre enc Tryd.prog Tryd.f9 [] false w args ∧ laidMetH Tryd.prog laidL w) ∧ sizedMet enc Tryd.prog Tryd.f9 (OpenSpec.ofChange Rows.routeSharesSpec) false w args) (Rows.routeSharesSpec.post enc Tryd.prog Tryd.f9 false true false false) := by
  refine returns_tied (C := Tryd.checked) (X := fun w _ => laidMetH Tryd.prog laidL w) (fun _ _ _ hh h => h.of_heap hh) own started (by kernel_rfl) Tryd.func9
    (ChangeSpec.witness_shaped (enc := enc) (C := Tryd.checked) (os := os) (X := fun w _ => laidMetH Tryd.prog laidL w) false (World.laidAll Tryd.prog os laidL) #[.slice none 0 0, .string .empty, .string .empty] 8 (World.laidAll_os _ _ _)
      (World.shaped_of_ZipB (by kernel_rfl) (by kernel_rfl)) (by kernel_rfl) (by kernel_rfl) (by kernel_rfl)
      (by rw [MakeChecks.laidMetH_plain _ _ _ (by kernel_rfl)]; exact laidMet_laidAll _ (by kernel_rfl) (by kernel_rfl))) ?_
  intro W base args ds gs before hval0 hW hcnd _ hL hsh _
  have hval : ∀ (j : Nat) t v, Tryd.f9.params[j]? = some t → args[j]? = some v → Value.okWide Tryd.prog W .any base t v := hval0
  have hW' := hW
  obtain ⟨p, q, hA0, hV, rfl, hfz, hnd⟩ := hW
  have hA : DataW.TrodAll enc Tryd.prog W 0 (fun _ => true) true Tryd.f9.params.toList args.toList ds p := hA0
  rw [Tryd.params9] at hA hval
  obtain ⟨v0, vs0, d0, ds0, p0, q0, hargs, rfl, rfl, h0, r0⟩ := trodAll_cons hA
  obtain ⟨v1, vs1, d1, ds1, p1, q1, rfl, rfl, rfl, h1, r1⟩ := trodAll_cons r0
  obtain ⟨v2, vs2, d2, ds2, p2, q2, rfl, rfl, rfl, h2, r2⟩ := trodAll_cons r1
  obtain ⟨rfl, rfl, rfl⟩ := trodAll_nil r2
  obtain rfl : args = #[v0, v1, v2] := by cases args; simp_all
  obtain ⟨rfl, rfl⟩ := trodVars_none hV
  have k0 := h0
  have lt0 : ∀ x ∈ p0, x.block < W.heap.size := by obtain ⟨m, hm⟩ := k0; exact DataW.trod_lt m _ _ _ hm
  have k1 := h1
  have lt1 : ∀ x ∈ p1, x.block < W.heap.size := by obtain ⟨m, hm⟩ := k1; exact DataW.trod_lt m _ _ _ hm
  have k2 := h2
  have lt2 : ∀ x ∈ p2, x.block < W.heap.size := by obtain ⟨m, hm⟩ := k2; exact DataW.trod_lt m _ _ _ hm
  obtain ⟨A0, n0, c0, ls0, rfl, hls0, hnc0, hc0, hI0, hd0⟩ := open_strs_d (e := 9) Tryd.underlying22 Tryd.underlying9 (by kernel_rfl) (hval 0 22 v0 rfl rfl) h0
  obtain ⟨s1, rfl, _, _, hs1⟩ := open_string Tryd.underlying9 (hval 1 9 v1 rfl rfl) h1
  obtain ⟨s2, rfl, _, _, hs2⟩ := open_string Tryd.underlying9 (hval 2 9 v2 rfl rfl) h2
  clear hA0 hval0
  refine (law_all A0 n0 c0 ls0 hls0 hnc0 s1.data.toList s2.data.toList W hI0 hsh).mono fun e W' ⟨he, bel⟩ => ?_
  subst he
  exact ⟨_, rfl, _, _, _, [], _, [], hW', trodAll_mk1 (shut_bool Tryd.underlying4 _), (trodAll_cons_mk (Below.trod laidOut (by kernel_rfl) (of_decide_eq_true (by kernel_rfl)) k0 bel lt0) (trodAll_cons_mk (Below.trod laidOut (by kernel_rfl) (of_decide_eq_true (by kernel_rfl)) k1 bel lt1) (trodAll_cons_mk (Below.trod laidOut (by kernel_rfl) (of_decide_eq_true (by kernel_rfl)) k2 bel lt2) trodAll_mk0))), rfl, bel.frame _, fun h => by cases h⟩
theorem bare : Rows.RouteSharesSaid :=
  OpenClaim.holds_of_wide 9 Tryd.f9 rfl rfl rfl rfl rfl rfl rfl ⟨rfl, rfl, rfl, rfl, rfl⟩ rfl rfl rfl rfl rfl (by kernel_rfl) Tryd.func9 (by kernel_rfl)
    (of_decide_eq_true (by kernel_rfl)) (by unfold Func.isWrapper; first | (rw [if_pos (by decide +kernel)]; kernel_rfl) | (rw [if_neg (by decide +kernel)]; exact ⟨rfl, rfl⟩))
    (fun os started H enc _ => lifted os started H enc)
theorem proved : Rows.RouteSharesCardSaid :=
  Claim7.holds_tied_plain_at .later [] [.data, .pinned] true (true, "8856bb8ec3b8f4f12783bf82ad44a4f2a1053028eaa4cb9d3c57b2c25d3d5669") false bare (fun _ h => by cases h) (by kernel_rfl) (fun _ h => by cases h) routeShares_row_tie rfl ⟨rfl, rfl⟩ (by kernel_rfl) rfl
    (fun f fn hf hfn => by
      obtain rfl : f = 9 := Option.some.inj ((show Tryd.prog.funcNamed "bulletin/bulletinlaw16.RouteShares" = some 9 by kernel_rfl).symm.trans hf) |>.symm
      obtain rfl : fn = Tryd.f9 := (Option.some.inj (Tryd.func9.symm.trans hfn)).symm
      exact ⟨by kernel_rfl, fun j t ht => by
        rw [Tryd.params9] at ht
        have hm : t ∈ [22, 9, 9] := by simpa using Array.mem_of_getElem? ht
        have hall : ([22, 9, 9].all fun u => !Tryd.prog.wantsStandIn u) = true := by kernel_rfl
        exact (show Tryd.prog.wantsStandIn t = false by simpa using List.all_eq_true.1 hall t hm)⟩)
    (by kernel_rfl)
end Go.Proofs.YtdmnphebkkfjmaaDoor.lawSha
