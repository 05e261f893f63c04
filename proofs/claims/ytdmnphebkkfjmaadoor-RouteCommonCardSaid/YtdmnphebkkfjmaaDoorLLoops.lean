/- The law RouteLoops. -/
import Derived.Test.YtdmnphebkkfjmaaDoorKn
import Derived.Test.YtdmnphebkkfjmaaDoorInd2
import Derived.Test.YtdmnphebkkfjmaaDoorTied
import Derived.Test.YtdmnphebkkfjmaaDoorTie
import Derived.Test.YtdmnphebkkfjmaaDoorCards
import Derived.ShutString
import Derived.Deep.Slices
import Derived.ChangeOld
import Derived.SizedLaws
import Derived.ChangeMaps5
namespace Go.Proofs.YtdmnphebkkfjmaaDoor.lawLoops
open Go.ChangeShapes Go.WideShapes Go.ChangeAt Go.RowKit Go.Deep Go.ChangeMaps
theorem maxlen {w : World} (h : w.ShapedOpen Tryd.prog) : ∃ m, w.cell? ⟨0, 0, none⟩ = some (.int .i64 m) :=
  cell_of_shapedOpen_int h (t := 3) (zero := #[.int .i64 0]) (by decide +kernel) (by kernel_rfl) rfl (by kernel_rfl) (by kernel_rfl) Tryd.underlying3
theorem cut_len60 (ls : List (List UInt8)) : (cutS ls).length ≤ 60 := by rw [cutS_len]; omega
set_option maxRecDepth 100000 in
set_option maxHeartbeats 1600000 in
theorem law_all (A : Option Addr) (n c : Nat) (ls : List (List UInt8)) (hln : ls.length = n) (s : List UInt8) (w : World) (hl : Strs w A ls) (h : w.ShapedOpen Tryd.prog) :
    Calls Tryd.prog 7 #[.slice A n c, .string (str s)] w fun e w' => e = .returned (.bool true) ∧ Below w.heap.size w w' := by
  obtain ⟨m, hm⟩ := maxlen h
  obtain ⟨r, hr⟩ : ∃ r, cutS ls = r := ⟨_, rfl⟩
  obtain ⟨k, hk⟩ : ∃ k, r.length = k := ⟨_, rfl⟩
  have hk60 : k ≤ 60 := by rw [← hk, ← hr]; exact cut_len60 ls
  have hcut := cut_calls A ls n c hln w hl
  rw [hr, hk] at hcut
  obtain ⟨R, hR⟩ : ∃ R, loopS r = R := ⟨_, rfl⟩
  have hV : loopV r = .tuple #[.string (str (R.getD [])), .bool R.isSome] := by unfold loopV; rw [hR]
  have Hm := Lib.hid hm; have Hl := Lib.hid hl; have Hcut := Lib.hid hcut; have HV := Lib.hid hV; have Hk := Lib.hid hk
  clear hm hl hcut hV hk hr hR h hln
  have t1 : True := trivial
  go_enter Tryd.func7, Tryd.ntmps7
  go_wp2_with (first
    | (go_at_call 15; refine Hcut.out.mono ?_; rintro e w1 ⟨v, rfl, hown1, hB1⟩; obtain ⟨A1, c1, rfl, -, hkc, -, hs1, -⟩ := strs_own hown1; have Hs1 := Lib.hid hs1; have HB1 := Lib.hid hB1; clear hown1 hs1 hB1)
    | (go_at_call 22; refine (loop_calls A1 r k c1 Hk.out (by omega) hkc w1 Hs1.out).mono ?_; rw [HV.out]; rintro e w2 ⟨rfl, hw⟩; have hw2 := hw.symm; clear hw; subst hw2)
    | (go_at_call 23; refine (rloop_calls A1 r k c1 Hk.out (by omega) hkc _ Hs1.out).mono ?_; rw [HV.out]; rintro e w3 ⟨rfl, q, hw⟩; have HB3 : Hid (Below w.heap.size w w3) := Lib.hid (by rw [hw]; exact HB1.out.trans (below_drewN0 _ _ _)); have Hs3 : Hid (Strs w3 A1 r) := Lib.hid (by rw [hw]; exact Hs1.out); clear hw)
    | (go_at_call 12; refine (known_calls m _ (below_at Hm.out HB3.out)).mono ?_; rintro e w4 ⟨rfl, hB4⟩; have HB4 := Lib.hid (below_then HB3.out (Nat.le_refl _) hB4); have Hs4 := Lib.hid (Row.below Hs3.out hB4); clear hB4)
    | (go_at_call 21; refine (contains_calls A1 r k c1 s Hk.out w4 (by omega) Hs4.out).mono ?_; rintro e w5 ⟨rfl, hw⟩; have hw2 := hw.symm; clear hw; subst hw2)
    | (go_at_call 24; refine (has_calls A1 r k c1 s Hk.out w4 (by omega) Hs4.out).mono ?_; rintro e w5 ⟨rfl, hw⟩; have hw2 := hw.symm; clear hw; subst hw2))
  go_ret
  exact ⟨by simp, HB4.out⟩
theorem own : ownKnob Tryd.prog.godebug = none := by kernel_rfl
theorem laidOut : laidOutB Tryd.prog = true := by kernel_rfl
def laidL : List (String × DataW Unit) := [("unicode/utf8.acceptRanges", Rows.laid_unicode_utf8_acceptRanges), ("unicode/utf8.first", Rows.laid_unicode_utf8_first)]
set_option maxRecDepth 100000 in
theorem lifted (os : Os) (started : os.Started) (H : Type) (enc : TypeId × Value → H) :
    ReturnsInHanded {} Tryd.checked os 7 .any (fun w args => (Rows.routeLoopsSpec.pre enc Tryd.prog Tryd.f7 [] false w args ∧ laidMetH Tryd.prog laidL w) ∧ sizedMet enc Tryd.prog Tryd.f7 (OpenSpec.ofChange Rows.routeLoopsSpec) false w args) (Rows.routeLoopsSpec.post enc Tryd.prog Tryd.f7 false true false false) := by
  refine returns_tied (C := Tryd.checked) (X := fun w _ => laidMetH Tryd.prog laidL w) (fun _ _ _ hh h => h.of_heap hh) own started (by kernel_rfl) Tryd.func7
    (ChangeSpec.witness_shaped (enc := enc) (C := Tryd.checked) (os := os) (X := fun w _ => laidMetH Tryd.prog laidL w) false (World.laidAll Tryd.prog os laidL) #[.slice none 0 0, .string .empty] 8 (World.laidAll_os _ _ _)
      (World.shaped_of_ZipB (by kernel_rfl) (by kernel_rfl)) (by kernel_rfl) (by kernel_rfl) (by kernel_rfl)
      (by rw [MakeChecks.laidMetH_plain _ _ _ (by kernel_rfl)]; exact laidMet_laidAll _ (by kernel_rfl) (by kernel_rfl))) ?_
  intro W base args ds gs before hval0 hW hcnd _ hL hsh _
  have hval : ∀ (j : Nat) t v, Tryd.f7.params[j]? = some t → args[j]? = some v → Value.okWide Tryd.prog W .any base t v := hval0
  have hW' := hW
  obtain ⟨p, q, hA0, hV, rfl, hfz, hnd⟩ := hW
  have hA : DataW.TrodAll enc Tryd.prog W 0 (fun _ => true) true Tryd.f7.params.toList args.toList ds p := hA0
  rw [Tryd.params7] at hA hval
  obtain ⟨v0, vs0, d0, ds0, p0, q0, hargs, rfl, rfl, h0, r0⟩ := trodAll_cons hA
  obtain ⟨v1, vs1, d1, ds1, p1, q1, rfl, rfl, rfl, h1, r1⟩ := trodAll_cons r0
  obtain ⟨rfl, rfl, rfl⟩ := trodAll_nil r1
  obtain rfl : args = #[v0, v1] := by cases args; simp_all
  obtain ⟨rfl, rfl⟩ := trodVars_none hV
  have k0 := h0
  have lt0 : ∀ x ∈ p0, x.block < W.heap.size := by obtain ⟨m, hm⟩ := k0; exact DataW.trod_lt m _ _ _ hm
  have k1 := h1
  have lt1 : ∀ x ∈ p1, x.block < W.heap.size := by obtain ⟨m, hm⟩ := k1; exact DataW.trod_lt m _ _ _ hm
  obtain ⟨A0, n0, c0, ls0, rfl, hls0, hnc0, hc0, hI0, hd0⟩ := open_strs_d (e := 9) Tryd.underlying22 Tryd.underlying9 (by kernel_rfl) (hval 0 22 v0 rfl rfl) h0
  obtain ⟨s1, rfl, _, _, hs1⟩ := open_string Tryd.underlying9 (hval 1 9 v1 rfl rfl) h1
  clear hA0 hval0
  refine (law_all A0 n0 c0 ls0 hls0 s1.data.toList W hI0 hsh).mono fun e W' ⟨he, bel⟩ => ?_
  subst he
  exact ⟨_, rfl, _, _, _, [], _, [], hW', trodAll_mk1 (shut_bool Tryd.underlying4 _), (trodAll_cons_mk (Below.trod laidOut (by kernel_rfl) (of_decide_eq_true (by kernel_rfl)) k0 bel lt0) (trodAll_cons_mk (Below.trod laidOut (by kernel_rfl) (of_decide_eq_true (by kernel_rfl)) k1 bel lt1) trodAll_mk0)), rfl, bel.frame _, fun h => by cases h⟩
theorem bare : Rows.RouteLoopsSaid :=
  OpenClaim.holds_of_wide 7 Tryd.f7 rfl rfl rfl rfl rfl rfl rfl ⟨rfl, rfl, rfl, rfl, rfl⟩ rfl rfl rfl rfl rfl (by kernel_rfl) Tryd.func7 (by kernel_rfl)
    (of_decide_eq_true (by kernel_rfl)) (by unfold Func.isWrapper; first | (rw [if_pos (by decide +kernel)]; kernel_rfl) | (rw [if_neg (by decide +kernel)]; exact ⟨rfl, rfl⟩))
    (fun os started H enc _ => lifted os started H enc)
theorem proved : Rows.RouteLoopsCardSaid :=
  Claim7.holds_tied_plain_at .later [] [.data, .pinned] true (true, "8856bb8ec3b8f4f12783bf82ad44a4f2a1053028eaa4cb9d3c57b2c25d3d5669") false bare (fun _ h => by cases h) (by kernel_rfl) (fun _ h => by cases h) routeLoops_row_tie rfl ⟨rfl, rfl⟩ (by kernel_rfl) rfl
    (fun f fn hf hfn => by
      obtain rfl : f = 7 := Option.some.inj ((show Tryd.prog.funcNamed "bulletin/bulletinlaw16.RouteLoops" = some 7 by kernel_rfl).symm.trans hf) |>.symm
      obtain rfl : fn = Tryd.f7 := (Option.some.inj (Tryd.func7.symm.trans hfn)).symm
      exact ⟨by kernel_rfl, fun j t ht => by
        rw [Tryd.params7] at ht
        have hm : t ∈ [22, 9] := by simpa using Array.mem_of_getElem? ht
        have hall : ([22, 9].all fun u => !Tryd.prog.wantsStandIn u) = true := by kernel_rfl
        exact (show Tryd.prog.wantsStandIn t = false by simpa using List.all_eq_true.1 hall t hm)⟩)
    (by kernel_rfl)
end Go.Proofs.YtdmnphebkkfjmaaDoor.lawLoops
