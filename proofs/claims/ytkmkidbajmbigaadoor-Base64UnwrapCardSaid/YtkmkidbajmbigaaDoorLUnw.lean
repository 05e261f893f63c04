/- The law Base64Unwrap: for every text of at most 600 bytes, Unwrap returns the text, or the offset and the error, of the reference. -/
import Derived.Test.YtkmkidbajmbigaaDoorUnW
import Derived.Test.YtkmkidbajmbigaaDoorTie
import Derived.Test.YtkmkidbajmbigaaDoorCards
import Derived.ShutString
import Derived.Deep.Slices
import Derived.ChangeOld
import Derived.SizedLaws
import Derived.ChangeMaps5
namespace Go.Proofs.YtkmkidbajmbigaaDoor.lawUnw
open Go Go.ChangeShapes Go.WideShapes Go.ChangeAt Go.RowKit Go.Deep Go.ChangeMaps
theorem maxlen {w : World} (h : w.ShapedOpen Tryd.prog) : ∃ m, w.cell? ⟨0, 0, none⟩ = some (.int .i64 m) :=
  cell_of_shapedOpen_int h (t := 3) (zero := #[.int .i64 0]) (by decide +kernel) (by kernel_rfl) rfl (by kernel_rfl) (by kernel_rfl) Tryd.underlying3
theorem cell_keep {w W : World} {p : Addr} {v : Value} (hc : w.cell? p = some v) (h : Below w.heap.size w W) : W.cell? p = some v := by
  rw [h.cell (isSome_lt (by rw [hc]; rfl))]; exact hc
set_option maxRecDepth 100000 in
set_option maxHeartbeats 3200000 in
theorem law_all (l : List UInt8) (w : World) (h : w.ShapedOpen Tryd.prog) :
    Calls Tryd.prog 3 #[.string (ust l)] w fun e w' => e = .returned (.bool true) ∧ Below w.heap.size w w' := by
  obtain ⟨m, hm⟩ := maxlen h
  have Hm := Lib.hid hm
  clear hm h
  by_cases h6 : l.length ≤ 600
  · obtain ⟨R, hR⟩ : ∃ R, unwS l = R := ⟨_, rfl⟩
    obtain ⟨t, a, e0⟩ := R
    have HV : Hid (unwV (unwS l) = .tuple #[.string (ust t), .int .i64 a, .int .i64 e0]) := Lib.hid (by rw [hR]; rfl)
    have H6 := Lib.hid h6
    have h6' : ¬ (600 : Int) < l.length := by omega
    have ht : (t == t) = true := beq_self_eq_true t
    clear h6 hR
    go_enter Tryd.func3, Tryd.ntmps3
    go_wp2_with (first
      | (go_at_call 4; refine (known_calls _).mono ?_; rintro e w1 ⟨rfl, hb1⟩; have HB1 := Lib.hid hb1; clear hb1)
      | (go_at_call 5; refine (unwrap_calls l H6.out m _ (cell_keep Hm.out HB1.out)).mono ?_; rw [HV.out]; rintro e w2 ⟨rfl, hb2⟩; have HB2 := Lib.hid (HB1.out.trans (hb2.mono HB1.out.size)); clear hb2)
      | (go_at_call 6; refine (runwrap_calls l H6.out _).mono ?_; rw [HV.out]; rintro e w3 ⟨rfl, hw⟩; have hw2 := hw.symm; clear hw; subst hw2))
    go_ret
    exact ⟨by simp, HB2.out⟩
  · have h6' : (600 : Int) < l.length := by omega
    have t1 : True := trivial
    clear h6
    go_enter Tryd.func3, Tryd.ntmps3
    go_wp2_with (first
      | (have _t := t1; go_at_call 4; refine (known_calls _).mono ?_; rintro e w1 ⟨rfl, hb1⟩; have HB1 := Lib.hid hb1; clear hb1 t1)
      | (go_at_call 4; refine (known_calls _).mono ?_; rintro e w2 ⟨rfl, hb2⟩; have HB2 := Lib.hid (HB1.out.trans (hb2.mono HB1.out.size)); clear hb2))
    go_ret
    exact ⟨rfl, HB2.out⟩
theorem own : ownKnob Tryd.prog.godebug = none := by kernel_rfl
theorem laidOut : laidOutB Tryd.prog = true := by kernel_rfl
def laidL : List (String × DataW Unit) := [("unicode/utf8.acceptRanges", Rows.laid_unicode_utf8_acceptRanges), ("unicode/utf8.first", Rows.laid_unicode_utf8_first)]
set_option maxRecDepth 100000 in
theorem lifted (os : Os) (started : os.Started) (H : Type) (enc : TypeId × Value → H) :
    ReturnsInHanded {} Tryd.checked os 3 .any (fun w args => (Rows.base64UnwrapSpec.pre enc Tryd.prog Tryd.f3 [] false w args ∧ laidMetH Tryd.prog laidL w) ∧ sizedMet enc Tryd.prog Tryd.f3 (OpenSpec.ofChange Rows.base64UnwrapSpec) false w args) (Rows.base64UnwrapSpec.post enc Tryd.prog Tryd.f3 false true false false) := by
  refine returns_tied (C := Tryd.checked) (X := fun w _ => laidMetH Tryd.prog laidL w) (fun _ _ _ hh h => h.of_heap hh) own started (by kernel_rfl) Tryd.func3
    (ChangeSpec.witness_shaped (enc := enc) (C := Tryd.checked) (os := os) (X := fun w _ => laidMetH Tryd.prog laidL w) false (World.laidAll Tryd.prog os laidL) #[.string .empty] 8 (World.laidAll_os _ _ _)
      (World.shaped_of_ZipB (by kernel_rfl) (by kernel_rfl)) (by kernel_rfl) (by kernel_rfl) (by kernel_rfl)
      (by rw [MakeChecks.laidMetH_plain _ _ _ (by kernel_rfl)]; exact laidMet_laidAll _ (by kernel_rfl) (by kernel_rfl))) ?_
  intro W base args ds gs before hval0 hW hcnd _ hL hsh _
  have hval : ∀ (j : Nat) t v, Tryd.f3.params[j]? = some t → args[j]? = some v → Value.okWide Tryd.prog W .any base t v := hval0
  have hW' := hW
  obtain ⟨p, q, hA0, hV, rfl, hfz, hnd⟩ := hW
  have hA : DataW.TrodAll enc Tryd.prog W 0 (fun _ => true) true Tryd.f3.params.toList args.toList ds p := hA0
  rw [Tryd.params3] at hA hval
  obtain ⟨v0, vs0, d0, ds0, p0, q0, hargs, rfl, rfl, h0, r0⟩ := trodAll_cons hA
  obtain ⟨rfl, rfl, rfl⟩ := trodAll_nil r0
  obtain rfl : args = #[v0] := by cases args; simp_all
  obtain ⟨rfl, rfl⟩ := trodVars_none hV
  have k0 := h0
  have lt0 : ∀ x ∈ p0, x.block < W.heap.size := by obtain ⟨m, hm⟩ := k0; exact DataW.trod_lt m _ _ _ hm
  obtain ⟨s0, rfl, _, _, hs0⟩ := open_string Tryd.underlying9 (hval 0 9 v0 rfl rfl) h0
  clear hA0 hval0
  refine (law_all s0.data.toList W hsh).mono fun e W' ⟨he, bel⟩ => ?_
  subst he
  exact ⟨_, rfl, _, _, _, [], _, [], hW', trodAll_mk1 (shut_bool Tryd.underlying4 _), (trodAll_cons_mk (Below.trod laidOut (by kernel_rfl) (of_decide_eq_true (by kernel_rfl)) k0 bel lt0) trodAll_mk0), rfl, bel.frame _, fun h => by cases h⟩
theorem bare : Rows.Base64UnwrapSaid :=
  OpenClaim.holds_of_wide 3 Tryd.f3 rfl rfl rfl rfl rfl rfl rfl ⟨rfl, rfl, rfl, rfl, rfl⟩ rfl rfl rfl rfl rfl (by kernel_rfl) Tryd.func3 (by kernel_rfl)
    (of_decide_eq_true (by kernel_rfl)) (by unfold Func.isWrapper; first | (rw [if_pos (by decide +kernel)]; kernel_rfl) | (rw [if_neg (by decide +kernel)]; exact ⟨rfl, rfl⟩))
    (fun os started H enc _ => lifted os started H enc)
theorem proved : Rows.Base64UnwrapCardSaid :=
  Claim7.holds_tied_plain_at .later [] [.data, .pinned] true (true, "6a2b03110d0cdd2d0197e2697bc926bea07e3688b0b5b4849dedfbebb0a6bff0") false bare (fun _ h => by cases h) (by kernel_rfl) (fun _ h => by cases h) base64Unwrap_row_tie rfl ⟨rfl, rfl⟩ (by kernel_rfl) rfl
    (fun f fn hf hfn => by
      obtain rfl : f = 3 := Option.some.inj ((show Tryd.prog.funcNamed "bulletin/bulletinlaw02.Base64Unwrap" = some 3 by kernel_rfl).symm.trans hf) |>.symm
      obtain rfl : fn = Tryd.f3 := (Option.some.inj (Tryd.func3.symm.trans hfn)).symm
      exact ⟨by kernel_rfl, fun j t ht => by
        rw [Tryd.params3] at ht
        have hm : t ∈ [9] := by simpa using Array.mem_of_getElem? ht
        have hall : ([9].all fun u => !Tryd.prog.wantsStandIn u) = true := by kernel_rfl
        exact (show Tryd.prog.wantsStandIn t = false by simpa using List.all_eq_true.1 hall t hm)⟩)
    (by kernel_rfl)
end Go.Proofs.YtkmkidbajmbigaaDoor.lawUnw
