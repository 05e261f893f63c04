/- ReferencesPrint: for every list of identities the law's call returns true and leaves its arguments as they were. No conditions. -/
import Derived.Test.YtafpndmoognjlaaPr2
import Derived.Test.YtafpndmoognjlaaOpen
import Derived.ShutString
namespace Go.Proofs.Ytafpndmoognjlaa.lawPrint
open Go.ChangeShapes Go.WideShapes Go.ChangeAt Go.RowKit
set_option maxRecDepth 100000 in
set_option maxHeartbeats 400000 in
theorem law_all (A : Option Addr) (ls : List (List UInt8)) (c n : Nat) (hln : ls.length = n) (hnc : n ≤ c) (w : World) (hl : Ids w A ls) :
    Calls Try.prog 9 #[.slice A n c] w fun e w' => e = .returned (.bool true) ∧ Below w.heap.size w w' := by
  have Hl := Lib.hid hln
  clear hln
  by_cases h : 30 < n
  · have h30 : (30 : Int) < n := by omega
    go_enter Try.func9, Try.ntmps9
    go_wp2_with fail
    refine (known_calls _).mono ?_
    rintro e w2 ⟨rfl, hb2⟩
    go_wp2_with fail
    refine (known_calls _).mono ?_
    rintro e w3 ⟨rfl, hb3⟩
    go_wp2
    go_ret
    exact ⟨rfl, hb2.trans (hb3.mono hb2.size)⟩
  · have h30 : ¬ (30 : Int) < n := by omega
    go_enter Try.func9, Try.ntmps9
    go_wp2_with fail
    refine (known_calls _).mono ?_
    rintro e w2 ⟨rfl, hB2⟩
    go_wp2_with fail
    refine (own_calls A ls c n Hl.out (by omega) _ (hl.below hB2)).mono ?_
    rintro e w3 ⟨v3, rfl, hown3, hb3⟩
    obtain ⟨A3, c3, rfl, -, h53, h63, h73, -⟩ := Ids.of_own hown3 hl.len
    have hB3 := below_then hB2 (Nat.le_refl _) hb3
    go_wp2_with fail
    refine (print_calls A3 ls c3 n Hl.out h53 _ h73).mono ?_
    rintro e w4 ⟨rfl, hb4⟩
    have hB4 := below_then hB3 (Nat.le_refl _) hb4
    go_wp2_with fail
    refine (rprint_calls A ls c n Hl.out hnc _ (hl.below hB4)).mono ?_
    rintro e w5 ⟨rfl, hb5⟩
    have hB5 := below_then hB4 (Nat.le_refl _) hb5
    go_wp2_with fail
    refine (own_calls A ls c n Hl.out (by omega) _ (hl.below hB5)).mono ?_
    rintro e w6 ⟨v6, rfl, hown6, hb6⟩
    obtain ⟨A6, c6, rfl, -, h56, h66, h76, -⟩ := Ids.of_own hown6 hl.len
    have hB6 := below_then hB5 (Nat.le_refl _) hb6
    go_wp2_with fail
    refine (check_calls A6 ls c6 n Hl.out _ h76).mono ?_
    rintro e w7 ⟨rfl, hb7⟩
    have hB7 := below_then hB6 (Nat.le_refl _) hb7
    go_wp2
    go_ret
    exact ⟨rfl, hB7⟩
theorem own : ownKnob Try.prog.godebug = none := by kernel_rfl
theorem laidOut : laidOutB Try.prog = true := by kernel_rfl
set_option maxRecDepth 100000 in
theorem lifted (os : Os) (started : os.Started) (H : Type) (enc : TypeId × Value → H) :
    ReturnsInHanded {} Try.checked os 9 .any (Rows.referencesPrintSpec.pre6 enc Try.prog Try.f9 Rows.referencesPrintRow.domain false) (Rows.referencesPrintSpec.post enc Try.prog Try.f9 false true false false) := by
  refine returnsInHanded_of_change (C := Try.checked) own started (by kernel_rfl) Try.func9
    (ChangeSpec.witness6 (enc := enc) (C := Try.checked) false ⟨#[], #[.slice none 0 0], []⟩ 8 (by kernel_rfl) (by kernel_rfl) (by kernel_rfl) (by kernel_rfl)) ?_
  intro W base args ds gs before hval0 hW hcnd _
  have hval : ∀ (j : Nat) t v, Try.f9.params[j]? = some t → args[j]? = some v → Value.okWide Try.prog W .any base t v := hval0
  have hW' := hW
  obtain ⟨p, q, hA0, hV, rfl, hfz, hnd⟩ := hW
  have hA : DataW.TrodAll enc Try.prog W 0 (fun _ => true) true Try.f9.params.toList args.toList ds p := hA0
  rw [Try.params9] at hA hval
  obtain ⟨v0, vs0, d0, ds0, p0, q0, hargs, rfl, rfl, h0, r0⟩ := trodAll_cons hA
  obtain ⟨rfl, rfl, rfl⟩ := trodAll_nil r0
  obtain rfl : args = #[v0] := by cases args; simp_all
  obtain ⟨rfl, rfl⟩ := trodVars_none hV
  have k0 := h0
  have lt0 : ∀ x ∈ p0, x.block < W.heap.size := by obtain ⟨m, hm⟩ := k0; exact DataW.trod_lt m _ _ _ hm
  obtain ⟨A0, n0, c0, ls0, rfl, hls0, hnc0, hc0, hI0⟩ := open_ids (e := 38) Try.underlying22 (by kernel_rfl) (hval 0 22 v0 rfl rfl) h0
  clear hA0 hval0
  refine (law_all A0 ls0 c0 n0 hls0 hnc0 W hI0).mono fun e W' ⟨he, bel⟩ => ?_
  subst he
  exact ⟨_, rfl, _, _, _, [], _, [], hW', trodAll_mk1 (shut_bool Try.underlying4 _), (trodAll_cons_mk (Below.trod laidOut (by kernel_rfl) (of_decide_eq_true (by kernel_rfl)) k0 bel lt0) trodAll_mk0), rfl, bel.frame _, fun h => by cases h⟩
theorem proved : Rows.ReferencesPrintSaid :=
  OpenClaim.holds_of_wide 9 Try.f9 rfl rfl rfl rfl rfl rfl rfl ⟨rfl, rfl, rfl, rfl, rfl⟩ rfl rfl rfl rfl rfl (by kernel_rfl) Try.func9 (by kernel_rfl)
    (of_decide_eq_true (by kernel_rfl)) (by unfold Func.isWrapper; first | (rw [if_pos (by decide +kernel)]; kernel_rfl) | (rw [if_neg (by decide +kernel)]; exact ⟨rfl, rfl⟩))
    (fun os started H enc _ => lifted os started H enc)
end Go.Proofs.Ytafpndmoognjlaa.lawPrint
