/- ReferencesParse: for every text the law's call returns true and leaves its arguments as they were. No conditions. -/
import Derived.Test.YtafpndmoognjlaaPa3
import Derived.Test.YtafpndmoognjlaaOpen
import Derived.Test.YtafpndmoognjlaaT4
import Derived.ShutString
import Derived.ChangeMaps5
namespace Go.Proofs.Ytafpndmoognjlaa.lawParse
open Go.ChangeShapes Go.WideShapes Go.ChangeAt Go.RowKit Go.Deep Go.ChangeMaps
set_option maxRecDepth 100000 in
set_option maxHeartbeats 400000 in
theorem law_all (l : List UInt8) (w : World) :
    Calls Try.prog 8 #[.string (str l)] w fun e w' => e = .returned (.bool true) ∧ Below w.heap.size w w' := by
  by_cases h : 3000 < l.length
  · have h30 : (3000 : Int) < l.length := by omega
    clear h
    go_enter Try.func8, Try.ntmps8
    go_wp2_with fail
    refine (known_calls _).mono ?_
    rintro e w2 ⟨rfl, hb2⟩
    go_wp2_with fail
    refine (known_calls _).mono ?_
    rintro e w3 ⟨rfl, hb3⟩
    go_wp2
    go_ret
    exact ⟨rfl, hb2.trans (hb3.mono hb2.size)⟩
  · have h30 : ¬ (3000 : Int) < l.length := by omega
    have h20 := pgo_len20 l l.length 0 [] (by simp)
    rw [show pgo l l.length 0 [] = parS l from rfl] at h20
    go_enter Try.func8, Try.ntmps8
    go_wp2_with fail
    refine (known_calls _).mono ?_
    rintro e w2 ⟨rfl, hB2⟩
    go_wp2_with fail
    refine (parse_calls l (by omega) _).mono ?_
    rintro e w3 ⟨A3, n3, c3, rfl, hn3, hc3, hm3, hI3, hb3⟩
    have hB3 := below_then hB2 (Nat.le_refl _) hb3
    have Hn3 := Lib.hid hn3
    clear hn3
    go_wp2_with fail
    refine (rparse_calls l (by omega) _).mono ?_
    rintro e w4 ⟨A4, n4, c4, rfl, hn4, hc4, hm4, hI4, hb4⟩
    have hB4 := below_then hB3 (Nat.le_refl _) hb4
    have Hn4 := Lib.hid hn4
    clear hn4
    go_wp2_with fail
    refine (same_calls A3 A4 (parS l).1 (parS l).1 c3 c4 n3 n4 Hn3.out Hn4.out (by have := Hn3.out; omega) _ (hI3.below hb4) hI4).mono ?_
    rw [decide_eq_true (rfl : (parS l).1 = (parS l).1)]
    rintro e w5 ⟨rfl, q, rfl⟩
    go_wp2
    go_ret
    exact ⟨rfl, hB4.trans (below_drewN0 _ _ _)⟩
theorem own : ownKnob Try.prog.godebug = none := by kernel_rfl
theorem laidOut : laidOutB Try.prog = true := by kernel_rfl
set_option maxRecDepth 100000 in
theorem lifted (os : Os) (started : os.Started) (H : Type) (enc : TypeId × Value → H) :
    ReturnsInHanded {} Try.checked os 8 .any (Rows.referencesParseSpec.pre6 enc Try.prog Try.f8 Rows.referencesParseRow.domain false) (Rows.referencesParseSpec.post enc Try.prog Try.f8 false true false false) := by
  refine returnsInHanded_of_change (C := Try.checked) own started (by kernel_rfl) Try.func8
    (ChangeSpec.witness6 (enc := enc) (C := Try.checked) false ⟨#[], #[.string .empty], []⟩ 8 (by kernel_rfl) (by kernel_rfl) (by kernel_rfl) (by kernel_rfl)) ?_
  intro W base args ds gs before hval0 hW hcnd _
  have hval : ∀ (j : Nat) t v, Try.f8.params[j]? = some t → args[j]? = some v → Value.okWide Try.prog W .any base t v := hval0
  have hW' := hW
  obtain ⟨p, q, hA0, hV, rfl, hfz, hnd⟩ := hW
  have hA : DataW.TrodAll enc Try.prog W 0 (fun _ => true) true Try.f8.params.toList args.toList ds p := hA0
  rw [Try.params8] at hA hval
  obtain ⟨v0, vs0, d0, ds0, p0, q0, hargs, rfl, rfl, h0, r0⟩ := trodAll_cons hA
  obtain ⟨rfl, rfl, rfl⟩ := trodAll_nil r0
  obtain rfl : args = #[v0] := by cases args; simp_all
  obtain ⟨rfl, rfl⟩ := trodVars_none hV
  have k0 := h0
  have lt0 : ∀ x ∈ p0, x.block < W.heap.size := by obtain ⟨m, hm⟩ := k0; exact DataW.trod_lt m _ _ _ hm
  obtain ⟨s0, rfl, _, _, hs0⟩ := open_string Try.underlying9 (hval 0 9 v0 rfl rfl) h0
  clear hA0 hval0
  refine (law_all s0.data.toList W).mono fun e W' ⟨he, bel⟩ => ?_
  subst he
  exact ⟨_, rfl, _, _, _, [], _, [], hW', trodAll_mk1 (shut_bool Try.underlying4 _), (trodAll_cons_mk (Below.trod laidOut (by kernel_rfl) (of_decide_eq_true (by kernel_rfl)) k0 bel lt0) trodAll_mk0), rfl, bel.frame _, fun h => by cases h⟩
theorem proved : Rows.ReferencesParseSaid :=
  OpenClaim.holds_of_wide 8 Try.f8 rfl rfl rfl rfl rfl rfl rfl ⟨rfl, rfl, rfl, rfl, rfl⟩ rfl rfl rfl rfl rfl (by kernel_rfl) Try.func8 (by kernel_rfl)
    (of_decide_eq_true (by kernel_rfl)) (by unfold Func.isWrapper; first | (rw [if_pos (by decide +kernel)]; kernel_rfl) | (rw [if_neg (by decide +kernel)]; exact ⟨rfl, rfl⟩))
    (fun os started H enc _ => lifted os started H enc)
end Go.Proofs.Ytafpndmoognjlaa.lawParse
