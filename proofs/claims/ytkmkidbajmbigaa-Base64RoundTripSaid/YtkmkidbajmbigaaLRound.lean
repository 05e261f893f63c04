/- The law Base64RoundTrip. -/
import Derived.Test.YtkmkidbajmbigaaT8
import Derived.Test.YtkmkidbajmbigaaOpenBytes
namespace Go.Proofs.Ytkmkidbajmbigaa
open Go.ChangeShapes Go.WideShapes Go.ChangeAt Go.RowKit Go.Deep
namespace lawRound
theorem law_all (A : Option Addr) (l : List UInt8) (c n : Nat) (hl : l.length = n) (hnc : n ≤ c) (hc : c ≤ maxLen) (w : World) (hr : Row w A (idc l)) :
    Calls Try.prog 6 #[.slice A n c] w fun e w' => e = .returned (.bool true) ∧ Below w.heap.size w w' := by
  by_cases h4 : n ≤ 4000
  · have HD := Lib.hid (dec_enc l)
    have hlen : (encS l).length = (n + 2) / 3 * 4 := by rw [enc_eq, enc_len, hl]
    obtain ⟨F, hF⟩ : ∃ F, F = encS l := ⟨_, rfl⟩
    rw [← hF] at hlen
    have HF := Lib.hid hF
    have hmod : F.length % 4 = 0 := by omega
    have hF5 : F.length ≤ 100000 := by omega
    have HD2 : Hid (decS F = (l, 0, 0)) := Lib.hid (by rw [hF]; exact dec_enc l)
    have Hlen := Lib.hid hlen
    have hsz := str_size F
    have Hl := Lib.hid hl
    clear hlen hF hl
    go_enter Try.func6, Try.ntmps6
    go_wp2_with (first
      | (go_at_call 8; go_must (refine (known_calls _).mono ?_; rintro e w1 ⟨rfl, hb1⟩))
      | (go_at_call 9; go_must (refine (bencode_calls A n c l Hl.out (by omega) _ (hr.below hb1)).mono ?_; rw [← HF.out]; rintro e w2 ⟨rfl, hb2⟩))
      | (go_at_call 13; go_must (refine (decode_calls F hF5 _).mono ?_; rw [HD2.out]; rintro e w3 ⟨v, rfl, hown, hb3⟩; obtain ⟨A', c', rfl, h1, h2, h3, h4'⟩ := Row.of_own hown; have hconv := run_str_row w3 A' c' l h3; have hB2 : Below w.heap.size w w2 := hb1.trans (hb2.mono hb1.size); have hB3 : Below w.heap.size w w3 := hB2.trans (hb3.mono hB2.size); have hconv2 := run_str_row w3 A c l (hr.below hB3); rw [Hl.out] at hconv2))
      | (go_at_call 14; go_must (refine (valid_calls F hF5 _).mono ?_; rw [HD2.out]; rintro e w4 ⟨rfl, hb4⟩)))
    go_ret
    exact ⟨rfl, hB3.trans (hb4.mono hB3.size)⟩
  · have h4' : 4000 < n := by omega
    have hm : n ≤ maxLen := Nat.le_trans hnc hc
    unfold maxLen at hm
    go_enter Try.func6, Try.ntmps6
    have t1 : True := trivial
    go_wp2_with (first
      | (have _t := t1; go_at_call 8; go_must (refine (known_calls _).mono ?_; rintro e w1 ⟨rfl, hb1⟩; clear t1))
      | (go_at_call 8; go_must (refine (known_calls _).mono ?_; rintro e w2 ⟨rfl, hb2⟩)))
    go_ret
    exact ⟨rfl, hb1.trans (hb2.mono hb1.size)⟩
theorem own : ownKnob Try.prog.godebug = none := by kernel_rfl
theorem laidOut : laidOutB Try.prog = true := by kernel_rfl
set_option maxRecDepth 100000 in
theorem lifted (os : Os) (started : os.Started) (H : Type) (enc : TypeId × Value → H) :
    ReturnsInHanded {} Try.checked os 6 .any (Rows.base64RoundTripSpec.pre6 enc Try.prog Try.f6 Rows.base64RoundTripRow.domain false) (Rows.base64RoundTripSpec.post enc Try.prog Try.f6 false true false false) := by
  refine returnsInHanded_of_change (C := Try.checked) own started (by kernel_rfl) Try.func6
    (ChangeSpec.witness6 (enc := enc) (C := Try.checked) false ⟨#[], #[.slice none 0 0], []⟩ 8 (by kernel_rfl) (by kernel_rfl) (by kernel_rfl) (by kernel_rfl)) ?_
  intro W base args ds gs before hval0 hW hcnd _
  have hval : ∀ (j : Nat) t v, Try.f6.params[j]? = some t → args[j]? = some v → Value.okWide Try.prog W .any base t v := hval0
  have hW' := hW
  obtain ⟨p, q, hA0, hV, rfl, hfz, hnd⟩ := hW
  have hA : DataW.TrodAll enc Try.prog W 0 (fun _ => true) true Try.f6.params.toList args.toList ds p := hA0
  rw [Try.params6] at hA hval
  obtain ⟨v0, vs0, d0, ds0, p0, q0, hargs, rfl, rfl, h0, r0⟩ := trodAll_cons hA
  obtain ⟨rfl, rfl, rfl⟩ := trodAll_nil r0
  obtain rfl : args = #[v0] := by cases args; simp_all
  obtain ⟨rfl, rfl⟩ := trodVars_none hV
  have k0 := h0
  have lt0 : ∀ x ∈ p0, x.block < W.heap.size := by obtain ⟨m, hm⟩ := k0; exact DataW.trod_lt m _ _ _ hm
  obtain ⟨A0, n0, c0, l0, rfl, hl0, hnc0, hc0, hI0, hd0⟩ := open_bytes_d (e := 5) Try.underlying22 Try.underlying5 (by kernel_rfl) (hval 0 22 v0 rfl rfl) h0
  clear hA0 hval0
  refine (law_all A0 l0 c0 n0 hl0 hnc0 hc0 W hI0).mono fun e W' ⟨he, bel⟩ => ?_
  subst he
  exact ⟨_, rfl, _, _, _, [], _, [], hW', trodAll_mk1 (shut_bool Try.underlying4 _), (trodAll_cons_mk (Below.trod laidOut (by kernel_rfl) (of_decide_eq_true (by kernel_rfl)) k0 bel lt0) trodAll_mk0), rfl, bel.frame _, fun h => by cases h⟩
theorem proved : Rows.Base64RoundTripSaid :=
  OpenClaim.holds_of_wide 6 Try.f6 rfl rfl rfl rfl rfl rfl rfl ⟨rfl, rfl, rfl, rfl, rfl⟩ rfl rfl rfl rfl rfl (by kernel_rfl) Try.func6 (by kernel_rfl)
    (of_decide_eq_true (by kernel_rfl)) (by unfold Func.isWrapper; first | (rw [if_pos (by decide +kernel)]; kernel_rfl) | (rw [if_neg (by decide +kernel)]; exact ⟨rfl, rfl⟩))
    (fun os started H enc _ => lifted os started H enc)
end lawRound
end Go.Proofs.Ytkmkidbajmbigaa
