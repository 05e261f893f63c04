/- The law Base64Canonical. -/
import Derived.Test.YtkmkidbajmbigaaT8
import Derived.Test.YtkmkidbajmbigaaOpenBytes
import Derived.ChangeMaps5
namespace Go.Proofs.Ytkmkidbajmbigaa
open Go.ChangeShapes Go.WideShapes Go.ChangeAt Go.RowKit Go.Deep Go.ChangeMaps
namespace lawCanon
theorem law_str (F : List UInt8) (n : Nat) (hn : F.length = n) (hm : n ≤ maxLen) (w : World) :
    Calls Try.prog 4 #[.string (str F)] w fun e w' => e = .returned (.bool true) ∧ Below w.heap.size w w' := by
  have hsz : (str F).size = n := by rw [str_size, hn]
  have Hn := Lib.hid hn
  unfold maxLen at hm
  clear hn
  by_cases h4 : n ≤ 4000
  · obtain ⟨b, t, er⟩ : Dec := decS F
    generalize hR : decS F = R
    have HR := Lib.hid hR
    clear b t er
    obtain ⟨b, t, er⟩ := R
    by_cases h0 : er = 0
    · subst h0
      have henc := enc_dec F b t hR
      have hbl : b.length ≤ 100000 := by
        have h1 : (encS b).length = n := by rw [henc]; exact Hn.out
        rw [enc_eq, enc_len] at h1
        omega
      have HE := Lib.hid henc
      clear hR henc
      go_enter Try.func4, Try.ntmps4
      go_wp2_with (first
        | (go_at_call 8; go_must (refine (known_calls _).mono ?_; rintro e w1 ⟨rfl, hb1⟩))
        | (go_at_call 13; go_must (refine (decode_calls F (by rw [Hn.out]; omega) _).mono ?_; rw [HR.out]; rintro e w2 ⟨v, rfl, hown, hb2⟩; obtain ⟨A', c', rfl, h1, h2, h3, h4'⟩ := Row.of_own hown))
        | (go_at_call 9; go_must (refine (bencode_calls A' b.length c' b rfl hbl _ h3).mono ?_; rw [HE.out]; rintro e w3 ⟨rfl, hb3⟩)))
      go_ret
      have hB2 : Below w.heap.size w w2 := hb1.trans (hb2.mono hb1.size)
      exact ⟨rfl, hB2.trans (hb3.mono hB2.size)⟩
    · have hb0 : b = [] := by
        have := dec_err F (by rw [hR]; exact h0)
        rw [hR] at this
        exact this
      subst hb0
      have h0' : ¬ (er : Int) = 0 := by omega
      clear hR
      go_enter Try.func4, Try.ntmps4
      go_wp2_with (first
        | (go_at_call 8; go_must (refine (known_calls _).mono ?_; rintro e w1 ⟨rfl, hb1⟩))
        | (go_at_call 13; go_must (refine (decode_calls F (by rw [Hn.out]; omega) _).mono ?_; rw [HR.out]; rintro e w2 ⟨v, rfl, hown, hb2⟩; obtain ⟨A', c', rfl, h1, h2, h3, h4'⟩ := Row.of_own hown)))
      go_ret
      exact ⟨rfl, hb1.trans (hb2.mono hb1.size)⟩
  · have h4' : 4000 < n := by omega
    have t1 : True := trivial
    go_enter Try.func4, Try.ntmps4
    go_wp2_with (first
      | (have _t := t1; go_at_call 8; go_must (refine (known_calls _).mono ?_; rintro e w1 ⟨rfl, hb1⟩; clear t1))
      | (go_at_call 8; go_must (refine (known_calls _).mono ?_; rintro e w2 ⟨rfl, hb2⟩)))
    go_ret
    exact ⟨rfl, hb1.trans (hb2.mono hb1.size)⟩
theorem law_all (s : ByteArray) (hs : s.size ≤ maxLen) (w : World) :
    Calls Try.prog 4 #[.string s] w fun e w' => e = .returned (.bool true) ∧ Below w.heap.size w w' :=
  law_str s.data.toList _ rfl (by rw [Array.length_toList]; exact hs) w
theorem own : ownKnob Try.prog.godebug = none := by kernel_rfl
theorem laidOut : laidOutB Try.prog = true := by kernel_rfl
set_option maxRecDepth 100000 in
theorem lifted (os : Os) (started : os.Started) (H : Type) (enc : TypeId × Value → H) :
    ReturnsInHanded {} Try.checked os 4 .any (Rows.base64CanonicalSpec.pre6 enc Try.prog Try.f4 Rows.base64CanonicalRow.domain false) (Rows.base64CanonicalSpec.post enc Try.prog Try.f4 false true false false) := by
  refine returnsInHanded_of_change (C := Try.checked) own started (by kernel_rfl) Try.func4
    (ChangeSpec.witness6 (enc := enc) (C := Try.checked) false ⟨#[], #[.string .empty], []⟩ 8 (by kernel_rfl) (by kernel_rfl) (by kernel_rfl) (by kernel_rfl)) ?_
  intro W base args ds gs before hval0 hW hcnd _
  have hval : ∀ (j : Nat) t v, Try.f4.params[j]? = some t → args[j]? = some v → Value.okWide Try.prog W .any base t v := hval0
  have hW' := hW
  obtain ⟨p, q, hA0, hV, rfl, hfz, hnd⟩ := hW
  have hA : DataW.TrodAll enc Try.prog W 0 (fun _ => true) true Try.f4.params.toList args.toList ds p := hA0
  rw [Try.params4] at hA hval
  obtain ⟨v0, vs0, d0, ds0, p0, q0, hargs, rfl, rfl, h0, r0⟩ := trodAll_cons hA
  obtain ⟨rfl, rfl, rfl⟩ := trodAll_nil r0
  obtain rfl : args = #[v0] := by cases args; simp_all
  obtain ⟨rfl, rfl⟩ := trodVars_none hV
  have k0 := h0
  have lt0 : ∀ x ∈ p0, x.block < W.heap.size := by obtain ⟨m, hm⟩ := k0; exact DataW.trod_lt m _ _ _ hm
  obtain ⟨s0, rfl, _, _, hs0⟩ := open_string Try.underlying9 (hval 0 9 v0 rfl rfl) h0
  clear hA0 hval0
  refine (law_all s0 hs0 W).mono fun e W' ⟨he, bel⟩ => ?_
  subst he
  exact ⟨_, rfl, _, _, _, [], _, [], hW', trodAll_mk1 (shut_bool Try.underlying4 _), (trodAll_cons_mk (Below.trod laidOut (by kernel_rfl) (of_decide_eq_true (by kernel_rfl)) k0 bel lt0) trodAll_mk0), rfl, bel.frame _, fun h => by cases h⟩
theorem proved : Rows.Base64CanonicalSaid :=
  OpenClaim.holds_of_wide 4 Try.f4 rfl rfl rfl rfl rfl rfl rfl ⟨rfl, rfl, rfl, rfl, rfl⟩ rfl rfl rfl rfl rfl (by kernel_rfl) Try.func4 (by kernel_rfl)
    (of_decide_eq_true (by kernel_rfl)) (by unfold Func.isWrapper; first | (rw [if_pos (by decide +kernel)]; kernel_rfl) | (rw [if_neg (by decide +kernel)]; exact ⟨rfl, rfl⟩))
    (fun os started H enc _ => lifted os started H enc)
end lawCanon
end Go.Proofs.Ytkmkidbajmbigaa
