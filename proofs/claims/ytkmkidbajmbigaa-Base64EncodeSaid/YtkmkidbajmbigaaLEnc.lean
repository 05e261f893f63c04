/- The law Base64Encode. -/
import Derived.Test.YtkmkidbajmbigaaT8
import Derived.Test.YtkmkidbajmbigaaOpenBytes
namespace Go.Proofs.Ytkmkidbajmbigaa
open Go.ChangeShapes Go.WideShapes Go.ChangeAt Go.RowKit Go.Deep
namespace lawEnc
theorem law_all (A : Option Addr) (l : List UInt8) (c n : Nat) (k : Int) (hl : l.length = n) (hnc : n ≤ c) (hc : c ≤ maxLen) (w : World) (hr : Row w A (idc l)) :
    Calls Try.prog 3 #[.slice A n c, .int .i64 k] w fun e w' => e = .returned (.bool true) ∧ Below w.heap.size w w' := by
  by_cases h6 : n ≤ 600
  · have hlen : (encS l).length = (n + 2) / 3 * 4 := by rw [enc_eq, enc_len, hl]
    have hsz : (str (encS l)).size = (n + 2) / 3 * 4 := by rw [str_size, hlen]
    have hif : (if (n : Int) < 0 ∨ (n : Int) > 131072 then 0 else ((n : Int) + 2) / 3 * 4) = ((n + 2) / 3 * 4 : Nat) := by rw [if_neg (by omega)]; omega
    obtain ⟨L, hL⟩ : ∃ L, L = (n + 2) / 3 * 4 := ⟨_, rfl⟩
    rw [← hL] at hsz hif
    have HL := Lib.hid hL
    have Hif := Lib.hid hif
    have Hl := Lib.hid hl
    clear hlen hL hif hl
    generalize hq : (if k < 0 ∨ k > 131072 then 0 else (k + 2) / 3 * 4) = q
    have Hq := Lib.hid hq
    clear hq
    have t1 : True := trivial
    go_enter Try.func3, Try.ntmps3
    go_wp2_with (first
      | (go_at_call 8; go_must (refine (known_calls _).mono ?_; rintro e w1 ⟨rfl, hb1⟩))
      | (go_at_call 9; go_must (refine (bencode_calls A n c l Hl.out (by omega) _ (hr.below hb1)).mono ?_; rintro e w2 ⟨rfl, hb2⟩; have hB2 : Below w.heap.size w w2 := hb1.trans (hb2.mono hb1.size)))
      | (go_at_call 10; go_must (refine (rencode_calls A n c l Hl.out (by omega) _ (hr.below hB2)).mono ?_; rintro e w ⟨rfl, rfl⟩))
      | (have _t := t1; go_at_call 11; go_must (refine (size_calls n _).mono ?_; rw [Hif.out]; rintro e w ⟨rfl, rfl⟩; clear t1))
      | (go_at_call 11; go_must (refine (size_calls k _).mono ?_; rw [Hq.out]; rintro e w ⟨rfl, rfl⟩))
      | (go_at_call 12; go_must (refine (rsize_calls k _).mono ?_; rw [Hq.out]; rintro e w ⟨rfl, rfl⟩)))
    go_ret
    exact ⟨rfl, hB2⟩
  · have h4' : 600 < n := by omega
    have hm : n ≤ maxLen := Nat.le_trans hnc hc
    unfold maxLen at hm
    go_enter Try.func3, Try.ntmps3
    have t1 : True := trivial
    go_wp2_with (first
      | (have _t := t1; go_at_call 8; go_must (refine (known_calls _).mono ?_; rintro e w1 ⟨rfl, hb1⟩; clear t1))
      | (go_at_call 8; go_must (refine (known_calls _).mono ?_; rintro e w2 ⟨rfl, hb2⟩)))
    go_ret
    exact ⟨rfl, hb1.trans (hb2.mono hb1.size)⟩
theorem own : ownKnob Try.prog.godebug = none := by kernel_rfl
theorem laidOut : laidOutB Try.prog = true := by kernel_rfl
set_option maxRecDepth 100000 in
theorem lifted (os : Os) (started : os.Started) (H : Type) (enc : TypeId × Value → H) :
    ReturnsInHanded {} Try.checked os 3 .any (Rows.base64EncodeSpec.pre6 enc Try.prog Try.f3 Rows.base64EncodeRow.domain false) (Rows.base64EncodeSpec.post enc Try.prog Try.f3 false true false false) := by
  refine returnsInHanded_of_change (C := Try.checked) own started (by kernel_rfl) Try.func3
    (ChangeSpec.witness6 (enc := enc) (C := Try.checked) false ⟨#[], #[.slice none 0 0, .int .i64 0], []⟩ 8 (by kernel_rfl) (by kernel_rfl) (by kernel_rfl) (by kernel_rfl)) ?_
  intro W base args ds gs before hval0 hW hcnd _
  have hval : ∀ (j : Nat) t v, Try.f3.params[j]? = some t → args[j]? = some v → Value.okWide Try.prog W .any base t v := hval0
  have hW' := hW
  obtain ⟨p, q, hA0, hV, rfl, hfz, hnd⟩ := hW
  have hA : DataW.TrodAll enc Try.prog W 0 (fun _ => true) true Try.f3.params.toList args.toList ds p := hA0
  rw [Try.params3] at hA hval
  obtain ⟨v0, vs0, d0, ds0, p0, q0, hargs, rfl, rfl, h0, r0⟩ := trodAll_cons hA
  obtain ⟨v1, vs1, d1, ds1, p1, q1, rfl, rfl, rfl, h1, r1⟩ := trodAll_cons r0
  obtain ⟨rfl, rfl, rfl⟩ := trodAll_nil r1
  obtain rfl : args = #[v0, v1] := by cases args; simp_all
  obtain ⟨rfl, rfl⟩ := trodVars_none hV
  have k0 := h0
  have lt0 : ∀ x ∈ p0, x.block < W.heap.size := by obtain ⟨m, hm⟩ := k0; exact DataW.trod_lt m _ _ _ hm
  have k1 := h1
  have lt1 : ∀ x ∈ p1, x.block < W.heap.size := by obtain ⟨m, hm⟩ := k1; exact DataW.trod_lt m _ _ _ hm
  obtain ⟨A0, n0, c0, l0, rfl, hl0, hnc0, hc0, hI0, hd0⟩ := open_bytes_d (e := 5) Try.underlying22 Try.underlying5 (by kernel_rfl) (hval 0 22 v0 rfl rfl) h0
  obtain ⟨a1, rfl, _, _, wf1⟩ := open_int Try.underlying3 (hval 1 3 v1 rfl rfl) h1
  clear hA0 hval0
  refine (law_all A0 l0 c0 n0 a1 hl0 hnc0 hc0 W hI0).mono fun e W' ⟨he, bel⟩ => ?_
  subst he
  exact ⟨_, rfl, _, _, _, [], _, [], hW', trodAll_mk1 (shut_bool Try.underlying4 _), (trodAll_cons_mk (Below.trod laidOut (by kernel_rfl) (of_decide_eq_true (by kernel_rfl)) k0 bel lt0) (trodAll_cons_mk (Below.trod laidOut (by kernel_rfl) (of_decide_eq_true (by kernel_rfl)) k1 bel lt1) trodAll_mk0)), rfl, bel.frame _, fun h => by cases h⟩
theorem proved : Rows.Base64EncodeSaid :=
  OpenClaim.holds_of_wide 3 Try.f3 rfl rfl rfl rfl rfl rfl rfl ⟨rfl, rfl, rfl, rfl, rfl⟩ rfl rfl rfl rfl rfl (by kernel_rfl) Try.func3 (by kernel_rfl)
    (of_decide_eq_true (by kernel_rfl)) (by unfold Func.isWrapper; first | (rw [if_pos (by decide +kernel)]; kernel_rfl) | (rw [if_neg (by decide +kernel)]; exact ⟨rfl, rfl⟩))
    (fun os started H enc _ => lifted os started H enc)
end lawEnc
end Go.Proofs.Ytkmkidbajmbigaa
