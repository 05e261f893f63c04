/- The law Base64Concatenation. -/
import Derived.Test.YtkmkidbajmbigaaT8
import Derived.Test.YtkmkidbajmbigaaOpenBytes
namespace Go.Proofs.Ytkmkidbajmbigaa
open Go.ChangeShapes Go.WideShapes Go.ChangeAt Go.RowKit Go.Deep
namespace lawConcat
theorem idc_append (l m : List UInt8) : idc (l ++ m) = idc l ++ idc m := by simp [idc]
set_option maxHeartbeats 1600000 in
theorem law_all (A A' : Option Addr) (l l' : List UInt8) (c n c' n' : Nat) (hl : l.length = n) (hnc : n ≤ c) (hc : c ≤ maxLen) (hl' : l'.length = n') (hnc' : n' ≤ c') (hc' : c' ≤ maxLen) (w : World) (hr : Row w A (idc l)) (hr' : Row w A' (idc l')) :
    Calls Try.prog 5 #[.slice A n c, .slice A' n' c'] w fun e w' => e = .returned (.bool true) ∧ Below w.heap.size w w' := by
  have hm : n ≤ maxLen := Nat.le_trans hnc hc
  have hm' : n' ≤ maxLen := Nat.le_trans hnc' hc'
  unfold maxLen at hm hm'
  by_cases h6 : n ≤ 600
  · by_cases h6' : n' ≤ 600
    · obtain ⟨m, hmn⟩ : ∃ m, m = n - n % 3 := ⟨_, rfl⟩
      have hmi : (n : Int) - (n : Int) % 3 = m := by omega
      have hm3 : m % 3 = 0 := by omega
      have hmle : m ≤ n := by omega
      obtain ⟨a, ha⟩ : ∃ a, a = l.take m := ⟨_, rfl⟩
      have hal : a.length = m := by rw [ha, List.length_take]; omega
      have hra : Row w A (idc a) := by
        have : idc a = (idc l).take m := by rw [ha]; simp [idc]
        rw [this]; exact hr.take m
      have hsum := enc_append a l' (by rw [hal]; exact hm3)
      rw [← enc_eq, ← enc_eq, ← enc_eq] at hsum
      have hla : (encS a).length = (m + 2) / 3 * 4 := by rw [enc_eq, enc_len, hal]
      have hlb : (encS l').length = (n' + 2) / 3 * 4 := by rw [enc_eq, enc_len, hl']
      have hs1 : (str (encS a)).size + (str (encS l')).size ≤ 9223372036854775807 := by rw [str_size, str_size, hla, hlb]; omega
      have HS := Lib.hid hsum
      have Hal := Lib.hid hal
      have Hl := Lib.hid hl
      have Hl' := Lib.hid hl'
      have Hmn := Lib.hid hmn
      clear hsum hal hl hl' ha hmn hla hlb
      have t1 : True := trivial
      have t2 : True := trivial
      have t3 : True := trivial
      have t4 : True := trivial
      have t5 : True := trivial
      obtain ⟨i0, hi0, hz0, hz1, hz2⟩ := byteInfo
      go_enter Try.func5, Try.ntmps5
      go_wp2_with (first
        | (go_at_call 8; go_must (refine (known_calls _).mono ?_; rintro e w1 ⟨rfl, hb1⟩))
        | (have _t := t1; go_at_call 9; go_must (refine (bencode_calls A m c a Hal.out (by omega) _ (hra.below hb1)).mono ?_; rintro e w2 ⟨rfl, hb2⟩; have hB2 : Below w.heap.size w w2 := hb1.trans (hb2.mono hb1.size); clear t1))
        | (have _t := t2; go_at_call 9; go_must (refine (bencode_calls A' n' c' l' Hl'.out (by omega) _ (hr'.below hB2)).mono ?_; rintro e w3 ⟨rfl, hb3⟩; have hB3 : Below w.heap.size w w3 := hB2.trans (hb3.mono hB2.size); have hown0 := own_new w3 w3.heap.size (Nat.le_refl _) [] 5 0 1 rfl (by unfold maxLen; omega); clear t2))
        | (have _t := t3; refine wpList_append_row _ rfl _ _ 22 rfl w3.heap.size 5 i0 (.int .u8 0) 1 1 Try.underlying22 hi0 hz0 hz1 hz2 rfl (by decide) _ _ _ rfl hown0 A m c (idc a) rfl (by rw [idc_length, Hal.out, Nat.mul_one]) ((hra.below hB3).alloc _) (idc_one _) (by unfold maxLen; omega) (by omega) (by simp) ?_; intro v4 w4 hown4 hg4 hv4; have hB4 : Below w.heap.size w w4 := (hB3.alloc hB3.size _).grown hg4 (by have := hB3.size; simp; omega) (fun j hj => by have := (hown0.lt _ hj).1; have := hB3.size; omega); have hB34 : Below w3.heap.size w3 w4 := ((Below.refl _ w3).alloc (Nat.le_refl _) _).grown hg4 (by simp) (fun j hj => (hown0.lt _ hj).1); have Hg4 := Lib.hid hg4; have Hv4 := Lib.hid hv4; clear hg4 hv4; simp only [Act.put, List.setIfInBounds_toArray, List.set_cons_succ, List.set_cons_zero]; clear t3)
        | (have _t := t4; refine wpList_append_row _ rfl _ _ 22 rfl w3.heap.size 5 i0 (.int .u8 0) 1 1 Try.underlying22 hi0 hz0 hz1 hz2 rfl (by decide) _ _ _ rfl hown4 A' n' c' (idc l') rfl (by rw [idc_length, Hl'.out, Nat.mul_one]) (hr'.below hB4) (idc_one _) (by unfold maxLen; omega) (by omega) (by exact hB34.size) ?_; intro v5 w5 hown5 hg5 hv5; have hB5 : Below w.heap.size w w5 := hB4.grown hg5 hB4.size (fun j hj => by have := (hown4.lt _ hj).1; have := hB3.size; omega); rw [List.nil_append, ← idc_append] at hown5; obtain ⟨A5, c5, rfl, h1, h2, h3, h5⟩ := Row.of_own hown5; have Hg5 := Lib.hid hg5; have Hv5 := Lib.hid hv5; clear hg5 hv5; simp only [Act.put, List.setIfInBounds_toArray, List.set_cons_succ, List.set_cons_zero]; clear t4)
        | (have _t := t5; go_at_call 9; go_must (refine (bencode_calls A5 (m + n') c5 (a ++ l') (by rw [List.length_append, Hal.out, Hl'.out]) (by omega) _ h3).mono ?_; rw [HS.out, ← str_append]; rintro e w6 ⟨rfl, hb6⟩; clear t5)))
      go_ret
      exact ⟨rfl, hB5.trans (hb6.mono hB5.size)⟩
    · have h7 : 600 < n' := by omega
      have t1 : True := trivial
      go_enter Try.func5, Try.ntmps5
      go_wp2_with (first
        | (have _t := t1; go_at_call 8; go_must (refine (known_calls _).mono ?_; rintro e w1 ⟨rfl, hb1⟩; clear t1))
        | (go_at_call 8; go_must (refine (known_calls _).mono ?_; rintro e w2 ⟨rfl, hb2⟩)))
      go_ret
      exact ⟨rfl, hb1.trans (hb2.mono hb1.size)⟩
  · have h7 : 600 < n := by omega
    have t1 : True := trivial
    go_enter Try.func5, Try.ntmps5
    go_wp2_with (first
      | (have _t := t1; go_at_call 8; go_must (refine (known_calls _).mono ?_; rintro e w1 ⟨rfl, hb1⟩; clear t1))
      | (go_at_call 8; go_must (refine (known_calls _).mono ?_; rintro e w2 ⟨rfl, hb2⟩)))
    go_ret
    exact ⟨rfl, hb1.trans (hb2.mono hb1.size)⟩
theorem own : ownKnob Try.prog.godebug = none := by kernel_rfl
theorem laidOut : laidOutB Try.prog = true := by kernel_rfl
set_option maxRecDepth 100000 in
theorem lifted (os : Os) (started : os.Started) (H : Type) (enc : TypeId × Value → H) :
    ReturnsInHanded {} Try.checked os 5 .any (Rows.base64ConcatenationSpec.pre6 enc Try.prog Try.f5 Rows.base64ConcatenationRow.domain false) (Rows.base64ConcatenationSpec.post enc Try.prog Try.f5 false true false false) := by
  refine returnsInHanded_of_change (C := Try.checked) own started (by kernel_rfl) Try.func5
    (ChangeSpec.witness6 (enc := enc) (C := Try.checked) false ⟨#[], #[.slice none 0 0, .slice none 0 0], []⟩ 8 (by kernel_rfl) (by kernel_rfl) (by kernel_rfl) (by kernel_rfl)) ?_
  intro W base args ds gs before hval0 hW hcnd _
  have hval : ∀ (j : Nat) t v, Try.f5.params[j]? = some t → args[j]? = some v → Value.okWide Try.prog W .any base t v := hval0
  have hW' := hW
  obtain ⟨p, q, hA0, hV, rfl, hfz, hnd⟩ := hW
  have hA : DataW.TrodAll enc Try.prog W 0 (fun _ => true) true Try.f5.params.toList args.toList ds p := hA0
  rw [Try.params5] at hA hval
  obtain ⟨v0, vs0, d0, ds0, p0, q0, hargs, rfl, rfl, h0, r0⟩ := trodAll_cons hA
  obtain ⟨v1, vs1, d1, ds1, p1, q1, rfl, rfl, rfl, h1, r1⟩ := trodAll_cons r0
  obtain ⟨rfl, rfl, rfl⟩ := trodAll_nil r1
  obtain rfl : args = #[v0, v1] := by cases args; simp_all
  obtain ⟨rfl, rfl⟩ := trodVars_none hV
  have k0 := h0
  have lt0 : ∀ x ∈ p0, x.block < W.heap.size := by obtain ⟨m, hm⟩ := k0; exact DataW.trod_lt m _ _ _ hm
  have k1 := h1
  have lt1 : ∀ x ∈ p1, x.block < W.heap.size := by obtain ⟨m, hm⟩ := k1; exact DataW.trod_lt m _ _ _ hm
  obtain ⟨A0, n0, c0, l0, rfl, hl0, hnc0, hc0, hI0, hd0⟩ := open_bytes_d (e := 5) Try.underlying22 Try.underlying5 (by kernel_rfl) (hval 0 22 v0 rfl rfl) h0
  obtain ⟨A1, n1, c1, l1, rfl, hl1, hnc1, hc1, hI1, hd1⟩ := open_bytes_d (e := 5) Try.underlying22 Try.underlying5 (by kernel_rfl) (hval 1 22 v1 rfl rfl) h1
  clear hA0 hval0
  refine (law_all A0 A1 l0 l1 c0 n0 c1 n1 hl0 hnc0 hc0 hl1 hnc1 hc1 W hI0 hI1).mono fun e W' ⟨he, bel⟩ => ?_
  subst he
  exact ⟨_, rfl, _, _, _, [], _, [], hW', trodAll_mk1 (shut_bool Try.underlying4 _), (trodAll_cons_mk (Below.trod laidOut (by kernel_rfl) (of_decide_eq_true (by kernel_rfl)) k0 bel lt0) (trodAll_cons_mk (Below.trod laidOut (by kernel_rfl) (of_decide_eq_true (by kernel_rfl)) k1 bel lt1) trodAll_mk0)), rfl, bel.frame _, fun h => by cases h⟩
theorem proved : Rows.Base64ConcatenationSaid :=
  OpenClaim.holds_of_wide 5 Try.f5 rfl rfl rfl rfl rfl rfl rfl ⟨rfl, rfl, rfl, rfl, rfl⟩ rfl rfl rfl rfl rfl (by kernel_rfl) Try.func5 (by kernel_rfl)
    (of_decide_eq_true (by kernel_rfl)) (by unfold Func.isWrapper; first | (rw [if_pos (by decide +kernel)]; kernel_rfl) | (rw [if_neg (by decide +kernel)]; exact ⟨rfl, rfl⟩))
    (fun os started H enc _ => lifted os started H enc)
end lawConcat
end Go.Proofs.Ytkmkidbajmbigaa
