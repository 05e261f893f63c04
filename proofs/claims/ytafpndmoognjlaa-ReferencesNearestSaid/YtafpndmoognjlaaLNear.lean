/- ReferencesNearest: for every list of identities and any number the law's call returns true and leaves its arguments as they were. No conditions. -/
import Derived.Test.YtafpndmoognjlaaNr5
import Derived.Test.YtafpndmoognjlaaOpen
import Derived.ShutString
namespace Go.Proofs.Ytafpndmoognjlaa.lawNear
open Go Go.ChangeShapes Go.WideShapes Go.ChangeAt Go.RowKit Go.Shelf
set_option maxHeartbeats 800000 in
theorem law_long (A : Option Addr) (c n : Nat) (stop : Int) (hn : 60 < n) (w : World) :
    Calls Try.prog 4 #[.slice A n c, .int .i64 stop] w fun e w' => e = .returned (.bool true) ∧ Below w.heap.size w w' := by
  have h60 : (60 : Int) < n := by omega
  go_enter Try.func4, Try.ntmps4
  go_wp2_with fail
  have a0 := ((Boxed.new w 22 (.slice A n c)).alloc (.cells #[.int .i64 stop] 3)).alloc (.cells #[.bool false] 4)
  have a1 := (Boxed.new (w.alloc (.cells #[.slice A n c] 22)) 3 (.int .i64 stop)).alloc (.cells #[.bool false] 4)
  have a2 := Boxed.new ((w.alloc (.cells #[.slice A n c] 22)).alloc (.cells #[.int .i64 stop] 3)) 4 (.bool false)
  have hB0 : Below w.heap.size w (((w.alloc (.cells #[.slice A n c] 22)).alloc (.cells #[.int .i64 stop] 3)).alloc (.cells #[.bool false] 4)) := (((Below.refl _ w).alloc (Nat.le_refl _) _).alloc (by simp) _).alloc (by simp; omega) _
  simp only [World.size_alloc] at a1 a2
  refine (known_calls _).mono ?_
  rintro e w1 ⟨rfl, hb1⟩
  have hs1 : w.heap.size + 3 ≤ w1.heap.size := by have := hb1.size; simp at this; omega
  have D0 := Boxed.below a0 hb1 a0.lt
  have D2 := Boxed.below a2 hb1 a2.lt
  have hB1 := Lib.hid (hB0.trans (hb1.mono hB0.size))
  have c0 := D0.cell
  have HD2 := Lib.hid D2
  clear a0 a1 a2 hB0 hb1 D0 D2
  go_wp2_with fail
  refine (known_calls _).mono ?_
  rintro e w2 ⟨rfl, hb2⟩
  have E2 := Boxed.below HD2.out hb2 HD2.out.lt
  have hc4 := E2.cell; have hf4 := E2.frozen
  have hB2 := Lib.hid (hB1.out.trans (hb2.mono hB1.out.size))
  have HE := Lib.hid E2
  clear hb2 E2 HD2
  go_wp2_with fail
  refine bodyPost_ret (v := .bool true) (results_cell rfl _ _ ⟨w.heap.size + 1 + 1, 0, none⟩ true rfl (HE.out.set (.bool true)).cell) rfl ⟨rfl, ?_⟩
  exact hB2.out.setCell (p := ⟨w.heap.size + 1 + 1, 0, none⟩) (by simp; omega) _
theorem law_all (A : Option Addr) (ls : List (List UInt8)) (c n : Nat) (stop : Int) (hln : ls.length = n) (w : World) (hl : Ids w A ls) :
    Calls Try.prog 4 #[.slice A n c, .int .i64 stop] w fun e w' => e = .returned (.bool true) ∧ Below w.heap.size w w' := by
  by_cases h : 60 < n
  · exact law_long A c n stop h w
  · exact law_small A ls c n stop hln (by omega) w hl
theorem own : ownKnob Try.prog.godebug = none := by kernel_rfl
theorem laidOut : laidOutB Try.prog = true := by kernel_rfl
set_option maxRecDepth 100000 in
theorem lifted (os : Os) (started : os.Started) (H : Type) (enc : TypeId × Value → H) :
    ReturnsInHanded {} Try.checked os 4 .any (Rows.referencesNearestSpec.pre6 enc Try.prog Try.f4 Rows.referencesNearestRow.domain false) (Rows.referencesNearestSpec.post enc Try.prog Try.f4 false true false false) := by
  refine returnsInHanded_of_change (C := Try.checked) own started (by kernel_rfl) Try.func4
    (ChangeSpec.witness6 (enc := enc) (C := Try.checked) false ⟨#[], #[.slice none 0 0, .int .i64 0], []⟩ 8 (by kernel_rfl) (by kernel_rfl) (by kernel_rfl) (by kernel_rfl)) ?_
  intro W base args ds gs before hval0 hW hcnd _
  have hval : ∀ (j : Nat) t v, Try.f4.params[j]? = some t → args[j]? = some v → Value.okWide Try.prog W .any base t v := hval0
  have hW' := hW
  obtain ⟨p, q, hA0, hV, rfl, hfz, hnd⟩ := hW
  have hA : DataW.TrodAll enc Try.prog W 0 (fun _ => true) true Try.f4.params.toList args.toList ds p := hA0
  rw [Try.params4] at hA hval
  obtain ⟨v0, vs0, d0, ds0, p0, q0, hargs, rfl, rfl, h0, r0⟩ := trodAll_cons hA
  obtain ⟨v1, vs1, d1, ds1, p1, q1, rfl, rfl, rfl, h1, r1⟩ := trodAll_cons r0
  obtain ⟨rfl, rfl, rfl⟩ := trodAll_nil r1
  obtain rfl : args = #[v0, v1] := by cases args; simp_all
  obtain ⟨rfl, rfl⟩ := trodVars_none hV
  have k0 := h0
  have lt0 : ∀ x ∈ p0, x.block < W.heap.size := by obtain ⟨m, hm⟩ := k0; exact DataW.trod_lt m _ _ _ hm
  have k1 := h1
  have lt1 : ∀ x ∈ p1, x.block < W.heap.size := by obtain ⟨m, hm⟩ := k1; exact DataW.trod_lt m _ _ _ hm
  obtain ⟨A0, n0, c0, ls0, rfl, hls0, hnc0, hc0, hI0⟩ := open_ids (e := 38) Try.underlying22 (by kernel_rfl) (hval 0 22 v0 rfl rfl) h0
  obtain ⟨a1, rfl, _, _, wf1⟩ := open_int Try.underlying3 (hval 1 3 v1 rfl rfl) h1
  clear hA0 hval0
  refine (law_all A0 ls0 c0 n0 a1 hls0 W hI0).mono fun e W' ⟨he, bel⟩ => ?_
  subst he
  exact ⟨_, rfl, _, _, _, [], _, [], hW', trodAll_mk1 (shut_bool Try.underlying4 _), (trodAll_cons_mk (Below.trod laidOut (by kernel_rfl) (of_decide_eq_true (by kernel_rfl)) k0 bel lt0) (trodAll_cons_mk (Below.trod laidOut (by kernel_rfl) (of_decide_eq_true (by kernel_rfl)) k1 bel lt1) trodAll_mk0)), rfl, bel.frame _, fun h => by cases h⟩
theorem proved : Rows.ReferencesNearestSaid :=
  OpenClaim.holds_of_wide 4 Try.f4 rfl rfl rfl rfl rfl rfl rfl ⟨rfl, rfl, rfl, rfl, rfl⟩ rfl rfl rfl rfl rfl (by kernel_rfl) Try.func4 (by kernel_rfl)
    (of_decide_eq_true (by kernel_rfl)) (by unfold Func.isWrapper; first | (rw [if_pos (by decide +kernel)]; kernel_rfl) | (rw [if_neg (by decide +kernel)]; exact ⟨rfl, rfl⟩))
    (fun os started H enc _ => lifted os started H enc)
end Go.Proofs.Ytafpndmoognjlaa.lawNear
