/- ReferencesReply: for every list of identities and every parent the law's call returns true and leaves its arguments as they were. No conditions. -/
import Derived.Test.YtafpndmoognjlaaR4
import Derived.Test.YtafpndmoognjlaaOpen
import Derived.ShutString
namespace Go.Proofs.Ytafpndmoognjlaa.lawReply
open Go.ChangeShapes Go.WideShapes Go.ChangeAt Go.RowKit
set_option maxRecDepth 100000 in
set_option maxHeartbeats 400000 in
theorem law_all (A : Option Addr) (ls : List (List UInt8)) (c n : Nat) (p : List UInt8) (hp : p.length = 32) (hln : ls.length = n) (hnc : n ≤ c) (w : World) (hl : Ids w A ls) :
    Calls Try.prog 6 #[.slice A n c, idv p] w fun e w' => e = .returned (.bool true) ∧ Below w.heap.size w w' := by
  have Hl := Lib.hid hln
  have t1 : True := trivial
  by_cases h : 30 < n
  · have h30 : (30 : Int) < n := by omega
    clear hln
    go_enter Try.func6, Try.ntmps6
    go_wp2_with (first
      | (have _t := t1; refine wpList_alloc rfl rfl 38 (idc p).toArray (by kernel_rfl) ?_; intro w1 hb1 hg1 hs1; have hB1 : Below w.heap.size w w1 := grownBy_below hg1; simp only [Act.put, List.setIfInBounds_toArray, List.set_cons_succ, List.set_cons_zero]; clear t1))
    refine (known_calls _).mono ?_
    rintro e w2 ⟨rfl, hb2⟩
    have hB2 := hB1.trans (hb2.mono hB1.size)
    go_wp2_with fail
    refine (known_calls _).mono ?_
    rintro e w3 ⟨rfl, hb3⟩
    go_wp2
    go_ret
    exact ⟨rfl, hB2.trans (hb3.mono hB2.size)⟩
  · have h30 : ¬ (30 : Int) < n := by omega
    clear hln
    go_enter Try.func6, Try.ntmps6
    go_wp2_with (first
      | (have _t := t1; refine wpList_alloc rfl rfl 38 (idc p).toArray (by kernel_rfl) ?_; intro w1 hb1 hg1 hs1; have hB1 : Below w.heap.size w w1 := grownBy_below hg1; have hbx := hb1.id_at hp; simp only [Act.put, List.setIfInBounds_toArray, List.set_cons_succ, List.set_cons_zero]; clear t1))
    refine (known_calls _).mono ?_
    rintro e w2 ⟨rfl, hb2⟩
    have hB2 := hB1.trans (hb2.mono hB1.size)
    have hbx2 := hbx.below hb2
    have hl2 := hl.below hB2
    clear hbx hB1 hb2 hb1 hg1 hs1 hl
    go_wp2_with fail
    refine wp_region_held_drew (S := fun W => Below w2.heap.size w2 W) (by kernel_rfl) (Below.refl _ _).drew (fun hS => ?_)
    refine wpAnyH_take (i := 0) (v := ?v1) rfl (by kernel_rfl) (by kernel_rfl) (by kernel_rfl) (fun _ _ _ h => h) (Or.inl ⟨by rfl, ?hy1⟩) hS ?rest1
    case hy1 => (intro W hW; go_simp; first | with_reducible rfl | (go_bits; first | with_reducible rfl | (go_simp; with_reducible rfl)))
    simp only [List.getElem_toArray, List.getElem_cons_zero, Act.put, List.setIfInBounds_toArray, List.set_cons_succ, List.set_cons_zero]
    refine wpAnyH_take (i := 2) rfl (by kernel_rfl) (by kernel_rfl) (by kernel_rfl) (fun _ _ _ h => h) (yieldsIf_load_id (by rfl) _ _ rfl _ rfl _ (by kernel_rfl) (fun W h => hbx2.below h)) hS ?rest2
    simp only [List.getElem_toArray, List.getElem_cons_succ, List.getElem_cons_zero, Act.put, List.setIfInBounds_toArray, List.set_cons_succ, List.set_cons_zero]
    refine wpAnyH_ready (rs := [1]) (by kernel_rfl) (by simp) ?_
    refine AllReadyH.cons rfl (fun K hK => ?_) ?_
    · rw [if_pos (by rfl)]
      simp only [List.getElem_toArray, List.getElem_cons_succ, List.getElem_cons_zero]
      refine wp_call 13 _ _ _ rfl rfl (by kernel_rfl) ?_
      refine (own_calls A ls c n Hl.out (by omega) _ (hl2.below hS)).mono ?_
      rintro e w3 ⟨v3, rfl, hown3, hb3⟩
      obtain ⟨A3, c3, rfl, -, h53, h63, h73, -⟩ := Ids.of_own hown3 hl2.len
      refine ⟨_, rfl, ?_⟩
      have hS3 := hS.trans (hb3.mono hS.size)
      refine hK.out _ _ ?s3 (fun hS => ?_)
      case s3 => exact (hS3)
      clear hK K
      simp only [Act.put, List.setIfInBounds_toArray, List.set_cons_succ, List.set_cons_zero]
      refine wpAnyH_ready (rs := [3]) (by kernel_rfl) (by simp) ?_
      refine AllReadyH.cons rfl (fun K hK => ?_) ?_
      · rw [if_pos (by rfl)]
        simp only [List.getElem_toArray, List.getElem_cons_succ, List.getElem_cons_zero]
        refine wp_call 23 _ _ _ rfl rfl (by kernel_rfl) ?_
        refine (reply_calls A3 ls c3 n p hp Hl.out (by omega) h53 _ h73).mono ?_
        rintro e w4 ⟨A4, c4, rfl, -, -, hI4, hb4⟩
        refine ⟨_, rfl, ?_⟩
        have hS4 := hS3.trans (hb4.mono hS3.size)
        refine hK.out _ _ ?s4 (fun hS => ?_)
        case s4 => exact (hS4)
        clear hK K
        simp only [Act.put, List.setIfInBounds_toArray, List.set_cons_succ, List.set_cons_zero]
        refine wpAnyH_take (i := 4) (v := ?v5) rfl (by kernel_rfl) (by kernel_rfl) (by kernel_rfl) (fun _ _ _ h => h) (Or.inl ⟨by rfl, ?hy5⟩) hS ?rest5
        case hy5 => (intro W hW; go_simp; first | with_reducible rfl | (go_bits; first | with_reducible rfl | (go_simp; with_reducible rfl)))
        simp only [List.getElem_toArray, List.getElem_cons_succ, List.getElem_cons_zero, Act.put, List.setIfInBounds_toArray, List.set_cons_succ, List.set_cons_zero]
        refine wpAnyH_take (i := 5) (v := ?v6) rfl (by kernel_rfl) (by kernel_rfl) (by kernel_rfl) (fun _ _ _ h => h) (Or.inl ⟨by rfl, ?hy6⟩) hS ?rest6
        case hy6 => (intro W hW; go_simp; first | with_reducible rfl | (go_bits; first | with_reducible rfl | (go_simp; with_reducible rfl)))
        simp only [List.getElem_toArray, List.getElem_cons_succ, List.getElem_cons_zero, Act.put, List.setIfInBounds_toArray, List.set_cons_succ, List.set_cons_zero]
        refine wpAnyH_take (i := 6) (v := ?v7) rfl (by kernel_rfl) (by kernel_rfl) (by kernel_rfl) (fun _ _ _ h => h) (Or.inl ⟨by rfl, ?hy7⟩) hS ?rest7
        case hy7 => (intro W hW; go_simp; first | with_reducible rfl | (go_bits; first | with_reducible rfl | (go_simp; with_reducible rfl)))
        simp only [List.getElem_toArray, List.getElem_cons_succ, List.getElem_cons_zero, Act.put, List.setIfInBounds_toArray, List.set_cons_succ, List.set_cons_zero]
        refine wpAnyH_take (i := 7) (v := ?v8) rfl (by kernel_rfl) (by kernel_rfl) (by kernel_rfl) (fun _ _ _ h => h) (Or.inl ⟨by rfl, ?hy8⟩) hS ?rest8
        case hy8 => (intro W hW; go_simp; first | with_reducible rfl | (go_bits; first | with_reducible rfl | (go_simp; with_reducible rfl)))
        simp only [List.getElem_toArray, List.getElem_cons_succ, List.getElem_cons_zero, Act.put, List.setIfInBounds_toArray, List.set_cons_succ, List.set_cons_zero]
        refine wpAnyH_take (i := 8) (v := ?v9) rfl (by kernel_rfl) (by kernel_rfl) (by kernel_rfl) (fun _ _ _ h => h) (Or.inl ⟨by rfl, ?hy9⟩) hS ?rest9
        case hy9 => (intro W hW; go_simp; first | with_reducible rfl | (go_bits; first | with_reducible rfl | (go_simp; with_reducible rfl)))
        simp only [List.getElem_toArray, List.getElem_cons_succ, List.getElem_cons_zero, Act.put, List.setIfInBounds_toArray, List.set_cons_succ, List.set_cons_zero]
        refine wpAnyH_done (by kernel_rfl) ?_ _
        have hl4 := hl2.below hS4
        have hbx4 := hbx2.below hS4
        have t2 : True := trivial
        have hlr : (replyL ls p).length ≤ 65536 := by
          unfold replyL
          split
          · rw [cut_length _ _ (by omega)]; omega
          · exact Nat.zero_le _
        go_wp2_with (first
          | (have _t := t2; refine wpList_load_id rfl 38 _ rfl _ rfl p (by kernel_rfl) hbx4 ?_; simp only [Act.put, List.setIfInBounds_toArray, List.set_cons_succ, List.set_cons_zero]; clear t2)
          | (go_at_call 24; go_must (refine (rreply_calls A ls c n p hp Hl.out (by omega) hnc _ hl4).mono ?_; rintro e w5 ⟨A5, c5, rfl, -, -, hI5, hb5⟩))
          | (go_at_call 15; go_must (refine (same_calls A4 A5 (replyL ls p) (replyL ls p) c4 c5 _ _ rfl rfl hlr _ (hI4.below hb5) hI5).mono ?_; rw [decide_eq_true (rfl : replyL ls p = replyL ls p)]; rintro e w6 ⟨rfl, q, rfl⟩)))
        go_ret
        exact ⟨rfl, (hB2.trans ((hS4.trans (hb5.mono hS4.size)).mono hB2.size)).trans (below_drewN _ _ _)⟩
      · exact AllReadyH.nil
    · exact AllReadyH.nil
theorem own : ownKnob Try.prog.godebug = none := by kernel_rfl
theorem laidOut : laidOutB Try.prog = true := by kernel_rfl
set_option maxRecDepth 100000 in
theorem lifted (os : Os) (started : os.Started) (H : Type) (enc : TypeId × Value → H) :
    ReturnsInHanded {} Try.checked os 6 .any (Rows.referencesReplySpec.pre6 enc Try.prog Try.f6 Rows.referencesReplyRow.domain false) (Rows.referencesReplySpec.post enc Try.prog Try.f6 false true false false) := by
  refine returnsInHanded_of_change (C := Try.checked) own started (by kernel_rfl) Try.func6
    (ChangeSpec.witness6 (enc := enc) (C := Try.checked) false ⟨#[], #[.slice none 0 0, .agg #[.int .u8 0, .int .u8 0, .int .u8 0, .int .u8 0, .int .u8 0, .int .u8 0, .int .u8 0, .int .u8 0, .int .u8 0, .int .u8 0, .int .u8 0, .int .u8 0, .int .u8 0, .int .u8 0, .int .u8 0, .int .u8 0, .int .u8 0, .int .u8 0, .int .u8 0, .int .u8 0, .int .u8 0, .int .u8 0, .int .u8 0, .int .u8 0, .int .u8 0, .int .u8 0, .int .u8 0, .int .u8 0, .int .u8 0, .int .u8 0, .int .u8 0, .int .u8 0]], []⟩ 8 (by kernel_rfl) (by kernel_rfl) (by kernel_rfl) (by kernel_rfl)) ?_
  intro W base args ds gs before hval0 hW hcnd _
  have hval : ∀ (j : Nat) t v, Try.f6.params[j]? = some t → args[j]? = some v → Value.okWide Try.prog W .any base t v := hval0
  have hW' := hW
  obtain ⟨p, q, hA0, hV, rfl, hfz, hnd⟩ := hW
  have hA : DataW.TrodAll enc Try.prog W 0 (fun _ => true) true Try.f6.params.toList args.toList ds p := hA0
  rw [Try.params6] at hA hval
  obtain ⟨v0, vs0, d0, ds0, p0, q0, hargs, rfl, rfl, h0, r0⟩ := trodAll_cons hA
  obtain ⟨v1, vs1, d1, ds1, p1, q1, rfl, rfl, rfl, h1, r1⟩ := trodAll_cons r0
  obtain ⟨rfl, rfl, rfl⟩ := trodAll_nil r1
  obtain rfl : args = #[v0, v1] := by cases args; simp_all
  obtain ⟨rfl, rfl⟩ := trodVars_none hV
  have k0 := h0
  have lt0 : ∀ x ∈ p0, x.block < W.heap.size := by obtain ⟨m, hm⟩ := k0; exact DataW.trod_lt m _ _ _ hm
  have k1 := h1
  have lt1 : ∀ x ∈ p1, x.block < W.heap.size := by obtain ⟨m, hm⟩ := k1; exact DataW.trod_lt m _ _ _ hm
  obtain ⟨A0, n0, c0, ls0, rfl, hls0, hnc0, hc0, hI0⟩ := open_ids (e := 38) Try.underlying22 (by kernel_rfl) (hval 0 22 v0 rfl rfl) h0
  obtain ⟨p1', rfl, hp1⟩ := open_idv (t := 38) (by kernel_rfl) (hval 1 38 v1 rfl rfl) h1
  clear hA0 hval0
  refine (law_all A0 ls0 c0 n0 p1' hp1 hls0 hnc0 W hI0).mono fun e W' ⟨he, bel⟩ => ?_
  subst he
  exact ⟨_, rfl, _, _, _, [], _, [], hW', trodAll_mk1 (shut_bool Try.underlying4 _), (trodAll_cons_mk (Below.trod laidOut (by kernel_rfl) (of_decide_eq_true (by kernel_rfl)) k0 bel lt0) (trodAll_cons_mk (Below.trod laidOut (by kernel_rfl) (of_decide_eq_true (by kernel_rfl)) k1 bel lt1) trodAll_mk0)), rfl, bel.frame _, fun h => by cases h⟩
theorem proved : Rows.ReferencesReplySaid :=
  OpenClaim.holds_of_wide 6 Try.f6 rfl rfl rfl rfl rfl rfl rfl ⟨rfl, rfl, rfl, rfl, rfl⟩ rfl rfl rfl rfl rfl (by kernel_rfl) Try.func6 (by kernel_rfl)
    (of_decide_eq_true (by kernel_rfl)) (by unfold Func.isWrapper; first | (rw [if_pos (by decide +kernel)]; kernel_rfl) | (rw [if_neg (by decide +kernel)]; exact ⟨rfl, rfl⟩))
    (fun os started H enc _ => lifted os started H enc)
end Go.Proofs.Ytafpndmoognjlaa.lawReply
