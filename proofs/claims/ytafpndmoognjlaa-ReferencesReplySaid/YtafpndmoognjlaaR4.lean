/- Reply of the reference is walked, for slices of identities. -/
import Derived.Test.YtafpndmoognjlaaR3
namespace Go.Proofs.Ytafpndmoognjlaa
open Go.ChangeShapes Go.WideShapes Go.ChangeAt Go.RowKit
set_option maxRecDepth 100000 in
set_option maxHeartbeats 1000000 in
theorem rreply_calls (A : Option Addr) (ls : List (List UInt8)) (c n : Nat) (p : List UInt8) (hp : p.length = 32) (hln : ls.length = n) (hn : n ≤ 65536) (hnc : n ≤ c) (w : World) (hl : Ids w A ls) :
    Calls Try.prog 24 #[.slice A n c, idv p] w fun e w' => ReplyPost e w w' ls p := by
  have Hl := Lib.hid hln
  have t1 : True := trivial
  have t2 : True := trivial
  have t3 : True := trivial
  have t4 : True := trivial
  have hzl := zid_len
  by_cases hC : chk ls = 0
  · have HC := Lib.hid hC
    have hn20 := (chk_zero.1 hC).1
    rw [hln] at hn20
    clear hC
    by_cases hz : p = zid
    · have HE : Hid (replyE ls p = 1) := Lib.hid (by unfold replyE; rw [if_neg (by rw [HC.out]; simp), if_pos hz])
      have Hz := Lib.hid hz
      clear hz hln
      go_enter Try.func24, Try.ntmps24
      go_wp2_with (first
      | (have _t := t1; refine wpList_alloc rfl rfl 38 (idc p).toArray (by kernel_rfl) ?_; intro w1 hb1 hg1 hs1; have hbx := hb1.id_at hp; have hB1 : Below w.heap.size w w1 := grownBy_below hg1; simp only [Act.put, List.setIfInBounds_toArray, List.set_cons_succ, List.set_cons_zero]; clear t1)
      | (go_at_call 36; go_must (refine (rcheck_calls A ls c n Hl.out hnc _ (hl.below (grownBy_below hg1))).mono ?_; rw [HC.out, show ((0 : Nat) : Int) = 0 from rfl]; rintro e w2 ⟨rfl, hb2⟩))
      | (have _t := t2; refine wpList_load_id rfl 38 _ rfl _ rfl p (by kernel_rfl) (hbx.below hb2) ?_; simp only [Act.put, List.setIfInBounds_toArray, List.set_cons_succ, List.set_cons_zero]; clear t2)
      | (have _t := t3; refine wpList_value rfl rfl (idv zid) (by kernel_rfl) ?_; rw [Hz.out]; simp only [Act.put, List.setIfInBounds_toArray, List.set_cons_succ, List.set_cons_zero]; clear t3))
      go_ret2
      exact replyPost_bad (E := 1) HE.out (by omega) (hB1.trans (hb2.mono hB1.size))
    · by_cases hm : p ∈ ls
      · have HE : Hid (replyE ls p = 7) := Lib.hid (by unfold replyE; rw [if_neg (by rw [HC.out]; simp), if_neg hz, if_pos hm])
        have HD : Hid (decide (p ∈ ls) = true) := Lib.hid (by simp [hm])
        clear hm hln
        go_enter Try.func24, Try.ntmps24
        go_wp2_with (first
      | (have _t := t1; refine wpList_alloc rfl rfl 38 (idc p).toArray (by kernel_rfl) ?_; intro w1 hb1 hg1 hs1; have hbx := hb1.id_at hp; have hB1 : Below w.heap.size w w1 := grownBy_below hg1; simp only [Act.put, List.setIfInBounds_toArray, List.set_cons_succ, List.set_cons_zero]; clear t1)
      | (go_at_call 36; go_must (refine (rcheck_calls A ls c n Hl.out hnc _ (hl.below (grownBy_below hg1))).mono ?_; rw [HC.out, show ((0 : Nat) : Int) = 0 from rfl]; rintro e w2 ⟨rfl, hb2⟩))
      | (have _t := t2; refine wpList_load_id rfl 38 _ rfl _ rfl p (by kernel_rfl) (hbx.below hb2) ?_; simp only [Act.put, List.setIfInBounds_toArray, List.set_cons_succ, List.set_cons_zero]; clear t2)
      | (have _t := t3; refine wpList_value rfl rfl (idv zid) (by kernel_rfl) ?_; simp only [Act.put, List.setIfInBounds_toArray, List.set_cons_succ, List.set_cons_zero]; clear t3)
      | (have _t := t4; refine wpList_load_id rfl 38 _ rfl _ rfl p (by kernel_rfl) (hbx.below hb2) ?_; simp only [Act.put, List.setIfInBounds_toArray, List.set_cons_succ, List.set_cons_zero]; clear t4)
      | (go_at_call 37; go_must (refine (has_calls A ls c n p hp Hl.out hn _ (hl.below (hB1.trans (hb2.mono hB1.size)))).mono ?_; rw [HD.out]; rintro e w3 ⟨rfl, hb3⟩)))
        go_ret2
        exact replyPost_bad (E := 7) HE.out (by omega) ((hB1.trans (hb2.mono hB1.size)).trans (hb3.mono (by have := hB1.size; have := hb2.size; omega)))
      · have HE : Hid (replyE ls p = 0) := Lib.hid (by unfold replyE; rw [if_neg (by rw [HC.out]; simp), if_neg hz, if_neg hm])
        have HD : Hid (decide (p ∈ ls) = false) := Lib.hid (by simp [hm])
        have h32 : ∀ l ∈ ls ++ [p], l.length = 32 := fun l hl' => by
          rcases List.mem_append.1 hl' with h | h
          · exact hl.len l h
          · rw [List.mem_singleton.1 h]; exact hp
        have hlp : (ls ++ [p]).length = n + 1 := by simp [hln]
        clear hm hln
        obtain ⟨i0, hi0, hz0, hz1, hz2⟩ := info_parts info38
        go_enter Try.func24, Try.ntmps24
        go_wp2_with (first
      | (have _t := t1; refine wpList_alloc rfl rfl 38 (idc p).toArray (by kernel_rfl) ?_; intro w1 hb1 hg1 hs1; have hbx := hb1.id_at hp; have hB1 : Below w.heap.size w w1 := grownBy_below hg1; simp only [Act.put, List.setIfInBounds_toArray, List.set_cons_succ, List.set_cons_zero]; clear t1)
      | (go_at_call 36; go_must (refine (rcheck_calls A ls c n Hl.out hnc _ (hl.below (grownBy_below hg1))).mono ?_; rw [HC.out, show ((0 : Nat) : Int) = 0 from rfl]; rintro e w2 ⟨rfl, hb2⟩))
      | (have _t := t2; refine wpList_load_id rfl 38 _ rfl _ rfl p (by kernel_rfl) (hbx.below hb2) ?_; simp only [Act.put, List.setIfInBounds_toArray, List.set_cons_succ, List.set_cons_zero]; clear t2)
      | (have _t := t3; refine wpList_value rfl rfl (idv zid) (by kernel_rfl) ?_; simp only [Act.put, List.setIfInBounds_toArray, List.set_cons_succ, List.set_cons_zero]; clear t3)
      | (have _t := t4; refine wpList_load_id rfl 38 _ rfl _ rfl p (by kernel_rfl) (hbx.below hb2) ?_; simp only [Act.put, List.setIfInBounds_toArray, List.set_cons_succ, List.set_cons_zero]; clear t4)
      | (go_at_call 37; go_must (refine (has_calls A ls c n p hp Hl.out hn _ (hl.below (hB1.trans (hb2.mono hB1.size)))).mono ?_; rw [HD.out]; rintro e w3 ⟨rfl, hb3⟩)))
        have hB3 : Below w.heap.size w w3 := (hB1.trans (hb2.mono hB1.size)).trans (hb3.mono (by have := hB1.size; have := hb2.size; omega))
        have hbx3 := (hbx.below hb2).below hb3
        have hl3 := hl.below hB3
        clear hbx hb2 hb3 hl hb1 hg1 hs1 hB1
        refine wp_region_held_drew (S := fun W => Below w3.heap.size w3 W) (by kernel_rfl) (Below.refl _ _).drew (fun hS => ?_)
        have hown0 := fun (W : World) (hW : w3.heap.size ≤ W.heap.size) => own_new W w3.heap.size hW [] 38 0 32 rfl (by unfold maxLen; omega)
        refine wpAnyH_take (i := 1) (v := ?v1) rfl (by kernel_rfl) (by kernel_rfl) (by kernel_rfl) (fun _ _ _ h => h) (Or.inl ⟨by rfl, ?hy1⟩) hS ?rest1
        case hy1 => (intro W hW; go_simp; first | with_reducible rfl | (go_bits; first | with_reducible rfl | (go_simp; with_reducible rfl)))
        simp only [List.getElem_toArray, List.getElem_cons_succ, List.getElem_cons_zero, Act.put, List.setIfInBounds_toArray, List.set_cons_succ, List.set_cons_zero]
        refine wpAnyH_take (i := 3) rfl (by kernel_rfl) (by kernel_rfl) (by kernel_rfl) (fun _ _ _ h => h) (yieldsIf_load_id (by rfl) _ _ rfl _ rfl _ (by kernel_rfl) (fun W h => hbx3.below h)) hS ?rest2
        simp only [List.getElem_toArray, List.getElem_cons_succ, List.getElem_cons_zero, Act.put, List.setIfInBounds_toArray, List.set_cons_succ, List.set_cons_zero]
        refine wpAnyH_ready (rs := [0, 4]) (by kernel_rfl) (by simp) ?_
        refine AllReadyH.cons rfl (fun K hK => ?_) (AllReadyH.cons rfl (fun K hK => ?_) AllReadyH.nil)
        · rw [if_pos (by rfl)]
          simp only [List.getElem_toArray, List.getElem_cons_zero]
          refine wp_build_empty 22 38 rfl (by kernel_rfl) ?_
          refine hK.out _ _ ?s3 (fun hS => ?_)
          case s3 => exact (hS.alloc hS.size _)
          clear hK K
          simp only [Act.put, List.setIfInBounds_toArray, List.set_cons_succ, List.set_cons_zero]
          refine wpAnyH_ready (rs := [2, 4]) (by kernel_rfl) (by simp) ?_
          refine AllReadyH.cons rfl (fun K hK => ?_) (AllReadyH.cons rfl (fun K hK => ?_) AllReadyH.nil)
          · rw [if_pos (by rfl)]
            simp only [List.getElem_toArray, List.getElem_cons_succ, List.getElem_cons_zero]
            refine wp_append_row _ _ _ 22 rfl w3.heap.size 38 i0 _ 32 32 Try.underlying22 hi0 hz0 hz1 hz2 rfl (by decide) _ _ _ rfl (hown0 _ (Nat.le_refl _)) A n c (ls.flatMap idc) rfl (by rw [flat_length _ hl3.len, Hl.out]) (hl3.below hS).row (flat_one _) (by unfold maxLen; omega) (by omega) hS.size ?_
            intro v4 w4 hown4 hg4 _
            rw [Nat.zero_add, List.nil_append] at hown4
            have hS4 := hS.grown hg4 hS.size (fun j hj => by injection hj with hj; subst hj; simp)
            have HL : Hid (∀ j, v4.ownBlock = some j → w3.heap.size ≤ j) := Lib.hid (fun j hj => (hown4.lt j hj).1)
            refine hK.out _ _ ?s4 (fun hS => ?_)
            case s4 => exact (hS4)
            clear hK K
            simp only [Act.put, List.setIfInBounds_toArray, List.set_cons_succ, List.set_cons_zero]
            refine wpAnyH_ready (rs := [4]) (by kernel_rfl) (by simp) ?_
            refine AllReadyH.cons rfl (fun K hK => ?_) ?_
            · rw [if_pos (by rfl)]
              simp only [List.getElem_toArray, List.getElem_cons_succ, List.getElem_cons_zero]
              refine wp_build_ids 22 1 _ rfl Try.underlying22 hi0 hz0 hz1 [p] rfl (by simpa using hp) (by simp) (by simp) rfl ?_
              refine hK.out _ _ ?s5 (fun hS => ?_)
              case s5 => exact (hS.alloc hS.size _)
              clear hK K
              simp only [Act.put, List.setIfInBounds_toArray, List.set_cons_succ, List.set_cons_zero]
              refine wpAnyH_ready (rs := [5]) (by kernel_rfl) (by simp) ?_
              refine AllReadyH.cons rfl (fun K hK => ?_) ?_
              · rw [if_pos (by rfl)]
                simp only [List.getElem_toArray, List.getElem_cons_succ, List.getElem_cons_zero]
                refine wp_append_row _ _ _ 22 rfl _ 38 i0 _ 32 32 Try.underlying22 hi0 hz0 hz1 hz2 rfl (by decide) _ _ _ rfl (hown4.alloc _) _ 1 1 ([p].flatMap idc) rfl (flat_length [p] (by simpa using hp)) (ids_new _ _ [p] (by simpa using hp)).row (flat_one _) (by unfold maxLen; omega) (by omega) hS.size ?_
                intro v5 w5 hown5 hg5 _
                have hS5 := hS.grown hg5 hS.size (fun j hj => (HL.out j hj))
                rw [← List.flatMap_append] at hown5
                obtain ⟨A5, c5, rfl, -, h55, h65, h75, -⟩ := Ids.of_own hown5 h32
                refine hK.out _ _ ?s6 (fun hS => ?_)
                case s6 => exact (hS5)
                clear hK K
                simp only [Act.put, List.setIfInBounds_toArray, List.set_cons_succ, List.set_cons_zero]
                refine wpAnyH_ready (rs := [6]) (by kernel_rfl) (by simp) ?_
                refine AllReadyH.cons rfl (fun K hK => ?_) ?_
                · rw [if_pos (by rfl)]
                  simp only [List.getElem_toArray, List.getElem_cons_succ, List.getElem_cons_zero]
                  refine wp_call 30 _ _ _ rfl rfl (by kernel_rfl) ?_
                  refine (rcut_calls A5 (ls ++ [p]) c5 (n + 1) 20 hlp (by omega) h55 (by omega) (by omega) _ h75).mono ?_
                  rintro e w6 ⟨v6, rfl, hown6, hb6⟩
                  refine ⟨_, rfl, ?_⟩
                  have hS6 := hS5.trans (hb6.mono hS5.size)
                  refine hK.out _ _ ?s7 (fun hS => ?_)
                  case s7 => exact (hS6)
                  clear hK K
                  simp only [Act.put, List.setIfInBounds_toArray, List.set_cons_succ, List.set_cons_zero]
                  refine wpAnyH_take (i := 7) (v := ?v8) rfl (by kernel_rfl) (by kernel_rfl) (by kernel_rfl) (fun _ _ _ h => h) (Or.inl ⟨by rfl, ?hy8⟩) hS ?rest8
                  case hy8 => (intro W hW; go_simp; first | with_reducible rfl | (go_bits; first | with_reducible rfl | (go_simp; with_reducible rfl)))
                  simp only [List.getElem_toArray, List.getElem_cons_succ, List.getElem_cons_zero, Act.put, List.setIfInBounds_toArray, List.set_cons_succ, List.set_cons_zero]
                  refine wpAnyH_take (i := 8) (v := ?v9) rfl (by kernel_rfl) (by kernel_rfl) (by kernel_rfl) (fun _ _ _ h => h) (Or.inl ⟨by rfl, ?hy9⟩) hS ?rest9
                  case hy9 => (intro W hW; go_simp; first | with_reducible rfl | (go_bits; first | with_reducible rfl | (go_simp; with_reducible rfl)))
                  simp only [List.getElem_toArray, List.getElem_cons_succ, List.getElem_cons_zero, Act.put, List.setIfInBounds_toArray, List.set_cons_succ, List.set_cons_zero]
                  refine wpAnyH_done (by kernel_rfl) ?_ _
                  go_wp2
                  go_ret2
                  exact replyPost_ok HE.out hown6 h32 (hB3.trans (hS6.mono hB3.size))
                · exact AllReadyH.nil
              · exact AllReadyH.nil
            · exact AllReadyH.nil
          · rw [if_pos (by rfl)]
            simp only [List.getElem_toArray, List.getElem_cons_succ, List.getElem_cons_zero]
            refine wp_build_ids 22 1 _ rfl Try.underlying22 hi0 hz0 hz1 [p] rfl (by simpa using hp) (by simp) (by simp) rfl ?_
            have hbld := (ids_new (w3.drew.alloc (.cells #[] 38)) 38 [p] (by simpa using hp)).row
            refine hK.out _ _ ?s10 (fun hS => ?_)
            case s10 => exact (hS.alloc hS.size _)
            clear hK K
            simp only [Act.put, List.setIfInBounds_toArray, List.set_cons_succ, List.set_cons_zero]
            refine wpAnyH_ready (rs := [2]) (by kernel_rfl) (by simp) ?_
            refine AllReadyH.cons rfl (fun K hK => ?_) ?_
            · rw [if_pos (by rfl)]
              simp only [List.getElem_toArray, List.getElem_cons_succ, List.getElem_cons_zero]
              refine wp_append_row _ _ _ 22 rfl w3.heap.size 38 i0 _ 32 32 Try.underlying22 hi0 hz0 hz1 hz2 rfl (by decide) _ _ _ rfl ((hown0 _ (Nat.le_refl _)).alloc _) A n c (ls.flatMap idc) rfl (by rw [flat_length _ hl3.len, Hl.out]) (hl3.below hS).row (flat_one _) (by unfold maxLen; omega) (by omega) hS.size ?_
              intro v4 w4 hown4 hg4 _
              rw [Nat.zero_add, List.nil_append] at hown4
              have hS4 := hS.grown hg4 hS.size (fun j hj => by injection hj with hj; subst hj; simp)
              have HL : Hid (∀ j, v4.ownBlock = some j → w3.heap.size ≤ j) := Lib.hid (fun j hj => (hown4.lt j hj).1)
              have hbld4 := hbld.grown hg4 (by intro ad e; injection e with e; subst e; intro h; injection h with h; simp at h)
              refine hK.out _ _ ?s11 (fun hS => ?_)
              case s11 => exact (hS4)
              clear hK K
              simp only [Act.put, List.setIfInBounds_toArray, List.set_cons_succ, List.set_cons_zero]
              refine wpAnyH_ready (rs := [5]) (by kernel_rfl) (by simp) ?_
              refine AllReadyH.cons rfl (fun K hK => ?_) ?_
              · rw [if_pos (by rfl)]
                simp only [List.getElem_toArray, List.getElem_cons_succ, List.getElem_cons_zero]
                refine wp_append_row _ _ _ 22 rfl _ 38 i0 _ 32 32 Try.underlying22 hi0 hz0 hz1 hz2 rfl (by decide) _ _ _ rfl hown4 _ 1 1 ([p].flatMap idc) rfl (flat_length [p] (by simpa using hp)) hbld4 (flat_one _) (by unfold maxLen; omega) (by omega) hS.size ?_
                intro v5 w5 hown5 hg5 _
                have hS5 := hS.grown hg5 hS.size (fun j hj => (HL.out j hj))
                rw [← List.flatMap_append] at hown5
                obtain ⟨A5, c5, rfl, -, h55, h65, h75, -⟩ := Ids.of_own hown5 h32
                refine hK.out _ _ ?s12 (fun hS => ?_)
                case s12 => exact (hS5)
                clear hK K
                simp only [Act.put, List.setIfInBounds_toArray, List.set_cons_succ, List.set_cons_zero]
                refine wpAnyH_ready (rs := [6]) (by kernel_rfl) (by simp) ?_
                refine AllReadyH.cons rfl (fun K hK => ?_) ?_
                · rw [if_pos (by rfl)]
                  simp only [List.getElem_toArray, List.getElem_cons_succ, List.getElem_cons_zero]
                  refine wp_call 30 _ _ _ rfl rfl (by kernel_rfl) ?_
                  refine (rcut_calls A5 (ls ++ [p]) c5 (n + 1) 20 hlp (by omega) h55 (by omega) (by omega) _ h75).mono ?_
                  rintro e w6 ⟨v6, rfl, hown6, hb6⟩
                  refine ⟨_, rfl, ?_⟩
                  have hS6 := hS5.trans (hb6.mono hS5.size)
                  refine hK.out _ _ ?s13 (fun hS => ?_)
                  case s13 => exact (hS6)
                  clear hK K
                  simp only [Act.put, List.setIfInBounds_toArray, List.set_cons_succ, List.set_cons_zero]
                  refine wpAnyH_take (i := 7) (v := ?v14) rfl (by kernel_rfl) (by kernel_rfl) (by kernel_rfl) (fun _ _ _ h => h) (Or.inl ⟨by rfl, ?hy14⟩) hS ?rest14
                  case hy14 => (intro W hW; go_simp; first | with_reducible rfl | (go_bits; first | with_reducible rfl | (go_simp; with_reducible rfl)))
                  simp only [List.getElem_toArray, List.getElem_cons_succ, List.getElem_cons_zero, Act.put, List.setIfInBounds_toArray, List.set_cons_succ, List.set_cons_zero]
                  refine wpAnyH_take (i := 8) (v := ?v15) rfl (by kernel_rfl) (by kernel_rfl) (by kernel_rfl) (fun _ _ _ h => h) (Or.inl ⟨by rfl, ?hy15⟩) hS ?rest15
                  case hy15 => (intro W hW; go_simp; first | with_reducible rfl | (go_bits; first | with_reducible rfl | (go_simp; with_reducible rfl)))
                  simp only [List.getElem_toArray, List.getElem_cons_succ, List.getElem_cons_zero, Act.put, List.setIfInBounds_toArray, List.set_cons_succ, List.set_cons_zero]
                  refine wpAnyH_done (by kernel_rfl) ?_ _
                  go_wp2
                  go_ret2
                  exact replyPost_ok HE.out hown6 h32 (hB3.trans (hS6.mono hB3.size))
                · exact AllReadyH.nil
              · exact AllReadyH.nil
            · exact AllReadyH.nil
        · rw [if_pos (by rfl)]
          simp only [List.getElem_toArray, List.getElem_cons_succ, List.getElem_cons_zero]
          refine wp_build_ids 22 1 _ rfl Try.underlying22 hi0 hz0 hz1 [p] rfl (by simpa using hp) (by simp) (by simp) rfl ?_
          have hbld := (ids_new w3.drew 38 [p] (by simpa using hp)).row
          refine hK.out _ _ ?s16 (fun hS => ?_)
          case s16 => exact (hS.alloc hS.size _)
          clear hK K
          simp only [Act.put, List.setIfInBounds_toArray, List.set_cons_succ, List.set_cons_zero]
          refine wpAnyH_ready (rs := [0]) (by kernel_rfl) (by simp) ?_
          refine AllReadyH.cons rfl (fun K hK => ?_) ?_
          · rw [if_pos (by rfl)]
            simp only [List.getElem_toArray, List.getElem_cons_zero]
            refine wp_build_empty 22 38 rfl (by kernel_rfl) ?_
            have hbld2 := hbld.alloc (.cells #[] 38)
            refine hK.out _ _ ?s17 (fun hS => ?_)
            case s17 => exact (hS.alloc hS.size _)
            clear hK K
            simp only [Act.put, List.setIfInBounds_toArray, List.set_cons_succ, List.set_cons_zero]
            refine wpAnyH_ready (rs := [2]) (by kernel_rfl) (by simp) ?_
            refine AllReadyH.cons rfl (fun K hK => ?_) ?_
            · rw [if_pos (by rfl)]
              simp only [List.getElem_toArray, List.getElem_cons_succ, List.getElem_cons_zero]
              refine wp_append_row _ _ _ 22 rfl w3.heap.size 38 i0 _ 32 32 Try.underlying22 hi0 hz0 hz1 hz2 rfl (by decide) _ _ _ rfl (hown0 _ (by simp)) A n c (ls.flatMap idc) rfl (by rw [flat_length _ hl3.len, Hl.out]) (hl3.below hS).row (flat_one _) (by unfold maxLen; omega) (by omega) hS.size ?_
              intro v4 w4 hown4 hg4 _
              rw [Nat.zero_add, List.nil_append] at hown4
              have hS4 := hS.grown hg4 hS.size (fun j hj => by injection hj with hj; subst hj; simp)
              have HL : Hid (∀ j, v4.ownBlock = some j → w3.heap.size ≤ j) := Lib.hid (fun j hj => (hown4.lt j hj).1)
              have hbld4 := hbld2.grown hg4 (by intro ad e; injection e with e; subst e; intro h; injection h with h; simp at h)
              refine hK.out _ _ ?s18 (fun hS => ?_)
              case s18 => exact (hS4)
              clear hK K
              simp only [Act.put, List.setIfInBounds_toArray, List.set_cons_succ, List.set_cons_zero]
              refine wpAnyH_ready (rs := [5]) (by kernel_rfl) (by simp) ?_
              refine AllReadyH.cons rfl (fun K hK => ?_) ?_
              · rw [if_pos (by rfl)]
                simp only [List.getElem_toArray, List.getElem_cons_succ, List.getElem_cons_zero]
                refine wp_append_row _ _ _ 22 rfl _ 38 i0 _ 32 32 Try.underlying22 hi0 hz0 hz1 hz2 rfl (by decide) _ _ _ rfl hown4 _ 1 1 ([p].flatMap idc) rfl (flat_length [p] (by simpa using hp)) hbld4 (flat_one _) (by unfold maxLen; omega) (by omega) hS.size ?_
                intro v5 w5 hown5 hg5 _
                have hS5 := hS.grown hg5 hS.size (fun j hj => (HL.out j hj))
                rw [← List.flatMap_append] at hown5
                obtain ⟨A5, c5, rfl, -, h55, h65, h75, -⟩ := Ids.of_own hown5 h32
                refine hK.out _ _ ?s19 (fun hS => ?_)
                case s19 => exact (hS5)
                clear hK K
                simp only [Act.put, List.setIfInBounds_toArray, List.set_cons_succ, List.set_cons_zero]
                refine wpAnyH_ready (rs := [6]) (by kernel_rfl) (by simp) ?_
                refine AllReadyH.cons rfl (fun K hK => ?_) ?_
                · rw [if_pos (by rfl)]
                  simp only [List.getElem_toArray, List.getElem_cons_succ, List.getElem_cons_zero]
                  refine wp_call 30 _ _ _ rfl rfl (by kernel_rfl) ?_
                  refine (rcut_calls A5 (ls ++ [p]) c5 (n + 1) 20 hlp (by omega) h55 (by omega) (by omega) _ h75).mono ?_
                  rintro e w6 ⟨v6, rfl, hown6, hb6⟩
                  refine ⟨_, rfl, ?_⟩
                  have hS6 := hS5.trans (hb6.mono hS5.size)
                  refine hK.out _ _ ?s20 (fun hS => ?_)
                  case s20 => exact (hS6)
                  clear hK K
                  simp only [Act.put, List.setIfInBounds_toArray, List.set_cons_succ, List.set_cons_zero]
                  refine wpAnyH_take (i := 7) (v := ?v21) rfl (by kernel_rfl) (by kernel_rfl) (by kernel_rfl) (fun _ _ _ h => h) (Or.inl ⟨by rfl, ?hy21⟩) hS ?rest21
                  case hy21 => (intro W hW; go_simp; first | with_reducible rfl | (go_bits; first | with_reducible rfl | (go_simp; with_reducible rfl)))
                  simp only [List.getElem_toArray, List.getElem_cons_succ, List.getElem_cons_zero, Act.put, List.setIfInBounds_toArray, List.set_cons_succ, List.set_cons_zero]
                  refine wpAnyH_take (i := 8) (v := ?v22) rfl (by kernel_rfl) (by kernel_rfl) (by kernel_rfl) (fun _ _ _ h => h) (Or.inl ⟨by rfl, ?hy22⟩) hS ?rest22
                  case hy22 => (intro W hW; go_simp; first | with_reducible rfl | (go_bits; first | with_reducible rfl | (go_simp; with_reducible rfl)))
                  simp only [List.getElem_toArray, List.getElem_cons_succ, List.getElem_cons_zero, Act.put, List.setIfInBounds_toArray, List.set_cons_succ, List.set_cons_zero]
                  refine wpAnyH_done (by kernel_rfl) ?_ _
                  go_wp2
                  go_ret2
                  exact replyPost_ok HE.out hown6 h32 (hB3.trans (hS6.mono hB3.size))
                · exact AllReadyH.nil
              · exact AllReadyH.nil
            · exact AllReadyH.nil
          · exact AllReadyH.nil
  · have HE : Hid (replyE ls p = chk ls) := Lib.hid (by unfold replyE; rw [if_pos hC])
    have HC := Lib.hid hC
    have hne : ((chk ls : Int) != 0) = true := by rw [bne_iff_ne]; omega
    clear hln hC
    go_enter Try.func24, Try.ntmps24
    go_wp2_with (first
      | (have _t := t1; refine wpList_alloc rfl rfl 38 (idc p).toArray (by kernel_rfl) ?_; intro w1 hb1 hg1 hs1; have hB1 : Below w.heap.size w w1 := grownBy_below hg1; simp only [Act.put, List.setIfInBounds_toArray, List.set_cons_succ, List.set_cons_zero]; clear t1)
      | (go_at_call 36; go_must (refine (rcheck_calls A ls c n Hl.out hnc _ (hl.below (grownBy_below hg1))).mono ?_; rintro e w2 ⟨rfl, hb2⟩)))
    go_ret2
    exact replyPost_bad (E := chk ls) HE.out HC.out (hB1.trans (hb2.mono hB1.size))
end Go.Proofs.Ytafpndmoognjlaa
