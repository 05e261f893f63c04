/- Reply of chapter 14 and of the reference are walked, for slices of identities. -/
import Derived.Test.YtafpndmoognjlaaR2
namespace Go.Proofs.Ytafpndmoognjlaa
open Go.ChangeShapes Go.WideShapes Go.ChangeAt Go.RowKit

/-- what Reply answers -/
def replyE (ls : List (List UInt8)) (p : List UInt8) : Nat := if chk ls ≠ 0 then chk ls else if p = zid then 1 else if p ∈ ls then 7 else 0
def replyL (ls : List (List UInt8)) (p : List UInt8) : List (List UInt8) := if replyE ls p = 0 then cut (ls ++ [p]) 20 else []
def ReplyPost (e0 : Ending) (w w' : World) (ls : List (List UInt8)) (p : List UInt8) : Prop :=
  ∃ A c, e0 = .returned (.tuple #[.slice A (replyL ls p).length c, .int .i64 (replyE ls p)]) ∧ (replyL ls p).length ≤ c ∧ c ≤ maxLen ∧ Ids w' A (replyL ls p) ∧ Below w.heap.size w w'
theorem replyPost_bad {w w' : World} {ls : List (List UInt8)} {p : List UInt8} {E : Nat} (hE : replyE ls p = E) (hne : E ≠ 0) (hb : Below w.heap.size w w') :
    ReplyPost (.returned (.tuple #[.slice none 0 0, .int .i64 E])) w w' ls p := by
  have e : replyL ls p = [] := by unfold replyL; rw [if_neg (by omega)]
  unfold ReplyPost
  rw [e, hE]
  exact ⟨none, 0, rfl, Nat.le_refl _, Nat.zero_le _, Ids.nil _ _, hb⟩
theorem replyPost_ok {w w' : World} {ls : List (List UInt8)} {p : List UInt8} {e : TypeId} {base : Nat} {v : Value} (hE : replyE ls p = 0) (hown : w'.ownsRow base e 32 v (cut (ls ++ [p]) 20).length ((cut (ls ++ [p]) 20).flatMap idc))
    (h32 : ∀ l ∈ ls ++ [p], l.length = 32) (hb : Below w.heap.size w w') :
    ReplyPost (.returned (.tuple #[v, .int .i64 0])) w w' ls p := by
  have e : replyL ls p = cut (ls ++ [p]) 20 := by unfold replyL; rw [if_pos hE]
  unfold ReplyPost
  rw [e, hE]
  obtain ⟨A, c, rfl, _, h1, h2, h3, _⟩ := Ids.of_own hown (cut_len32 h32 20)
  exact ⟨A, c, rfl, h1, h2, h3, hb⟩

set_option maxRecDepth 100000 in
set_option maxHeartbeats 1000000 in
theorem reply_calls (A : Option Addr) (ls : List (List UInt8)) (c n : Nat) (p : List UInt8) (hp : p.length = 32) (hln : ls.length = n) (hn : n ≤ 65536) (hnc : n ≤ c) (w : World) (hl : Ids w A ls) :
    Calls Try.prog 23 #[.slice A n c, idv p] w fun e w' => ReplyPost e w w' ls p := by
  have Hl := Lib.hid hln
  have t1 : True := trivial
  have t2 : True := trivial
  have t3 : True := trivial
  have t4 : True := trivial
  have hzl := zid_len
  by_cases hC : chk ls = 0
  · have HC := Lib.hid hC
    have hn20 := (chk_zero.1 hC).1
    rw [hln] at hn20
    clear hC
    by_cases hz : p = zid
    · have HE : Hid (replyE ls p = 1) := Lib.hid (by unfold replyE; rw [if_neg (by rw [HC.out]; simp), if_pos hz])
      have Hz := Lib.hid hz
      clear hz hln
      go_enter Try.func23, Try.ntmps23
      go_wp2_with (first
      | (have _t := t1; refine wpList_alloc rfl rfl 33 (idc p).toArray (by kernel_rfl) ?_; intro w1 hb1 hg1 hs1; have hbx := hb1.id_at hp; have hB1 : Below w.heap.size w w1 := grownBy_below hg1; simp only [Act.put, List.setIfInBounds_toArray, List.set_cons_succ, List.set_cons_zero]; clear t1)
      | (go_at_call 20; go_must (refine (check_calls A ls c n Hl.out _ (hl.below (grownBy_below hg1))).mono ?_; rw [HC.out, show ((0 : Nat) : Int) = 0 from rfl]; rintro e w2 ⟨rfl, hb2⟩))
      | (have _t := t2; refine wpList_load_id rfl 33 _ rfl _ rfl p (by kernel_rfl) (hbx.below hb2) ?_; simp only [Act.put, List.setIfInBounds_toArray, List.set_cons_succ, List.set_cons_zero]; clear t2)
      | (have _t := t3; refine wpList_value rfl rfl (idv zid) (by kernel_rfl) ?_; rw [Hz.out]; simp only [Act.put, List.setIfInBounds_toArray, List.set_cons_succ, List.set_cons_zero]; clear t3))
      go_ret2
      exact replyPost_bad (E := 1) HE.out (by omega) (hB1.trans (hb2.mono hB1.size))
    · by_cases hm : p ∈ ls
      · have HE : Hid (replyE ls p = 7) := Lib.hid (by unfold replyE; rw [if_neg (by rw [HC.out]; simp), if_neg hz, if_pos hm])
        have HD : Hid (decide (p ∈ ls) = true) := Lib.hid (by simp [hm])
        clear hm hln
        go_enter Try.func23, Try.ntmps23
        go_wp2_with (first
      | (have _t := t1; refine wpList_alloc rfl rfl 33 (idc p).toArray (by kernel_rfl) ?_; intro w1 hb1 hg1 hs1; have hbx := hb1.id_at hp; have hB1 : Below w.heap.size w w1 := grownBy_below hg1; simp only [Act.put, List.setIfInBounds_toArray, List.set_cons_succ, List.set_cons_zero]; clear t1)
      | (go_at_call 20; go_must (refine (check_calls A ls c n Hl.out _ (hl.below (grownBy_below hg1))).mono ?_; rw [HC.out, show ((0 : Nat) : Int) = 0 from rfl]; rintro e w2 ⟨rfl, hb2⟩))
      | (have _t := t2; refine wpList_load_id rfl 33 _ rfl _ rfl p (by kernel_rfl) (hbx.below hb2) ?_; simp only [Act.put, List.setIfInBounds_toArray, List.set_cons_succ, List.set_cons_zero]; clear t2)
      | (have _t := t3; refine wpList_value rfl rfl (idv zid) (by kernel_rfl) ?_; simp only [Act.put, List.setIfInBounds_toArray, List.set_cons_succ, List.set_cons_zero]; clear t3)
      | (have _t := t4; refine wpList_load_id rfl 33 _ rfl _ rfl p (by kernel_rfl) (hbx.below hb2) ?_; simp only [Act.put, List.setIfInBounds_toArray, List.set_cons_succ, List.set_cons_zero]; clear t4)
      | (go_at_call 35; go_must (refine (contains_calls A ls c n p hp Hl.out hn _ (hl.below (hB1.trans (hb2.mono hB1.size)))).mono ?_; rw [HD.out]; rintro e w3 ⟨rfl, hb3⟩)))
        go_ret2
        exact replyPost_bad (E := 7) HE.out (by omega) ((hB1.trans (hb2.mono hB1.size)).trans (hb3.mono (by have := hB1.size; have := hb2.size; omega)))
      · have HE : Hid (replyE ls p = 0) := Lib.hid (by unfold replyE; rw [if_neg (by rw [HC.out]; simp), if_neg hz, if_neg hm])
        have HD : Hid (decide (p ∈ ls) = false) := Lib.hid (by simp [hm])
        have h32 : ∀ l ∈ ls ++ [p], l.length = 32 := fun l hl' => by
          rcases List.mem_append.1 hl' with h | h
          · exact hl.len l h
          · rw [List.mem_singleton.1 h]; exact hp
        have hlp : (ls ++ [p]).length = n + 1 := by simp [hln]
        clear hm hln
        obtain ⟨i0, hi0, hz0, hz1, hz2⟩ := info_parts info33
        go_enter Try.func23, Try.ntmps23
        go_wp2_with (first
      | (have _t := t1; refine wpList_alloc rfl rfl 33 (idc p).toArray (by kernel_rfl) ?_; intro w1 hb1 hg1 hs1; have hbx := hb1.id_at hp; have hB1 : Below w.heap.size w w1 := grownBy_below hg1; simp only [Act.put, List.setIfInBounds_toArray, List.set_cons_succ, List.set_cons_zero]; clear t1)
      | (go_at_call 20; go_must (refine (check_calls A ls c n Hl.out _ (hl.below (grownBy_below hg1))).mono ?_; rw [HC.out, show ((0 : Nat) : Int) = 0 from rfl]; rintro e w2 ⟨rfl, hb2⟩))
      | (have _t := t2; refine wpList_load_id rfl 33 _ rfl _ rfl p (by kernel_rfl) (hbx.below hb2) ?_; simp only [Act.put, List.setIfInBounds_toArray, List.set_cons_succ, List.set_cons_zero]; clear t2)
      | (have _t := t3; refine wpList_value rfl rfl (idv zid) (by kernel_rfl) ?_; simp only [Act.put, List.setIfInBounds_toArray, List.set_cons_succ, List.set_cons_zero]; clear t3)
      | (have _t := t4; refine wpList_load_id rfl 33 _ rfl _ rfl p (by kernel_rfl) (hbx.below hb2) ?_; simp only [Act.put, List.setIfInBounds_toArray, List.set_cons_succ, List.set_cons_zero]; clear t4)
      | (go_at_call 35; go_must (refine (contains_calls A ls c n p hp Hl.out hn _ (hl.below (hB1.trans (hb2.mono hB1.size)))).mono ?_; rw [HD.out]; rintro e w3 ⟨rfl, hb3⟩)))
        have hB3 : Below w.heap.size w w3 := (hB1.trans (hb2.mono hB1.size)).trans (hb3.mono (by have := hB1.size; have := hb2.size; omega))
        have hbx3 := (hbx.below hb2).below hb3
        have hl3 := hl.below hB3
        clear hbx hb2 hb3 hl hb1 hg1 hs1 hB1
        refine wp_region_held_drew (S := fun W => Below w3.heap.size w3 W) (by kernel_rfl) (Below.refl _ _).drew (fun hS => ?_)
        refine wpAnyH_take (i := 0) (v := ?v1) rfl (by kernel_rfl) (by kernel_rfl) (by kernel_rfl) (fun _ _ _ h => h) (Or.inl ⟨by rfl, ?hy1⟩) hS ?rest1
        case hy1 => (intro W hW; go_simp; first | with_reducible rfl | (go_bits; first | with_reducible rfl | (go_simp; with_reducible rfl)))
        simp only [List.getElem_toArray, List.getElem_cons_zero, Act.put, List.setIfInBounds_toArray, List.set_cons_succ, List.set_cons_zero]
        refine wpAnyH_take (i := 2) rfl (by kernel_rfl) (by kernel_rfl) (by kernel_rfl) (fun _ _ _ h => h) (yieldsIf_load_id (by rfl) _ _ rfl _ rfl _ (by kernel_rfl) (fun W h => hbx3.below h)) hS ?rest2
        simp only [List.getElem_toArray, List.getElem_cons_succ, List.getElem_cons_zero, Act.put, List.setIfInBounds_toArray, List.set_cons_succ, List.set_cons_zero]
        refine wpAnyH_ready (rs := [1, 3]) (by kernel_rfl) (by simp) ?_
        refine AllReadyH.cons rfl (fun K hK => ?_) (AllReadyH.cons rfl (fun K hK => ?_) AllReadyH.nil)
        · rw [if_pos (by rfl)]
          simp only [List.getElem_toArray, List.getElem_cons_succ, List.getElem_cons_zero]
          refine wp_call 33 _ _ _ rfl rfl (by kernel_rfl) ?_
          refine (clone_calls A ls c n Hl.out hn _ (hl3.below hS)).mono ?_
          rintro e w4 ⟨v4, rfl, hown4, hb4⟩
          refine ⟨_, rfl, ?_⟩
          have hS4 := hS.trans (hb4.mono hS.size)
          refine hK.out _ _ ?s3 (fun hS => ?_)
          case s3 => exact (hS4)
          clear hK K
          simp only [Act.put, List.setIfInBounds_toArray, List.set_cons_succ, List.set_cons_zero]
          refine wpAnyH_ready (rs := [3]) (by kernel_rfl) (by simp) ?_
          refine AllReadyH.cons rfl (fun K hK => ?_) ?_
          · rw [if_pos (by rfl)]
            simp only [List.getElem_toArray, List.getElem_cons_succ, List.getElem_cons_zero]
            refine wp_build_ids 24 1 _ rfl Try.underlying24 hi0 hz0 hz1 [p] rfl (by simpa using hp) (by simp) (by simp) rfl ?_
            refine hK.out _ _ ?s4 (fun hS => ?_)
            case s4 => exact (hS.alloc hS.size _)
            clear hK K
            simp only [Act.put, List.setIfInBounds_toArray, List.set_cons_succ, List.set_cons_zero]
            refine wpAnyH_ready (rs := [4]) (by kernel_rfl) (by simp) ?_
            refine AllReadyH.cons rfl (fun K hK => ?_) ?_
            · rw [if_pos (by rfl)]
              simp only [List.getElem_toArray, List.getElem_cons_succ, List.getElem_cons_zero]
              have HL : Hid (∀ j, v4.ownBlock = some j → w3.heap.size ≤ j) := Lib.hid (fun j hj => (hown4.lt j hj).1)
              refine wp_append_row _ _ _ 24 rfl _ 33 i0 _ 32 32 Try.underlying24 hi0 hz0 hz1 hz2 rfl (by decide) _ _ _ rfl (hown4.alloc _) _ 1 1 ([p].flatMap idc) rfl (flat_length [p] (by simpa using hp)) (ids_new _ _ [p] (by simpa using hp)).row (flat_one _) (by unfold maxLen; omega) (by omega) ?hba ?_
              case hba => (have := hb4.size; simp at this ⊢; omega)
              intro v5 w5 hown5 hg5 _
              have hS5 := hS.grown hg5 hS.size (fun j hj => (HL.out j hj))
              rw [← List.flatMap_append] at hown5
              obtain ⟨A5, c5, rfl, -, h55, h65, h75, -⟩ := Ids.of_own hown5 h32
              refine hK.out _ _ ?s5 (fun hS => ?_)
              case s5 => exact (hS5)
              clear hK K
              simp only [Act.put, List.setIfInBounds_toArray, List.set_cons_succ, List.set_cons_zero]
              refine wpAnyH_ready (rs := [5]) (by kernel_rfl) (by simp) ?_
              refine AllReadyH.cons rfl (fun K hK => ?_) ?_
              · rw [if_pos (by rfl)]
                simp only [List.getElem_toArray, List.getElem_cons_succ, List.getElem_cons_zero]
                refine wp_call 29 _ _ _ rfl rfl (by kernel_rfl) ?_
                refine (trim_calls A5 (ls ++ [p]) c5 (n + 1) 20 hlp (by omega) h55 h65 (by omega) (by omega) _ h75).mono ?_
                rintro e w6 ⟨v6, rfl, hown6, hb6⟩
                refine ⟨_, rfl, ?_⟩
                have hS6 := hS5.trans (hb6.mono hS5.size)
                refine hK.out _ _ ?s6 (fun hS => ?_)
                case s6 => exact (hS6)
                clear hK K
                simp only [Act.put, List.setIfInBounds_toArray, List.set_cons_succ, List.set_cons_zero]
                refine wpAnyH_take (i := 6) (v := ?v7) rfl (by kernel_rfl) (by kernel_rfl) (by kernel_rfl) (fun _ _ _ h => h) (Or.inl ⟨by rfl, ?hy7⟩) hS ?rest7
                case hy7 => (intro W hW; go_simp; first | with_reducible rfl | (go_bits; first | with_reducible rfl | (go_simp; with_reducible rfl)))
                simp only [List.getElem_toArray, List.getElem_cons_succ, List.getElem_cons_zero, Act.put, List.setIfInBounds_toArray, List.set_cons_succ, List.set_cons_zero]
                refine wpAnyH_take (i := 7) (v := ?v8) rfl (by kernel_rfl) (by kernel_rfl) (by kernel_rfl) (fun _ _ _ h => h) (Or.inl ⟨by rfl, ?hy8⟩) hS ?rest8
                case hy8 => (intro W hW; go_simp; first | with_reducible rfl | (go_bits; first | with_reducible rfl | (go_simp; with_reducible rfl)))
                simp only [List.getElem_toArray, List.getElem_cons_succ, List.getElem_cons_zero, Act.put, List.setIfInBounds_toArray, List.set_cons_succ, List.set_cons_zero]
                refine wpAnyH_done (by kernel_rfl) ?_ _
                go_wp2
                go_ret2
                exact replyPost_ok HE.out hown6 h32 (hB3.trans (hS6.mono hB3.size))
              · exact AllReadyH.nil
            · exact AllReadyH.nil
          · exact AllReadyH.nil
        · rw [if_pos (by rfl)]
          simp only [List.getElem_toArray, List.getElem_cons_succ, List.getElem_cons_zero]
          refine wp_build_ids 24 1 _ rfl Try.underlying24 hi0 hz0 hz1 [p] rfl (by simpa using hp) (by simp) (by simp) rfl ?_
          have hbld := (ids_new w3.drew 33 [p] (by simpa using hp)).row
          refine hK.out _ _ ?s9 (fun hS => ?_)
          case s9 => exact (hS.alloc hS.size _)
          clear hK K
          simp only [Act.put, List.setIfInBounds_toArray, List.set_cons_succ, List.set_cons_zero]
          refine wpAnyH_ready (rs := [1]) (by kernel_rfl) (by simp) ?_
          refine AllReadyH.cons rfl (fun K hK => ?_) ?_
          · rw [if_pos (by rfl)]
            simp only [List.getElem_toArray, List.getElem_cons_succ, List.getElem_cons_zero]
            refine wp_call 33 _ _ _ rfl rfl (by kernel_rfl) ?_
            refine (clone_calls A ls c n Hl.out hn _ (hl3.below hS)).mono ?_
            rintro e w4 ⟨v4, rfl, hown4, hb4⟩
            refine ⟨_, rfl, ?_⟩
            have hS4 := hS.trans (hb4.mono hS.size)
            have hbld4 := hbld.below hb4
            refine hK.out _ _ ?s10 (fun hS => ?_)
            case s10 => exact (hS4)
            clear hK K
            simp only [Act.put, List.setIfInBounds_toArray, List.set_cons_succ, List.set_cons_zero]
            refine wpAnyH_ready (rs := [4]) (by kernel_rfl) (by simp) ?_
            refine AllReadyH.cons rfl (fun K hK => ?_) ?_
            · rw [if_pos (by rfl)]
              simp only [List.getElem_toArray, List.getElem_cons_succ, List.getElem_cons_zero]
              have HL : Hid (∀ j, v4.ownBlock = some j → w3.heap.size ≤ j) := Lib.hid (fun j hj => Nat.le_trans (by simp) (hown4.lt j hj).1)
              refine wp_append_row _ _ _ 24 rfl _ 33 i0 _ 32 32 Try.underlying24 hi0 hz0 hz1 hz2 rfl (by decide) _ _ _ rfl hown4 _ 1 1 ([p].flatMap idc) rfl (flat_length [p] (by simpa using hp)) hbld4 (flat_one _) (by unfold maxLen; omega) (by omega) ?hbb ?_
              case hbb => exact hb4.size
              intro v5 w5 hown5 hg5 _
              have hS5 := hS.grown hg5 hS.size (fun j hj => (HL.out j hj))
              rw [← List.flatMap_append] at hown5
              obtain ⟨A5, c5, rfl, -, h55, h65, h75, -⟩ := Ids.of_own hown5 h32
              refine hK.out _ _ ?s11 (fun hS => ?_)
              case s11 => exact (hS5)
              clear hK K
              simp only [Act.put, List.setIfInBounds_toArray, List.set_cons_succ, List.set_cons_zero]
              refine wpAnyH_ready (rs := [5]) (by kernel_rfl) (by simp) ?_
              refine AllReadyH.cons rfl (fun K hK => ?_) ?_
              · rw [if_pos (by rfl)]
                simp only [List.getElem_toArray, List.getElem_cons_succ, List.getElem_cons_zero]
                refine wp_call 29 _ _ _ rfl rfl (by kernel_rfl) ?_
                refine (trim_calls A5 (ls ++ [p]) c5 (n + 1) 20 hlp (by omega) h55 h65 (by omega) (by omega) _ h75).mono ?_
                rintro e w6 ⟨v6, rfl, hown6, hb6⟩
                refine ⟨_, rfl, ?_⟩
                have hS6 := hS5.trans (hb6.mono hS5.size)
                refine hK.out _ _ ?s12 (fun hS => ?_)
                case s12 => exact (hS6)
                clear hK K
                simp only [Act.put, List.setIfInBounds_toArray, List.set_cons_succ, List.set_cons_zero]
                refine wpAnyH_take (i := 6) (v := ?v13) rfl (by kernel_rfl) (by kernel_rfl) (by kernel_rfl) (fun _ _ _ h => h) (Or.inl ⟨by rfl, ?hy13⟩) hS ?rest13
                case hy13 => (intro W hW; go_simp; first | with_reducible rfl | (go_bits; first | with_reducible rfl | (go_simp; with_reducible rfl)))
                simp only [List.getElem_toArray, List.getElem_cons_succ, List.getElem_cons_zero, Act.put, List.setIfInBounds_toArray, List.set_cons_succ, List.set_cons_zero]
                refine wpAnyH_take (i := 7) (v := ?v14) rfl (by kernel_rfl) (by kernel_rfl) (by kernel_rfl) (fun _ _ _ h => h) (Or.inl ⟨by rfl, ?hy14⟩) hS ?rest14
                case hy14 => (intro W hW; go_simp; first | with_reducible rfl | (go_bits; first | with_reducible rfl | (go_simp; with_reducible rfl)))
                simp only [List.getElem_toArray, List.getElem_cons_succ, List.getElem_cons_zero, Act.put, List.setIfInBounds_toArray, List.set_cons_succ, List.set_cons_zero]
                refine wpAnyH_done (by kernel_rfl) ?_ _
                go_wp2
                go_ret2
                exact replyPost_ok HE.out hown6 h32 (hB3.trans (hS6.mono hB3.size))
              · exact AllReadyH.nil
            · exact AllReadyH.nil
          · exact AllReadyH.nil
  · have HE : Hid (replyE ls p = chk ls) := Lib.hid (by unfold replyE; rw [if_pos hC])
    have HC := Lib.hid hC
    have hne : ((chk ls : Int) != 0) = true := by rw [bne_iff_ne]; omega
    clear hln hC
    go_enter Try.func23, Try.ntmps23
    go_wp2_with (first
      | (have _t := t1; refine wpList_alloc rfl rfl 33 (idc p).toArray (by kernel_rfl) ?_; intro w1 hb1 hg1 hs1; have hB1 : Below w.heap.size w w1 := grownBy_below hg1; simp only [Act.put, List.setIfInBounds_toArray, List.set_cons_succ, List.set_cons_zero]; clear t1)
      | (go_at_call 20; go_must (refine (check_calls A ls c n Hl.out _ (hl.below (grownBy_below hg1))).mono ?_; rintro e w2 ⟨rfl, hb2⟩)))
    go_ret2
    exact replyPost_bad (E := chk ls) HE.out HC.out (hB1.trans (hb2.mono hB1.size))
end Go.Proofs.Ytafpndmoognjlaa
