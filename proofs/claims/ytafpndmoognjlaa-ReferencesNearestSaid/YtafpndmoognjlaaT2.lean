/- slices.Clone, slices.Equal and trim of chapter 14 are walked, for slices of at most 65536 identities. -/
import Derived.Test.YtafpndmoognjlaaT1
namespace Go.Proofs.Ytafpndmoognjlaa
open Go.ChangeShapes Go.WideShapes Go.ChangeAt Go.RowKit

theorem info38 : (Try.prog.info? 38).map (fun i => (i.zero, i.size, i.bytes)) = some (some (idv (List.replicate 32 0)), 32, 32) := by kernel_rfl

set_option maxRecDepth 100000 in
set_option maxHeartbeats 400000 in
theorem clone_calls (A : Option Addr) (ls : List (List UInt8)) (c n : Nat) (hln : ls.length = n) (hn : n ≤ 65536) (w : World) (hl : Ids w A ls) :
    Calls Try.prog 33 #[.slice A n c] w fun e w' => ∃ v, e = .returned v ∧ w'.ownsRow w.heap.size 33 32 v n (ls.flatMap idc) ∧ Below w.heap.size w w' := by
  have Hl := Lib.hid hln; clear hln
  obtain ⟨i0, hi0, hz0, hz1, hz2⟩ := info_parts info33
  have hlen := flat_length ls hl.len
  rw [Hl.out] at hlen
  have Hlen := Lib.hid hlen; clear hlen
  have he := fun W => Lib.run_eql_slice_nil (P := Try.prog) W 24 33 A n c 0 0 Try.underlying24
  cases A with
  | none =>
    have h0 : ls.flatMap idc = [] := hl.row.none
    go_enter Try.func33, Try.ntmps33
    go_wp2
    go_ret
    refine ⟨_, rfl, ?_, Below.refl _ _⟩
    have : n = 0 := by have := Hlen.out; rw [h0] at this; simp at this; omega
    subst this
    rw [h0]
    exact World.ownsRow_nil _ _ _ _
  | some ad =>
    have hown0 := own_new w w.heap.size (Nat.le_refl _) [] 33 0 32 rfl (by unfold maxLen; omega)
    go_enter Try.func33, Try.ntmps33
    go_wp2_with (at_builtin; go_must (refine wpList_append_row _ rfl _ _ 24 rfl w.heap.size 33 i0 _ 32 32 Try.underlying24 hi0 hz0 hz1 hz2 rfl (by decide) _ _ _ rfl hown0 (some ad) n c (ls.flatMap idc) rfl Hlen.out (hl.row.alloc _) (flat_one _) (by unfold maxLen; omega) (by omega) (by simp) ?_; intro v' w1 hown1 hgrow _))
    go_ret
    rw [Nat.zero_add] at hown1
    exact ⟨_, rfl, hown1, ((Below.refl _ _).alloc (Nat.le_refl _) _).grown hgrow (by simp) (fun k hk => (hown0.lt k hk).1)⟩

set_option maxHeartbeats 400000 in
theorem equal_eq (A B : Option Addr) (l m : List (List UInt8)) (c d : Nat) (n : Nat) (hln : l.length = n) (hmn : m.length = n) (hn : n ≤ 65536) (w : World) (hl : Ids w A l) (hm : Ids w B m) :
    Calls Try.prog 34 #[.slice A n c, .slice B n d] w fun e w' => e = .returned (.bool (decide (l = m))) ∧ ∃ k, w' = w.drewN k := by
  have Hl := Lib.hid hln; have Hm := Lib.hid hmn; clear hln hmn
  have h0 : ((n : Int) != (n : Int)) = false := by simp
  go_enter Try.func34, Try.ntmps34
  go_wp2
  go_loopw [5, 13] (fun _ i wr => ∃ k : Nat, k ≤ n ∧ i = .int .i64 k ∧ l.take k = m.take k ∧ ∃ q, wr = w.drewN q) (fun _ i _ => n - (intOf i).toNat)
  case atStart => exact ⟨0, Nat.zero_le _, rfl, rfl, 0, rfl⟩
  case round =>
    obtain ⟨k, hk, rfl, ht, q, rfl⟩ := hrel
    by_cases hlt : k < n
    · obtain ⟨ad, x, rfl, hx, hx32, hA⟩ := hl.at_ (k := k) (by rw [Hl.out]; exact hlt)
      obtain ⟨bd, y, rfl, hy, hy32, hB⟩ := hm.at_ (k := k) (by rw [Hm.out]; exact hlt)
      have Hx := Lib.hid hx; have Hy := Lib.hid hy; have Ht := Lib.hid ht; clear hx hy ht
      go_wp2
      refine wp_region_quiet_lit (by kernel_rfl) (by kernel_rfl) ?_
      have hC : ∀ W : World, (∃ k, W = (w.drewN q).drewN k) → IdAt W (ad.add (k * 32)) x := by rintro W ⟨_, rfl⟩; exact (hA.drewN _).drewN _
      have hD : ∀ W : World, (∃ k, W = (w.drewN q).drewN k) → IdAt W (bd.add (k * 32)) y := by rintro W ⟨_, rfl⟩; exact (hB.drewN _).drewN _
      repeat (first | ((first | refine wpQuiet_load_id rfl _ _ rfl _ rfl _ (by kernel_rfl) hC ?_ | refine wpQuiet_load_id rfl _ _ rfl _ rfl _ (by kernel_rfl) hD ?_); simp only [Act.put, List.setIfInBounds_toArray, List.set_cons_succ, List.set_cons_zero]) | go_big_quiet_step (fail))
      refine wpQuiet_nil ?_
      intro _ hw'
      obtain ⟨nq, hw''⟩ := hw'
      subst hw''
      go_wp2
      · go_ret
        have hne : (!decide (x = y)) = true := by assumption
        have hne : ¬ x = y := by simpa using hne
        refine ⟨ret_bool ?_, q + nq, World.drewN_drewN ..⟩
        rw [decide_eq_false (fun e : l = m => hne (Option.some.inj (Hx.out.symm.trans ((congrArg (·[k]?) e).trans Hy.out))))]
      · have he : (!decide (x = y)) = false := by assumption
        have he : x = y := by simpa using he
        go_roundw
        case rel => exact ⟨k + 1, by omega, by go_num, by rw [take_succ_at Hx.out, take_succ_at Hy.out, Ht.out, he], q + nq, rfl⟩
        case measure => simp [intOf]; omega
    · have e : k = n := by omega
      subst e
      go_wp2
      go_ret
      have : l = m := by rwa [List.take_of_length_le (by rw [Hl.out]; omega), List.take_of_length_le (by rw [Hm.out]; omega)] at ht
      exact ⟨by simp [this], q, rfl⟩
theorem equal_ne (A B : Option Addr) (n m c d : Nat) (h : ((n : Int) != (m : Int)) = true) (w : World) :
    Calls Try.prog 34 #[.slice A n c, .slice B m d] w fun e w' => e = .returned (.bool false) ∧ w' = w := by
  go_enter Try.func34, Try.ntmps34
  go_wp2
  go_ret
  exact ⟨rfl, rfl⟩
theorem equal_calls (A B : Option Addr) (l m : List (List UInt8)) (c d : Nat) (n k : Nat) (hln : l.length = n) (hmn : m.length = k) (hn : n ≤ 65536) (w : World) (hl : Ids w A l) (hm : Ids w B m) :
    Calls Try.prog 34 #[.slice A n c, .slice B k d] w fun e w' => e = .returned (.bool (decide (l = m))) ∧ ∃ k, w' = w.drewN k := by
  by_cases e : n = k
  · subst e
    exact equal_eq A B l m c d n hln hmn hn w hl hm
  · refine (equal_ne A B n k c d (by rw [bne_iff_ne]; omega) w).mono fun e' w' ⟨h1, h2⟩ => ⟨?_, 0, h2⟩
    rw [h1, decide_eq_false (by rintro rfl; omega)]
theorem same_calls (A B : Option Addr) (l m : List (List UInt8)) (c d : Nat) (n k : Nat) (hln : l.length = n) (hmn : m.length = k) (hn : n ≤ 65536) (w : World) (hl : Ids w A l) (hm : Ids w B m) :
    Calls Try.prog 15 #[.slice A n c, .slice B k d] w fun e w' => e = .returned (.bool (decide (l = m))) ∧ ∃ k, w' = w.drewN k := by
  by_cases e : n = k
  · subst e
    exact same_eq A B l m c d n hln hmn hn w hl hm
  · refine (same_ne A B n k c d (by rw [bne_iff_ne]; omega) w).mono fun e' w' ⟨h1, h2⟩ => ⟨?_, 0, h2⟩
    rw [h1, decide_eq_false (by rintro rfl; omega)]

/-- the plain law of trim -/
def cut (l : List (List UInt8)) (m : Nat) : List (List UInt8) := if l.length ≤ m then l else if m = 1 then l.drop (l.length - 1) else l.take 1 ++ l.drop (l.length - m + 1)

set_option maxRecDepth 100000 in
set_option maxHeartbeats 400000 in
theorem trim_calls (A : Option Addr) (ls : List (List UInt8)) (c n m : Nat) (hln : ls.length = n) (hn : n ≤ 65536) (hnc : n ≤ c) (hc : c ≤ maxLen) (h1m : 1 ≤ m) (hm : m ≤ 20) (w : World) (hl : Ids w A ls) :
    Calls Try.prog 29 #[.slice A n c, .int .i64 m] w fun e w' => ∃ v, e = .returned v ∧ w'.ownsRow w.heap.size 33 32 v (cut ls m).length ((cut ls m).flatMap idc) ∧ Below w.heap.size w w' := by
  have Hl := Lib.hid hln
  by_cases h1 : n ≤ m
  · have e : cut ls m = ls := by unfold cut; rw [if_pos (by omega)]
    rw [e, hln]; clear e hln
    go_enter Try.func29, Try.ntmps29
    go_wp2_with (go_at_call 33; refine (clone_calls A ls c n Hl.out hn _ hl).mono ?_; rintro e w' ⟨v, rfl, hown, hb⟩)
    go_ret
    exact ⟨_, rfl, hown, hb⟩
  · by_cases h2 : m = 1
    · subst h2
      have e : cut ls 1 = ls.drop (n - 1) := by unfold cut; rw [if_neg (by omega), if_pos rfl, hln]
      have e2 : (ls.drop (n - 1)).length = 1 := by rw [List.length_drop]; omega
      rw [e, e2]; clear e hln
      have hcut := hl.drop_ (n - 1)
      go_enter Try.func29, Try.ntmps29
      go_wp2_with (go_at_call 33; refine (clone_calls _ (ls.drop (n - 1)) _ _ (by rw [List.length_drop, Hl.out]) (by omega) _ hcut).mono ?_; rintro e w' ⟨v, rfl, hown, hb⟩)
      go_ret
      have h1n : n - (n - 1) = 1 := by omega
      rw [h1n] at hown
      exact ⟨_, rfl, hown, hb⟩
    · have e : cut ls m = ls.take 1 ++ ls.drop (n - m + 1) := by unfold cut; rw [if_neg (by omega), if_neg h2, hln]
      have e2 : (cut ls m).length = m := by rw [e, List.length_append, List.length_take, List.length_drop]; omega
      rw [e2, e]; clear e e2
      obtain ⟨ad, x, rfl, hx, hx32, hA⟩ := hl.at_ (k := 0) (by omega)
      have Hx := Lib.hid hx; clear hx hln
      have h2' : ((m : Int) == 1) = false := by rw [beq_eq_false_iff_ne]; omega
      clear h2
      have hn1 : 0 < n := by omega
      have hm2 : 2 ≤ m := by have := h1m; rw [beq_eq_false_iff_ne] at h2'; omega
      have hown0 := fun (W : World) (hW : w.heap.size ≤ W.heap.size) => own_new W w.heap.size hW ([x].flatMap idc) 33 1 32 (flat_length [x] (by simpa using hx32)) (by unfold maxLen; omega)
      rw [show ad.add (0 * 32) = ad from rfl] at hA
      obtain ⟨i0, hi0, hz0, hz1, hz2⟩ := info_parts info33
      go_enter Try.func29, Try.ntmps29
      go_wp2_with fail
      have f1 : (0 : Int) ≤ (n : Int) - m + 1 := by omega
      have f2 : (n : Int) - m + 1 ≤ n := by omega
      have f3 : ¬ c = n - m + 1 := by omega
      refine wp_region_held_drew (S := fun W => Below w.heap.size w W) (by kernel_rfl) (Below.refl _ _).drew (fun hS => ?_)
      refine wpAnyH_take (i := 0) (v := ?v1) rfl (by kernel_rfl) (by kernel_rfl) (by kernel_rfl) (fun _ _ _ h => h) (Or.inl ⟨by rfl, ?hy1⟩) hS ?rest1
      case hy1 => (intro W hW; go_simp; first | with_reducible rfl | (go_bits; first | with_reducible rfl | (go_simp; with_reducible rfl)))
      simp only [List.getElem_toArray, List.getElem_cons_succ, List.getElem_cons_zero, Act.put, List.setIfInBounds_toArray, List.set_cons_succ, List.set_cons_zero]
      refine wpAnyH_take (i := 1) (v := ?v2) rfl (by kernel_rfl) (by kernel_rfl) (by kernel_rfl) (fun _ _ _ h => h) (Or.inl ⟨by rfl, ?hy2⟩) hS ?rest2
      case hy2 => (intro W hW; go_simp; first | with_reducible rfl | (go_bits; first | with_reducible rfl | (go_simp; with_reducible rfl)))
      simp only [List.getElem_toArray, List.getElem_cons_succ, List.getElem_cons_zero, Act.put, List.setIfInBounds_toArray, List.set_cons_succ, List.set_cons_zero]
      refine wpAnyH_take (i := 2) rfl (by kernel_rfl) (by kernel_rfl) (by kernel_rfl) (fun _ _ _ h => h) (yieldsIf_load_id (by rfl) _ _ rfl _ rfl _ (by kernel_rfl) (fun W h => hA.below h)) hS ?rest3
      simp only [List.getElem_toArray, List.getElem_cons_succ, List.getElem_cons_zero, Act.put, List.setIfInBounds_toArray, List.set_cons_succ, List.set_cons_zero]
      refine wpAnyH_take (i := 4) (v := ?v4) rfl (by kernel_rfl) (by kernel_rfl) (by kernel_rfl) (fun _ _ _ h => h) (Or.inl ⟨by rfl, ?hy4⟩) hS ?rest4
      case hy4 => (intro W hW; go_simp; first | with_reducible rfl | (go_bits; first | with_reducible rfl | (go_simp; with_reducible rfl)))
      simp only [List.getElem_toArray, List.getElem_cons_succ, List.getElem_cons_zero, Act.put, List.setIfInBounds_toArray, List.set_cons_succ, List.set_cons_zero]
      refine wpAnyH_take (i := 5) (v := ?v5) rfl (by kernel_rfl) (by kernel_rfl) (by kernel_rfl) (fun _ _ _ h => h) (Or.inl ⟨by rfl, ?hy5⟩) hS ?rest5
      case hy5 => (intro W hW; go_simp; first | with_reducible rfl | (go_bits; first | with_reducible rfl | (go_simp; with_reducible rfl)))
      simp only [List.getElem_toArray, List.getElem_cons_succ, List.getElem_cons_zero, Act.put, List.setIfInBounds_toArray, List.set_cons_succ, List.set_cons_zero]
      refine wpAnyH_take (i := 6) (v := ?v6) rfl (by kernel_rfl) (by kernel_rfl) (by kernel_rfl) (fun _ _ _ h => h) (Or.inl ⟨by rfl, ?hy6⟩) hS ?rest6
      case hy6 => (intro W hW; go_simp; first | with_reducible rfl | (go_bits; first | with_reducible rfl | (go_simp; with_reducible rfl)))
      simp only [List.getElem_toArray, List.getElem_cons_succ, List.getElem_cons_zero, Act.put, List.setIfInBounds_toArray, List.set_cons_succ, List.set_cons_zero]
      refine wpAnyH_take (i := 7) (v := ?v7) rfl (by kernel_rfl) (by kernel_rfl) (by kernel_rfl) (fun _ _ _ h => h) (Or.inl ⟨by rfl, ?hy7⟩) hS ?rest7
      case hy7 => (intro W hW; go_simp; first | with_reducible rfl | (go_bits; first | with_reducible rfl | (go_simp; with_reducible rfl)))
      simp only [List.getElem_toArray, List.getElem_cons_succ, List.getElem_cons_zero, Act.put, List.setIfInBounds_toArray, List.set_cons_succ, List.set_cons_zero]
      refine wpAnyH_take (i := 8) (v := ?v8) rfl (by kernel_rfl) (by kernel_rfl) (by kernel_rfl) (fun _ _ _ h => h) (Or.inl ⟨by rfl, ?hy8⟩) hS ?rest8
      case hy8 => (intro W hW; go_simp; first | with_reducible rfl | (go_bits; first | with_reducible rfl | (go_simp; with_reducible rfl)))
      simp only [List.getElem_toArray, List.getElem_cons_succ, List.getElem_cons_zero, Act.put, List.setIfInBounds_toArray, List.set_cons_succ, List.set_cons_zero]
      refine wpAnyH_take (i := 9) (v := ?v9) rfl (by kernel_rfl) (by kernel_rfl) (by kernel_rfl) (fun _ _ _ h => h) (Or.inl ⟨by rfl, ?hy9⟩) hS ?rest9
      case hy9 => (intro W hW; go_simp; first | with_reducible rfl | (go_bits; first | with_reducible rfl | (go_simp; with_reducible rfl)))
      simp only [List.getElem_toArray, List.getElem_cons_succ, List.getElem_cons_zero, Act.put, List.setIfInBounds_toArray, List.set_cons_succ, List.set_cons_zero]
      refine wpAnyH_take (i := 10) (v := ?v10) rfl (by kernel_rfl) (by kernel_rfl) (by kernel_rfl) (fun _ _ _ h => h) (Or.inl ⟨by rfl, ?hy10⟩) hS ?rest10
      case hy10 => (intro W hW; go_simp; first | with_reducible rfl | (go_bits; first | with_reducible rfl | (go_simp; with_reducible rfl)))
      simp only [List.getElem_toArray, List.getElem_cons_succ, List.getElem_cons_zero, Act.put, List.setIfInBounds_toArray, List.set_cons_succ, List.set_cons_zero]
      refine wpAnyH_ready (rs := [3]) (by kernel_rfl) (by simp) ?_
      refine AllReadyH.cons rfl (fun K hK => ?_) ?_
      · rw [if_pos (by rfl)]
        simp only [List.getElem_toArray, List.getElem_cons_succ, List.getElem_cons_zero]
        refine wp_build_ids 24 1 _ rfl Try.underlying24 hi0 hz0 hz1 [x] rfl (by simpa using hx32) (by simp) (by simp) rfl ?_
        refine hK.out _ _ ?s11 (fun hS => ?_)
        case s11 => exact (hS.alloc hS.size _)
        clear hK K
        simp only [List.getElem_toArray, List.getElem_cons_succ, List.getElem_cons_zero, Act.put, List.setIfInBounds_toArray, List.set_cons_succ, List.set_cons_zero]
        refine wpAnyH_ready (rs := [11]) (by kernel_rfl) (by simp) ?_
        refine AllReadyH.cons rfl (fun K hK => ?_) ?_
        · rw [if_pos (by rfl)]
          simp only [List.getElem_toArray, List.getElem_cons_succ, List.getElem_cons_zero]
          refine wp_append_row _ _ _ 24 rfl w.heap.size 33 i0 _ 32 32 Try.underlying24 hi0 hz0 hz1 hz2 rfl (by decide) _ _ _ rfl (hown0 _ (Nat.le_refl _)) _ _ _ ((ls.drop (n - m + 1)).flatMap idc) rfl (by rw [flat_length _ (fun l h => hl.len l (List.mem_of_mem_drop h)), List.length_drop, Hl.out]) ((hl.below hS).drop_ (n - m + 1)).row (flat_one _) (by unfold maxLen; omega) (by omega) (by simp) ?_
          intro v' w1 hown1 hgrow _
          have hb1 : Below w.heap.size w w1 := hS.grown hgrow hS.size (fun k hk => by injection hk with hk; subst hk; exact Nat.le_refl _)
          refine hK.out _ _ ?s12 (fun hS => ?_)
          case s12 => exact (hb1)
          clear hK K
          simp only [List.getElem_toArray, List.getElem_cons_succ, List.getElem_cons_zero, Act.put, List.setIfInBounds_toArray, List.set_cons_succ, List.set_cons_zero]
          refine wpAnyH_take (i := 12) (v := ?v13) rfl (by kernel_rfl) (by kernel_rfl) (by kernel_rfl) (fun _ _ _ h => h) (Or.inl ⟨by rfl, ?hy13⟩) hS ?rest13
          case hy13 => (intro W hW; go_simp; first | with_reducible rfl | (go_bits; first | with_reducible rfl | (go_simp; with_reducible rfl)))
          simp only [List.getElem_toArray, List.getElem_cons_succ, List.getElem_cons_zero, Act.put, List.setIfInBounds_toArray, List.set_cons_succ, List.set_cons_zero]
          refine wpAnyH_done (by kernel_rfl) ?_ _
          have hown2 : w1.ownsRow w.heap.size 33 32 v' m ((ls.take 1 ++ ls.drop (n - m + 1)).flatMap idc) := by
            have e1 : ls.take 1 = [x] := by rw [show 1 = 0 + 1 from rfl, take_succ_at Hx.out]; rfl
            rw [e1, List.flatMap_append]
            rw [show 1 + (n - (n - m + 1)) = m from by omega] at hown1
            exact hown1
          clear hown1
          go_wp2
          go_ret
          exact ⟨_, rfl, hown2, hb1⟩
        · exact AllReadyH.nil
      · exact AllReadyH.nil
end Go.Proofs.Ytafpndmoognjlaa
