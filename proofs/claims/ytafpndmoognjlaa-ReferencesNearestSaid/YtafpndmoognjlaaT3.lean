/- Cut and Trim of the reference, Trim and IsTrimmed of chapter 14 are walked, for slices of at most 65536 identities. -/
import Derived.Test.YtafpndmoognjlaaT2
namespace Go.Proofs.Ytafpndmoognjlaa
open Go.ChangeShapes Go.WideShapes Go.ChangeAt Go.RowKit

set_option maxRecDepth 100000 in
set_option maxHeartbeats 400000 in
theorem rcut_calls (A : Option Addr) (ls : List (List UInt8)) (c n m : Nat) (hln : ls.length = n) (hn : n ≤ 65536) (hnc : n ≤ c) (h1m : 1 ≤ m) (hm : m ≤ 20) (w : World) (hl : Ids w A ls) :
    Calls Try.prog 30 #[.slice A n c, .int .i64 m] w fun e w' => ∃ v, e = .returned v ∧ w'.ownsRow w.heap.size 38 32 v (cut ls m).length ((cut ls m).flatMap idc) ∧ Below w.heap.size w w' := by
  have Hl := Lib.hid hln
  obtain ⟨i0, hi0, hz0, hz1, hz2⟩ := info_parts info38
  by_cases h1 : n ≤ m
  · have e : cut ls m = ls := by unfold cut; rw [if_pos (by omega)]
    rw [e, hln]; clear e hln
    have hlen := flat_length ls hl.len
    rw [Hl.out] at hlen
    have Hlen := Lib.hid hlen; clear hlen
    have hown0 := own_new w w.heap.size (Nat.le_refl _) [] 38 0 32 rfl (by unfold maxLen; omega)
    go_enter Try.func30, Try.ntmps30
    go_wp2_with (at_builtin; go_must (refine wpList_append_row _ rfl _ _ 22 rfl w.heap.size 38 i0 _ 32 32 Try.underlying22 hi0 hz0 hz1 hz2 rfl (by decide) _ _ _ rfl hown0 A n c (ls.flatMap idc) rfl Hlen.out (hl.row.alloc _) (flat_one _) (by unfold maxLen; omega) (by omega) (by simp) ?_; intro v' w1 hown1 hgrow _))
    go_ret
    rw [Nat.zero_add] at hown1
    exact ⟨_, rfl, hown1, ((Below.refl _ _).alloc (Nat.le_refl _) _).grown hgrow (by simp) (fun k hk => (hown0.lt k hk).1)⟩
  · by_cases h2 : m = 1
    · subst h2
      have e : cut ls 1 = ls.drop (n - 1) := by unfold cut; rw [if_neg (by omega), if_pos rfl, hln]
      obtain ⟨ad, x, rfl, hx, hx32, hA⟩ := hl.at_ (k := n - 1) (by omega)
      have e2 : ls.drop (n - 1) = [x] := by
        rw [List.drop_eq_getElem_cons (by omega), show n - 1 + 1 = n from by omega, List.drop_eq_nil_of_le (by omega)]
        rw [List.getElem?_eq_getElem (by omega)] at hx
        injection hx with hx
        rw [hx]
      rw [e, e2]; clear e e2 hln hx
      go_enter Try.func30, Try.ntmps30
      go_wp2_with (first
        | (refine wpList_load_id rfl _ _ rfl _ rfl _ (by kernel_rfl) hA ?_; simp only [Act.put, List.setIfInBounds_toArray, List.set_cons_succ, List.set_cons_zero])
        | (refine wpList_build_ids rfl 22 1 _ rfl Try.underlying22 hi0 hz0 hz1 [x] rfl (by simpa using hx32) (by simp) (by simp) rfl ?_; simp only [Act.put, List.setIfInBounds_toArray, List.set_cons_succ, List.set_cons_zero]))
      go_ret
      exact ⟨_, rfl, own_new w w.heap.size (Nat.le_refl _) ([x].flatMap idc) 38 1 32 (flat_length [x] (by simpa using hx32)) (by unfold maxLen; omega), (Below.refl _ _).alloc (Nat.le_refl _) _⟩
    · have e : cut ls m = ls.take 1 ++ ls.drop (n - m + 1) := by unfold cut; rw [if_neg (by omega), if_neg h2, hln]
      have e2 : (cut ls m).length = m := by rw [e, List.length_append, List.length_take, List.length_drop]; omega
      rw [e2, e]; clear e e2
      obtain ⟨ad, x, rfl, hx, hx32, hA⟩ := hl.at_ (k := 0) (by omega)
      have Hx := Lib.hid hx; clear hx hln
      have h2' : ((m : Int) == 1) = false := by rw [beq_eq_false_iff_ne]; omega
      clear h2
      have hn1 : 0 < n := by omega
      have hm2 : 2 ≤ m := by have := h1m; rw [beq_eq_false_iff_ne] at h2'; omega
      have hown0 := fun (W : World) (hW : w.heap.size ≤ W.heap.size) => own_new W w.heap.size hW ([x].flatMap idc) 38 1 32 (flat_length [x] (by simpa using hx32)) (by unfold maxLen; omega)
      rw [show ad.add (0 * 32) = ad from rfl] at hA
      go_enter Try.func30, Try.ntmps30
      go_wp2_with fail
      have f1 : (0 : Int) ≤ (n : Int) - m + 1 := by omega
      have f2 : (n : Int) - m + 1 ≤ n := by omega
      have f3 : ¬ c = n - m + 1 := by omega
      refine wp_region_held_drew (S := fun W => Below w.heap.size w W) (by kernel_rfl) (Below.refl _ _).drew (fun hS => ?_)
      refine wpAnyH_take (i := 0) (v := ?v1) rfl (by kernel_rfl) (by kernel_rfl) (by kernel_rfl) (fun _ _ _ h => h) (Or.inl ⟨by rfl, ?hy1⟩) hS ?rest1
      case hy1 => (intro W hW; go_simp; first | with_reducible rfl | (go_bits; first | with_reducible rfl | (go_simp; with_reducible rfl)))
      simp only [List.getElem_toArray, List.getElem_cons_succ, List.getElem_cons_zero, Act.put, List.setIfInBounds_toArray, List.set_cons_succ, List.set_cons_zero]
      refine wpAnyH_take (i := 1) (v := ?v2) rfl (by kernel_rfl) (by kernel_rfl) (by kernel_rfl) (fun _ _ _ h => h) (Or.inl ⟨by rfl, ?hy2⟩) hS ?rest2
      case hy2 => (intro W hW; go_simp; first | with_reducible rfl | (go_bits; first | with_reducible rfl | (go_simp; with_reducible rfl)))
      simp only [List.getElem_toArray, List.getElem_cons_succ, List.getElem_cons_zero, Act.put, List.setIfInBounds_toArray, List.set_cons_succ, List.set_cons_zero]
      refine wpAnyH_take (i := 2) rfl (by kernel_rfl) (by kernel_rfl) (by kernel_rfl) (fun _ _ _ h => h) (yieldsIf_load_id (by rfl) _ _ rfl _ rfl _ (by kernel_rfl) (fun W h => hA.below h)) hS ?rest3
      simp only [List.getElem_toArray, List.getElem_cons_succ, List.getElem_cons_zero, Act.put, List.setIfInBounds_toArray, List.set_cons_succ, List.set_cons_zero]
      refine wpAnyH_take (i := 4) (v := ?v4) rfl (by kernel_rfl) (by kernel_rfl) (by kernel_rfl) (fun _ _ _ h => h) (Or.inl ⟨by rfl, ?hy4⟩) hS ?rest4
      case hy4 => (intro W hW; go_simp; first | with_reducible rfl | (go_bits; first | with_reducible rfl | (go_simp; with_reducible rfl)))
      simp only [List.getElem_toArray, List.getElem_cons_succ, List.getElem_cons_zero, Act.put, List.setIfInBounds_toArray, List.set_cons_succ, List.set_cons_zero]
      refine wpAnyH_take (i := 5) (v := ?v5) rfl (by kernel_rfl) (by kernel_rfl) (by kernel_rfl) (fun _ _ _ h => h) (Or.inl ⟨by rfl, ?hy5⟩) hS ?rest5
      case hy5 => (intro W hW; go_simp; first | with_reducible rfl | (go_bits; first | with_reducible rfl | (go_simp; with_reducible rfl)))
      simp only [List.getElem_toArray, List.getElem_cons_succ, List.getElem_cons_zero, Act.put, List.setIfInBounds_toArray, List.set_cons_succ, List.set_cons_zero]
      refine wpAnyH_take (i := 6) (v := ?v6) rfl (by kernel_rfl) (by kernel_rfl) (by kernel_rfl) (fun _ _ _ h => h) (Or.inl ⟨by rfl, ?hy6⟩) hS ?rest6
      case hy6 => (intro W hW; go_simp; first | with_reducible rfl | (go_bits; first | with_reducible rfl | (go_simp; with_reducible rfl)))
      simp only [List.getElem_toArray, List.getElem_cons_succ, List.getElem_cons_zero, Act.put, List.setIfInBounds_toArray, List.set_cons_succ, List.set_cons_zero]
      refine wpAnyH_take (i := 7) (v := ?v7) rfl (by kernel_rfl) (by kernel_rfl) (by kernel_rfl) (fun _ _ _ h => h) (Or.inl ⟨by rfl, ?hy7⟩) hS ?rest7
      case hy7 => (intro W hW; go_simp; first | with_reducible rfl | (go_bits; first | with_reducible rfl | (go_simp; with_reducible rfl)))
      simp only [List.getElem_toArray, List.getElem_cons_succ, List.getElem_cons_zero, Act.put, List.setIfInBounds_toArray, List.set_cons_succ, List.set_cons_zero]
      refine wpAnyH_take (i := 8) (v := ?v8) rfl (by kernel_rfl) (by kernel_rfl) (by kernel_rfl) (fun _ _ _ h => h) (Or.inl ⟨by rfl, ?hy8⟩) hS ?rest8
      case hy8 => (intro W hW; go_simp; first | with_reducible rfl | (go_bits; first | with_reducible rfl | (go_simp; with_reducible rfl)))
      simp only [List.getElem_toArray, List.getElem_cons_succ, List.getElem_cons_zero, Act.put, List.setIfInBounds_toArray, List.set_cons_succ, List.set_cons_zero]
      refine wpAnyH_take (i := 9) (v := ?v9) rfl (by kernel_rfl) (by kernel_rfl) (by kernel_rfl) (fun _ _ _ h => h) (Or.inl ⟨by rfl, ?hy9⟩) hS ?rest9
      case hy9 => (intro W hW; go_simp; first | with_reducible rfl | (go_bits; first | with_reducible rfl | (go_simp; with_reducible rfl)))
      simp only [List.getElem_toArray, List.getElem_cons_succ, List.getElem_cons_zero, Act.put, List.setIfInBounds_toArray, List.set_cons_succ, List.set_cons_zero]
      refine wpAnyH_take (i := 10) (v := ?v10) rfl (by kernel_rfl) (by kernel_rfl) (by kernel_rfl) (fun _ _ _ h => h) (Or.inl ⟨by rfl, ?hy10⟩) hS ?rest10
      case hy10 => (intro W hW; go_simp; first | with_reducible rfl | (go_bits; first | with_reducible rfl | (go_simp; with_reducible rfl)))
      simp only [List.getElem_toArray, List.getElem_cons_succ, List.getElem_cons_zero, Act.put, List.setIfInBounds_toArray, List.set_cons_succ, List.set_cons_zero]
      refine wpAnyH_ready (rs := [3]) (by kernel_rfl) (by simp) ?_
      refine AllReadyH.cons rfl (fun K hK => ?_) ?_
      · rw [if_pos (by rfl)]
        simp only [List.getElem_toArray, List.getElem_cons_succ, List.getElem_cons_zero]
        refine wp_build_ids 22 1 _ rfl Try.underlying22 hi0 hz0 hz1 [x] rfl (by simpa using hx32) (by simp) (by simp) rfl ?_
        refine hK.out _ _ ?s11 (fun hS => ?_)
        case s11 => exact (hS.alloc hS.size _)
        clear hK K
        simp only [List.getElem_toArray, List.getElem_cons_succ, List.getElem_cons_zero, Act.put, List.setIfInBounds_toArray, List.set_cons_succ, List.set_cons_zero]
        refine wpAnyH_ready (rs := [11]) (by kernel_rfl) (by simp) ?_
        refine AllReadyH.cons rfl (fun K hK => ?_) ?_
        · rw [if_pos (by rfl)]
          simp only [List.getElem_toArray, List.getElem_cons_succ, List.getElem_cons_zero]
          refine wp_append_row _ _ _ 22 rfl w.heap.size 38 i0 _ 32 32 Try.underlying22 hi0 hz0 hz1 hz2 rfl (by decide) _ _ _ rfl (hown0 _ (Nat.le_refl _)) _ _ _ ((ls.drop (n - m + 1)).flatMap idc) rfl (by rw [flat_length _ (fun l h => hl.len l (List.mem_of_mem_drop h)), List.length_drop, Hl.out]) ((hl.below hS).drop_ (n - m + 1)).row (flat_one _) (by unfold maxLen; omega) (by omega) (by simp) ?_
          intro v' w1 hown1 hgrow _
          have hb1 : Below w.heap.size w w1 := hS.grown hgrow hS.size (fun k hk => by injection hk with hk; subst hk; exact Nat.le_refl _)
          refine hK.out _ _ ?s12 (fun hS => ?_)
          case s12 => exact (hb1)
          clear hK K
          simp only [List.getElem_toArray, List.getElem_cons_succ, List.getElem_cons_zero, Act.put, List.setIfInBounds_toArray, List.set_cons_succ, List.set_cons_zero]
          refine wpAnyH_take (i := 12) (v := ?v13) rfl (by kernel_rfl) (by kernel_rfl) (by kernel_rfl) (fun _ _ _ h => h) (Or.inl ⟨by rfl, ?hy13⟩) hS ?rest13
          case hy13 => (intro W hW; go_simp; first | with_reducible rfl | (go_bits; first | with_reducible rfl | (go_simp; with_reducible rfl)))
          simp only [List.getElem_toArray, List.getElem_cons_succ, List.getElem_cons_zero, Act.put, List.setIfInBounds_toArray, List.set_cons_succ, List.set_cons_zero]
          refine wpAnyH_done (by kernel_rfl) ?_ _
          have hown2 : w1.ownsRow w.heap.size 38 32 v' m ((ls.take 1 ++ ls.drop (n - m + 1)).flatMap idc) := by
            have e1 : ls.take 1 = [x] := by rw [show 1 = 0 + 1 from rfl, take_succ_at Hx.out]; rfl
            rw [e1, List.flatMap_append]
            rw [show 1 + (n - (n - m + 1)) = m from by omega] at hown1
            exact hown1
          clear hown1
          go_wp2
          go_ret
          exact ⟨_, rfl, hown2, hb1⟩
        · exact AllReadyH.nil
      · exact AllReadyH.nil

/-- what Trim answers -/
def trimE (n : Nat) (m : Int) : Nat := if m < 1 ∨ 20 < m then 2 else if 1000 < n then 9 else 0
theorem cut_len32 {ls : List (List UInt8)} (h : ∀ l ∈ ls, l.length = 32) (m : Nat) : ∀ l ∈ cut ls m, l.length = 32 := by
  intro l hl
  unfold cut at hl
  split at hl
  · exact h l hl
  · split at hl
    · exact h l (List.mem_of_mem_drop hl)
    · rcases List.mem_append.1 hl with h1 | h1
      · exact h l (List.mem_of_mem_take h1)
      · exact h l (List.mem_of_mem_drop h1)

/-- the result of a function that returns a list and an error -/
def TrimPost (e0 : Ending) (w w' : World) (ls : List (List UInt8)) (m : Int) : Prop :=
  ∃ A c n, e0 = .returned (.tuple #[.slice A n c, .int .i64 (trimE ls.length m)]) ∧ n = (if trimE ls.length m = 0 then cut ls m.toNat else []).length ∧ n ≤ c ∧ c ≤ maxLen ∧
    Ids w' A (if trimE ls.length m = 0 then cut ls m.toNat else []) ∧ Below w.heap.size w w'

set_option maxHeartbeats 400000 in
theorem rtrim_calls (A : Option Addr) (ls : List (List UInt8)) (c n : Nat) (m : Int) (hln : ls.length = n) (hn : n ≤ 65536) (hnc : n ≤ c) (w : World) (hl : Ids w A ls) :
    Calls Try.prog 14 #[.slice A n c, .int .i64 m] w fun e w' => TrimPost e w w' ls m := by
  have Hl := Lib.hid hln; clear hln
  by_cases h1 : m < 1 ∨ 20 < m
  · have e : trimE n m = 2 := by unfold trimE; rw [if_pos h1]
    have hE := Lib.hid e; clear e
    by_cases h2 : m < 1
    all_goals
      go_enter Try.func14, Try.ntmps14
      go_wp2
      go_ret2
      refine ⟨none, 0, 0, ?_, ?_, Nat.le_refl _, Nat.zero_le _, ?_, Below.refl _ _⟩
      · rw [Hl.out, hE.out]; rfl
      · rw [Hl.out, hE.out]; rfl
      · rw [Hl.out, hE.out]; exact Ids.nil _ _
  · have e1 : 1 ≤ m := by omega
    have e2 : m ≤ 20 := by omega
    obtain ⟨k, rfl⟩ := Int.eq_ofNat_of_zero_le (show 0 ≤ m by omega)
    by_cases h3 : 1000 < n
    · have hE : Hid (trimE n k = 9) := by unfold trimE; rw [if_neg h1, if_pos h3]; rfl
      clear h1
      go_enter Try.func14, Try.ntmps14
      go_wp2
      go_ret2
      refine ⟨none, 0, 0, ?_, ?_, Nat.le_refl _, Nat.zero_le _, ?_, Below.refl _ _⟩
      · rw [Hl.out, hE.out]; rfl
      · rw [Hl.out, hE.out]; rfl
      · rw [Hl.out, hE.out]; exact Ids.nil _ _
    · have hE : Hid (trimE n k = 0) := by unfold trimE; rw [if_neg h1, if_neg h3]; rfl
      clear h1
      go_enter Try.func14, Try.ntmps14
      go_wp2_with (go_at_call 30; refine (rcut_calls A ls c n k Hl.out hn hnc (by omega) (by omega) _ hl).mono ?_; rintro e w' ⟨v, rfl, hown, hb⟩)
      go_ret2
      obtain ⟨A', c', hv, _, h5, h6, h7, _⟩ := Ids.of_own hown (cut_len32 hl.len k)
      refine ⟨A', c', _, ?_, ?_, h5, h6, ?_, hb⟩
      · rw [Hl.out, hE.out, ← hv]; rfl
      · rw [Hl.out, hE.out]; rfl
      · rw [Hl.out, hE.out]; exact h7

set_option maxHeartbeats 400000 in
theorem trimX_calls (A : Option Addr) (ls : List (List UInt8)) (c n : Nat) (m : Int) (hln : ls.length = n) (hn : n ≤ 65536) (hnc : n ≤ c) (hc : c ≤ maxLen) (w : World) (hl : Ids w A ls) :
    Calls Try.prog 12 #[.slice A n c, .int .i64 m] w fun e w' => TrimPost e w w' ls m := by
  have Hl := Lib.hid hln; clear hln
  by_cases h1 : m < 1 ∨ 20 < m
  · have e : trimE n m = 2 := by unfold trimE; rw [if_pos h1]
    have hE := Lib.hid e; clear e
    by_cases h2 : m < 1
    all_goals
      go_enter Try.func12, Try.ntmps12
      go_wp2
      go_ret2
      refine ⟨none, 0, 0, ?_, ?_, Nat.le_refl _, Nat.zero_le _, ?_, Below.refl _ _⟩
      · rw [Hl.out, hE.out]; rfl
      · rw [Hl.out, hE.out]; rfl
      · rw [Hl.out, hE.out]; exact Ids.nil _ _
  · have e1 : 1 ≤ m := by omega
    have e2 : m ≤ 20 := by omega
    obtain ⟨k, rfl⟩ := Int.eq_ofNat_of_zero_le (show 0 ≤ m by omega)
    by_cases h3 : 1000 < n
    · have hE : Hid (trimE n k = 9) := by unfold trimE; rw [if_neg h1, if_pos h3]; rfl
      clear h1
      go_enter Try.func12, Try.ntmps12
      go_wp2
      go_ret2
      refine ⟨none, 0, 0, ?_, ?_, Nat.le_refl _, Nat.zero_le _, ?_, Below.refl _ _⟩
      · rw [Hl.out, hE.out]; rfl
      · rw [Hl.out, hE.out]; rfl
      · rw [Hl.out, hE.out]; exact Ids.nil _ _
    · have hE : Hid (trimE n k = 0) := by unfold trimE; rw [if_neg h1, if_neg h3]; rfl
      clear h1
      go_enter Try.func12, Try.ntmps12
      go_wp2_with (go_at_call 29; refine (trim_calls A ls c n k Hl.out hn hnc hc (by omega) (by omega) _ hl).mono ?_; rintro e w' ⟨v, rfl, hown, hb⟩)
      go_ret2
      obtain ⟨A', c', hv, _, h5, h6, h7, _⟩ := Ids.of_own hown (cut_len32 hl.len k)
      refine ⟨A', c', _, ?_, ?_, h5, h6, ?_, hb⟩
      · rw [Hl.out, hE.out, ← hv]; rfl
      · rw [Hl.out, hE.out]; rfl
      · rw [Hl.out, hE.out]; exact h7

/-- what IsTrimmed answers -/
def isTr (s l : List (List UInt8)) : Bool := decide (s = l) || (decide (0 < s.length) && decide (s = cut l s.length))
theorem below_drewN (w : World) (k B : Nat) : Below B w (w.drewN k) := ⟨rfl, rfl, rfl, Nat.le_refl _, fun _ _ => rfl⟩
set_option maxHeartbeats 400000 in
theorem istrimmed_calls (A B : Option Addr) (l m : List (List UInt8)) (c d n k : Nat) (hln : l.length = n) (hmn : m.length = k) (hn : n ≤ 20) (hk : k ≤ 65536) (hkd : k ≤ d) (hd : d ≤ maxLen) (w : World) (hl : Ids w A l) (hm : Ids w B m) :
    Calls Try.prog 22 #[.slice A n c, .slice B k d] w fun e w' => e = .returned (.bool (isTr l m)) ∧ Below w.heap.size w w' := by
  have Hl := Lib.hid hln; have Hm := Lib.hid hmn; clear hln hmn
  by_cases h1 : l = m
  · have hE : Hid (isTr l m = true) := Lib.hid (by unfold isTr; simp [h1])
    have hD : Hid (decide (l = m) = true) := Lib.hid (by simp [h1])
    clear h1
    go_enter Try.func22, Try.ntmps22
    go_wp2_with fail
    refine (equal_calls A B l m c d n k Hl.out Hm.out (by omega) _ hl hm).mono ?_
    rw [hD.out]
    rintro e w' ⟨rfl, q, rfl⟩
    go_wp2
    go_ret
    exact ⟨ret_bool hE.out.symm, below_drewN _ _ _⟩
  · have hD : Hid (decide (l = m) = false) := Lib.hid (by simp [h1])
    by_cases h2 : 0 < n
    · have hE : Hid (isTr l m = decide (l = cut m n)) := Lib.hid (by unfold isTr; rw [hD.out, Hl.out]; simp [h2])
      clear h1
      have h2' : (0 : Int) < n := by omega
      go_enter Try.func22, Try.ntmps22
      go_wp2_with fail
      refine (equal_calls A B l m c d n k Hl.out Hm.out (by omega) _ hl hm).mono ?_
      rw [hD.out]
      rintro e w' ⟨rfl, q, rfl⟩
      go_wp2_with fail
      refine (trim_calls B m d k n Hm.out (by omega) hkd hd (by omega) (by omega) _ (hm.drewN q)).mono ?_
      rintro e w1 ⟨v, rfl, hown, hb⟩
      obtain ⟨A', c', rfl, _, h5, h6, h7, _⟩ := Ids.of_own hown (cut_len32 hm.len n)
      have hb' : Below w.heap.size w w1 := (below_drewN w q _).trans (hb.mono (by simp))
      go_wp2_with fail
      refine (equal_calls A A' l (cut m n) c c' n _ Hl.out rfl (by omega) _ (hl.below hb') h7).mono ?_
      rintro e w2 ⟨rfl, q2, rfl⟩
      go_wp2
      go_ret
      exact ⟨ret_bool hE.out.symm, hb'.trans (below_drewN _ _ _)⟩
    · have hE : Hid (isTr l m = false) := Lib.hid (by unfold isTr; rw [hD.out, Hl.out]; simp [h2])
      clear h1
      have h2' : ¬ (0 : Int) < n := by omega
      go_enter Try.func22, Try.ntmps22
      go_wp2_with fail
      refine (equal_calls A B l m c d n k Hl.out Hm.out (by omega) _ hl hm).mono ?_
      rw [hD.out]
      rintro e w' ⟨rfl, q, rfl⟩
      go_wp2
      go_ret
      exact ⟨ret_bool hE.out.symm, below_drewN _ _ _⟩
end Go.Proofs.Ytafpndmoognjlaa
