/- slices.Index, slices.Contains, has and Check of the reference are walked, for slices of identities. -/
import Derived.Test.YtafpndmoognjlaaC2
namespace Go.Proofs.Ytafpndmoognjlaa
open Go.ChangeShapes Go.WideShapes Go.ChangeAt Go.RowKit

theorem take_not {α : Type} {l : List α} {k : Nat} {x y : α} (hk : l[k]? = some y) (h : x ∉ l.take k) (hxy : x ≠ y) : x ∉ l.take (k + 1) := by
  rw [take_succ_at hk]
  intro hm
  rcases List.mem_append.1 hm with hm | hm
  · exact h hm
  · exact hxy (List.mem_singleton.1 hm)

set_option maxRecDepth 100000 in
set_option maxHeartbeats 400000 in
theorem index_calls (A : Option Addr) (ls : List (List UInt8)) (c n : Nat) (x : List UInt8) (hx : x.length = 32) (hln : ls.length = n) (hn : n ≤ 65536) (w : World) (hl : Ids w A ls) :
    Calls Try.prog 45 #[.slice A n c, idv x] w fun e w' => ∃ z : Int, e = .returned (.int .i64 z) ∧ decide (0 ≤ z) = decide (x ∈ ls) ∧ Below w.heap.size w w' := by
  have Hl := Lib.hid hln; clear hln
  have t1 : True := trivial
  go_enter Try.func45, Try.ntmps45
  go_wp2_with (have _t := t1; refine wpList_alloc rfl rfl 33 (idc x).toArray (by kernel_rfl) ?_; intro w1 hb1 hg1 hs1; simp only [Act.put, List.setIfInBounds_toArray, List.set_cons_succ, List.set_cons_zero]; clear t1)
  have hB1 : Below w.heap.size w w1 := grownBy_below hg1
  have hl1 := hl.below hB1
  have hbx := hb1.id_at hx
  clear hg1 hl
  go_loopw [5, 8] (fun _ i wr => ∃ k : Nat, k ≤ n ∧ i = .int .i64 k ∧ x ∉ ls.take k ∧ ∃ q, wr = w1.drewN q) (fun _ i _ => n - (intOf i).toNat)
  case atStart => exact ⟨0, Nat.zero_le _, rfl, by simp, 0, rfl⟩
  case round =>
    obtain ⟨k, hk, rfl, hnot, q, rfl⟩ := hrel
    by_cases hlt : k < n
    · obtain ⟨ad, y, rfl, hy, hy32, hA⟩ := hl1.at_ (k := k) (by rw [Hl.out]; exact hlt)
      have Hy := Lib.hid hy; have Hnot := Lib.hid hnot; clear hy hnot
      go_wp2
      have hC : ∀ W : World, (∃ k, W = (w1.drewN q).drewN k) → IdAt W (ad.add (k * 32)) y := by rintro W ⟨_, rfl⟩; exact (hA.drewN _).drewN _
      have hD : ∀ W : World, (∃ k, W = (w1.drewN q).drewN k) → IdAt W ⟨w.heap.size, 0, none⟩ x := by rintro W ⟨_, rfl⟩; exact (hbx.drewN _).drewN _
      refine wp_region_quiet_lit (by kernel_rfl) (by kernel_rfl) ?_
      repeat (first | ((first | refine wpQuiet_load_id rfl _ _ rfl _ rfl _ (by kernel_rfl) hC ?_ | refine wpQuiet_load_id rfl _ _ rfl _ rfl _ (by kernel_rfl) hD ?_); simp only [Act.put, List.setIfInBounds_toArray, List.set_cons_succ, List.set_cons_zero]) | go_big_quiet_step (fail))
      refine wpQuiet_nil ?_
      intro _ hw'
      obtain ⟨nq, hw''⟩ := hw'
      subst hw''
      go_wp2
      · go_ret
        have he : x = y := by first | assumption | exact of_decide_eq_true (by assumption)
        refine ⟨k, rfl, ?_, (hB1.trans (below_drewN _ _ _)).trans (below_drewN _ _ _)⟩
        have : x ∈ ls := by rw [he]; exact List.mem_of_getElem? Hy.out
        simp [this]
      · have he : ¬ x = y := by assumption
        go_roundw
        case rel => exact ⟨k + 1, by omega, by go_num, take_not Hy.out Hnot.out he, q + nq, rfl⟩
        case measure => simp [intOf]; omega
    · have e : k = n := by omega
      subst e
      rw [List.take_of_length_le (by rw [Hl.out]; omega)] at hnot
      have Hnot := Lib.hid hnot; clear hnot
      go_wp2
      go_ret
      refine ⟨-1, rfl, ?_, hB1.trans (below_drewN _ _ _)⟩
      have := Hnot.out
      simp [this]

set_option maxRecDepth 100000 in
set_option maxHeartbeats 400000 in
theorem contains_calls (A : Option Addr) (ls : List (List UInt8)) (c n : Nat) (x : List UInt8) (hx : x.length = 32) (hln : ls.length = n) (hn : n ≤ 65536) (w : World) (hl : Ids w A ls) :
    Calls Try.prog 35 #[.slice A n c, idv x] w fun e w' => e = .returned (.bool (decide (x ∈ ls))) ∧ Below w.heap.size w w' := by
  have Hl := Lib.hid hln; clear hln
  have t1 : True := trivial
  have t2 : True := trivial
  go_enter Try.func35, Try.ntmps35
  go_wp2_with (first
    | (have _t := t1; refine wpList_alloc rfl rfl 33 (idc x).toArray (by kernel_rfl) ?_; intro w1 hb1 hg1 hs1; simp only [Act.put, List.setIfInBounds_toArray, List.set_cons_succ, List.set_cons_zero]; clear t1)
    | (have _t := t2; refine wpList_load_id rfl 33 _ rfl _ rfl x (by kernel_rfl) (hb1.id_at hx) ?_; simp only [Act.put, List.setIfInBounds_toArray, List.set_cons_succ, List.set_cons_zero]; clear t2)
    | (go_at_call 45; go_must (refine (index_calls A ls c n x hx Hl.out hn _ (hl.below (grownBy_below hg1))).mono ?_; rintro e w2 ⟨z, rfl, hz, hb2⟩; have Hz := Lib.hid hz; clear hz)))
  go_ret
  exact ⟨ret_bool Hz.out, (grownBy_below hg1).trans (hb2.mono hg1.size)⟩

set_option maxRecDepth 100000 in
set_option maxHeartbeats 400000 in
theorem has_calls (A : Option Addr) (ls : List (List UInt8)) (c n : Nat) (x : List UInt8) (hx : x.length = 32) (hln : ls.length = n) (hn : n ≤ 65536) (w : World) (hl : Ids w A ls) :
    Calls Try.prog 37 #[.slice A n c, idv x] w fun e w' => e = .returned (.bool (decide (x ∈ ls))) ∧ Below w.heap.size w w' := by
  have Hl := Lib.hid hln; clear hln
  have t1 : True := trivial
  go_enter Try.func37, Try.ntmps37
  go_wp2_with (have _t := t1; refine wpList_alloc rfl rfl 38 (idc x).toArray (by kernel_rfl) ?_; intro w1 hb1 hg1 hs1; simp only [Act.put, List.setIfInBounds_toArray, List.set_cons_succ, List.set_cons_zero]; clear t1)
  have hB1 : Below w.heap.size w w1 := grownBy_below hg1
  have hl1 := hl.below hB1
  have hbx := hb1.id_at hx
  clear hg1 hl
  go_loopw [5] (fun i wr => ∃ k : Nat, k ≤ n ∧ i = .int .i64 k ∧ x ∉ ls.take k ∧ ∃ q, wr = w1.drewN q) (fun i _ => n - (intOf i).toNat)
  case atStart => exact ⟨0, Nat.zero_le _, rfl, by simp, 0, rfl⟩
  case round =>
    obtain ⟨k, hk, rfl, hnot, q, rfl⟩ := hrel
    by_cases hlt : k < n
    · obtain ⟨ad, y, rfl, hy, hy32, hA⟩ := hl1.at_ (k := k) (by rw [Hl.out]; exact hlt)
      have Hy := Lib.hid hy; have Hnot := Lib.hid hnot; clear hy hnot
      go_wp2
      have hC : ∀ W : World, (∃ k, W = (w1.drewN q).drewN k) → IdAt W (ad.add (k * 32)) y := by rintro W ⟨_, rfl⟩; exact (hA.drewN _).drewN _
      have hD : ∀ W : World, (∃ k, W = (w1.drewN q).drewN k) → IdAt W ⟨w.heap.size, 0, none⟩ x := by rintro W ⟨_, rfl⟩; exact (hbx.drewN _).drewN _
      refine wp_region_quiet_lit (by kernel_rfl) (by kernel_rfl) ?_
      repeat (first | ((first | refine wpQuiet_load_id rfl _ _ rfl _ rfl _ (by kernel_rfl) hC ?_ | refine wpQuiet_load_id rfl _ _ rfl _ rfl _ (by kernel_rfl) hD ?_); simp only [Act.put, List.setIfInBounds_toArray, List.set_cons_succ, List.set_cons_zero]) | go_big_quiet_step (fail))
      refine wpQuiet_nil ?_
      intro _ hw'
      obtain ⟨nq, hw''⟩ := hw'
      subst hw''
      go_wp2
      · go_ret
        have he : y = x := by first | assumption | exact of_decide_eq_true (by assumption)
        refine ⟨ret_bool ?_, (hB1.trans (below_drewN _ _ _)).trans (below_drewN _ _ _)⟩
        have : x ∈ ls := by rw [← he]; exact List.mem_of_getElem? Hy.out
        simp [this]
      · have he : ¬ y = x := by assumption
        go_roundw
        case rel => exact ⟨k + 1, by omega, by go_num, take_not Hy.out Hnot.out (fun e => he e.symm), q + nq, rfl⟩
        case measure => simp [intOf]; omega
    · have e : k = n := by omega
      subst e
      rw [List.take_of_length_le (by rw [Hl.out]; omega)] at hnot
      have Hnot := Lib.hid hnot; clear hnot
      go_wp2
      go_ret
      refine ⟨ret_bool ?_, hB1.trans (below_drewN _ _ _)⟩
      have := Hnot.out
      simp [this]
end Go.Proofs.Ytafpndmoognjlaa
