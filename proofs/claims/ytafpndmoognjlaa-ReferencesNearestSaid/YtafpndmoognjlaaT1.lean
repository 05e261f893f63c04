/- Same and Own of chapter 14 are walked: what they answer for slices of identities of at most 65536 elements. -/
import Derived.Test.YtafpndmoognjlaaRows
import Derived.Test.YtafpndmoognjlaaBase
namespace Go.Proofs.Ytafpndmoognjlaa
open Go.ChangeShapes Go.WideShapes Go.ChangeAt Go.RowKit
@[go_sem] theorem isId33 : isId Try.prog 33 = true := by kernel_rfl
@[go_sem] theorem isId38 : isId Try.prog 38 = true := by kernel_rfl

theorem same_ne (A B : Option Addr) (n m c d : Nat) (h : ((n : Int) != (m : Int)) = true) (w : World) :
    Calls Try.prog 15 #[.slice A n c, .slice B m d] w fun e w' => e = .returned (.bool false) ∧ w' = w := by
  go_enter Try.func15, Try.ntmps15
  go_wp2
  go_ret
  exact ⟨rfl, rfl⟩

set_option maxHeartbeats 400000 in
theorem same_eq (A B : Option Addr) (l m : List (List UInt8)) (c d : Nat) (n : Nat) (hln : l.length = n) (hmn : m.length = n) (hn : n ≤ 65536) (w : World)  (hl : Ids w A l) (hm : Ids w B m) :
    Calls Try.prog 15 #[.slice A n c, .slice B n d] w fun e w' => e = .returned (.bool (decide (l = m))) ∧ ∃ k, w' = w.drewN k := by
  have Hl := Lib.hid hln; have Hm := Lib.hid hmn; clear hln hmn
  have h0 : ((n : Int) != (n : Int)) = false := by simp
  go_enter Try.func15, Try.ntmps15
  go_wp2
  go_loopw [5] (fun i wr => ∃ k : Nat, k ≤ n ∧ i = .int .i64 k ∧ l.take k = m.take k ∧ ∃ q, wr = w.drewN q) (fun i _ => n - (intOf i).toNat)
  case atStart => exact ⟨0, Nat.zero_le _, rfl, rfl, 0, rfl⟩
  case round =>
    obtain ⟨k, hk, rfl, ht, q, rfl⟩ := hrel
    by_cases hlt : k < n
    · obtain ⟨ad, x, rfl, hx, hx32, hA⟩ := hl.at_ (k := k) (by rw [Hl.out]; exact hlt)
      obtain ⟨bd, y, rfl, hy, hy32, hB⟩ := hm.at_ (k := k) (by rw [Hm.out]; exact hlt)
      have Hx := Lib.hid hx; have Hy := Lib.hid hy; have Ht := Lib.hid ht; clear hx hy ht
      go_wp2
      refine wp_region_quiet_lit (by kernel_rfl) (by kernel_rfl) ?_
      have hC : ∀ W : World, (∃ k, W = (w.drewN q).drewN k) → IdAt W (ad.add (k * 32)) x := by rintro W ⟨_, rfl⟩; exact (hA.drewN _).drewN _
      have hD : ∀ W : World, (∃ k, W = (w.drewN q).drewN k) → IdAt W (bd.add (k * 32)) y := by rintro W ⟨_, rfl⟩; exact (hB.drewN _).drewN _
      repeat (first | ((first | refine wpQuiet_load_id rfl _ _ rfl _ rfl _ (by kernel_rfl) hC ?_ | refine wpQuiet_load_id rfl _ _ rfl _ rfl _ (by kernel_rfl) hD ?_); simp only [Act.put, List.setIfInBounds_toArray, List.set_cons_succ, List.set_cons_zero]) | go_big_quiet_step (fail))
      refine wpQuiet_nil ?_
      intro _ hw'
      obtain ⟨nq, hw''⟩ := hw'
      subst hw''
      go_wp2
      · go_ret
        have hne : (!decide (x = y)) = true := by assumption
        have hne : ¬ x = y := by simpa using hne
        refine ⟨ret_bool ?_, q + nq, World.drewN_drewN ..⟩
        rw [decide_eq_false (fun e : l = m => hne (Option.some.inj (Hx.out.symm.trans ((congrArg (·[k]?) e).trans Hy.out))))]
      · have he : (!decide (x = y)) = false := by assumption
        have he : x = y := by simpa using he
        go_roundw
        case rel => exact ⟨k + 1, by omega, by go_num, by rw [take_succ_at Hx.out, take_succ_at Hy.out, Ht.out, he], q + nq, rfl⟩
        case measure => simp [intOf]; omega
    · have e : k = n := by omega
      subst e
      go_wp2
      go_ret
      have : l = m := by rwa [List.take_of_length_le (by rw [Hl.out]; omega), List.take_of_length_le (by rw [Hm.out]; omega)] at ht
      exact ⟨by simp [this], q, rfl⟩

theorem info33 : (Try.prog.info? 33).map (fun i => (i.zero, i.size, i.bytes)) = some (some (idv (List.replicate 32 0)), 32, 32) := by kernel_rfl
set_option maxRecDepth 100000 in
set_option maxHeartbeats 400000 in
theorem own_calls (A : Option Addr) (ls : List (List UInt8)) (c n : Nat) (hln : ls.length = n) (hn : n * 32 ≤ 140737488351232) (w : World) (hl : Ids w A ls) :
    Calls Try.prog 13 #[.slice A n c] w fun e w' => ∃ v, e = .returned v ∧ w'.ownsRow w.heap.size 33 32 v n (ls.flatMap idc) ∧ Below w.heap.size w w' := by
  have Hl := Lib.hid hln; clear hln
  obtain ⟨i0, hi0, hz0, hz1, hz2⟩ := info_parts info33
  go_enter Try.func13, Try.ntmps13
  go_wp2
  go_loopw [3, 4] (fun v i wr => ∃ k : Nat, k ≤ n ∧ i = .int .i64 k ∧ wr.ownsRow w.heap.size 33 32 v k ((ls.take k).flatMap idc) ∧ Below w.heap.size w wr) (fun _ i _ => n - (intOf i).toNat)
  case atStart => exact ⟨0, Nat.zero_le _, rfl, World.ownsRow_nil _ _ _ _, Below.refl _ _⟩
  case round =>
    obtain ⟨k, hk, rfl, hown, hb⟩ := hrel
    by_cases hlt : k < n
    · obtain ⟨ad, x, rfl, hx, hx32, hA⟩ := (hl.below hb).at_ (k := k) (by rw [Hl.out]; exact hlt)
      have Hx := Lib.hid hx; clear hx
      have hx1 : ∀ l ∈ [x], l.length = 32 := by simpa using hx32
      have hsum : (n + 1) * 32 ≤ 140737488355328 := by omega
      go_wp2_with (first
        | (refine wpList_load_id rfl _ _ rfl _ rfl _ (by kernel_rfl) hA ?_; simp only [Act.put, List.setIfInBounds_toArray, List.set_cons_succ, List.set_cons_zero])
        | (refine wpList_build_ids rfl 24 1 _ rfl Try.underlying24 hi0 hz0 hz1 [x] rfl hx1 (by simp) (by simp) rfl ?_; simp only [Act.put, List.setIfInBounds_toArray, List.set_cons_succ, List.set_cons_zero])
        | (at_builtin; go_must (refine wpList_append_own _ rfl _ _ 24 rfl w.heap.size 33 i0 _ 32 32 Try.underlying24 hi0 hz0 hz1 hz2 rfl (by decide) _ _ _ rfl (hown.alloc _) ⟨wr.heap.size, 0, none⟩ 1 1 ([x].flatMap idc) rfl (flat_length [x] hx1) (cells_new _ _ _) (flat_one _) (by unfold maxLen; omega) (by omega) (by have := hb.size; simp; omega) ?_; intro v' w1 hown1 hgrow _)))
      have hb1 : Below w.heap.size w w1 := (hb.alloc hb.size _).grown hgrow (by have := hb.size; simp; omega) (fun k hk => (hown.lt k hk).1)
      have hown2 : w1.ownsRow w.heap.size 33 32 v' (k + 1) ((ls.take (k + 1)).flatMap idc) := by
        rw [take_succ_at Hx.out, List.flatMap_append]; exact hown1
      clear hown1
      go_wp2
      go_roundw
      case rel => exact ⟨k + 1, by omega, by go_num, hown2, hb1⟩
      case measure => simp [intOf]; omega
    · have e : k = n := by omega
      subst e
      rw [List.take_of_length_le (by rw [Hl.out]; omega)] at hown
      go_wp2
      go_ret
      exact ⟨_, rfl, hown, hb⟩
end Go.Proofs.Ytafpndmoognjlaa
