/- known of the statements of chapter 16, walked. -/
import Derived.Test.YtdmnphebkkfjmaaDoorKn0
namespace Go.Proofs.YtdmnphebkkfjmaaDoor
open Go Go.ChangeShapes Go.WideShapes Go.ChangeAt Go.RowKit
theorem some_cell {w W : World} {p : Addr} {v : Value} {B : Nat} (hc : w.cell? p = some v) (hB : w.heap.size ≤ B) (h : Below B w W) : W.cell? p = some v := by
  rw [h.cell (Nat.lt_of_lt_of_le (isSome_lt (by rw [hc]; rfl)) hB)]; exact hc
theorem two_new (w : World) (a b : List (List UInt8)) : Strs ((w.alloc (.cells (strsV a).toArray 9)).alloc (.cells (strsV b).toArray 9)) (some ⟨w.heap.size + 1, 0, none⟩) b := by
  have h := Blk.row (cs := strsV b) (heap_alloc_new (w.alloc (.cells (strsV a).toArray 9)) (.cells (strsV b).toArray 9))
  rwa [show (w.alloc (.cells (strsV a).toArray 9)).heap.size = w.heap.size + 1 by simp] at h
set_option maxRecDepth 100000 in
set_option maxHeartbeats 1600000 in
theorem known_calls (m : Int) (w : World) (hm : w.cell? ⟨0, 0, none⟩ = some (.int .i64 m)) :
    Calls Tryd.prog 12 #[] w fun e w' => e = .returned (.bool true) ∧ Below w.heap.size w w' := by
  have t1 : True := trivial
  have e1 : ∀ W, (Op.equalIn 10000 56 (.agg #[.string ⟨#[97]⟩, .string ⟨#[98]⟩]) (.agg #[.string ⟨#[97]⟩, .string ⟨#[98]⟩])).run Tryd.prog W = .ok true W := fun W => (run_equalIn_pr W 9998 pair_str ([97], [98]) ([97], [98])).trans (by rw [decide_eq_true rfl])
  have e2 : ∀ W, (Op.equalIn 10000 56 (.agg #[.string ⟨#[98]⟩, .string ⟨#[99]⟩]) (.agg #[.string ⟨#[98]⟩, .string ⟨#[99]⟩])).run Tryd.prog W = .ok true W := fun W => (run_equalIn_pr W 9998 pair_str ([98], [99]) ([98], [99])).trans (by rw [decide_eq_true rfl])
  have Hm := Lib.hid hm
  clear hm
  go_enter Tryd.func12, Tryd.ntmps12
  go_wp2_with (first
    | (have _t := t1; go_at_call 10; refine (k1_calls m _ Hm.out).mono ?_; rintro e w1 ⟨g1, c1, rfl, hown1, hB1⟩; have Hown1 := Lib.hid hown1; have HB1 := Lib.hid hB1; clear hown1 hB1 t1; have t2 : True := trivial)
    | (have _t := t2; go_at_call 30; refine (k3_calls g1 c1 _ _ Hown1.out).mono ?_; rintro e w2 ⟨g2, c2, rfl, hown2, hB2⟩; have HB12 := Lib.hid (below_then HB1.out (Nat.le_refl _) hB2); have Hown12 := Lib.hid (own_below Hown1.out hB2); have Hown2 := Lib.hid hown2; clear hown2 hB2 t2; have t3 : True := trivial)
    | (have _t := t3; go_at_call 19; refine (k4_calls g1 c1 _ _ Hown12.out).mono ?_; rintro e w3 ⟨g3, c3, rfl, hown3, hB3⟩; have HB13 := Lib.hid (below_then HB12.out (Nat.le_refl _) hB3); have Hown13 := Lib.hid (own_below Hown12.out hB3); have Hown23 := Lib.hid (own_below Hown2.out hB3); have Hown3 := Lib.hid hown3; clear hown3 hB3 t3; have t4 : True := trivial)
    | (have _t := t4; go_at_call 10; refine (k2_calls m _ (below_at Hm.out HB13.out)).mono ?_; rintro e w4 ⟨v4, rfl, hB4⟩; have HB14 := Lib.hid (below_then HB13.out (Nat.le_refl _) hB4); have Hown14 := Lib.hid (own_below Hown13.out hB4); have Hown24 := Lib.hid (own_below Hown23.out hB4); have Hown34 := Lib.hid (own_below Hown3.out hB4); clear hB4 t4; have t5 : True := trivial)
    | (have _t := t5; go_at_call 22; refine (k5_calls w4.heap.size 4 (Nat.le_refl _) _ (Blk.row (cs := strsV [[98], [99], [98], [97]]) (heap_alloc_new w4 _))).mono ?_; rintro e w5 ⟨rfl, hw⟩; have HB15 : Hid (Below w.heap.size w w5) := Lib.hid (by rw [hw]; exact HB14.out.alloc HB14.out.size _); have Hown15 : Hid (w5.ownsRow w.heap.size 9 1 (.slice (some ⟨g1, 0, none⟩) 3 c1) 3 (strsV [[99], [98], [97]])) := Lib.hid (by rw [hw]; exact Hown14.out.alloc _); have Hown25 : Hid (w5.ownsRow w1.heap.size 56 2 (.slice (some ⟨g2, 0, none⟩) 2 c2) 2 (lnk3.flatMap prc)) := Lib.hid (by rw [hw]; exact Hown24.out.alloc _); have Hown35 : Hid (w5.ownsRow w2.heap.size 9 1 (.slice (some ⟨g3, 0, none⟩) 4 c3) 4 (strsV [[100], [99], [98], [97]])) := Lib.hid (by rw [hw]; exact Hown34.out.alloc _); clear hw t5; have t6 : True := trivial)
    | (have _t := t6; go_at_call 25; refine (k6_calls w5.heap.size (w5.heap.size + 1) 3 4 (Nat.le_refl _) _ (Row.alloc (Blk.row (cs := strsV [[120], [98], [97]]) (heap_alloc_new w5 _)) _) (two_new w5 [[120], [98], [97]] [[121], [122], [98], [97]])).mono ?_; rintro e w6 ⟨g6, c6, rfl, hown6, hB6⟩; have HB16 := Lib.hid (below_then ((HB15.out.alloc HB15.out.size _).alloc (Nat.le_trans HB15.out.size (by simp)) _) (Nat.le_refl _) hB6); have Hown16 := Lib.hid (own_below ((Hown15.out.alloc _).alloc _) hB6); have Hown26 := Lib.hid (own_below ((Hown25.out.alloc _).alloc _) hB6); have Hown36 := Lib.hid (own_below ((Hown35.out.alloc _).alloc _) hB6); have Hown6 := Lib.hid hown6; have a0 : w6.cell? ⟨g1, 0, none⟩ = some (.string ⟨#[99]⟩) := own_cell Hown16.out rfl; have b0 : w6.cell? ⟨g2, 0, none⟩ = some (.string ⟨#[97]⟩) := own_cell Hown26.out rfl; have b1 : w6.cell? ⟨g2, 1, none⟩ = some (.string ⟨#[98]⟩) := own_cell Hown26.out rfl; have b2 : w6.cell? ⟨g2, 2, none⟩ = some (.string ⟨#[98]⟩) := own_cell Hown26.out rfl; have b3 : w6.cell? ⟨g2, 3, none⟩ = some (.string ⟨#[99]⟩) := own_cell Hown26.out rfl; clear hown6 hB6 t6; have t7 : True := trivial)
    | (have _t := t7; go_at_call 14; refine (k7_calls g3 c3 _ _ Hown36.out).mono ?_; rintro e w7 ⟨rfl, hB7⟩; have HB17 := Lib.hid (below_then HB16.out (Nat.le_refl _) hB7); have Hown67 := Lib.hid (own_below Hown6.out hB7); have d0 : w7.cell? ⟨g6, 0, none⟩ = some (.string ⟨#[98]⟩) := own_cell Hown67.out rfl; have d1 : w7.cell? ⟨g6, 1, none⟩ = some (.string ⟨#[97]⟩) := own_cell Hown67.out rfl; clear hB7 t7 a0 b0 b1 b2 b3))
  go_ret
  exact ⟨rfl, HB17.out⟩
end Go.Proofs.YtdmnphebkkfjmaaDoor
