/- Nearest without a predicate, walked. -/
import Derived.Test.YtafpndmoognjlaaNr2
namespace Go.Proofs.Ytafpndmoognjlaa
open Go Go.ChangeShapes Go.WideShapes Go.ChangeAt Go.RowKit Go.Shelf
set_option maxRecDepth 100000 in
set_option maxHeartbeats 800000 in
theorem nearest_nil (A : Option Addr) (c n : Nat) (hn : n ≤ 65536) (w : World) :
    Calls Try.prog 16 #[.slice A n c, .nilFunc] w fun e w' => e = .returned (.tuple #[idv zid, .int .i64 n, .bool false]) ∧ Below w.heap.size w w' := by
  have t1 : True := trivial
  have he := eql_nohas
  go_enter Try.func16, Try.ntmps16
  go_wp2_with (have _t := t1; refine wpList_alloc (o := ⟨some 4, _, _, _, _, _⟩) rfl rfl 33 (idc zid).toArray (by kernel_rfl) ?_; intro w1 hb1 hg1 hs1; have hB1 : Below w.heap.size w w1 := (((Below.refl _ w).alloc (Nat.le_refl _) _).alloc (by simp) _).trans ((grownBy_below hg1).mono (by simp; omega)); have b0 := ((Boxed.new w 24 (.slice A n c)).alloc (.cells #[.nilFunc] 37)).kept hg1 nofun; have b1 := (Boxed.new (w.alloc (.cells #[.slice A n c] 24)) 37 .nilFunc).kept hg1 nofun; simp only [World.size_alloc] at b1 hb1; have c0 := cell_two b0.cell; have c1 := cell_two b1.cell; have B0 := Lib.hid b0; have B1 := Lib.hid b1; have BB := Lib.hid hb1; have HB1 := Lib.hid hB1; clear b0 b1 hb1 hg1 hs1 hB1; simp only [Act.put, List.setIfInBounds_toArray, List.set_cons_succ, List.set_cons_zero]; clear t1)
  have hsz0 : w.heap.size + 1 + 1 < w1.heap.size := by have := BB.out.lt; omega
  have b0 := (B0.out.alloc (.cells #[.int .i64 0] 3)).alloc (.cells #[.bool false] 4)
  have b2 := (BB.out.alloc (.cells #[.int .i64 0] 3)).alloc (.cells #[.bool false] 4)
  have b3 := (Boxed.new w1 3 (.int .i64 0)).alloc (.cells #[.bool false] 4)
  have b4 := Boxed.new (w1.alloc (.cells #[.int .i64 0] 3)) 4 (.bool false)
  have hB0 : Below w.heap.size w ((w1.alloc (.cells #[.int .i64 0] 3)).alloc (.cells #[.bool false] 4)) := (HB1.out.alloc HB1.out.size _).alloc (Nat.le_trans HB1.out.size (by simp)) _
  obtain ⟨W0, hW0⟩ : ∃ W0, (w1.alloc (.cells #[.int .i64 0] 3)).alloc (.cells #[.bool false] 4) = W0 := ⟨_, rfl⟩
  have hs0 : W0.heap.size = w1.heap.size + 2 := by rw [← hW0]; simp
  simp only [World.size_alloc] at b4
  rw [hW0] at b0 b2 b3 b4 hB0 ⊢
  simp only [World.size_alloc]
  have hws : w.heap.size ≤ W0.heap.size := hB0.size
  have HB0 := Lib.hid hB0
  have hcs := b0.cell
  have hn32 : w1.heap.size ≠ w.heap.size + 1 + 1 := by omega
  have hn42 : w1.heap.size + 1 ≠ w.heap.size + 1 + 1 := by omega
  have hn43 : w1.heap.size + 1 ≠ w1.heap.size := by omega
  have HN := Lib.hid (show NrS W0 (w.heap.size + 1 + 1) w1.heap.size (w1.heap.size + 1) W0 from ⟨⟨_, b2, by simp [idc_length, zid_len]⟩, ⟨_, b3⟩, ⟨_, b4⟩, rfl, rfl, rfl, rfl, fun _ _ _ _ => rfl⟩)
  clear hW0 B0 B1 BB HB1 c0 c1 he b0 b2 b3 b4 hB0
  refine wp_region_held_drew (S := fun W' => NrS W0 (w.heap.size + 1 + 1) w1.heap.size (w1.heap.size + 1) W') (by kernel_rfl) HN.out.drew (fun hS => ?_)
  have hslS : ∀ W', NrS W0 (w.heap.size + 1 + 1) w1.heap.size (w1.heap.size + 1) W' → W'.cell? ⟨w.heap.size, 0, none⟩ = some (.slice A n c) := fun W' h => by
    rw [show W'.cell? ⟨w.heap.size, 0, none⟩ = W0.cell? ⟨w.heap.size, 0, none⟩ from World.cell?_of_block (h.rest w.heap.size (by omega) (by omega) (by omega))]; exact hcs
  have HslS := Lib.hid hslS
  clear hslS hcs
  refine wpAnyH_take (i := 0) (v := (idv zid)) rfl (by kernel_rfl) (by kernel_rfl) (by kernel_rfl) (fun _ _ _ h => h) (Or.inl ⟨by rfl, fun W _ => by kernel_rfl⟩) hS ?rest1
  simp only [List.getElem_toArray, List.getElem_cons_succ, List.getElem_cons_zero, Act.put, List.setIfInBounds_toArray, List.set_cons_succ, List.set_cons_zero]
  refine wpAnyH_take (i := 1) rfl (by kernel_rfl) (by kernel_rfl) (by kernel_rfl) (fun _ _ _ h => h) (yieldsIf_load_one (by rfl) _ _ rfl _ rfl _ Try.isAgg24 (HslS.out)) hS ?rest2
  simp only [List.getElem_toArray, List.getElem_cons_succ, List.getElem_cons_zero, Act.put, List.setIfInBounds_toArray, List.set_cons_succ, List.set_cons_zero]
  refine wpAnyH_take (i := 2) (v := ?v3) rfl (by kernel_rfl) (by kernel_rfl) (by kernel_rfl) (fun _ _ _ h => h) (Or.inl ⟨by rfl, ?hy3⟩) hS ?rest3
  case hy3 => (intro W hW; go_simp; first | with_reducible rfl | (go_bits; first | with_reducible rfl | (go_simp; with_reducible rfl)))
  simp only [List.getElem_toArray, List.getElem_cons_succ, List.getElem_cons_zero, Act.put, List.setIfInBounds_toArray, List.set_cons_succ, List.set_cons_zero]
  refine wpAnyH_ready (rs := [3]) (by kernel_rfl) (by simp) ?_
  refine AllReadyH.cons rfl (fun K hK => ?_) AllReadyH.nil
  rw [if_pos (by rfl)]
  simp only [List.getElem_toArray, List.getElem_cons_succ, List.getElem_cons_zero]
  obtain ⟨cs1, hcs1, hcn1⟩ := hS.k2
  refine wp_store_box 33 _ _ rfl (w.heap.size + 1 + 1) (idc zid) rfl rfl hcs1 (by rw [hcn1, idc_length, zid_len]) (by rw [idc_length, zid_len]; kernel_rfl) (idc_one _) ?_
  intro wn1 F2_1 hgn1 hzn1
  have hS1 := hS.store2 hn32 hn42 F2_1 (by simp [idc_length, zid_len]) hgn1 hzn1
  refine hK.out _ _ ?s4 (fun hS => ?_)
  case s4 => exact (hS1)
  clear hK K
  simp only [List.getElem_toArray, List.getElem_cons_succ, List.getElem_cons_zero, Act.put, List.setIfInBounds_toArray, List.set_cons_succ, List.set_cons_zero]
  have F21 := Lib.hid F2_1
  clear F2_1 hgn1 hzn1
  refine wpAnyH_ready (rs := [4]) (by kernel_rfl) (by simp) ?_
  refine AllReadyH.cons rfl (fun K hK => ?_) AllReadyH.nil
  rw [if_pos (by rfl)]
  simp only [List.getElem_toArray, List.getElem_cons_succ, List.getElem_cons_zero]
  have hS2 := hS.set3 (.int .i64 n) hn32 hn43
  obtain ⟨v2, hv2⟩ := hS.k3
  have F3_2 := Lib.hid (hv2.set (.int .i64 n))
  have F2_2 := Lib.hid (F21.out.far (p := ⟨w1.heap.size, 0, none⟩) (fun e => hn32 e.symm) (.int .i64 n))
  have hcc2 := hv2.cell; have hff2 := hv2.frozen
  go_simp
  refine hK.out _ _ ?s5 (fun hS => ?_)
  case s5 => exact (hS2)
  clear hK K
  clear hcc2 hff2
  refine wpAnyH_ready (rs := [5]) (by kernel_rfl) (by simp) ?_
  refine AllReadyH.cons rfl (fun K hK => ?_) AllReadyH.nil
  rw [if_pos (by rfl)]
  simp only [List.getElem_toArray, List.getElem_cons_succ, List.getElem_cons_zero]
  have hS3 := hS.set4 (.bool false) hn42 hn43
  obtain ⟨v3, hv3⟩ := hS.k4
  have F4_3 := Lib.hid (hv3.set (.bool false))
  have F2_3 := Lib.hid (F2_2.out.far (p := ⟨w1.heap.size + 1, 0, none⟩) (fun e => hn42 e.symm) (.bool false))
  have F3_3 := Lib.hid (F3_2.out.other (fun e => hn43 e.symm) (.bool false))
  have hcc3 := hv3.cell; have hff3 := hv3.frozen
  go_simp
  refine hK.out _ _ ?s6 (fun hS => ?_)
  case s6 => exact (hS3)
  clear hK K
  refine wpAnyH_done (by kernel_rfl) ?_ _
  clear hcc3 hff3
  have hBz : Below w.heap.size w ((wn1.setCell ⟨w1.heap.size, 0, none⟩ (.int .i64 n)).setCell ⟨w1.heap.size + 1, 0, none⟩ (.bool false)) := HB0.out.trans ⟨hS.os, hS.tape, hS.output, Nat.le_of_eq hS.size.symm, fun k hk => hS.rest k (by omega) (by omega) (by omega)⟩
  have HBz := Lib.hid hBz
  clear hS hBz
  go_wp2_with fail
  refine bodyPost_ret (v := .tuple #[idv zid, .int .i64 n, .bool false]) (results_id3 rfl _ _ ⟨w.heap.size + 1 + 1, 0, none⟩ ⟨w1.heap.size, 0, none⟩ ⟨w1.heap.size + 1, 0, none⟩ zid n false rfl rfl rfl
    (Blk.id_at F2_3.out zid_len) F3_3.out.cell F4_3.out.cell) rfl ⟨rfl, HBz.out⟩
end Go.Proofs.Ytafpndmoognjlaa
