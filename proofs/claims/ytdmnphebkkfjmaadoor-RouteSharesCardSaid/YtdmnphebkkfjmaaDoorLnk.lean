/- Links of the example's route, walked. -/
import Derived.Test.YtdmnphebkkfjmaaDoorPair
namespace Go.Proofs.YtdmnphebkkfjmaaDoor
open Go Go.ChangeShapes Go.WideShapes Go.ChangeAt Go.RowKit
theorem pair_str : isPair Tryd.prog 56 = true := by kernel_rfl
theorem info_pair : (Tryd.prog.info? 56).map (fun i => (i.zero, i.size, i.bytes)) = some (some (.agg #[.string .empty, .string .empty]), 2, 32) := by kernel_rfl
section
variable {P : Program}
theorem wp_newvar {o : Oper} {a : Act} {w : World} {K : Act → World → Prop} {Q : Exit → Act → World → Prop} (_hk : isNewVar o.op = true) (t : TypeId) (cs : Array Value)
    (hv : (execOp a.eval o).run P w = .ok (.value (.pointer (some ⟨w.heap.size, 0, none⟩))) (w.alloc (.cells cs t)))
    (h : K (a.put o.dst (.pointer (some ⟨w.heap.size, 0, none⟩))) (w.alloc (.cells cs t))) : o.wp P a w K Q := by
  unfold Oper.wp; rw [hv]; exact h
theorem wpList_load_pr {ops : Array Oper} {rest : List Oper} {o : Oper} {a : Act} {w : World} {Q : Exit → Act → World → Prop} (hgd : o.guard = none) (t : TypeId) (x : Operand) (ho : o.op = .load t x)
    (ad : Addr) (hx : a.eval x = .pointer (some ad)) (p : SS) (ht : isPair P t = true) (hc : Row w (some ad) (prc p)) (h : wpList P ops Q rest (a.put o.dst (prv p)) w) : wpList P ops Q (o :: rest) a w :=
  wpList_plain hgd fun _ hK => by
    unfold Oper.wp execOp
    simp only [ho, hx, Sem.run_bind, Sem.run_pure, Result.andThen_ok, run_load_pair w hc ht]
    exact hK _ _ h
theorem wpList_build_pr {ops : Array Oper} {rest : List Oper} {o : Oper} {a : Act} {w : World} {Q : Exit → Act → World → Prop} (hgd : o.guard = none) (t e : TypeId) (x : Operand) (ho : o.op = .buildSlice t 1 #[(0, x)])
    (p : SS) (hx : a.eval x = prv p) {i : TypeInfo} (hu : P.underlying t = some (.slice e)) (hie : P.info? e = some i) (hz : i.zero = some (.agg #[.string .empty, .string .empty])) (hs : i.size = 2)
    (h : wpList P ops Q rest (a.put o.dst (.slice (some ⟨w.heap.size, 0, none⟩) 1 1)) (w.alloc (.cells (prc p).toArray e))) : wpList P ops Q (o :: rest) a w := by
  refine wpList_buildSlice hgd t e 1 _ ho (prc p).toArray i _ hu hie hz (by rw [hs]; decide) (by rw [hs]; decide) ?_ h
  rw [hs]
  simp only [hx, List.map_toArray, List.map_cons, List.map_nil]
  simp [Instr.fill, prv, prc, Value.cells, Array.range, List.zipIdx]
  apply Array.ext_getElem?
  intro k
  rcases k with _ | _ | k <;> simp
end
theorem own_far {w w0 W : World} {e : TypeId} {size n : Nat} {v : Value} {xs : List Value} (h : W.ownsRow w0.heap.size e size v n xs) (hsz : w0.heap.size = w.heap.size + 1) : some w.heap.size ≠ v.ownBlock := by
  intro e
  have := (h.lt _ e.symm).1
  omega
def lnk3 : List SS := [([97], [98]), ([98], [99])]
set_option maxRecDepth 100000 in
set_option maxHeartbeats 1600000 in
theorem links_calls (A : Option Addr) (c : Nat) (w : World) (hl : Strs w A [[99], [98], [97]]) :
    Calls Tryd.prog 30 #[.slice A 3 c] w fun e w' => ∃ v, e = .returned v ∧ w'.ownsRow w.heap.size 56 2 v 2 (lnk3.flatMap prc) ∧ Below w.heap.size w w' := by
  obtain ⟨i0, hi0, hz0, hz1, hz2⟩ := info_parts info_pair
  obtain ⟨ad, rfl, hA0⟩ := strs_at hl (k := 0) (l := [99]) rfl
  obtain ⟨_, had, hA1⟩ := strs_at hl (k := 1) (l := [98]) rfl
  injection had with had; subst had
  obtain ⟨_, had, hA2⟩ := strs_at hl (k := 2) (l := [97]) rfl
  injection had with had; subst had
  have Hl := Lib.hid hl
  clear hl
  have hm0 := PrSet.new w
  go_enter Tryd.func30, Tryd.ntmps30
  go_wp2_with (refine wpList_newmap rfl rfl (by kernel_rfl) ?_; simp only [Act.put, List.setIfInBounds_toArray, List.set_cons_succ, List.set_cons_zero])
  have hB0 := (Below.refl _ w).alloc (Nat.le_refl _) (.map #[] 0)
  obtain ⟨w0, hw0⟩ : ∃ w0, w.alloc (.map #[] 0) = w0 := ⟨_, rfl⟩
  have hsz0 : w0.heap.size = w.heap.size + 1 := by rw [← hw0]; simp
  rw [hw0] at hm0 hB0 ⊢
  clear hw0
  go_loopw [3, 5] (fun v i wr => ∃ k : Nat, k ≤ 2 ∧ i = .int .i64 (1 - (k : Int)) ∧ PrSet wr w.heap.size (lnk3.take k) ∧ wr.ownsRow w0.heap.size 56 2 v k ((lnk3.take k).flatMap prc) ∧ Below w.heap.size w wr ∧ w0.heap.size ≤ wr.heap.size) (fun _ i _ => ((intOf i) + 1).toNat)
  case atStart => exact ⟨0, by omega, rfl, hm0, World.ownsRow_nil _ _ _ _, hB0, Nat.le_refl _⟩
  case round =>
    obtain ⟨k, hk, rfl, hm, hown, hB, hsz⟩ := hrel
    have hbs := hB.size
    obtain ⟨A3, c3, rfl, -⟩ := Row.of_own hown
    obtain ⟨ib, hib, hbz⟩ : ∃ i, Tryd.prog.info? 4 = some i ∧ i.zero = some (.bool false) := by
      have h : (Tryd.prog.info? 4).map (·.zero) = some (some (.bool false)) := by kernel_rfl
      cases hq : Tryd.prog.info? 4 with
      | none => simp [hq] at h
      | some i => exact ⟨i, rfl, by simpa [hq] using h⟩
    rcases Nat.lt_or_ge k 2 with h2 | h2
    · rcases Nat.lt_or_ge k 1 with h1 | h1
      · obtain rfl : k = 0 := by omega
        have hm' : PrSet wr w.heap.size (lnk3.take 0) := hm
        have hA1' : wr.cell? (ad.add 2) = some (Value.string (str [97])) := below_at hA2 hB
        have hA2' : wr.cell? (ad.add 1) = some (Value.string (str [98])) := below_at hA1 hB
        have Hm := Lib.hid hm'; have Hown := Lib.hid hown; have K1 := Lib.hid hA1'; have K2 := Lib.hid hA2'
        clear hm hm' hown hA1' hA2' hA0 hA1 hA2
        go_wp2_with fail
        refine wp_region_held_drew (S := fun W => Below wr.heap.size wr W) (by kernel_rfl) (Below.refl _ _).drew (fun hS => ?_)
        refine wpAnyH_take (i := 0) (v := ?v1) rfl (by kernel_rfl) (by kernel_rfl) (by kernel_rfl) (fun _ _ _ h => h) (Or.inl ⟨by rfl, ?hy1⟩) hS ?rest1
        case hy1 => (intro W hW; go_simp; first | with_reducible rfl | (go_bits; first | with_reducible rfl | (go_simp; with_reducible rfl)))
        simp only [List.getElem_toArray, List.getElem_cons_succ, List.getElem_cons_zero, Act.put, List.setIfInBounds_toArray, List.set_cons_succ, List.set_cons_zero]
        refine wpAnyH_take (i := 1) (v := ?v2) rfl (by kernel_rfl) (by kernel_rfl) (by kernel_rfl) (fun _ _ _ h => h) (Or.inl ⟨by rfl, ?hy2⟩) hS ?rest2
        case hy2 => (intro W hW; go_simp; first | with_reducible rfl | (go_bits; first | with_reducible rfl | (go_simp; with_reducible rfl)))
        simp only [List.getElem_toArray, List.getElem_cons_succ, List.getElem_cons_zero, Act.put, List.setIfInBounds_toArray, List.set_cons_succ, List.set_cons_zero]
        refine wpAnyH_take (i := 2) (v := ?v3) rfl (by kernel_rfl) (by kernel_rfl) (by kernel_rfl) (fun _ _ _ h => h) (Or.inl ⟨by rfl, ?hy3⟩) hS ?rest3
        case hy3 => (intro W hW; go_simp; first | with_reducible rfl | (go_bits; first | with_reducible rfl | (go_simp; with_reducible rfl)))
        simp only [List.getElem_toArray, List.getElem_cons_succ, List.getElem_cons_zero, Act.put, List.setIfInBounds_toArray, List.set_cons_succ, List.set_cons_zero]
        refine wpAnyH_take (i := 3) (v := ?v4) rfl (by kernel_rfl) (by kernel_rfl) (by kernel_rfl) (fun _ _ _ h => h) (Or.inl ⟨by rfl, ?hy4⟩) hS ?rest4
        case hy4 => (intro W hW; go_simp; first | with_reducible rfl | (go_bits; first | with_reducible rfl | (go_simp; with_reducible rfl)))
        simp only [List.getElem_toArray, List.getElem_cons_succ, List.getElem_cons_zero, Act.put, List.setIfInBounds_toArray, List.set_cons_succ, List.set_cons_zero]
        refine wpAnyH_take (i := 4) rfl (by kernel_rfl) (by kernel_rfl) (by kernel_rfl) (fun _ _ _ h => h) (yieldsIf_load_one (by rfl) _ _ rfl _ rfl _ Tryd.isAgg9 (fun W h => below_at K1.out h)) hS ?rest5
        simp only [List.getElem_toArray, List.getElem_cons_succ, List.getElem_cons_zero, Act.put, List.setIfInBounds_toArray, List.set_cons_succ, List.set_cons_zero]
        refine wpAnyH_take (i := 5) (v := ?v6) rfl (by kernel_rfl) (by kernel_rfl) (by kernel_rfl) (fun _ _ _ h => h) (Or.inl ⟨by rfl, ?hy6⟩) hS ?rest6
        case hy6 => (intro W hW; go_simp; first | with_reducible rfl | (go_bits; first | with_reducible rfl | (go_simp; with_reducible rfl)))
        simp only [List.getElem_toArray, List.getElem_cons_succ, List.getElem_cons_zero, Act.put, List.setIfInBounds_toArray, List.set_cons_succ, List.set_cons_zero]
        refine wpAnyH_take (i := 6) (v := ?v7) rfl (by kernel_rfl) (by kernel_rfl) (by kernel_rfl) (fun _ _ _ h => h) (Or.inl ⟨by rfl, ?hy7⟩) hS ?rest7
        case hy7 => (intro W hW; go_simp; first | with_reducible rfl | (go_bits; first | with_reducible rfl | (go_simp; with_reducible rfl)))
        simp only [List.getElem_toArray, List.getElem_cons_succ, List.getElem_cons_zero, Act.put, List.setIfInBounds_toArray, List.set_cons_succ, List.set_cons_zero]
        refine wpAnyH_take (i := 7) (v := ?v8) rfl (by kernel_rfl) (by kernel_rfl) (by kernel_rfl) (fun _ _ _ h => h) (Or.inl ⟨by rfl, ?hy8⟩) hS ?rest8
        case hy8 => (intro W hW; go_simp; first | with_reducible rfl | (go_bits; first | with_reducible rfl | (go_simp; with_reducible rfl)))
        simp only [List.getElem_toArray, List.getElem_cons_succ, List.getElem_cons_zero, Act.put, List.setIfInBounds_toArray, List.set_cons_succ, List.set_cons_zero]
        refine wpAnyH_take (i := 8) rfl (by kernel_rfl) (by kernel_rfl) (by kernel_rfl) (fun _ _ _ h => h) (yieldsIf_load_one (by rfl) _ _ rfl _ rfl _ Tryd.isAgg9 (fun W h => below_at K2.out h)) hS ?rest9
        simp only [List.getElem_toArray, List.getElem_cons_succ, List.getElem_cons_zero, Act.put, List.setIfInBounds_toArray, List.set_cons_succ, List.set_cons_zero]
        refine wpAnyH_take (i := 9) (v := ?v10) rfl (by kernel_rfl) (by kernel_rfl) (by kernel_rfl) (fun _ _ _ h => h) (Or.inl ⟨by rfl, ?hy10⟩) hS ?rest10
        case hy10 => (intro W hW; go_simp; first | with_reducible rfl | (go_bits; first | with_reducible rfl | (go_simp; with_reducible rfl)))
        simp only [List.getElem_toArray, List.getElem_cons_succ, List.getElem_cons_zero, Act.put, List.setIfInBounds_toArray, List.set_cons_succ, List.set_cons_zero]
        refine wpAnyH_ready (rs := [10]) (by kernel_rfl) (by simp) ?_
        refine AllReadyH.cons rfl (fun K hK => ?_) ?_
        · rw [if_pos (by rfl)]
          simp only [List.getElem_toArray, List.getElem_cons_succ, List.getElem_cons_zero]
          refine wp_newvar rfl 56 #[.string .empty, .string .empty] (by kernel_rfl) ?_
          refine hK.out _ _ ?s11 (fun hS => ?_)
          case s11 => exact (hS.alloc hS.size _)
          clear hK K
          simp only [List.getElem_toArray, List.getElem_cons_succ, List.getElem_cons_zero, Act.put, List.setIfInBounds_toArray, List.set_cons_succ, List.set_cons_zero]
          refine wpAnyH_ready (rs := [11]) (by kernel_rfl) (by simp) ?_
          refine AllReadyH.cons rfl (fun K hK => ?_) ?_
          · rw [if_pos (by rfl)]
            simp only [List.getElem_toArray, List.getElem_cons_succ, List.getElem_cons_zero]
            refine wp_store_box 56 _ _ rfl wr.heap.size (prc ([97], [98])) rfl rfl (Blk.new _ _ _) rfl (by kernel_rfl) (by simp [prc, Value.oneCell']) ?_
            intro w2 hblk hg2 hsz2
            have hS2 : Below wr.heap.size wr w2 := hS.grown hg2 hS.size (fun j hj => Nat.le_of_eq (Option.some.inj (show some wr.heap.size = some j from hj)))
            refine hK.out _ _ ?s12 (fun hS => ?_)
            case s12 => exact (hS2)
            clear hK K
            simp only [List.getElem_toArray, List.getElem_cons_succ, List.getElem_cons_zero, Act.put, List.setIfInBounds_toArray, List.set_cons_succ, List.set_cons_zero]
            refine wpAnyH_done (by kernel_rfl) ?_ _
            have hgt : wr.heap.size < w2.heap.size := hblk.lt
            have hB2 : Below w.heap.size w w2 := below_then hB (Nat.le_refl _) hS2
            have hm2 : PrSet w2 w.heap.size (lnk3.take 0) := Hm.out.below hS2 (by omega)
            have hown2 := own_below Hown.out hS2
            have hc0 : w2.cell? ⟨wr.heap.size, 0, none⟩ = some (.string (str [97])) := by rw [hblk.cell]; rfl
            have hc1 : w2.cell? ⟨wr.heap.size, 1, none⟩ = some (.string (str [98])) := by rw [hblk.cell]; rfl
            have hld : (Instr.loadAt 56 (.pointer (some ⟨wr.heap.size, 0, none⟩))).run Tryd.prog w2 = .ok (.agg #[.string (str [97]), .string (str [98])]) w2 := run_load_pair w2 (p := ([97], [98])) hblk.row pair_str
            have hlk : (Instr.lookup 63 (.map (some w.heap.size)) (.agg #[.string (str [97]), .string (str [98])]) false).run Tryd.prog w2 = .ok (.bool false) w2 := run_lookup_pr w2 Tryd.underlying63 pair_str hib hbz hm2 ([97], [98]) rfl
            have Hown2 := Lib.hid hown2; have Hm2 := Lib.hid hm2; have Hblk := Lib.hid hblk; have HB2 := Lib.hid hB2
            clear hown2 hm2 hblk hg2 hS2 hS hB2 hB
            have t1 : True := trivial
            have t2 : True := trivial
            have t3 : True := trivial
            go_wp2_with (first
              | (have _t := t1; refine wpList_update_pr rfl 63 _ _ _ rfl Tryd.underlying63 pair_str w.heap.size rfl ([97], [98]) rfl rfl rfl Hm2.out (by decide) ?_; intro w3 hm3 hg3; have hblk3 := Hblk.out.grown hg3 (by intro e; injection e with e; omega); have Hrow3 := Lib.hid hblk3.row; have t4 : True := trivial; have hown3 := Hown2.out.kept hg3 (.inr (own_far Hown2.out hsz0).symm); have hB3 := HB2.out.grown hg3 HB2.out.size (fun j hj => Nat.le_of_eq (Option.some.inj (show some w.heap.size = some j from hj))); have hs3 : w2.heap.size ≤ w3.heap.size := hg3.size; have Hm3 := Lib.hid hm3; have Hown3 := Lib.hid hown3; have HB3 := Lib.hid hB3; clear hm3 hown3 hB3 hblk3 hg3 t1; simp only [Act.put, List.setIfInBounds_toArray, List.set_cons_succ, List.set_cons_zero])
              | (have _t := t4; refine wpList_load_pr rfl 56 _ rfl ⟨wr.heap.size, 0, none⟩ rfl ([97], [98]) pair_str Hrow3.out ?_; clear t4; simp only [Act.put, List.setIfInBounds_toArray, List.set_cons_succ, List.set_cons_zero])
              | (have _t := t2; refine wpList_build_pr rfl 54 56 _ rfl ([97], [98]) rfl Tryd.underlying54 hi0 hz0 hz1 ?_; clear t2; simp only [Act.put, List.setIfInBounds_toArray, List.set_cons_succ, List.set_cons_zero])
              | (have _t := t3; refine wpList_append_row _ rfl _ _ 54 rfl w0.heap.size 56 i0 _ 2 32 Tryd.underlying54 hi0 hz0 hz1 hz2 rfl (by decide) _ 0 _ rfl (Hown3.out.alloc _) _ 1 1 (prc ([97], [98])) rfl rfl (Blk.row (heap_alloc_new _ _)) (by simp [prc, Value.oneCell']) (by unfold maxLen; omega) (by omega) (by simp; omega) ?_; intro v4 w4 hown4 hg4 _; have hne4 : some w.heap.size ≠ (Value.slice A3 0 c3).ownBlock := own_far Hown3.out hsz0; have hm4 : PrSet w4 w.heap.size (lnk3.take (0 + 1)) := PrSet.grown (row := (Value.slice A3 0 c3).ownBlock) (Hm3.out.alloc _) hg4 hne4; have hB4 := (HB3.out.alloc HB3.out.size _).grown hg4 (Nat.le_trans HB3.out.size (by simp)) (fun j hj => by have := (Hown3.out.lt j hj).1; omega); have hs4 : w3.heap.size ≤ w4.heap.size := Nat.le_trans (by simp) hg4.size; have Hown4 := Lib.hid hown4; have Hm4 := Lib.hid hm4; have HB4 := Lib.hid hB4; clear hown4 hm4 hB4 hg4 t3; simp only [Act.put, List.setIfInBounds_toArray, List.set_cons_succ, List.set_cons_zero]))
            go_roundw
            case rel => exact ⟨0 + 1, by omega, by go_num, Hm4.out, Hown4.out, HB4.out, by omega⟩
            case measure => simp [intOf]
          · exact AllReadyH.nil
        · exact AllReadyH.nil
      · obtain rfl : k = 1 := by omega
        have hm' : PrSet wr w.heap.size (lnk3.take 1) := hm
        have hA1' : wr.cell? (ad.add 1) = some (Value.string (str [98])) := below_at hA1 hB
        have hA2' : wr.cell? (ad) = some (Value.string (str [99])) := below_at hA0 hB
        have Hm := Lib.hid hm'; have Hown := Lib.hid hown; have K1 := Lib.hid hA1'; have K2 := Lib.hid hA2'
        clear hm hm' hown hA1' hA2' hA0 hA1 hA2
        go_wp2_with fail
        refine wp_region_held_drew (S := fun W => Below wr.heap.size wr W) (by kernel_rfl) (Below.refl _ _).drew (fun hS => ?_)
        refine wpAnyH_take (i := 0) (v := ?v13) rfl (by kernel_rfl) (by kernel_rfl) (by kernel_rfl) (fun _ _ _ h => h) (Or.inl ⟨by rfl, ?hy13⟩) hS ?rest13
        case hy13 => (intro W hW; go_simp; first | with_reducible rfl | (go_bits; first | with_reducible rfl | (go_simp; with_reducible rfl)))
        simp only [List.getElem_toArray, List.getElem_cons_succ, List.getElem_cons_zero, Act.put, List.setIfInBounds_toArray, List.set_cons_succ, List.set_cons_zero]
        refine wpAnyH_take (i := 1) (v := ?v14) rfl (by kernel_rfl) (by kernel_rfl) (by kernel_rfl) (fun _ _ _ h => h) (Or.inl ⟨by rfl, ?hy14⟩) hS ?rest14
        case hy14 => (intro W hW; go_simp; first | with_reducible rfl | (go_bits; first | with_reducible rfl | (go_simp; with_reducible rfl)))
        simp only [List.getElem_toArray, List.getElem_cons_succ, List.getElem_cons_zero, Act.put, List.setIfInBounds_toArray, List.set_cons_succ, List.set_cons_zero]
        refine wpAnyH_take (i := 2) (v := ?v15) rfl (by kernel_rfl) (by kernel_rfl) (by kernel_rfl) (fun _ _ _ h => h) (Or.inl ⟨by rfl, ?hy15⟩) hS ?rest15
        case hy15 => (intro W hW; go_simp; first | with_reducible rfl | (go_bits; first | with_reducible rfl | (go_simp; with_reducible rfl)))
        simp only [List.getElem_toArray, List.getElem_cons_succ, List.getElem_cons_zero, Act.put, List.setIfInBounds_toArray, List.set_cons_succ, List.set_cons_zero]
        refine wpAnyH_take (i := 3) (v := ?v16) rfl (by kernel_rfl) (by kernel_rfl) (by kernel_rfl) (fun _ _ _ h => h) (Or.inl ⟨by rfl, ?hy16⟩) hS ?rest16
        case hy16 => (intro W hW; go_simp; first | with_reducible rfl | (go_bits; first | with_reducible rfl | (go_simp; with_reducible rfl)))
        simp only [List.getElem_toArray, List.getElem_cons_succ, List.getElem_cons_zero, Act.put, List.setIfInBounds_toArray, List.set_cons_succ, List.set_cons_zero]
        refine wpAnyH_take (i := 4) rfl (by kernel_rfl) (by kernel_rfl) (by kernel_rfl) (fun _ _ _ h => h) (yieldsIf_load_one (by rfl) _ _ rfl _ rfl _ Tryd.isAgg9 (fun W h => below_at K1.out h)) hS ?rest17
        simp only [List.getElem_toArray, List.getElem_cons_succ, List.getElem_cons_zero, Act.put, List.setIfInBounds_toArray, List.set_cons_succ, List.set_cons_zero]
        refine wpAnyH_take (i := 5) (v := ?v18) rfl (by kernel_rfl) (by kernel_rfl) (by kernel_rfl) (fun _ _ _ h => h) (Or.inl ⟨by rfl, ?hy18⟩) hS ?rest18
        case hy18 => (intro W hW; go_simp; first | with_reducible rfl | (go_bits; first | with_reducible rfl | (go_simp; with_reducible rfl)))
        simp only [List.getElem_toArray, List.getElem_cons_succ, List.getElem_cons_zero, Act.put, List.setIfInBounds_toArray, List.set_cons_succ, List.set_cons_zero]
        refine wpAnyH_take (i := 6) (v := ?v19) rfl (by kernel_rfl) (by kernel_rfl) (by kernel_rfl) (fun _ _ _ h => h) (Or.inl ⟨by rfl, ?hy19⟩) hS ?rest19
        case hy19 => (intro W hW; go_simp; first | with_reducible rfl | (go_bits; first | with_reducible rfl | (go_simp; with_reducible rfl)))
        simp only [List.getElem_toArray, List.getElem_cons_succ, List.getElem_cons_zero, Act.put, List.setIfInBounds_toArray, List.set_cons_succ, List.set_cons_zero]
        refine wpAnyH_take (i := 7) (v := ?v20) rfl (by kernel_rfl) (by kernel_rfl) (by kernel_rfl) (fun _ _ _ h => h) (Or.inl ⟨by rfl, ?hy20⟩) hS ?rest20
        case hy20 => (intro W hW; go_simp; first | with_reducible rfl | (go_bits; first | with_reducible rfl | (go_simp; with_reducible rfl)))
        simp only [List.getElem_toArray, List.getElem_cons_succ, List.getElem_cons_zero, Act.put, List.setIfInBounds_toArray, List.set_cons_succ, List.set_cons_zero]
        refine wpAnyH_take (i := 8) rfl (by kernel_rfl) (by kernel_rfl) (by kernel_rfl) (fun _ _ _ h => h) (yieldsIf_load_one (by rfl) _ _ rfl _ rfl _ Tryd.isAgg9 (fun W h => below_at K2.out h)) hS ?rest21
        simp only [List.getElem_toArray, List.getElem_cons_succ, List.getElem_cons_zero, Act.put, List.setIfInBounds_toArray, List.set_cons_succ, List.set_cons_zero]
        refine wpAnyH_take (i := 9) (v := ?v22) rfl (by kernel_rfl) (by kernel_rfl) (by kernel_rfl) (fun _ _ _ h => h) (Or.inl ⟨by rfl, ?hy22⟩) hS ?rest22
        case hy22 => (intro W hW; go_simp; first | with_reducible rfl | (go_bits; first | with_reducible rfl | (go_simp; with_reducible rfl)))
        simp only [List.getElem_toArray, List.getElem_cons_succ, List.getElem_cons_zero, Act.put, List.setIfInBounds_toArray, List.set_cons_succ, List.set_cons_zero]
        refine wpAnyH_ready (rs := [10]) (by kernel_rfl) (by simp) ?_
        refine AllReadyH.cons rfl (fun K hK => ?_) ?_
        · rw [if_pos (by rfl)]
          simp only [List.getElem_toArray, List.getElem_cons_succ, List.getElem_cons_zero]
          refine wp_newvar rfl 56 #[.string .empty, .string .empty] (by kernel_rfl) ?_
          refine hK.out _ _ ?s23 (fun hS => ?_)
          case s23 => exact (hS.alloc hS.size _)
          clear hK K
          simp only [List.getElem_toArray, List.getElem_cons_succ, List.getElem_cons_zero, Act.put, List.setIfInBounds_toArray, List.set_cons_succ, List.set_cons_zero]
          refine wpAnyH_ready (rs := [11]) (by kernel_rfl) (by simp) ?_
          refine AllReadyH.cons rfl (fun K hK => ?_) ?_
          · rw [if_pos (by rfl)]
            simp only [List.getElem_toArray, List.getElem_cons_succ, List.getElem_cons_zero]
            refine wp_store_box 56 _ _ rfl wr.heap.size (prc ([98], [99])) rfl rfl (Blk.new _ _ _) rfl (by kernel_rfl) (by simp [prc, Value.oneCell']) ?_
            intro w2 hblk hg2 hsz2
            have hS2 : Below wr.heap.size wr w2 := hS.grown hg2 hS.size (fun j hj => Nat.le_of_eq (Option.some.inj (show some wr.heap.size = some j from hj)))
            refine hK.out _ _ ?s24 (fun hS => ?_)
            case s24 => exact (hS2)
            clear hK K
            simp only [List.getElem_toArray, List.getElem_cons_succ, List.getElem_cons_zero, Act.put, List.setIfInBounds_toArray, List.set_cons_succ, List.set_cons_zero]
            refine wpAnyH_done (by kernel_rfl) ?_ _
            have hgt : wr.heap.size < w2.heap.size := hblk.lt
            have hB2 : Below w.heap.size w w2 := below_then hB (Nat.le_refl _) hS2
            have hm2 : PrSet w2 w.heap.size (lnk3.take 1) := Hm.out.below hS2 (by omega)
            have hown2 := own_below Hown.out hS2
            have hc0 : w2.cell? ⟨wr.heap.size, 0, none⟩ = some (.string (str [98])) := by rw [hblk.cell]; rfl
            have hc1 : w2.cell? ⟨wr.heap.size, 1, none⟩ = some (.string (str [99])) := by rw [hblk.cell]; rfl
            have hld : (Instr.loadAt 56 (.pointer (some ⟨wr.heap.size, 0, none⟩))).run Tryd.prog w2 = .ok (.agg #[.string (str [98]), .string (str [99])]) w2 := run_load_pair w2 (p := ([98], [99])) hblk.row pair_str
            have hlk : (Instr.lookup 63 (.map (some w.heap.size)) (.agg #[.string (str [98]), .string (str [99])]) false).run Tryd.prog w2 = .ok (.bool false) w2 := run_lookup_pr w2 Tryd.underlying63 pair_str hib hbz hm2 ([98], [99]) rfl
            have Hown2 := Lib.hid hown2; have Hm2 := Lib.hid hm2; have Hblk := Lib.hid hblk; have HB2 := Lib.hid hB2
            clear hown2 hm2 hblk hg2 hS2 hS hB2 hB
            have t1 : True := trivial
            have t2 : True := trivial
            have t3 : True := trivial
            go_wp2_with (first
              | (have _t := t1; refine wpList_update_pr rfl 63 _ _ _ rfl Tryd.underlying63 pair_str w.heap.size rfl ([98], [99]) rfl rfl rfl Hm2.out (by decide) ?_; intro w3 hm3 hg3; have hblk3 := Hblk.out.grown hg3 (by intro e; injection e with e; omega); have Hrow3 := Lib.hid hblk3.row; have t4 : True := trivial; have hown3 := Hown2.out.kept hg3 (.inr (own_far Hown2.out hsz0).symm); have hB3 := HB2.out.grown hg3 HB2.out.size (fun j hj => Nat.le_of_eq (Option.some.inj (show some w.heap.size = some j from hj))); have hs3 : w2.heap.size ≤ w3.heap.size := hg3.size; have Hm3 := Lib.hid hm3; have Hown3 := Lib.hid hown3; have HB3 := Lib.hid hB3; clear hm3 hown3 hB3 hblk3 hg3 t1; simp only [Act.put, List.setIfInBounds_toArray, List.set_cons_succ, List.set_cons_zero])
              | (have _t := t4; refine wpList_load_pr rfl 56 _ rfl ⟨wr.heap.size, 0, none⟩ rfl ([98], [99]) pair_str Hrow3.out ?_; clear t4; simp only [Act.put, List.setIfInBounds_toArray, List.set_cons_succ, List.set_cons_zero])
              | (have _t := t2; refine wpList_build_pr rfl 54 56 _ rfl ([98], [99]) rfl Tryd.underlying54 hi0 hz0 hz1 ?_; clear t2; simp only [Act.put, List.setIfInBounds_toArray, List.set_cons_succ, List.set_cons_zero])
              | (have _t := t3; refine wpList_append_row _ rfl _ _ 54 rfl w0.heap.size 56 i0 _ 2 32 Tryd.underlying54 hi0 hz0 hz1 hz2 rfl (by decide) _ 1 _ rfl (Hown3.out.alloc _) _ 1 1 (prc ([98], [99])) rfl rfl (Blk.row (heap_alloc_new _ _)) (by simp [prc, Value.oneCell']) (by unfold maxLen; omega) (by omega) (by simp; omega) ?_; intro v4 w4 hown4 hg4 _; have hne4 : some w.heap.size ≠ (Value.slice A3 1 c3).ownBlock := own_far Hown3.out hsz0; have hm4 : PrSet w4 w.heap.size (lnk3.take (1 + 1)) := PrSet.grown (row := (Value.slice A3 1 c3).ownBlock) (Hm3.out.alloc _) hg4 hne4; have hB4 := (HB3.out.alloc HB3.out.size _).grown hg4 (Nat.le_trans HB3.out.size (by simp)) (fun j hj => by have := (Hown3.out.lt j hj).1; omega); have hs4 : w3.heap.size ≤ w4.heap.size := Nat.le_trans (by simp) hg4.size; have Hown4 := Lib.hid hown4; have Hm4 := Lib.hid hm4; have HB4 := Lib.hid hB4; clear hown4 hm4 hB4 hg4 t3; simp only [Act.put, List.setIfInBounds_toArray, List.set_cons_succ, List.set_cons_zero]))
            go_roundw
            case rel => exact ⟨1 + 1, by omega, by go_num, Hm4.out, Hown4.out, HB4.out, by omega⟩
            case measure => simp [intOf]
          · exact AllReadyH.nil
        · exact AllReadyH.nil
    · obtain rfl : k = 2 := by omega
      go_wp2_with fail
      go_ret
      exact ⟨_, rfl, own_mono hown (by omega), hB⟩
end Go.Proofs.YtdmnphebkkfjmaaDoor
