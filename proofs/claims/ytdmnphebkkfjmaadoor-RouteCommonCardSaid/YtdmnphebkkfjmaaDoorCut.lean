/- cut of the statements of chapter 16, walked. -/
import Derived.Test.YtdmnphebkkfjmaaDoorCom
import Derived.Great.BuildSlice
namespace Go.Proofs.YtdmnphebkkfjmaaDoor
open Go.ChangeShapes Go.WideShapes Go.ChangeAt Go.RowKit
theorem yieldsIf_load_one {P : Program} {ops : Array Oper} {S : World → Prop} {o : Oper} {a : Act} (hw : Region.wanted o (yielded ops a.tmps) = true) (t : TypeId) (x : Operand) (ho : o.op = .load t x)
    (ad : Addr) (hx : a.eval x = .pointer (some ad)) (v : Value) (hagg : ∀ w, (isAgg t).run P w = .ok false w) (hS : ∀ w, S w → w.cell? ad = some v) : YieldsIf P ops S o v a :=
  .inl ⟨hw, fun w h => by
    unfold execOp
    have hl : (load ad).run P w = .ok v w := by simp [hS w h]
    simp only [ho, hx, Instr.loadAt, Instr.sureAddr, Sem.run_bind, Sem.run_pure, Result.andThen_ok, loadVar, hagg, Bool.false_eq_true, if_false, hl]⟩
theorem below_at {w W : World} {p : Addr} {v : Value} (hc : w.cell? p = some v) (h : Below w.heap.size w W) : W.cell? p = some v := by
  rw [h.cell (isSome_lt (by rw [hc]; rfl))]; exact hc
theorem wp_build_str {P : Program} {o : Oper} {a : Act} {w : World} {K : Act → World → Prop} {Q : Exit → Act → World → Prop} (t e : TypeId) (x : Operand) (ho : o.op = .buildSlice t 1 #[(0, x)])
    (l : List UInt8) (hx : a.eval x = .string (str l)) {i : TypeInfo} (hu : P.underlying t = some (.slice e)) (hie : P.info? e = some i) (hz : i.zero = some (.string .empty)) (hs : i.size = 1)
    (h : K (a.put o.dst (.slice (some ⟨w.heap.size, 0, none⟩) 1 1)) (w.alloc (.cells #[.string (str l)] e))) : o.wp P a w K Q := by
  refine wp_buildSlice t e 1 _ ho #[.string (str l)] i _ hu hie hz (by rw [hs]; decide) (by rw [hs]; decide) ?_ h
  rw [hs]
  simp only [hx, List.map_toArray, List.map_cons, List.map_nil]
  exact Great.fill_flat [.string (str l)] _ (fun v hv => by simp at hv; subst hv; rfl) (by simp)
def cutS (ls : List (List UInt8)) : List (List UInt8) := (ls.take 60).map (·.take 40)
theorem cutS_len (ls : List (List UInt8)) : (cutS ls).length = min 60 ls.length := by simp [cutS]
set_option maxRecDepth 100000 in
set_option maxHeartbeats 1600000 in
theorem cut_calls (A : Option Addr) (ls : List (List UInt8)) (n c : Nat) (hln : ls.length = n) (w : World) (hl : Strs w A ls) :
    Calls Tryd.prog 15 #[.slice A n c] w fun e w' => ∃ v, e = .returned v ∧ w'.ownsRow w.heap.size 9 1 v (cutS ls).length (strsV (cutS ls)) ∧ Below w.heap.size w w' := by
  have Hl := Lib.hid hln; clear hln
  obtain ⟨i0, hi0, hz0, hz1, hz2⟩ := info_parts info_str
  go_enter Tryd.func15, Tryd.ntmps15
  go_wp2_with fail
  go_loopw [3, 4] (fun v i wr => ∃ k : Nat, k ≤ n ∧ k ≤ 60 ∧ i = .int .i64 k ∧ wr.ownsRow w.heap.size 9 1 v k (strsV ((ls.take k).map (·.take 40))) ∧ Below w.heap.size w wr) (fun _ i _ => n - (intOf i).toNat)
  case atStart => exact ⟨0, Nat.zero_le _, Nat.zero_le _, rfl, by simpa [strsV] using World.ownsRow_nil _ _ _ _, Below.refl _ _⟩
  case round =>
    obtain ⟨k, hk, hk60, rfl, hown, hB⟩ := hrel
    by_cases h1 : k < n
    · by_cases h2 : k < 60
      · obtain ⟨x, hx⟩ : ∃ x, ls[k]? = some x := ⟨_, List.getElem?_eq_getElem (by rw [Hl.out]; exact h1)⟩
        obtain ⟨ad, rfl, hA⟩ := strs_at hl hx
        have hA2 := Lib.hid hA
        have Hx := Lib.hid hx; have Hown := Lib.hid hown
        obtain ⟨e, he⟩ : ∃ e, min x.length 40 = e := ⟨_, rfl⟩
        have hm : min (x.length : Int) 40 = (e : Int) := by omega
        have he1 : (e : Int) ≤ x.length := by omega
        have He : Hid (x.take e = x.take 40) := Lib.hid (by rw [← he, List.take_eq_take_iff]; omega)
        have i0' : (0 : Int) ≤ k := by omega
        have i1 : (k : Int) < n := by omega
        have i2 : (k : Int) < 60 := by omega
        clear hx hown hA he
        go_wp2_with fail
        refine wp_region_held_drew (S := fun W => Below w.heap.size w W) (by kernel_rfl) hB.drew (fun hS => ?_)
        refine wpAnyH_take (i := 0) (v := ?v1) rfl (by kernel_rfl) (by kernel_rfl) (by kernel_rfl) (fun _ _ _ h => h) (Or.inl ⟨by rfl, ?hy1⟩) hS ?rest1
        case hy1 => (intro W hW; go_simp; first | with_reducible rfl | (go_bits; first | with_reducible rfl | (go_simp; with_reducible rfl)))
        simp only [List.getElem_toArray, List.getElem_cons_succ, List.getElem_cons_zero, Act.put, List.setIfInBounds_toArray, List.set_cons_succ, List.set_cons_zero]
        refine wpAnyH_take (i := 1) (v := ?v2) rfl (by kernel_rfl) (by kernel_rfl) (by kernel_rfl) (fun _ _ _ h => h) (Or.inl ⟨by rfl, ?hy2⟩) hS ?rest2
        case hy2 => (intro W hW; go_simp; first | with_reducible rfl | (go_bits; first | with_reducible rfl | (go_simp; with_reducible rfl)))
        simp only [List.getElem_toArray, List.getElem_cons_succ, List.getElem_cons_zero, Act.put, List.setIfInBounds_toArray, List.set_cons_succ, List.set_cons_zero]
        refine wpAnyH_take (i := 2) (v := ?v3) rfl (by kernel_rfl) (by kernel_rfl) (by kernel_rfl) (fun _ _ _ h => h) (Or.inl ⟨by rfl, ?hy3⟩) hS ?rest3
        case hy3 => (intro W hW; go_simp; first | with_reducible rfl | (go_bits; first | with_reducible rfl | (go_simp; with_reducible rfl)))
        simp only [List.getElem_toArray, List.getElem_cons_succ, List.getElem_cons_zero, Act.put, List.setIfInBounds_toArray, List.set_cons_succ, List.set_cons_zero]
        refine wpAnyH_take (i := 3) (v := ?v4) rfl (by kernel_rfl) (by kernel_rfl) (by kernel_rfl) (fun _ _ _ h => h) (Or.inl ⟨by rfl, ?hy4⟩) hS ?rest4
        case hy4 => (intro W hW; go_simp; first | with_reducible rfl | (go_bits; first | with_reducible rfl | (go_simp; with_reducible rfl)))
        simp only [List.getElem_toArray, List.getElem_cons_succ, List.getElem_cons_zero, Act.put, List.setIfInBounds_toArray, List.set_cons_succ, List.set_cons_zero]
        refine wpAnyH_take (i := 4) rfl (by kernel_rfl) (by kernel_rfl) (by kernel_rfl) (fun _ _ _ h => h) (yieldsIf_load_one (by rfl) _ _ rfl _ rfl _ Tryd.isAgg9 (fun W h => below_at hA2.out h)) hS ?rest5
        simp only [List.getElem_toArray, List.getElem_cons_succ, List.getElem_cons_zero, Act.put, List.setIfInBounds_toArray, List.set_cons_succ, List.set_cons_zero]
        refine wpAnyH_take (i := 5) (v := ?v6) rfl (by kernel_rfl) (by kernel_rfl) (by kernel_rfl) (fun _ _ _ h => h) (Or.inl ⟨by rfl, ?hy6⟩) hS ?rest6
        case hy6 => (intro W hW; go_simp; first | with_reducible rfl | (go_bits; first | with_reducible rfl | (go_simp; with_reducible rfl)))
        simp only [List.getElem_toArray, List.getElem_cons_succ, List.getElem_cons_zero, Act.put, List.setIfInBounds_toArray, List.set_cons_succ, List.set_cons_zero]
        refine wpAnyH_take (i := 6) (v := ?v7) rfl (by kernel_rfl) (by kernel_rfl) (by kernel_rfl) (fun _ _ _ h => h) (Or.inl ⟨by rfl, ?hy7⟩) hS ?rest7
        case hy7 => (intro W hW; go_simp; first | with_reducible rfl | (go_bits; first | with_reducible rfl | (go_simp; with_reducible rfl)))
        simp only [List.getElem_toArray, List.getElem_cons_succ, List.getElem_cons_zero, Act.put, List.setIfInBounds_toArray, List.set_cons_succ, List.set_cons_zero]
        refine wpAnyH_take (i := 7) (v := ?v8) rfl (by kernel_rfl) (by kernel_rfl) (by kernel_rfl) (fun _ _ _ h => h) (Or.inl ⟨by rfl, ?hy8⟩) hS ?rest8
        case hy8 => (intro W hW; go_simp; first | with_reducible rfl | (go_bits; first | with_reducible rfl | (go_simp; with_reducible rfl)))
        simp only [List.getElem_toArray, List.getElem_cons_succ, List.getElem_cons_zero, Act.put, List.setIfInBounds_toArray, List.set_cons_succ, List.set_cons_zero]
        refine wpAnyH_take (i := 8) rfl (by kernel_rfl) (by kernel_rfl) (by kernel_rfl) (fun _ _ _ h => h) (yieldsIf_load_one (by rfl) _ _ rfl _ rfl _ Tryd.isAgg9 (fun W h => below_at hA2.out h)) hS ?rest9
        simp only [List.getElem_toArray, List.getElem_cons_succ, List.getElem_cons_zero, Act.put, List.setIfInBounds_toArray, List.set_cons_succ, List.set_cons_zero]
        refine wpAnyH_take (i := 9) (v := ?v10) rfl (by kernel_rfl) (by kernel_rfl) (by kernel_rfl) (fun _ _ _ h => h) (Or.inl ⟨by rfl, ?hy10⟩) hS ?rest10
        case hy10 => (intro W hW; go_simp; first | with_reducible rfl | (go_bits; first | with_reducible rfl | (go_simp; with_reducible rfl)))
        simp only [List.getElem_toArray, List.getElem_cons_succ, List.getElem_cons_zero, Act.put, List.setIfInBounds_toArray, List.set_cons_succ, List.set_cons_zero]
        refine wpAnyH_take (i := 10) (v := ?v11) rfl (by kernel_rfl) (by kernel_rfl) (by kernel_rfl) (fun _ _ _ h => h) (Or.inl ⟨by rfl, ?hy11⟩) hS ?rest11
        case hy11 => (intro W hW; go_simp; first | with_reducible rfl | (go_bits; first | with_reducible rfl | (go_simp; with_reducible rfl)))
        simp only [List.getElem_toArray, List.getElem_cons_succ, List.getElem_cons_zero, Act.put, List.setIfInBounds_toArray, List.set_cons_succ, List.set_cons_zero]
        refine wpAnyH_take (i := 11) (v := ?v12) rfl (by kernel_rfl) (by kernel_rfl) (by kernel_rfl) (fun _ _ _ h => h) (Or.inl ⟨by rfl, ?hy12⟩) hS ?rest12
        case hy12 => (intro W hW; go_simp; first | with_reducible rfl | (go_bits; first | with_reducible rfl | (go_simp; with_reducible rfl)))
        simp only [List.getElem_toArray, List.getElem_cons_succ, List.getElem_cons_zero, Act.put, List.setIfInBounds_toArray, List.set_cons_succ, List.set_cons_zero]
        refine wpAnyH_ready (rs := [12]) (by kernel_rfl) (by simp) ?_
        refine AllReadyH.cons rfl (fun K hK => ?_) ?_
        · rw [if_pos (by rfl)]
          simp only [List.getElem_toArray, List.getElem_cons_succ, List.getElem_cons_zero]
          refine wp_build_str 23 9 _ rfl _ rfl Tryd.underlying23 hi0 hz0 hz1 ?_
          refine hK.out _ _ ?s13 (fun hS => ?_)
          case s13 => exact (hS.alloc hS.size _)
          clear hK K
          simp only [List.getElem_toArray, List.getElem_cons_succ, List.getElem_cons_zero, Act.put, List.setIfInBounds_toArray, List.set_cons_succ, List.set_cons_zero]
          refine wpAnyH_ready (rs := [13]) (by kernel_rfl) (by simp) ?_
          refine AllReadyH.cons rfl (fun K hK => ?_) ?_
          · rw [if_pos (by rfl)]
            simp only [List.getElem_toArray, List.getElem_cons_succ, List.getElem_cons_zero]
            refine wp_append_row _ _ _ 23 rfl w.heap.size 9 i0 (.string .empty) 1 16 Tryd.underlying23 hi0 hz0 hz1 hz2 rfl (by decide) _ _ _ rfl (Hown.out.drew.alloc _) _ 1 1 [.string (str (x.take e))] rfl rfl (Blk.row (heap_alloc_new _ _)) (by simp [Value.oneCell']) (by unfold maxLen; omega) (by omega) (by have := hB.size; simp; omega) ?_
            intro v' w1 hown1 hg1 _
            have hS1 : Below w.heap.size w w1 := hS.grown hg1 hS.size (fun j hj => (Hown.out.lt j hj).1)
            rw [show strsV ((ls.take k).map (·.take 40)) ++ [.string (str (x.take e))] = strsV ((ls.take (k + 1)).map (·.take 40)) from by rw [take_succ_at Hx.out, List.map_append, strsV_app, He.out]; rfl] at hown1
            have Hown1 := Lib.hid hown1; clear hown1
            refine hK.out _ _ ?s14 (fun hS => ?_)
            case s14 => exact (hS1)
            clear hK K
            simp only [List.getElem_toArray, List.getElem_cons_succ, List.getElem_cons_zero, Act.put, List.setIfInBounds_toArray, List.set_cons_succ, List.set_cons_zero]
            refine wpAnyH_take (i := 14) (v := ?v15) rfl (by kernel_rfl) (by kernel_rfl) (by kernel_rfl) (fun _ _ _ h => h) (Or.inl ⟨by rfl, ?hy15⟩) hS ?rest15
            case hy15 => (intro W hW; go_simp; first | with_reducible rfl | (go_bits; first | with_reducible rfl | (go_simp; with_reducible rfl)))
            simp only [List.getElem_toArray, List.getElem_cons_succ, List.getElem_cons_zero, Act.put, List.setIfInBounds_toArray, List.set_cons_succ, List.set_cons_zero]
            refine wpAnyH_done (by kernel_rfl) ?_ _
            go_wp2_with fail
            go_roundw
            case rel => exact ⟨k + 1, by omega, by omega, by go_num, Hown1.out, hS1⟩
            case measure => simp [intOf]; omega
          · exact AllReadyH.nil
        · exact AllReadyH.nil
      · have i1 : (k : Int) < n := by omega
        have i2 : ¬ (k : Int) < 60 := by omega
        have e1 : (ls.take k).map (·.take 40) = cutS ls := by unfold cutS; rw [show k = 60 by omega]
        have e2 : k = (cutS ls).length := by rw [cutS_len, Hl.out]; omega
        rw [e1] at hown
        have H2 := Lib.hid e2; clear e1 e2
        go_wp2_with fail
        go_ret
        rw [← H2.out]
        exact ⟨_, rfl, hown, hB⟩
    · have i1 : ¬ (k : Int) < n := by omega
      have e1 : (ls.take k).map (·.take 40) = cutS ls := by unfold cutS; rw [List.take_of_length_le (by rw [Hl.out]; omega), List.take_of_length_le (by rw [Hl.out]; omega)]
      have e2 : k = (cutS ls).length := by rw [cutS_len, Hl.out]; omega
      rw [e1] at hown
      have H2 := Lib.hid e2; clear e1 e2
      go_wp2_with fail
      go_ret
      rw [← H2.out]
      exact ⟨_, rfl, hown, hB⟩
end Go.Proofs.YtdmnphebkkfjmaaDoor
