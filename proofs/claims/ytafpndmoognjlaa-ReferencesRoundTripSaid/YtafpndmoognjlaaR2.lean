/- Check of the reference is walked: it answers as Check of chapter 14 does. -/
import Derived.Test.YtafpndmoognjlaaR1
namespace Go.Proofs.Ytafpndmoognjlaa
open Go.ChangeShapes Go.WideShapes Go.ChangeAt Go.RowKit
theorem Ids.take_ {w : World} {A : Option Addr} {ls : List (List UInt8)} (h : Ids w A ls) (k : Nat) : Ids w A (ls.take k) := by
  refine ⟨?_, fun l hl => h.len l (List.mem_of_mem_take hl)⟩
  have := h.row.take (k * 32)
  have e : (ls.flatMap idc).take (k * 32) = (ls.take k).flatMap idc := by
    have hlen := h.len
    clear h this
    induction ls generalizing k with
    | nil => simp
    | cons l t ih =>
      cases k with
      | zero => simp
      | succ k =>
        have hl : (idc l).length = 32 := by rw [idc_length, hlen l (by simp)]
        rw [List.flatMap_cons, List.take_succ_cons, List.flatMap_cons, ← ih k (fun x hx => hlen x (by simp [hx])), List.take_append, List.take_of_length_le (by omega)]
        congr 2
        omega
  rwa [e] at this

set_option maxRecDepth 100000 in
set_option maxHeartbeats 1000000 in
theorem rcheck_calls (A : Option Addr) (ls : List (List UInt8)) (c n : Nat) (hln : ls.length = n) (hnc : n ≤ c) (w : World) (hl : Ids w A ls) :
    Calls Try.prog 36 #[.slice A n c] w fun e w' => e = .returned (.int .i64 (chk ls)) ∧ Below w.heap.size w w' := by
  by_cases h20 : 20 < n
  · have hE : Hid (chk ls = 9) := by unfold chk; rw [if_pos (by omega)]; rfl
    rw [hE.out]
    have h20' : (20 : Int) < n := by omega
    go_enter Try.func36, Try.ntmps36
    go_wp2
    go_ret
    exact ⟨rfl, Below.refl _ _⟩
  · have hE : Hid (chk ls = chkFrom [] ls) := by unfold chk; rw [if_neg (by omega)]; rfl
    rw [hE.out]
    have Hl := Lib.hid hln
    clear hln hE
    have h20' : ¬ (20 : Int) < n := by omega
    have hzl := zid_len
    generalize hcf : chkFrom [] ls = E
    have hCF := Lib.hid hcf
    clear hcf
    go_enter Try.func36, Try.ntmps36
    go_wp2
    go_loopw [3] (fun i wr => ∃ k : Nat, k ≤ n ∧ i = .int .i64 k ∧ chkFrom (ls.take k) (ls.drop k) = E ∧ Below w.heap.size w wr) (fun i _ => n - (intOf i).toNat)
    case atStart => exact ⟨0, Nat.zero_le _, rfl, by simpa using hCF.out, Below.refl _ _⟩
    case round =>
      obtain ⟨k, hk, rfl, hcf, hb⟩ := hrel
      by_cases hlt : k < n
      · obtain ⟨ad, x, rfl, hx, hx32, hA⟩ := (hl.below hb).at_ (k := k) (by rw [Hl.out]; exact hlt)
        have Hx := Lib.hid hx
        have ecf : ls.drop k = x :: ls.drop (k + 1) := by
          have hkl : k < ls.length := by rw [Hl.out]; exact hlt
          rw [List.drop_eq_getElem_cons hkl]
          rw [List.getElem?_eq_getElem hkl] at hx
          injection hx with hx
          rw [hx]
        rw [ecf, chkFrom] at hcf
        have Hcf := Lib.hid hcf
        clear hx ecf hcf
        have t1 : True := trivial
        have t2 : True := trivial
        by_cases hz : x = zid
        · have HE : Hid (E = 1) := Lib.hid (by have := Hcf.out; unfold addE at this; simp only [hz, if_true] at this; simpa using this.symm)
          have Hz := Lib.hid hz
          clear Hcf hz
          go_wp2_with (first
            | (have _t := t1; refine wpList_load_id rfl 38 _ rfl _ rfl x (by kernel_rfl) hA ?_; simp only [Act.put, List.setIfInBounds_toArray, List.set_cons_succ, List.set_cons_zero]; clear t1)
            | (have _t := t2; refine wpList_value rfl rfl (idv zid) (by kernel_rfl) ?_; rw [Hz.out]; simp only [Act.put, List.setIfInBounds_toArray, List.set_cons_succ, List.set_cons_zero]; clear t2))
          go_ret
          exact ⟨by rw [HE.out]; rfl, hb⟩
        · have Hz := Lib.hid hz
          go_wp2_with (first
            | (have _t := t1; refine wpList_load_id rfl 38 _ rfl _ rfl x (by kernel_rfl) hA ?_; simp only [Act.put, List.setIfInBounds_toArray, List.set_cons_succ, List.set_cons_zero]; clear t1)
            | (have _t := t2; refine wpList_value rfl rfl (idv zid) (by kernel_rfl) ?_; simp only [Act.put, List.setIfInBounds_toArray, List.set_cons_succ, List.set_cons_zero]; clear t2))
          have hkc : k ≤ c := by omega
          have hki : (0 : Int) ≤ (k : Int) := by omega
          have hkI : (k : Int) < (n : Int) := by omega
          refine wp_region_held_drew (S := fun W => Below wr.heap.size wr W) (by kernel_rfl) (Below.refl _ _).drew (fun hS => ?_)
          refine wpAnyH_take (i := 0) (v := ?v1) rfl (by kernel_rfl) (by kernel_rfl) (by kernel_rfl) (fun _ _ _ h => h) (Or.inl ⟨by rfl, ?hy1⟩) hS ?rest1
          case hy1 => (intro W hW; go_simp; first | with_reducible rfl | (go_bits; first | with_reducible rfl | (go_simp; with_reducible rfl)))
          simp only [List.getElem_toArray, List.getElem_cons_succ, List.getElem_cons_zero, Act.put, List.setIfInBounds_toArray, List.set_cons_succ, List.set_cons_zero]
          refine wpAnyH_take (i := 1) (v := ?v2) rfl (by kernel_rfl) (by kernel_rfl) (by kernel_rfl) (fun _ _ _ h => h) (Or.inl ⟨by rfl, ?hy2⟩) hS ?rest2
          case hy2 => (intro W hW; go_simp; first | with_reducible rfl | (go_bits; first | with_reducible rfl | (go_simp; with_reducible rfl)))
          simp only [List.getElem_toArray, List.getElem_cons_succ, List.getElem_cons_zero, Act.put, List.setIfInBounds_toArray, List.set_cons_succ, List.set_cons_zero]
          refine wpAnyH_take (i := 2) (v := ?v3) rfl (by kernel_rfl) (by kernel_rfl) (by kernel_rfl) (fun _ _ _ h => h) (Or.inl ⟨by rfl, ?hy3⟩) hS ?rest3
          case hy3 => (intro W hW; go_simp; first | with_reducible rfl | (go_bits; first | with_reducible rfl | (go_simp; with_reducible rfl)))
          simp only [List.getElem_toArray, List.getElem_cons_succ, List.getElem_cons_zero, Act.put, List.setIfInBounds_toArray, List.set_cons_succ, List.set_cons_zero]
          refine wpAnyH_take (i := 3) (v := ?v4) rfl (by kernel_rfl) (by kernel_rfl) (by kernel_rfl) (fun _ _ _ h => h) (Or.inl ⟨by rfl, ?hy4⟩) hS ?rest4
          case hy4 => (intro W hW; go_simp; first | with_reducible rfl | (go_bits; first | with_reducible rfl | (go_simp; with_reducible rfl)))
          simp only [List.getElem_toArray, List.getElem_cons_succ, List.getElem_cons_zero, Act.put, List.setIfInBounds_toArray, List.set_cons_succ, List.set_cons_zero]
          refine wpAnyH_take (i := 4) (v := ?v5) rfl (by kernel_rfl) (by kernel_rfl) (by kernel_rfl) (fun _ _ _ h => h) (Or.inl ⟨by rfl, ?hy5⟩) hS ?rest5
          case hy5 => (intro W hW; go_simp; first | with_reducible rfl | (go_bits; first | with_reducible rfl | (go_simp; with_reducible rfl)))
          simp only [List.getElem_toArray, List.getElem_cons_succ, List.getElem_cons_zero, Act.put, List.setIfInBounds_toArray, List.set_cons_succ, List.set_cons_zero]
          refine wpAnyH_take (i := 5) (v := ?v6) rfl (by kernel_rfl) (by kernel_rfl) (by kernel_rfl) (fun _ _ _ h => h) (Or.inl ⟨by rfl, ?hy6⟩) hS ?rest6
          case hy6 => (intro W hW; go_simp; first | with_reducible rfl | (go_bits; first | with_reducible rfl | (go_simp; with_reducible rfl)))
          simp only [List.getElem_toArray, List.getElem_cons_succ, List.getElem_cons_zero, Act.put, List.setIfInBounds_toArray, List.set_cons_succ, List.set_cons_zero]
          refine wpAnyH_take (i := 6) rfl (by kernel_rfl) (by kernel_rfl) (by kernel_rfl) (fun _ _ _ h => h) (yieldsIf_load_id (by rfl) _ _ rfl _ rfl _ (by kernel_rfl) (fun W h => hA.below h)) hS ?rest7
          simp only [List.getElem_toArray, List.getElem_cons_succ, List.getElem_cons_zero, Act.put, List.setIfInBounds_toArray, List.set_cons_succ, List.set_cons_zero]
          refine wpAnyH_ready (rs := [7]) (by kernel_rfl) (by simp) ?_
          refine AllReadyH.cons rfl (fun K hK => ?_) ?_
          · rw [if_pos (by rfl)]
            simp only [List.getElem_toArray, List.getElem_cons_succ, List.getElem_cons_zero]
            refine wp_call 37 _ _ _ rfl rfl (by kernel_rfl) ?_
            refine (has_calls (some ad) (ls.take k) _ k x hx32 (by rw [List.length_take, Hl.out]; omega) (by omega) _ (((hl.below hb).below hS).take_ k)).mono ?_
            by_cases hm : x ∈ ls.take k
            · have HE : Hid (E = 7) := Lib.hid (by have := Hcf.out; unfold addE at this; simp only [Hz.out, hm, if_true, if_false] at this; simpa using this.symm)
              rw [decide_eq_true hm]
              clear hm
              rintro e w2 ⟨rfl, hb2⟩
              refine ⟨_, rfl, ?_⟩
              have hb3 := hS.trans (hb2.mono hS.size)
              refine hK.out _ _ ?s8 (fun hS => ?_)
              case s8 => exact (hb3)
              clear hK K
              simp only [List.getElem_toArray, List.getElem_cons_succ, List.getElem_cons_zero, Act.put, List.setIfInBounds_toArray, List.set_cons_succ, List.set_cons_zero]
              refine wpAnyH_done (by kernel_rfl) ?_ _
              go_wp2
              go_ret
              exact ⟨by rw [HE.out]; rfl, hb.trans (hb3.mono hb.size)⟩
            · have Hc2 : Hid (chkFrom (ls.take (k + 1)) (ls.drop (k + 1)) = E) := Lib.hid (by rw [take_succ_at Hx.out]; have := Hcf.out; rwa [if_pos (addE_zero.2 ⟨Hz.out, hm⟩)] at this)
              rw [decide_eq_false hm]
              clear hm Hcf
              rintro e w2 ⟨rfl, hb2⟩
              refine ⟨_, rfl, ?_⟩
              have hb3 := hS.trans (hb2.mono hS.size)
              refine hK.out _ _ ?s9 (fun hS => ?_)
              case s9 => exact (hb3)
              clear hK K
              simp only [List.getElem_toArray, List.getElem_cons_succ, List.getElem_cons_zero, Act.put, List.setIfInBounds_toArray, List.set_cons_succ, List.set_cons_zero]
              refine wpAnyH_done (by kernel_rfl) ?_ _
              go_wp2
              go_roundw
              case rel => exact ⟨k + 1, by omega, by go_num, Hc2.out, hb.trans (hb3.mono hb.size)⟩
              case measure => simp [intOf]; omega
          · exact AllReadyH.nil
      · have e : k = n := by omega
        subst e
        have : E = 0 := by
          rw [← hcf, List.drop_eq_nil_of_le (by rw [Hl.out]; omega)]; rfl
        subst this
        clear hcf
        go_wp2
        go_ret
        exact ⟨rfl, hb⟩
end Go.Proofs.Ytafpndmoognjlaa
