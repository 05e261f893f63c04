/- Print of the reference and Print of chapter 14, walked. -/
import Derived.Test.YtafpndmoognjlaaPr1
namespace Go.Proofs.Ytafpndmoognjlaa
open Go.ChangeShapes Go.WideShapes Go.ChangeAt Go.RowKit

def prL (ls : List (List UInt8)) : List UInt8 := if chk ls = 0 then linkL ls else []
set_option maxRecDepth 100000 in
set_option maxHeartbeats 1600000 in
theorem rprint_calls (A : Option Addr) (ls : List (List UInt8)) (c n : Nat) (hln : ls.length = n) (hnc : n ≤ c) (w : World) (hl : Ids w A ls) :
    Calls Try.prog 28 #[.slice A n c] w fun e w' => e = .returned (.tuple #[.string (str (prL ls)), .int .i64 (chk ls)]) ∧ Below w.heap.size w w' := by
  have Hl := Lib.hid hln
  by_cases hE : chk ls = 0
  · have hn := (chk_zero.1 hE).1
    rw [hln] at hn
    have HP : Hid (prL ls = linkL ls) := Lib.hid (by unfold prL; rw [if_pos hE])
    have HE := Lib.hid hE
    have hlen := linkL_len ls hl.len
    have Hlen := Lib.hid hlen
    clear hln hE hlen
    rw [HP.out, HE.out, show ((0 : Nat) : Int) = 0 from rfl]
    go_enter Try.func28, Try.ntmps28
    go_wp2_with fail
    refine (rcheck_calls A ls c n Hl.out hnc _ hl).mono ?_
    rw [HE.out, show ((0 : Nat) : Int) = 0 from rfl]
    rintro e w1 ⟨rfl, hb1⟩
    go_wp2_with fail
    go_loopw [5, 6] (fun s i wr => ∃ k : Nat, k ≤ n ∧ i = .int .i64 k ∧ s = .string (str (linkL (ls.take k))) ∧ Below w.heap.size w wr) (fun _ i _ => n - (intOf i).toNat)
    case atStart => exact ⟨0, Nat.zero_le _, rfl, rfl, hb1⟩
    case round =>
      obtain ⟨k, hk, rfl, rfl, hb⟩ := hrel
      clear hb1
      by_cases hlt : k < n
      · obtain ⟨ad, x, rfl, hx, hx32, hA⟩ := (hl.below hb).at_ (k := k) (by rw [Hl.out]; exact hlt)
        have Hs := Lib.hid (linkL_snoc (ls.take k) x)
        rw [← take_succ_at hx] at Hs
        have hlk : (linkL (ls.take k)).length ≤ 72 * k := Hlen.out k
        have hm := midL_len x hx32
        have Hx := Lib.hid hx
        clear hx
        by_cases h0 : 0 < k
        · have h0' : (0 : Int) < k := by omega
          go_wp2_with (first
            | (refine wpList_load_id rfl _ _ rfl _ rfl x (by kernel_rfl) hA ?_; simp only [Act.put, List.setIfInBounds_toArray, List.set_cons_succ, List.set_cons_zero])
            | (go_at_call 44; refine (text_calls x hx32 _).mono ?_; rintro e w2 ⟨rfl, hb2⟩))
          go_roundw
          case rel =>
            refine ⟨k + 1, by omega, by go_num, ?_, hb.trans (hb2.mono hb.size)⟩
            rw [Hs.out, if_neg (by intro h; have := congrArg List.length h; rw [List.length_take, Hl.out] at this; simp at this; omega)]
            try simp
          case measure => simp [intOf]; omega
        · have h0' : ¬ (0 : Int) < k := by omega
          have h00 : k = 0 := by omega
          subst h00
          go_wp2_with (first
            | (refine wpList_load_id rfl _ _ rfl _ rfl x (by kernel_rfl) hA ?_; simp only [Act.put, List.setIfInBounds_toArray, List.set_cons_succ, List.set_cons_zero])
            | (go_at_call 44; refine (text_calls x hx32 _).mono ?_; rintro e w2 ⟨rfl, hb2⟩))
          go_roundw
          case rel =>
            refine ⟨0 + 1, by omega, by go_num, ?_, hb.trans (hb2.mono hb.size)⟩
            rw [Hs.out, if_pos (by simp)]
            have e0 : linkL [] = [] := rfl
            simp [e0]
          case measure => simp [intOf]; omega
      · have e : k = n := by omega
        subst e
        rw [List.take_of_length_le (by rw [Hl.out]; omega)]
        go_wp2
        go_ret2
        exact ⟨rfl, hb⟩
  · have HP : Hid (prL ls = []) := Lib.hid (by unfold prL; rw [if_neg hE])
    rw [HP.out]
    generalize hc : chk ls = E at *
    have HE := Lib.hid hc
    have hne : ((E : Int) != 0) = true := by rw [bne_iff_ne]; omega
    clear hln hE hc
    go_enter Try.func28, Try.ntmps28
    go_wp2_with fail
    refine (rcheck_calls A ls c n Hl.out hnc _ hl).mono ?_
    rw [HE.out]
    rintro e w1 ⟨rfl, hb1⟩
    go_wp2
    go_ret2
    exact ⟨rfl, hb1⟩

theorem info9 : (Try.prog.info? 9).map (fun i => (i.zero, i.size, i.bytes)) = some (some (.string .empty), 1, 16) := by kernel_rfl
def strsV (ls : List (List UInt8)) : List Value := ls.map fun l => .string (str l)
theorem strsV_snoc (ls : List (List UInt8)) (l : List UInt8) : strsV (ls ++ [l]) = strsV ls ++ [.string (str l)] := by simp [strsV]
set_option maxRecDepth 100000 in
set_option maxHeartbeats 1600000 in
theorem print_calls (A : Option Addr) (ls : List (List UInt8)) (c n : Nat) (hln : ls.length = n) (hnc : n ≤ c) (w : World) (hl : Ids w A ls) :
    Calls Try.prog 27 #[.slice A n c] w fun e w' => e = .returned (.tuple #[.string (str (prL ls)), .int .i64 (chk ls)]) ∧ Below w.heap.size w w' := by
  have Hl := Lib.hid hln
  by_cases hE : chk ls = 0
  · have hn := (chk_zero.1 hE).1
    rw [hln] at hn
    have HP : Hid (prL ls = linkL ls) := Lib.hid (by unfold prL; rw [if_pos hE])
    have HE := Lib.hid hE
    have hlen := linkL_len ls hl.len n
    rw [List.take_of_length_le (by omega)] at hlen
    have Hlen := Lib.hid hlen
    obtain ⟨i0, hi0, hz0, hz1, hz2⟩ := info_parts info9
    clear hln hE hlen
    rw [HP.out, HE.out, show ((0 : Nat) : Int) = 0 from rfl]
    go_enter Try.func27, Try.ntmps27
    go_wp2_with fail
    refine (check_calls A ls c n Hl.out _ hl).mono ?_
    rw [HE.out, show ((0 : Nat) : Int) = 0 from rfl]
    rintro e w1 ⟨rfl, hb1⟩
    go_wp2_with fail
    go_loopw [5, 15] (fun v i wr => ∃ k : Nat, k ≤ n ∧ i = .int .i64 k ∧ wr.ownsRow w.heap.size 9 1 v k (strsV ((ls.take k).map midL)) ∧ Below w.heap.size w wr) (fun _ i _ => n - (intOf i).toNat)
    case atStart => exact ⟨0, Nat.zero_le _, rfl, World.ownsRow_nil _ _ _ _, hb1⟩
    case round =>
      obtain ⟨k, hk, rfl, hown, hb⟩ := hrel
      clear hb1
      by_cases hlt : k < n
      · obtain ⟨ad, x, rfl, hx, hx32, hA⟩ := (hl.below hb).at_ (k := k) (by rw [Hl.out]; exact hlt)
        have hs : strsV ((ls.take (k + 1)).map midL) = strsV ((ls.take k).map midL) ++ [.string (str (midL x))] := by
          rw [take_succ_at hx, List.map_append, List.map_cons, List.map_nil, strsV_snoc]
        have Hs := Lib.hid hs
        have Hx := Lib.hid hx
        clear hx hs
        have t1 : True := trivial
        have t2 : True := trivial
        have t3 : True := trivial
        have t4 : True := trivial
        go_wp2_with (first
          | (have _t := t1; refine wpList_load_id rfl _ _ rfl _ rfl x (by kernel_rfl) hA ?_; simp only [Act.put, List.setIfInBounds_toArray, List.set_cons_succ, List.set_cons_zero]; clear t1)
          | (have _t := t2; refine wpList_alloc rfl rfl 33 (idc zid).toArray (by kernel_rfl) ?_; intro w2 hb2 hg2 hs2; simp only [Act.put, List.setIfInBounds_toArray, List.set_cons_succ, List.set_cons_zero]; clear t2)
          | (have _t := t3; refine wpList_store_box rfl 33 _ _ rfl wr.heap.size (idc x) rfl rfl hb2 (by rw [List.size_toArray, idc_length, idc_length, hx32]; rfl) (by rw [idc_length, hx32]; kernel_rfl) (idc_one x) ?_; intro w3 hb3 hg3 hs3; have hbx := hb3.id_at hx32; simp only [Act.put, List.setIfInBounds_toArray, List.set_cons_succ, List.set_cons_zero]; clear t3)
          | (have _t := t4; refine wpList_load_id rfl _ _ rfl _ rfl x (by kernel_rfl) hbx ?_; simp only [Act.put, List.setIfInBounds_toArray, List.set_cons_succ, List.set_cons_zero]; clear t4))
        refine (mprint_calls x hx32 _).mono ?_
        rintro e w4 ⟨rfl, hb4⟩
        have hBx : Below wr.heap.size wr w4 := below_then (below_box hg2 hg3) (Nat.le_refl _) hb4
        have hownx := own_below hown hBx
        have hbw4 := below_then hb (Nat.le_refl _) hBx
        have t5 : True := trivial
        go_wp2_with (first
          | (have _t := t5; refine wpList_append_own _ rfl _ _ 75 rfl w.heap.size 9 i0 (.string .empty) 1 16 Try.underlying75 hi0 hz0 hz1 hz2 rfl (by decide) _ _ _ rfl (hownx.alloc _) ⟨w4.heap.size, 0, none⟩ 1 1 [.string (str (midL x))] rfl rfl (cells_new _ _ _) (by simp [Value.oneCell']) (by unfold maxLen; omega) (by omega) (by have := hbw4.size; simp; omega) ?_; intro v5 w5 hown5 hgrow5 _; clear t5))
        have hb5 : Below w.heap.size w w5 := (hbw4.alloc hbw4.size _).grown hgrow5 (by have := hbw4.size; simp; omega) (fun k hk => (hownx.lt k hk).1)
        go_roundw
        case rel => exact ⟨k + 1, by omega, by go_num, by rw [Hs.out]; exact hown5, hb5⟩
        case measure => simp [intOf]; omega
      · have e : k = n := by omega
        subst e
        rw [List.take_of_length_le (by rw [Hl.out]; omega)] at hown
        by_cases h0 : k = 0
        · have hnil : linkL ls = [] := by have : ls = [] := List.eq_nil_of_length_eq_zero (by rw [Hl.out]; exact h0); rw [this]; rfl
          obtain ⟨A5, c5, rfl, -⟩ := Row.of_own hown
          subst h0
          have Hnil := Lib.hid hnil
          clear hnil hown
          go_wp2_with (go_at_call 43; refine (Try.strings_Join_none _ _ _ _).mono ?_; rintro e w2 ⟨rfl, rfl⟩)
          go_ret2
          exact ⟨by rw [Hnil.out]; rfl, hb⟩
        · rcases hown.2 with ⟨-, h⟩ | ⟨g, cap, cur, rfl, hbg, hcur, hcap, hmax, hsz, hpre⟩
          · exact absurd h h0
          · have hcells := hown.cells (g := g) rfl
            have hlen5 : ((ls.map midL).map str).length = k := by simp [Hl.out]
            have hj : Lib.join (((ls.map midL).map str).map (·.data.toList)) (str [32]).data.toList = linkL ls := by
              unfold linkL
              congr 1
              · rw [List.map_map]
                conv => rhs; rw [← List.map_id (ls.map midL)]
                exact List.map_congr_left (fun a _ => by simp [str])
            have hJ := Try.strings_Join g 0 cap ((ls.map midL).map str) (str [32]) wr (by
              intro j x hx
              have := hcells j (.string x) (by
                unfold strsV
                rw [List.getElem?_map] at hx ⊢
                cases hq : (ls.map midL)[j]? with
                | none => rw [hq] at hx; cases hx
                | some y => rw [hq] at hx; injection hx with hx; rw [← hx]; rfl)
              rwa [Addr.add_mid] at this) (hown.lt g rfl).2 (by rw [hlen5]; omega) (by rw [hlen5]; exact hcap) (by rw [hj]; have := Hlen.out; omega)
            rw [hlen5, hj] at hJ
            have HJ := Lib.hid hJ
            clear hcells hlen5 hj hJ hcur hpre h0 hsz
            go_wp2_with fail
            refine HJ.out.mono ?_
            rintro e w2 ⟨rfl, hb2⟩
            go_wp2
            go_ret2
            exact ⟨rfl, below_then hb (Nat.le_refl _) hb2⟩
  · have HP : Hid (prL ls = []) := Lib.hid (by unfold prL; rw [if_neg hE])
    rw [HP.out]
    generalize hc : chk ls = E at *
    have HE := Lib.hid hc
    have hne : ((E : Int) != 0) = true := by rw [bne_iff_ne]; omega
    clear hln hE hc
    go_enter Try.func27, Try.ntmps27
    go_wp2_with fail
    refine (check_calls A ls c n Hl.out _ hl).mono ?_
    rw [HE.out]
    rintro e w1 ⟨rfl, hb1⟩
    go_wp2
    go_ret2
    exact ⟨rfl, hb1⟩
end Go.Proofs.Ytafpndmoognjlaa
