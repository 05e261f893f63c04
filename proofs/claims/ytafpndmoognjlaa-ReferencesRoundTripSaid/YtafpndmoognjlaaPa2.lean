/- Parse of the reference, walked. -/
import Derived.Test.YtafpndmoognjlaaPa1
import Derived.Test.YtafpndmoognjlaaR2
namespace Go.Proofs.Ytafpndmoognjlaa
open Go.ChangeShapes Go.WideShapes Go.ChangeAt Go.RowKit

/-- the answer of a Parse -/
def ParPost (R : List (List UInt8) × Nat × Nat) (e0 : Ending) (w w' : World) : Prop :=
  ∃ A n c, e0 = .returned (.tuple #[.slice A n c, .int .i64 R.2.1, .int .i64 R.2.2]) ∧ R.1.length = n ∧ n ≤ c ∧ c ≤ maxLen ∧ Ids w' A R.1 ∧ Below w.heap.size w w'
theorem own_ids_new {w : World} {base : Nat} {e : TypeId} {n : Nat} {v : Value} {out : List (List UInt8)} {U : List UInt8} (h : w.ownsRow base e 32 v (n + 1) (out.flatMap idc ++ [U].flatMap idc)) (hn : out.length = n) : w.ownsRow base e 32 v (out ++ [U]).length ((out ++ [U]).flatMap idc) := by
  rw [List.flatMap_append, List.length_append, hn]; exact h
theorem parPost_err {R : List (List UInt8) × Nat × Nat} {w w' : World} {i e : Nat} (h : R = ([], i, e)) (hb : Below w.heap.size w w') : ParPost R (.returned (.tuple #[.slice none 0 0, .int .i64 i, .int .i64 e])) w w' := by
  subst h
  exact ⟨none, 0, 0, rfl, rfl, Nat.le_refl _, Nat.zero_le _, Ids.nil _ _, hb⟩

set_option maxRecDepth 100000 in
set_option maxHeartbeats 3200000 in
theorem rparse_calls (l : List UInt8) (hl : l.length ≤ 100000) (w : World) :
    Calls Try.prog 26 #[.string (str l)] w fun e w' => ParPost (parS l) e w w' := by
  obtain ⟨i0, hi0, hz0, hz1, hz2⟩ := info_parts info38
  have HR : Hid (parS l = pgo l l.length 0 []) := Lib.hid rfl
  generalize parS l = R at HR ⊢
  go_enter Try.func26, Try.ntmps26
  go_wp2_with fail
  go_loopw [5, 6] (fun v iv wr => ∃ (i f : Nat) (out : List (List UInt8)), i ≤ l.length ∧ l.length - i ≤ f ∧ iv = .int .i64 i ∧ (∀ x ∈ out, x.length = 32) ∧ out.length ≤ 20 ∧ pgo l f i out = R ∧ wr.ownsRow w.heap.size 38 32 v out.length (out.flatMap idc) ∧ Below w.heap.size w wr) (fun _ iv _ => l.length - (intOf iv).toNat)
  case atStart => exact ⟨0, l.length, [], Nat.zero_le _, by omega, rfl, by simp, by simp, HR.out.symm, World.ownsRow_nil _ _ _ _, Below.refl _ _⟩
  case round =>
    obtain ⟨i, f, out, hi, hf, rfl, h32, h20, hR, hown, hB⟩ := hrel
    by_cases hlt : i < l.length
    · obtain ⟨f, rfl⟩ : ∃ f', f = f' + 1 := ⟨f - 1, by omega⟩
      obtain ⟨x, hx⟩ := get_le hlt
      have bx := byteAt_of hx
      have i1 : (i : Int) < l.length := by omega
      by_cases hbl : blankB x = true
      · rw [pgo_blank hx hbl] at hR
        have H := Lib.hid hR
        clear hR hx
        go_wp2_with (go_at_call 40; refine (rblank_calls x _).mono ?_; rintro e w' ⟨rfl, rfl⟩)
        go_roundw
        case rel => exact ⟨i + 1, f, out, by omega, by omega, by go_num, h32, h20, H.out, hown, hB⟩
        case measure => simp [intOf]; omega
      · have hbl : blankB x = false := by simpa using hbl
        rw [pgo_tok hx hbl] at hR
        have hK1 := tokEnd_on hx hbl
        have hK2 := le_tokEnd l (i + 1)
        have hK3 := tokEnd_le (l := l) (i := i) hi
        obtain ⟨K, hK⟩ : ∃ K, tokEnd l i = K := ⟨_, rfl⟩
        obtain ⟨T, hT⟩ : ∃ T, tok l i = T := ⟨_, rfl⟩
        have htk : (l.drop i).take (K - i) = T := by rw [← hK, ← hT]; rfl
        have hTl : T.length ≤ 1000000000 := by rw [← htk, List.length_take, List.length_drop]; omega
        rw [hT, hK] at hR
        have H := Lib.hid hR
        have HK := Lib.hid hK
        rw [hK] at hK1 hK3
        rw [← hK1] at hK2
        obtain ⟨A, c, rfl, -, hlc, hcm, hI, -⟩ := Ids.of_own hown h32
        clear hR hK hK1 hx hT
        go_wp2_with (go_at_call 40; refine (rblank_calls x _).mono ?_; rintro e w' ⟨rfl, rfl⟩)
        go_loop [7] (fun jv => ∃ m : Nat, i ≤ m ∧ m ≤ l.length ∧ jv = .int .i64 m ∧ tokEnd l m = K) (fun jv => l.length - (intOf jv).toNat)
        case atStart => exact ⟨i, Nat.le_refl _, hi, rfl, HK.out⟩
        case round =>
          obtain ⟨m, him, hm, rfl, hmK⟩ := hrel
          have HmK := Lib.hid hmK
          clear hmK
          by_cases hex : m = K
          · subst hex
            by_cases hml : m < l.length
            · obtain ⟨y, hy⟩ := get_le hml
              have hb2 : blankB y = true := by
                cases hq : blankB y with
                | true => rfl
                | false => have := tokEnd_on hy hq; rw [HmK.out] at this; have := le_tokEnd l (m + 1); omega
              have hby := byteAt_of hy
              have i2 : (m : Int) < l.length := by omega
              clear hy
              have hm' : m ≤ l.length := by omega
              have hmi : i < m := by omega
              by_cases h20e : out.length = 20
              · have hR1 := H.out
                rw [if_pos h20e] at hR1
                have hA' : ((out.length : Int) == 20) = true := by rw [beq_iff_eq]; omega
                have HR1 := Lib.hid hR1
                clear h20e hR1
                go_wp2_with (go_at_call 40; refine (rblank_calls y _).mono ?_; rintro e w' ⟨rfl, rfl⟩)
                go_ret3
                exact parPost_err HR1.out.symm hB
              · have hR1 := H.out
                rw [if_neg h20e] at hR1
                have hA' : ((out.length : Int) == 20) = false := by rw [beq_eq_false_iff_ne]; omega
                have h19 : out.length < 20 := by omega
                clear h20e
                have t1 : True := trivial
                have t2 : True := trivial
                cases hok : okM T with
                | false =>
                  rw [hok, if_pos rfl] at hR1
                  have HR1 := Lib.hid hR1
                  have hid := identity_no T hTl hok
                  have Hid' := Lib.hid hid
                  clear hR1 hid hok
                  go_wp2_with (go_at_call 40; refine (rblank_calls y _).mono ?_; rintro e w' ⟨rfl, rfl⟩)
                  refine (Hid'.out _).mono ?_
                  rintro e w2 ⟨rfl, hb2⟩
                  go_wp2_with (first
                    | (have _t := t1; refine wpList_alloc rfl rfl 38 (idc zid0).toArray (by kernel_rfl) ?_; intro w3 hb3 hg3 hs3; simp only [Act.put, List.setIfInBounds_toArray, List.set_cons_succ, List.set_cons_zero]; clear t1)
                    | (have _t := t2; refine wpList_store_box rfl 38 _ _ rfl w2.heap.size (idc zid0) rfl rfl hb3 rfl (by rw [idc_length, zid0_len]; kernel_rfl) (idc_one _) ?_; intro w4 hb4 hg4 hs4; simp only [Act.put, List.setIfInBounds_toArray, List.set_cons_succ, List.set_cons_zero]; clear t2))
                  go_ret3
                  exact parPost_err HR1.out.symm (below_then (below_then hB (Nat.le_refl _) hb2) (Nat.le_refl _) (below_box hg3 hg4))
                | true =>
                  rw [hok, if_neg (by simp)] at hR1
                  have hid := identity_ok T hTl hok
                  have hU32 := unh_len T
                  have hzl := zid_len
                  obtain ⟨U, hU⟩ : ∃ U, unh T = U := ⟨_, rfl⟩
                  rw [hU] at hid hR1 hU32
                  have Hid' := Lib.hid hid
                  clear hid hok hU
                  have t3 : True := trivial
                  have t4 : True := trivial
                  by_cases hz : U = zid
                  · have hE : addE out U = 1 := by unfold addE; rw [if_pos hz]
                    rw [hE, if_pos (by omega)] at hR1
                    have HR1 := Lib.hid hR1
                    have Hz := Lib.hid hz
                    clear hR1 hE hz
                    go_wp2_with (go_at_call 40; refine (rblank_calls y _).mono ?_; rintro e w' ⟨rfl, rfl⟩)
                    refine (Hid'.out _).mono ?_
                    rintro e w2 ⟨rfl, hb2⟩
                    go_wp2_with (first
                      | (have _t := t1; refine wpList_alloc rfl rfl 38 (idc zid0).toArray (by kernel_rfl) ?_; intro w3 hb3 hg3 hs3; simp only [Act.put, List.setIfInBounds_toArray, List.set_cons_succ, List.set_cons_zero]; clear t1)
                      | (have _t := t2; refine wpList_store_box rfl 38 _ _ rfl w2.heap.size (idc U) rfl rfl hb3 (by rw [List.size_toArray, idc_length, idc_length, hU32]; rfl) (by rw [idc_length, hU32]; kernel_rfl) (idc_one _) ?_; intro w4 hb4 hg4 hs4; simp only [Act.put, List.setIfInBounds_toArray, List.set_cons_succ, List.set_cons_zero]; clear t2)
                      | (have _t := t3; refine wpList_load_id rfl 38 _ rfl _ rfl U isId_ref (hb4.id_at hU32) ?_; simp only [Act.put, List.setIfInBounds_toArray, List.set_cons_succ, List.set_cons_zero]; clear t3)
                      | (have _t := t4; refine wpList_value rfl rfl (idv zid) (by kernel_rfl) ?_; rw [Hz.out]; simp only [Act.put, List.setIfInBounds_toArray, List.set_cons_succ, List.set_cons_zero]; clear t4))
                    go_ret3
                    exact parPost_err HR1.out.symm (below_then (below_then hB (Nat.le_refl _) hb2) (Nat.le_refl _) (below_box hg3 hg4))
                  · have t5 : True := trivial
                    by_cases hm : U ∈ out
                    · have hE : addE out U = 7 := by unfold addE; rw [if_neg hz, if_pos hm]
                      rw [hE, if_pos (by omega)] at hR1
                      have HR1 := Lib.hid hR1
                      have hhas := fun W (hW : Ids W A out) => has_calls A out c out.length U hU32 rfl (by omega) W hW
                      rw [decide_eq_true hm] at hhas
                      have Hhas := Lib.hid hhas
                      clear hR1 hE hm hhas
                      go_wp2_with (go_at_call 40; refine (rblank_calls y _).mono ?_; rintro e w' ⟨rfl, rfl⟩)
                      refine (Hid'.out _).mono ?_
                      rintro e w2 ⟨rfl, hb2⟩
                      go_wp2_with (first
                        | (have _t := t1; refine wpList_alloc rfl rfl 38 (idc zid0).toArray (by kernel_rfl) ?_; intro w3 hb3 hg3 hs3; simp only [Act.put, List.setIfInBounds_toArray, List.set_cons_succ, List.set_cons_zero]; clear t1)
                        | (have _t := t2; refine wpList_store_box rfl 38 _ _ rfl w2.heap.size (idc U) rfl rfl hb3 (by rw [List.size_toArray, idc_length, idc_length, hU32]; rfl) (by rw [idc_length, hU32]; kernel_rfl) (idc_one _) ?_; intro w4 hb4 hg4 hs4; simp only [Act.put, List.setIfInBounds_toArray, List.set_cons_succ, List.set_cons_zero]; clear t2)
                        | (have _t := t3; refine wpList_load_id rfl 38 _ rfl _ rfl U isId_ref (hb4.id_at hU32) ?_; simp only [Act.put, List.setIfInBounds_toArray, List.set_cons_succ, List.set_cons_zero]; clear t3)
                        | (have _t := t4; refine wpList_value rfl rfl (idv zid) (by kernel_rfl) ?_; simp only [Act.put, List.setIfInBounds_toArray, List.set_cons_succ, List.set_cons_zero]; clear t4)
                        | (have _t := t5; refine wpList_load_id rfl 38 _ rfl _ rfl U isId_ref (hb4.id_at hU32) ?_; simp only [Act.put, List.setIfInBounds_toArray, List.set_cons_succ, List.set_cons_zero]; clear t5))
                      refine (Hhas.out _ ((hI.below hb2).below (below_box hg3 hg4))).mono ?_
                      rintro e w5 ⟨rfl, hb5⟩
                      go_wp2
                      go_ret3
                      exact parPost_err HR1.out.symm (below_then (below_then (below_then hB (Nat.le_refl _) hb2) (Nat.le_refl _) (below_box hg3 hg4)) (Nat.le_refl _) hb5)
                    · have hE : addE out U = 0 := by unfold addE; rw [if_neg hz, if_neg hm]
                      rw [hE, if_neg (by omega)] at hR1
                      have HR1 := Lib.hid hR1
                      have hhas := fun W (hW : Ids W A out) => has_calls A out c out.length U hU32 rfl (by omega) W hW
                      rw [decide_eq_false hm] at hhas
                      have Hhas := Lib.hid hhas
                      have hU1 : ∀ l ∈ [U], l.length = 32 := by simpa using hU32
                      clear hR1 hE hm hhas
                      have t6 : True := trivial
                      have t7 : True := trivial
                      have t8 : True := trivial
                      go_wp2_with (go_at_call 40; refine (rblank_calls y _).mono ?_; rintro e w' ⟨rfl, rfl⟩)
                      refine (Hid'.out _).mono ?_
                      rintro e w2 ⟨rfl, hb2⟩
                      go_wp2_with (first
                        | (have _t := t1; refine wpList_alloc rfl rfl 38 (idc zid0).toArray (by kernel_rfl) ?_; intro w3 hb3 hg3 hs3; simp only [Act.put, List.setIfInBounds_toArray, List.set_cons_succ, List.set_cons_zero]; clear t1)
                        | (have _t := t2; refine wpList_store_box rfl 38 _ _ rfl w2.heap.size (idc U) rfl rfl hb3 (by rw [List.size_toArray, idc_length, idc_length, hU32]; rfl) (by rw [idc_length, hU32]; kernel_rfl) (idc_one _) ?_; intro w4 hb4 hg4 hs4; simp only [Act.put, List.setIfInBounds_toArray, List.set_cons_succ, List.set_cons_zero]; clear t2)
                        | (have _t := t3; refine wpList_load_id rfl 38 _ rfl _ rfl U isId_ref (hb4.id_at hU32) ?_; simp only [Act.put, List.setIfInBounds_toArray, List.set_cons_succ, List.set_cons_zero]; clear t3)
                        | (have _t := t4; refine wpList_value rfl rfl (idv zid) (by kernel_rfl) ?_; simp only [Act.put, List.setIfInBounds_toArray, List.set_cons_succ, List.set_cons_zero]; clear t4)
                        | (have _t := t5; refine wpList_load_id rfl 38 _ rfl _ rfl U isId_ref (hb4.id_at hU32) ?_; simp only [Act.put, List.setIfInBounds_toArray, List.set_cons_succ, List.set_cons_zero]; clear t5))
                      have hB4 := below_then hb2 (Nat.le_refl _) (below_box hg3 hg4)
                      refine (Hhas.out _ (hI.below hB4)).mono ?_
                      rintro e w5 ⟨rfl, hb5⟩
                      have hB5 := below_then hB4 (Nat.le_refl _) hb5
                      have hown5 := own_below hown hB5
                      have hbx5 := hb4.below hb5 hb4.lt
                      have hBB := below_then hB (Nat.le_refl _) hB5
                      clear hb2 hb3 hg3 hs3 hb4 hg4 hs4 hb5 hown
                      go_wp2_with (first
                        | (have _t := t6; refine wpList_load_id rfl 38 _ rfl _ rfl U isId_ref (hbx5.id_at hU32) ?_; simp only [Act.put, List.setIfInBounds_toArray, List.set_cons_succ, List.set_cons_zero]; clear t6)
                        | (have _t := t7; refine wpList_build_ids rfl 22 1 _ rfl Try.underlying22 hi0 hz0 hz1 [U] rfl hU1 (by simp) (by simp) rfl ?_; simp only [Act.put, List.setIfInBounds_toArray, List.set_cons_succ, List.set_cons_zero]; clear t7)
                        | (have _t := t8; at_builtin; go_must (refine wpList_append_own _ rfl _ _ 22 rfl w.heap.size 38 i0 _ 32 32 Try.underlying22 hi0 hz0 hz1 hz2 rfl (by decide) _ _ _ rfl (hown5.alloc _) ⟨w5.heap.size, 0, none⟩ 1 1 ([U].flatMap idc) rfl (flat_length [U] hU1) (cells_new _ _ _) (flat_one _) (by unfold maxLen; omega) (by omega) (by have := hBB.size; simp; omega) ?_; intro v' w6 hown6 hgrow _); clear t8))
                      go_roundw
                      case rel =>
                        refine ⟨m, f, out ++ [U], hm', by omega, rfl, fun x hx => ?_, by simp; omega, HR1.out, own_ids_new hown6 rfl, (hBB.alloc hBB.size _).grown hgrow (by have := hBB.size; simp; omega) (fun k hk => (hown5.lt k hk).1)⟩
                        rcases List.mem_append.1 hx with hx | hx
                        · exact h32 x hx
                        · rw [List.mem_singleton.1 hx]; exact hU32
                      case measure => simp [intOf]; omega
            · have i2 : ¬ (m : Int) < l.length := by omega
              have hm' : m ≤ l.length := by omega
              have hmi : i < m := by omega
              by_cases h20e : out.length = 20
              · have hR1 := H.out
                rw [if_pos h20e] at hR1
                have hA' : ((out.length : Int) == 20) = true := by rw [beq_iff_eq]; omega
                have HR1 := Lib.hid hR1
                clear h20e hR1
                go_wp2_with fail
                go_ret3
                exact parPost_err HR1.out.symm hB
              · have hR1 := H.out
                rw [if_neg h20e] at hR1
                have hA' : ((out.length : Int) == 20) = false := by rw [beq_eq_false_iff_ne]; omega
                have h19 : out.length < 20 := by omega
                clear h20e
                have t1 : True := trivial
                have t2 : True := trivial
                cases hok : okM T with
                | false =>
                  rw [hok, if_pos rfl] at hR1
                  have HR1 := Lib.hid hR1
                  have hid := identity_no T hTl hok
                  have Hid' := Lib.hid hid
                  clear hR1 hid hok
                  go_wp2_with fail
                  refine (Hid'.out _).mono ?_
                  rintro e w2 ⟨rfl, hb2⟩
                  go_wp2_with (first
                    | (have _t := t1; refine wpList_alloc rfl rfl 38 (idc zid0).toArray (by kernel_rfl) ?_; intro w3 hb3 hg3 hs3; simp only [Act.put, List.setIfInBounds_toArray, List.set_cons_succ, List.set_cons_zero]; clear t1)
                    | (have _t := t2; refine wpList_store_box rfl 38 _ _ rfl w2.heap.size (idc zid0) rfl rfl hb3 rfl (by rw [idc_length, zid0_len]; kernel_rfl) (idc_one _) ?_; intro w4 hb4 hg4 hs4; simp only [Act.put, List.setIfInBounds_toArray, List.set_cons_succ, List.set_cons_zero]; clear t2))
                  go_ret3
                  exact parPost_err HR1.out.symm (below_then (below_then hB (Nat.le_refl _) hb2) (Nat.le_refl _) (below_box hg3 hg4))
                | true =>
                  rw [hok, if_neg (by simp)] at hR1
                  have hid := identity_ok T hTl hok
                  have hU32 := unh_len T
                  have hzl := zid_len
                  obtain ⟨U, hU⟩ : ∃ U, unh T = U := ⟨_, rfl⟩
                  rw [hU] at hid hR1 hU32
                  have Hid' := Lib.hid hid
                  clear hid hok hU
                  have t3 : True := trivial
                  have t4 : True := trivial
                  by_cases hz : U = zid
                  · have hE : addE out U = 1 := by unfold addE; rw [if_pos hz]
                    rw [hE, if_pos (by omega)] at hR1
                    have HR1 := Lib.hid hR1
                    have Hz := Lib.hid hz
                    clear hR1 hE hz
                    go_wp2_with fail
                    refine (Hid'.out _).mono ?_
                    rintro e w2 ⟨rfl, hb2⟩
                    go_wp2_with (first
                      | (have _t := t1; refine wpList_alloc rfl rfl 38 (idc zid0).toArray (by kernel_rfl) ?_; intro w3 hb3 hg3 hs3; simp only [Act.put, List.setIfInBounds_toArray, List.set_cons_succ, List.set_cons_zero]; clear t1)
                      | (have _t := t2; refine wpList_store_box rfl 38 _ _ rfl w2.heap.size (idc U) rfl rfl hb3 (by rw [List.size_toArray, idc_length, idc_length, hU32]; rfl) (by rw [idc_length, hU32]; kernel_rfl) (idc_one _) ?_; intro w4 hb4 hg4 hs4; simp only [Act.put, List.setIfInBounds_toArray, List.set_cons_succ, List.set_cons_zero]; clear t2)
                      | (have _t := t3; refine wpList_load_id rfl 38 _ rfl _ rfl U isId_ref (hb4.id_at hU32) ?_; simp only [Act.put, List.setIfInBounds_toArray, List.set_cons_succ, List.set_cons_zero]; clear t3)
                      | (have _t := t4; refine wpList_value rfl rfl (idv zid) (by kernel_rfl) ?_; rw [Hz.out]; simp only [Act.put, List.setIfInBounds_toArray, List.set_cons_succ, List.set_cons_zero]; clear t4))
                    go_ret3
                    exact parPost_err HR1.out.symm (below_then (below_then hB (Nat.le_refl _) hb2) (Nat.le_refl _) (below_box hg3 hg4))
                  · have t5 : True := trivial
                    by_cases hm : U ∈ out
                    · have hE : addE out U = 7 := by unfold addE; rw [if_neg hz, if_pos hm]
                      rw [hE, if_pos (by omega)] at hR1
                      have HR1 := Lib.hid hR1
                      have hhas := fun W (hW : Ids W A out) => has_calls A out c out.length U hU32 rfl (by omega) W hW
                      rw [decide_eq_true hm] at hhas
                      have Hhas := Lib.hid hhas
                      clear hR1 hE hm hhas
                      go_wp2_with fail
                      refine (Hid'.out _).mono ?_
                      rintro e w2 ⟨rfl, hb2⟩
                      go_wp2_with (first
                        | (have _t := t1; refine wpList_alloc rfl rfl 38 (idc zid0).toArray (by kernel_rfl) ?_; intro w3 hb3 hg3 hs3; simp only [Act.put, List.setIfInBounds_toArray, List.set_cons_succ, List.set_cons_zero]; clear t1)
                        | (have _t := t2; refine wpList_store_box rfl 38 _ _ rfl w2.heap.size (idc U) rfl rfl hb3 (by rw [List.size_toArray, idc_length, idc_length, hU32]; rfl) (by rw [idc_length, hU32]; kernel_rfl) (idc_one _) ?_; intro w4 hb4 hg4 hs4; simp only [Act.put, List.setIfInBounds_toArray, List.set_cons_succ, List.set_cons_zero]; clear t2)
                        | (have _t := t3; refine wpList_load_id rfl 38 _ rfl _ rfl U isId_ref (hb4.id_at hU32) ?_; simp only [Act.put, List.setIfInBounds_toArray, List.set_cons_succ, List.set_cons_zero]; clear t3)
                        | (have _t := t4; refine wpList_value rfl rfl (idv zid) (by kernel_rfl) ?_; simp only [Act.put, List.setIfInBounds_toArray, List.set_cons_succ, List.set_cons_zero]; clear t4)
                        | (have _t := t5; refine wpList_load_id rfl 38 _ rfl _ rfl U isId_ref (hb4.id_at hU32) ?_; simp only [Act.put, List.setIfInBounds_toArray, List.set_cons_succ, List.set_cons_zero]; clear t5))
                      refine (Hhas.out _ ((hI.below hb2).below (below_box hg3 hg4))).mono ?_
                      rintro e w5 ⟨rfl, hb5⟩
                      go_wp2
                      go_ret3
                      exact parPost_err HR1.out.symm (below_then (below_then (below_then hB (Nat.le_refl _) hb2) (Nat.le_refl _) (below_box hg3 hg4)) (Nat.le_refl _) hb5)
                    · have hE : addE out U = 0 := by unfold addE; rw [if_neg hz, if_neg hm]
                      rw [hE, if_neg (by omega)] at hR1
                      have HR1 := Lib.hid hR1
                      have hhas := fun W (hW : Ids W A out) => has_calls A out c out.length U hU32 rfl (by omega) W hW
                      rw [decide_eq_false hm] at hhas
                      have Hhas := Lib.hid hhas
                      have hU1 : ∀ l ∈ [U], l.length = 32 := by simpa using hU32
                      clear hR1 hE hm hhas
                      have t6 : True := trivial
                      have t7 : True := trivial
                      have t8 : True := trivial
                      go_wp2_with fail
                      refine (Hid'.out _).mono ?_
                      rintro e w2 ⟨rfl, hb2⟩
                      go_wp2_with (first
                        | (have _t := t1; refine wpList_alloc rfl rfl 38 (idc zid0).toArray (by kernel_rfl) ?_; intro w3 hb3 hg3 hs3; simp only [Act.put, List.setIfInBounds_toArray, List.set_cons_succ, List.set_cons_zero]; clear t1)
                        | (have _t := t2; refine wpList_store_box rfl 38 _ _ rfl w2.heap.size (idc U) rfl rfl hb3 (by rw [List.size_toArray, idc_length, idc_length, hU32]; rfl) (by rw [idc_length, hU32]; kernel_rfl) (idc_one _) ?_; intro w4 hb4 hg4 hs4; simp only [Act.put, List.setIfInBounds_toArray, List.set_cons_succ, List.set_cons_zero]; clear t2)
                        | (have _t := t3; refine wpList_load_id rfl 38 _ rfl _ rfl U isId_ref (hb4.id_at hU32) ?_; simp only [Act.put, List.setIfInBounds_toArray, List.set_cons_succ, List.set_cons_zero]; clear t3)
                        | (have _t := t4; refine wpList_value rfl rfl (idv zid) (by kernel_rfl) ?_; simp only [Act.put, List.setIfInBounds_toArray, List.set_cons_succ, List.set_cons_zero]; clear t4)
                        | (have _t := t5; refine wpList_load_id rfl 38 _ rfl _ rfl U isId_ref (hb4.id_at hU32) ?_; simp only [Act.put, List.setIfInBounds_toArray, List.set_cons_succ, List.set_cons_zero]; clear t5))
                      have hB4 := below_then hb2 (Nat.le_refl _) (below_box hg3 hg4)
                      refine (Hhas.out _ (hI.below hB4)).mono ?_
                      rintro e w5 ⟨rfl, hb5⟩
                      have hB5 := below_then hB4 (Nat.le_refl _) hb5
                      have hown5 := own_below hown hB5
                      have hbx5 := hb4.below hb5 hb4.lt
                      have hBB := below_then hB (Nat.le_refl _) hB5
                      clear hb2 hb3 hg3 hs3 hb4 hg4 hs4 hb5 hown
                      go_wp2_with (first
                        | (have _t := t6; refine wpList_load_id rfl 38 _ rfl _ rfl U isId_ref (hbx5.id_at hU32) ?_; simp only [Act.put, List.setIfInBounds_toArray, List.set_cons_succ, List.set_cons_zero]; clear t6)
                        | (have _t := t7; refine wpList_build_ids rfl 22 1 _ rfl Try.underlying22 hi0 hz0 hz1 [U] rfl hU1 (by simp) (by simp) rfl ?_; simp only [Act.put, List.setIfInBounds_toArray, List.set_cons_succ, List.set_cons_zero]; clear t7)
                        | (have _t := t8; at_builtin; go_must (refine wpList_append_own _ rfl _ _ 22 rfl w.heap.size 38 i0 _ 32 32 Try.underlying22 hi0 hz0 hz1 hz2 rfl (by decide) _ _ _ rfl (hown5.alloc _) ⟨w5.heap.size, 0, none⟩ 1 1 ([U].flatMap idc) rfl (flat_length [U] hU1) (cells_new _ _ _) (flat_one _) (by unfold maxLen; omega) (by omega) (by have := hBB.size; simp; omega) ?_; intro v' w6 hown6 hgrow _); clear t8))
                      go_roundw
                      case rel =>
                        refine ⟨m, f, out ++ [U], hm', by omega, rfl, fun x hx => ?_, by simp; omega, HR1.out, own_ids_new hown6 rfl, (hBB.alloc hBB.size _).grown hgrow (by have := hBB.size; simp; omega) (fun k hk => (hown5.lt k hk).1)⟩
                        rcases List.mem_append.1 hx with hx | hx
                        · exact h32 x hx
                        · rw [List.mem_singleton.1 hx]; exact hU32
                      case measure => simp [intOf]; omega
          · have hml : m < l.length := by
              rcases Nat.lt_or_ge m l.length with h | h
              · exact h
              · exact absurd ((tokEnd_end h).symm.trans HmK.out) hex
            obtain ⟨y, hy⟩ := get_le hml
            have hb2 : blankB y = false := by
              cases hq : blankB y with
              | false => rfl
              | true => exact absurd ((tokEnd_blank hy hq).symm.trans HmK.out) hex
            have e := tokEnd_on hy hb2
            rw [HmK.out] at e
            have hby := byteAt_of hy
            have i2 : (m : Int) < l.length := by omega
            have He := Lib.hid e
            clear hy e hex
            go_wp2_with (go_at_call 40; refine (rblank_calls y _).mono ?_; rintro e w' ⟨rfl, rfl⟩)
            go_round
            case rel => exact ⟨m + 1, by omega, by omega, by go_num, He.out.symm⟩
            case measure => simp [intOf]; omega
    · have e : i = l.length := by omega
      have hR2 := hR
      rw [pgo_end (by omega)] at hR2
      subst hR2
      obtain ⟨A, c, rfl, -, h5, h6, h7, -⟩ := Ids.of_own hown h32
      clear hR
      go_wp2
      go_ret3
      exact ⟨A, out.length, c, rfl, rfl, h5, h6, h7, hB⟩
end Go.Proofs.Ytafpndmoognjlaa
