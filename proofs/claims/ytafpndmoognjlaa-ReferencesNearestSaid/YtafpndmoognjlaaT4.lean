/- known of chapter 14 returns true in every world; no conditions. -/
import Derived.Test.YtafpndmoognjlaaT3
namespace Go.Proofs.Ytafpndmoognjlaa
open Go.ChangeShapes Go.WideShapes Go.ChangeAt Go.RowKit

/-- the identity whose first byte is k -/
def idk (k : UInt8) : List UInt8 := k :: List.replicate 31 0
theorem idk_len (k : UInt8) : (idk k).length = 32 := rfl
def zid : List UInt8 := List.replicate 32 0

theorem known_trim {e : Ending} {w w' : World} (h : TrimPost e w w' [idk 1, idk 2, idk 3] 2) :
    ∃ A c, e = .returned (.tuple #[.slice A 2 c, .int .i64 0]) ∧ 2 ≤ c ∧ c ≤ maxLen ∧ Ids w' A [idk 1, idk 3] ∧ Below w.heap.size w w' := by
  obtain ⟨A, c, n, he, hn, h1, h2, h3, h4⟩ := h
  have e1 : n = 2 := hn
  subst e1
  exact ⟨A, c, he, h1, h2, h3, h4⟩
theorem two_ids {w : World} {A : Option Addr} {x y : List UInt8} (h : Ids w A [x, y]) : ∃ ad, A = some ad ∧ IdAt w ad x ∧ IdAt w (ad.add 32) y := by
  obtain ⟨ad, u, hA, hu, _, hx⟩ := h.at_ (k := 0) (by simp)
  obtain ⟨ad', v, hA', hv, _, hy⟩ := h.at_ (k := 1) (by simp)
  rw [hA] at hA'
  injection hA' with e
  subst e
  simp at hu hv
  subst hu hv
  exact ⟨ad, hA, by simpa [Addr.add] using hx, by simpa using hy⟩
theorem ids_new (w : World) (e : TypeId) (ls : List (List UInt8)) (h : ∀ l ∈ ls, l.length = 32) : Ids (w.alloc (.cells (ls.flatMap idc).toArray e)) (some ⟨w.heap.size, 0, none⟩) ls := ⟨Row.new _ _ _, h⟩

set_option maxRecDepth 100000 in
set_option maxHeartbeats 1000000 in
theorem known_calls (w : World) :
    Calls Try.prog 11 #[] w fun e w' => e = .returned (.bool true) ∧ Below w.heap.size w w' := by
  obtain ⟨i0, hi0, hz0, hz1, hz2⟩ := info_parts info33
  have t1 : True := trivial
  have t2 : True := trivial
  have t3 : True := trivial
  have t4 : True := trivial
  have t5 : True := trivial
  have t6 : True := trivial
  have t7 : True := trivial
  have t8 : True := trivial
  have t9 : True := trivial
  have t10 : True := trivial
  have t11 : True := trivial
  have t12 : True := trivial
  have t13 : True := trivial
  have t14 : True := trivial
  go_enter Try.func11, Try.ntmps11
  go_wp2_with (first
    | (have _t := t1; refine wpList_value rfl rfl (idv (idk 1)) (by kernel_rfl) ?_; simp only [Act.put, List.setIfInBounds_toArray, List.set_cons_succ, List.set_cons_zero]; clear t1)
    | (have _t := t2; refine wpList_value rfl rfl (idv (idk 2)) (by kernel_rfl) ?_; simp only [Act.put, List.setIfInBounds_toArray, List.set_cons_succ, List.set_cons_zero]; clear t2)
    | (have _t := t3; refine wpList_value rfl rfl (idv (idk 3)) (by kernel_rfl) ?_; simp only [Act.put, List.setIfInBounds_toArray, List.set_cons_succ, List.set_cons_zero]; clear t3)
    | (have _t := t4; refine wpList_alloc rfl rfl 33 (idc zid).toArray (by kernel_rfl) ?_; intro w1 hb1 hg1 hs1; simp only [Act.put, List.setIfInBounds_toArray, List.set_cons_succ, List.set_cons_zero]; clear t4)
    | (have _t := t5; refine wpList_alloc rfl rfl 33 (idc zid).toArray (by kernel_rfl) ?_; intro w2 hb2 hg2 hs2; simp only [Act.put, List.setIfInBounds_toArray, List.set_cons_succ, List.set_cons_zero]; clear t5)
    | (have _t := t6; refine wpList_alloc rfl rfl 33 (idc zid).toArray (by kernel_rfl) ?_; intro w3 hb3 hg3 hs3; simp only [Act.put, List.setIfInBounds_toArray, List.set_cons_succ, List.set_cons_zero]; clear t6)
    | (have _t := t7; refine wpList_store_box rfl 33 _ _ rfl w.heap.size (idc (idk 1)) rfl rfl (t := 33) ((hb1.grown hg2 (by simp)).grown hg3 (by simp)) rfl (by kernel_rfl) (idc_one _) ?_; intro w4 hb4 hg4 hs4; have Hs4 := Lib.hid hs4; clear hs4; simp only [Act.put, List.setIfInBounds_toArray, List.set_cons_succ, List.set_cons_zero]; clear t7)
    | (have _t := t8; refine wpList_store_box rfl 33 _ _ rfl w1.heap.size (idc (idk 2)) rfl rfl (t := 33) ((hb2.grown hg3 (by simp)).grown hg4 (by simp; omega)) rfl (by kernel_rfl) (idc_one _) ?_; intro w5 hb5 hg5 hs5; have Hs5 := Lib.hid hs5; clear hs5; simp only [Act.put, List.setIfInBounds_toArray, List.set_cons_succ, List.set_cons_zero]; clear t8)
    | (have _t := t9; refine wpList_store_box rfl 33 _ _ rfl w2.heap.size (idc (idk 3)) rfl rfl (t := 33) ((hb3.grown hg4 (by simp; omega)).grown hg5 (by simp; omega)) rfl (by kernel_rfl) (idc_one _) ?_; intro w6 hb6 hg6 hs6; have Hs6 := Lib.hid hs6; clear hs6; simp only [Act.put, List.setIfInBounds_toArray, List.set_cons_succ, List.set_cons_zero]; clear t9)
    | (have _t := t10; have A1 := (hb4.grown hg5 (by simp; omega)).grown hg6 (by simp; omega) |>.id_at (idk_len 1); refine wpList_load_id rfl 33 _ rfl _ rfl (idk 1) (by kernel_rfl) A1 ?_; simp only [Act.put, List.setIfInBounds_toArray, List.set_cons_succ, List.set_cons_zero]; clear t10)
    | (have _t := t11; have A2 := hb5.grown hg6 (by simp; omega) |>.id_at (idk_len 2); refine wpList_load_id rfl 33 _ rfl _ rfl (idk 2) (by kernel_rfl) A2 ?_; simp only [Act.put, List.setIfInBounds_toArray, List.set_cons_succ, List.set_cons_zero]; clear t11)
    | (have _t := t12; have A3 := hb6.id_at (idk_len 3); refine wpList_load_id rfl 33 _ rfl _ rfl (idk 3) (by kernel_rfl) A3 ?_; simp only [Act.put, List.setIfInBounds_toArray, List.set_cons_succ, List.set_cons_zero]; clear t12)
    | (have _t := t13; refine wpList_build_ids rfl 24 3 _ rfl Try.underlying24 hi0 hz0 hz1 [idk 1, idk 2, idk 3] rfl (by simp [idk_len]) (by simp) (by simp) rfl ?_; simp only [Act.put, List.setIfInBounds_toArray, List.set_cons_succ, List.set_cons_zero]; clear t13)
    | (go_at_call 12; refine (trimX_calls _ [idk 1, idk 2, idk 3] 3 3 2 rfl (by omega) (by omega) (by unfold maxLen; omega) _ (ids_new _ _ _ (by simp [idk_len]))).mono ?_; intro e w7 h7; obtain ⟨A, c, rfl, h2c, hcm, hI, hb7⟩ := known_trim h7; clear h7))
  have hw6 : Below w.heap.size w w6 := (((((((Below.refl w.heap.size w).grown hg1 (by omega) (by simp)).grown hg2 (by omega) (by simp)).grown hg3 (by omega) (by simp)).grown hg4 (by omega) (by simp)).grown hg5 (by have := Hs4.out; omega) (by simp; omega)).grown hg6 (by have := Hs4.out; have := Hs5.out; omega) (by simp; omega))
  have hbw : Below w.heap.size w w7 := (hw6.alloc hw6.size _).trans (hb7.mono (by have := hw6.size; simp; omega))
  have hw7 : w.heap.size ≤ w7.heap.size := hbw.size
  have B1 := ((hb4.grown hg5 (by simp; omega)).grown hg6 (by simp; omega) |>.id_at (idk_len 1)).alloc (.cells ([idk 1, idk 2, idk 3].flatMap idc).toArray 33) |>.below hb7
  have B2 := (hb5.grown hg6 (by simp; omega) |>.id_at (idk_len 2)).alloc (.cells ([idk 1, idk 2, idk 3].flatMap idc).toArray 33) |>.below hb7
  have B3 := (hb6.id_at (idk_len 3)).alloc (.cells ([idk 1, idk 2, idk 3].flatMap idc).toArray 33) |>.below hb7
  obtain ⟨ad, rfl, C1, C3⟩ := two_ids hI
  clear hg1 hg2 hg3 hg4 hg5 hg6 hs1 hs2 hs3 hb1 hb2 hb3 hb4 hb5 hb6
  have l1 := idk_len 1
  have l3 := idk_len 3
  have Hit : Hid (isTr [idk 1, idk 3] [idk 1, idk 2, idk 3] = true) := Lib.hid (by decide +kernel)
  refine wp_region_held_drew (S := fun W => Below w7.heap.size w7 W) (by kernel_rfl) (Below.refl _ _).drew (fun hS => ?_)
  refine wpAnyH_take (i := 0) (v := ?v1) rfl (by kernel_rfl) (by kernel_rfl) (by kernel_rfl) (fun _ _ _ h => h) (Or.inl ⟨by rfl, ?hy1⟩) hS ?rest1
  case hy1 => (intro W hW; go_simp; first | with_reducible rfl | (go_bits; first | with_reducible rfl | (go_simp; with_reducible rfl)))
  simp only [List.getElem_toArray, List.getElem_cons_succ, List.getElem_cons_zero, Act.put, List.setIfInBounds_toArray, List.set_cons_succ, List.set_cons_zero]
  refine wpAnyH_take (i := 1) (v := ?v2) rfl (by kernel_rfl) (by kernel_rfl) (by kernel_rfl) (fun _ _ _ h => h) (Or.inl ⟨by rfl, ?hy2⟩) hS ?rest2
  case hy2 => (intro W hW; go_simp; first | with_reducible rfl | (go_bits; first | with_reducible rfl | (go_simp; with_reducible rfl)))
  simp only [List.getElem_toArray, List.getElem_cons_succ, List.getElem_cons_zero, Act.put, List.setIfInBounds_toArray, List.set_cons_succ, List.set_cons_zero]
  refine wpAnyH_take (i := 2) (v := ?v3) rfl (by kernel_rfl) (by kernel_rfl) (by kernel_rfl) (fun _ _ _ h => h) (Or.inl ⟨by rfl, ?hy3⟩) hS ?rest3
  case hy3 => (intro W hW; go_simp; first | with_reducible rfl | (go_bits; first | with_reducible rfl | (go_simp; with_reducible rfl)))
  simp only [List.getElem_toArray, List.getElem_cons_succ, List.getElem_cons_zero, Act.put, List.setIfInBounds_toArray, List.set_cons_succ, List.set_cons_zero]
  refine wpAnyH_take (i := 3) (v := ?v4) rfl (by kernel_rfl) (by kernel_rfl) (by kernel_rfl) (fun _ _ _ h => h) (Or.inl ⟨by rfl, ?hy4⟩) hS ?rest4
  case hy4 => (intro W hW; go_simp; first | with_reducible rfl | (go_bits; first | with_reducible rfl | (go_simp; with_reducible rfl)))
  simp only [List.getElem_toArray, List.getElem_cons_succ, List.getElem_cons_zero, Act.put, List.setIfInBounds_toArray, List.set_cons_succ, List.set_cons_zero]
  refine wpAnyH_take (i := 4) (v := ?v5) rfl (by kernel_rfl) (by kernel_rfl) (by kernel_rfl) (fun _ _ _ h => h) (Or.inl ⟨by rfl, ?hy5⟩) hS ?rest5
  case hy5 => (intro W hW; go_simp; first | with_reducible rfl | (go_bits; first | with_reducible rfl | (go_simp; with_reducible rfl)))
  simp only [List.getElem_toArray, List.getElem_cons_succ, List.getElem_cons_zero, Act.put, List.setIfInBounds_toArray, List.set_cons_succ, List.set_cons_zero]
  refine wpAnyH_take (i := 5) (v := ?v6) rfl (by kernel_rfl) (by kernel_rfl) (by kernel_rfl) (fun _ _ _ h => h) (Or.inl ⟨by rfl, ?hy6⟩) hS ?rest6
  case hy6 => (intro W hW; go_simp; first | with_reducible rfl | (go_bits; first | with_reducible rfl | (go_simp; with_reducible rfl)))
  simp only [List.getElem_toArray, List.getElem_cons_succ, List.getElem_cons_zero, Act.put, List.setIfInBounds_toArray, List.set_cons_succ, List.set_cons_zero]
  refine wpAnyH_take (i := 6) (v := ?v7) rfl (by kernel_rfl) (by kernel_rfl) (by kernel_rfl) (fun _ _ _ h => h) (Or.inl ⟨by rfl, ?hy7⟩) hS ?rest7
  case hy7 => (intro W hW; go_simp; first | with_reducible rfl | (go_bits; first | with_reducible rfl | (go_simp; with_reducible rfl)))
  simp only [List.getElem_toArray, List.getElem_cons_succ, List.getElem_cons_zero, Act.put, List.setIfInBounds_toArray, List.set_cons_succ, List.set_cons_zero]
  refine wpAnyH_take (i := 7) (v := ?v8) rfl (by kernel_rfl) (by kernel_rfl) (by kernel_rfl) (fun _ _ _ h => h) (Or.inl ⟨by rfl, ?hy8⟩) hS ?rest8
  case hy8 => (intro W hW; go_simp; first | with_reducible rfl | (go_bits; first | with_reducible rfl | (go_simp; with_reducible rfl)))
  simp only [List.getElem_toArray, List.getElem_cons_succ, List.getElem_cons_zero, Act.put, List.setIfInBounds_toArray, List.set_cons_succ, List.set_cons_zero]
  refine wpAnyH_take (i := 8) (v := ?v9) rfl (by kernel_rfl) (by kernel_rfl) (by kernel_rfl) (fun _ _ _ h => h) (Or.inl ⟨by rfl, ?hy9⟩) hS ?rest9
  case hy9 => (intro W hW; go_simp; first | with_reducible rfl | (go_bits; first | with_reducible rfl | (go_simp; with_reducible rfl)))
  simp only [List.getElem_toArray, List.getElem_cons_succ, List.getElem_cons_zero, Act.put, List.setIfInBounds_toArray, List.set_cons_succ, List.set_cons_zero]
  refine wpAnyH_take (i := 9) (v := ?v10) rfl (by kernel_rfl) (by kernel_rfl) (by kernel_rfl) (fun _ _ _ h => h) (Or.inl ⟨by rfl, ?hy10⟩) hS ?rest10
  case hy10 => (intro W hW; go_simp; first | with_reducible rfl | (go_bits; first | with_reducible rfl | (go_simp; with_reducible rfl)))
  simp only [List.getElem_toArray, List.getElem_cons_succ, List.getElem_cons_zero, Act.put, List.setIfInBounds_toArray, List.set_cons_succ, List.set_cons_zero]
  refine wpAnyH_take (i := 10) rfl (by kernel_rfl) (by kernel_rfl) (by kernel_rfl) (fun _ _ _ h => h) (yieldsIf_load_id (by rfl) _ _ rfl _ rfl _ (by kernel_rfl) (fun W h => C1.below h)) hS ?rest11
  simp only [List.getElem_toArray, List.getElem_cons_succ, List.getElem_cons_zero, Act.put, List.setIfInBounds_toArray, List.set_cons_succ, List.set_cons_zero]
  refine wpAnyH_take (i := 11) rfl (by kernel_rfl) (by kernel_rfl) (by kernel_rfl) (fun _ _ _ h => h) (yieldsIf_load_id (by rfl) _ _ rfl _ rfl _ (by kernel_rfl) (fun W h => B1.below h)) hS ?rest12
  simp only [List.getElem_toArray, List.getElem_cons_succ, List.getElem_cons_zero, Act.put, List.setIfInBounds_toArray, List.set_cons_succ, List.set_cons_zero]
  refine wpAnyH_take (i := 12) (v := ?v13) rfl (by kernel_rfl) (by kernel_rfl) (by kernel_rfl) (fun _ _ _ h => h) (Or.inl ⟨by rfl, ?hy13⟩) hS ?rest13
  case hy13 => (intro W hW; go_simp; first | with_reducible rfl | (go_bits; first | with_reducible rfl | (go_simp; with_reducible rfl)))
  simp only [List.getElem_toArray, List.getElem_cons_succ, List.getElem_cons_zero, Act.put, List.setIfInBounds_toArray, List.set_cons_succ, List.set_cons_zero]
  refine wpAnyH_take (i := 13) (v := ?v14) rfl (by kernel_rfl) (by kernel_rfl) (by kernel_rfl) (fun _ _ _ h => h) (Or.inl ⟨by rfl, ?hy14⟩) hS ?rest14
  case hy14 => (intro W hW; go_simp; first | with_reducible rfl | (go_bits; first | with_reducible rfl | (go_simp; with_reducible rfl)))
  simp only [List.getElem_toArray, List.getElem_cons_succ, List.getElem_cons_zero, Act.put, List.setIfInBounds_toArray, List.set_cons_succ, List.set_cons_zero]
  refine wpAnyH_take (i := 14) (v := ?v15) rfl (by kernel_rfl) (by kernel_rfl) (by kernel_rfl) (fun _ _ _ h => h) (Or.inl ⟨by rfl, ?hy15⟩) hS ?rest15
  case hy15 => (intro W hW; go_simp; first | with_reducible rfl | (go_bits; first | with_reducible rfl | (go_simp; with_reducible rfl)))
  simp only [List.getElem_toArray, List.getElem_cons_succ, List.getElem_cons_zero, Act.put, List.setIfInBounds_toArray, List.set_cons_succ, List.set_cons_zero]
  refine wpAnyH_take (i := 15) (v := ?v16) rfl (by kernel_rfl) (by kernel_rfl) (by kernel_rfl) (fun _ _ _ h => h) (Or.inl ⟨by rfl, ?hy16⟩) hS ?rest16
  case hy16 => (intro W hW; go_simp; first | with_reducible rfl | (go_bits; first | with_reducible rfl | (go_simp; with_reducible rfl)))
  simp only [List.getElem_toArray, List.getElem_cons_succ, List.getElem_cons_zero, Act.put, List.setIfInBounds_toArray, List.set_cons_succ, List.set_cons_zero]
  refine wpAnyH_take (i := 16) (v := ?v17) rfl (by kernel_rfl) (by kernel_rfl) (by kernel_rfl) (fun _ _ _ h => h) (Or.inl ⟨by rfl, ?hy17⟩) hS ?rest17
  case hy17 => (intro W hW; go_simp; first | with_reducible rfl | (go_bits; first | with_reducible rfl | (go_simp; with_reducible rfl)))
  simp only [List.getElem_toArray, List.getElem_cons_succ, List.getElem_cons_zero, Act.put, List.setIfInBounds_toArray, List.set_cons_succ, List.set_cons_zero]
  refine wpAnyH_take (i := 17) rfl (by kernel_rfl) (by kernel_rfl) (by kernel_rfl) (fun _ _ _ h => h) (yieldsIf_load_id (by rfl) _ _ rfl _ rfl _ (by kernel_rfl) (fun W h => C3.below h)) hS ?rest18
  simp only [List.getElem_toArray, List.getElem_cons_succ, List.getElem_cons_zero, Act.put, List.setIfInBounds_toArray, List.set_cons_succ, List.set_cons_zero]
  refine wpAnyH_take (i := 18) rfl (by kernel_rfl) (by kernel_rfl) (by kernel_rfl) (fun _ _ _ h => h) (yieldsIf_load_id (by rfl) _ _ rfl _ rfl _ (by kernel_rfl) (fun W h => B3.below h)) hS ?rest19
  simp only [List.getElem_toArray, List.getElem_cons_succ, List.getElem_cons_zero, Act.put, List.setIfInBounds_toArray, List.set_cons_succ, List.set_cons_zero]
  refine wpAnyH_take (i := 19) (v := ?v20) rfl (by kernel_rfl) (by kernel_rfl) (by kernel_rfl) (fun _ _ _ h => h) (Or.inl ⟨by rfl, ?hy20⟩) hS ?rest20
  case hy20 => (intro W hW; go_simp; first | with_reducible rfl | (go_bits; first | with_reducible rfl | (go_simp; with_reducible rfl)))
  simp only [List.getElem_toArray, List.getElem_cons_succ, List.getElem_cons_zero, Act.put, List.setIfInBounds_toArray, List.set_cons_succ, List.set_cons_zero]
  refine wpAnyH_take (i := 20) (v := ?v21) rfl (by kernel_rfl) (by kernel_rfl) (by kernel_rfl) (fun _ _ _ h => h) (Or.inl ⟨by rfl, ?hy21⟩) hS ?rest21
  case hy21 => (intro W hW; go_simp; first | with_reducible rfl | (go_bits; first | with_reducible rfl | (go_simp; with_reducible rfl)))
  simp only [List.getElem_toArray, List.getElem_cons_succ, List.getElem_cons_zero, Act.put, List.setIfInBounds_toArray, List.set_cons_succ, List.set_cons_zero]
  refine wpAnyH_take (i := 21) (v := ?v22) rfl (by kernel_rfl) (by kernel_rfl) (by kernel_rfl) (fun _ _ _ h => h) (Or.inl ⟨by rfl, ?hy22⟩) hS ?rest22
  case hy22 => (intro W hW; go_simp; first | with_reducible rfl | (go_bits; first | with_reducible rfl | (go_simp; with_reducible rfl)))
  simp only [List.getElem_toArray, List.getElem_cons_succ, List.getElem_cons_zero, Act.put, List.setIfInBounds_toArray, List.set_cons_succ, List.set_cons_zero]
  refine wpAnyH_take (i := 22) rfl (by kernel_rfl) (by kernel_rfl) (by kernel_rfl) (fun _ _ _ h => h) (yieldsIf_load_id (by rfl) _ _ rfl _ rfl _ (by kernel_rfl) (fun W h => B1.below h)) hS ?rest23
  simp only [List.getElem_toArray, List.getElem_cons_succ, List.getElem_cons_zero, Act.put, List.setIfInBounds_toArray, List.set_cons_succ, List.set_cons_zero]
  refine wpAnyH_take (i := 23) rfl (by kernel_rfl) (by kernel_rfl) (by kernel_rfl) (fun _ _ _ h => h) (yieldsIf_load_id (by rfl) _ _ rfl _ rfl _ (by kernel_rfl) (fun W h => B3.below h)) hS ?rest24
  simp only [List.getElem_toArray, List.getElem_cons_succ, List.getElem_cons_zero, Act.put, List.setIfInBounds_toArray, List.set_cons_succ, List.set_cons_zero]
  refine wpAnyH_take (i := 25) rfl (by kernel_rfl) (by kernel_rfl) (by kernel_rfl) (fun _ _ _ h => h) (yieldsIf_load_id (by rfl) _ _ rfl _ rfl _ (by kernel_rfl) (fun W h => B1.below h)) hS ?rest25
  simp only [List.getElem_toArray, List.getElem_cons_succ, List.getElem_cons_zero, Act.put, List.setIfInBounds_toArray, List.set_cons_succ, List.set_cons_zero]
  refine wpAnyH_take (i := 26) rfl (by kernel_rfl) (by kernel_rfl) (by kernel_rfl) (fun _ _ _ h => h) (yieldsIf_load_id (by rfl) _ _ rfl _ rfl _ (by kernel_rfl) (fun W h => B2.below h)) hS ?rest26
  simp only [List.getElem_toArray, List.getElem_cons_succ, List.getElem_cons_zero, Act.put, List.setIfInBounds_toArray, List.set_cons_succ, List.set_cons_zero]
  refine wpAnyH_take (i := 27) rfl (by kernel_rfl) (by kernel_rfl) (by kernel_rfl) (fun _ _ _ h => h) (yieldsIf_load_id (by rfl) _ _ rfl _ rfl _ (by kernel_rfl) (fun W h => B3.below h)) hS ?rest27
  simp only [List.getElem_toArray, List.getElem_cons_succ, List.getElem_cons_zero, Act.put, List.setIfInBounds_toArray, List.set_cons_succ, List.set_cons_zero]
  refine wpAnyH_ready (rs := [24, 28]) (by kernel_rfl) (by simp) ?_
  refine AllReadyH.cons rfl (fun K hK => ?_) (AllReadyH.cons rfl (fun K hK => ?_) AllReadyH.nil)
  · rw [if_pos (by rfl)]
    simp only [List.getElem_toArray, List.getElem_cons_succ, List.getElem_cons_zero]
    refine wp_build_ids 24 2 _ rfl Try.underlying24 hi0 hz0 hz1 [idk 1, idk 3] rfl (by simp [idk_len]) (by simp) (by simp) rfl ?_
    refine hK.out _ _ ?s28 (fun hS => ?_)
    case s28 => exact (hS.alloc hS.size _)
    clear hK K
    simp only [List.getElem_toArray, List.getElem_cons_succ, List.getElem_cons_zero, Act.put, List.setIfInBounds_toArray, List.set_cons_succ, List.set_cons_zero]
    refine wpAnyH_ready (rs := [28]) (by kernel_rfl) (by simp) ?_
    refine AllReadyH.cons rfl (fun K hK => ?_) ?_
    · rw [if_pos (by rfl)]
      simp only [List.getElem_toArray, List.getElem_cons_succ, List.getElem_cons_zero]
      refine wp_build_ids 24 3 _ rfl Try.underlying24 hi0 hz0 hz1 [idk 1, idk 2, idk 3] rfl (by simp [idk_len]) (by simp) (by simp) rfl ?_
      refine hK.out _ _ ?s29 (fun hS => ?_)
      case s29 => exact (hS.alloc hS.size _)
      clear hK K
      simp only [List.getElem_toArray, List.getElem_cons_succ, List.getElem_cons_zero, Act.put, List.setIfInBounds_toArray, List.set_cons_succ, List.set_cons_zero]
      refine wpAnyH_ready (rs := [29]) (by kernel_rfl) (by simp) ?_
      refine AllReadyH.cons rfl (fun K hK => ?_) ?_
      · rw [if_pos (by rfl)]
        simp only [List.getElem_toArray, List.getElem_cons_succ, List.getElem_cons_zero]
        refine wp_call 22 _ _ _ rfl rfl (by kernel_rfl) ?_
        refine (istrimmed_calls _ _ [idk 1, idk 3] [idk 1, idk 2, idk 3] _ _ 2 3 rfl rfl (by omega) (by omega) (by omega) (by unfold maxLen; omega) _ ?hxa ?hya).mono ?_
        case hxa => exact ((ids_new _ _ [idk 1, idk 3] (by simp [idk_len])).alloc _)
        case hya => exact (ids_new _ _ [idk 1, idk 2, idk 3] (by simp [idk_len]))
        rintro e w8 ⟨rfl, hb8⟩
        rw [Hit.out]
        refine ⟨_, rfl, ?_⟩
        have hb9 : Below w7.heap.size w7 w8 := hS.trans (hb8.mono hS.size)
        refine hK.out _ _ ?s30 (fun hS => ?_)
        case s30 => exact (hb9)
        clear hK K
        simp only [List.getElem_toArray, List.getElem_cons_succ, List.getElem_cons_zero, Act.put, List.setIfInBounds_toArray, List.set_cons_succ, List.set_cons_zero]
        refine wpAnyH_take (i := 30) (v := ?v31) rfl (by kernel_rfl) (by kernel_rfl) (by kernel_rfl) (fun _ _ _ h => h) (Or.inl ⟨by rfl, ?hy31⟩) hS ?rest31
        case hy31 => (intro W hW; go_simp; first | with_reducible rfl | (go_bits; first | with_reducible rfl | (go_simp; with_reducible rfl)))
        simp only [List.getElem_toArray, List.getElem_cons_succ, List.getElem_cons_zero, Act.put, List.setIfInBounds_toArray, List.set_cons_succ, List.set_cons_zero]
        refine wpAnyH_take (i := 31) (v := ?v32) rfl (by kernel_rfl) (by kernel_rfl) (by kernel_rfl) (fun _ _ _ h => h) (Or.inl ⟨by rfl, ?hy32⟩) hS ?rest32
        case hy32 => (intro W hW; go_simp; first | with_reducible rfl | (go_bits; first | with_reducible rfl | (go_simp; with_reducible rfl)))
        simp only [List.getElem_toArray, List.getElem_cons_succ, List.getElem_cons_zero, Act.put, List.setIfInBounds_toArray, List.set_cons_succ, List.set_cons_zero]
        refine wpAnyH_done (by kernel_rfl) ?_ _
        go_wp2
        go_ret
        exact ⟨rfl, hbw.trans (hb9.mono hw7)⟩
      · exact AllReadyH.nil
    · exact AllReadyH.nil
  · rw [if_pos (by rfl)]
    simp only [List.getElem_toArray, List.getElem_cons_succ, List.getElem_cons_zero]
    refine wp_build_ids 24 3 _ rfl Try.underlying24 hi0 hz0 hz1 [idk 1, idk 2, idk 3] rfl (by simp [idk_len]) (by simp) (by simp) rfl ?_
    refine hK.out _ _ ?s33 (fun hS => ?_)
    case s33 => exact (hS.alloc hS.size _)
    clear hK K
    simp only [List.getElem_toArray, List.getElem_cons_succ, List.getElem_cons_zero, Act.put, List.setIfInBounds_toArray, List.set_cons_succ, List.set_cons_zero]
    refine wpAnyH_ready (rs := [24]) (by kernel_rfl) (by simp) ?_
    refine AllReadyH.cons rfl (fun K hK => ?_) ?_
    · rw [if_pos (by rfl)]
      simp only [List.getElem_toArray, List.getElem_cons_succ, List.getElem_cons_zero]
      refine wp_build_ids 24 2 _ rfl Try.underlying24 hi0 hz0 hz1 [idk 1, idk 3] rfl (by simp [idk_len]) (by simp) (by simp) rfl ?_
      refine hK.out _ _ ?s34 (fun hS => ?_)
      case s34 => exact (hS.alloc hS.size _)
      clear hK K
      simp only [List.getElem_toArray, List.getElem_cons_succ, List.getElem_cons_zero, Act.put, List.setIfInBounds_toArray, List.set_cons_succ, List.set_cons_zero]
      refine wpAnyH_ready (rs := [29]) (by kernel_rfl) (by simp) ?_
      refine AllReadyH.cons rfl (fun K hK => ?_) ?_
      · rw [if_pos (by rfl)]
        simp only [List.getElem_toArray, List.getElem_cons_succ, List.getElem_cons_zero]
        refine wp_call 22 _ _ _ rfl rfl (by kernel_rfl) ?_
        refine (istrimmed_calls _ _ [idk 1, idk 3] [idk 1, idk 2, idk 3] _ _ 2 3 rfl rfl (by omega) (by omega) (by omega) (by unfold maxLen; omega) _ ?hxb ?hyb).mono ?_
        case hxb => exact (ids_new _ _ [idk 1, idk 3] (by simp [idk_len]))
        case hyb => exact ((ids_new _ _ [idk 1, idk 2, idk 3] (by simp [idk_len])).alloc _)
        rintro e w8 ⟨rfl, hb8⟩
        rw [Hit.out]
        refine ⟨_, rfl, ?_⟩
        have hb9 : Below w7.heap.size w7 w8 := hS.trans (hb8.mono hS.size)
        refine hK.out _ _ ?s35 (fun hS => ?_)
        case s35 => exact (hb9)
        clear hK K
        simp only [List.getElem_toArray, List.getElem_cons_succ, List.getElem_cons_zero, Act.put, List.setIfInBounds_toArray, List.set_cons_succ, List.set_cons_zero]
        refine wpAnyH_take (i := 30) (v := ?v36) rfl (by kernel_rfl) (by kernel_rfl) (by kernel_rfl) (fun _ _ _ h => h) (Or.inl ⟨by rfl, ?hy36⟩) hS ?rest36
        case hy36 => (intro W hW; go_simp; first | with_reducible rfl | (go_bits; first | with_reducible rfl | (go_simp; with_reducible rfl)))
        simp only [List.getElem_toArray, List.getElem_cons_succ, List.getElem_cons_zero, Act.put, List.setIfInBounds_toArray, List.set_cons_succ, List.set_cons_zero]
        refine wpAnyH_take (i := 31) (v := ?v37) rfl (by kernel_rfl) (by kernel_rfl) (by kernel_rfl) (fun _ _ _ h => h) (Or.inl ⟨by rfl, ?hy37⟩) hS ?rest37
        case hy37 => (intro W hW; go_simp; first | with_reducible rfl | (go_bits; first | with_reducible rfl | (go_simp; with_reducible rfl)))
        simp only [List.getElem_toArray, List.getElem_cons_succ, List.getElem_cons_zero, Act.put, List.setIfInBounds_toArray, List.set_cons_succ, List.set_cons_zero]
        refine wpAnyH_done (by kernel_rfl) ?_ _
        go_wp2
        go_ret
        exact ⟨rfl, hbw.trans (hb9.mono hw7)⟩
      · exact AllReadyH.nil
    · exact AllReadyH.nil
end Go.Proofs.Ytafpndmoognjlaa
