/- Unwrap of the program, walked. -/
import Derived.Test.YtkmkidbajmbigaaDoorUnR
import Derived.Test.YtkmkidbajmbigaaDoorTied
namespace Go.Proofs.YtkmkidbajmbigaaDoor
open Go Go.ChangeShapes Go.WideShapes Go.ChangeAt Go.RowKit
theorem join_flat (ls : List (List UInt8)) : Lib.join ls [] = ls.flatten := by
  cases ls with
  | nil => rfl
  | cons a t => rw [Lib.join_cons]; unfold Lib.joinTail; simp
/-- a block of strings -/
def StrBlk (w : World) (g : Nat) (ls : List (List UInt8)) : Prop := ∀ (j : Nat) x, ls[j]? = some x → w.cell? ⟨g, j, none⟩ = some (.string (ust x))
theorem strblk_new (w : World) (ls : List (List UInt8)) (e : TypeId) : StrBlk (w.alloc (.cells (ls.map fun l => Value.string (ust l)).toArray e)) w.heap.size ls := by
  intro j x hx
  rw [cell_of_row _ _ _ _ _ _ (heap_alloc_new w _)]
  simp [hx]
def UwRel (ps : List (List UInt8)) (w0 : Nat) (C : Option Nat) (a i : Value) : Prop :=
  ∃ (k f : Nat), k ≤ ps.length ∧ a = .int .i64 f ∧ i = .int .i64 k ∧ f ≤ 999 * k ∧ chkL w0 (ps.drop k) f = C
set_option maxRecDepth 100000 in
set_option maxHeartbeats 3200000 in
theorem unwrap_calls (l : List UInt8) (hlen : l.length ≤ 600) (m : Int) (w : World) (hm : w.cell? ⟨0, 0, none⟩ = some (.int .i64 m)) :
    Calls Tryd.prog 5 #[.string (ust l)] w fun e w' => e = .returned (unwV (unwS l)) ∧ Below w.heap.size w w' := by
  have hsz := fun W => size_calls 131072 W
  rw [show (if (131072 : Int) < 0 ∨ (131072 : Int) > 131072 then (0 : Int) else (131072 + 2) / 3 * 4) = 174764 by decide] at hsz
  have Hsz := Lib.hid hsz
  clear hsz
  have hl6 : ¬ (349528 : Int) < l.length := by omega
  by_cases h0 : l = []
  · subst h0
    have hV : unwV (unwS []) = .tuple #[.string (ust []), .int .i64 0, .int .i64 0] := rfl
    rw [hV]
    go_enter Tryd.func5, Tryd.ntmps5
    go_wp2_with (go_at_call 9; refine (Hsz.out _).mono ?_; rintro e w' ⟨rfl, rfl⟩)
    go_ret3
    exact ⟨rfl, Below.refl _ _⟩
  · have hne := run_empty h0
    have hpos : 0 < l.length := List.length_pos_iff.2 h0
    obtain ⟨L, hL⟩ : ∃ L, l.length = L + 1 := ⟨l.length - 1, by omega⟩
    have hlp : (1 : Int) ≤ l.length := by omega
    have hlq : 1 ≤ l.length := by omega
    by_cases h10 : byteAt l L = 10
    · obtain ⟨l', hl'⟩ : ∃ l', l.take (l.length - 1) = l' := ⟨_, rfl⟩
      have hll : l'.length = L := by rw [← hl', List.length_take]; omega
      obtain ⟨ps, hps⟩ : ∃ ps, splitN 10 l' = ps := ⟨_, rfl⟩
      obtain ⟨N, hN⟩ : ∃ N, ps.length = N := ⟨_, rfl⟩
      obtain ⟨w0, hw0⟩ : ∃ w0, (ps.headD []).length = w0 := ⟨_, rfl⟩
      obtain ⟨C, hC⟩ : ∃ C, chkL w0 ps 0 = C := ⟨_, rfl⟩
      have hS : unwS l = unwL ps := by unfold unwS; rw [if_neg h0, if_neg (by rw [show l.length - 1 = L by omega]; simpa using h10), hl', hps]
      have HS := Lib.hid hS; have Hw0 := Lib.hid hw0; have HC := Lib.hid hC; have HN := Lib.hid hN; have Hps := Lib.hid hps; have Hl' := Lib.hid hl'
      have hb : byteAt l (l.length - 1) = 10 := by rw [show l.length - 1 = L by omega]; exact h10
      have hfl : Hid (ps.flatten.length ≤ 600) := Lib.hid (by rw [← hps]; have := splitN_join 10 l'; omega)
      have hsp := Tryd.strings_Split (ust l') ⟨#[10]⟩ m w (by rw [ust_size]; omega) hm (Nat.le_refl _)
      have hct := splitN_count 10 l'
      have hcell := splitN_cells 10 l'
      rw [hps, hN] at hct
      rw [hps] at hcell
      have hct1 : Lib.countB (ust l') ⟨#[10]⟩ = N - 1 := by omega
      rw [hcell, hct] at hsp
      have Hsp := Lib.hid hsp
      have hN1 : 1 ≤ N := by omega
      have hNb : N ≤ 601 := by
        have h2 := Lib.countB_le ⟨#[10]⟩ (Nat.le_refl _) _ (ust l') (Nat.le_refl _)
        rw [ust_size] at h2; omega
      clear hps hw0 hC hS hll hl' h10 hpos hlen hL hN hsp hct hcell hct1 hm
      go_enter Tryd.func5, Tryd.ntmps5
      go_wp2_with (first
        | (go_at_call 9; refine (Hsz.out _).mono ?_; rintro e w' ⟨rfl, hw⟩; have hw2 := hw.symm; clear hw; subst hw2)
        | (go_at_call 10; rw [Hl'.out]; refine Hsp.out.mono ?_; rintro e w1 ⟨rfl, hw⟩; have hw2 := hw.symm; clear hw; subst hw2))
      obtain ⟨y, t, hyt⟩ : ∃ y t, ps = y :: t := by
        cases ps with
        | nil => have := HN.out; simp at this; omega
        | cons y t => exact ⟨y, t, rfl⟩
      have hw0 : w0 = y.length := by rw [← Hw0.out, hyt]; rfl
      subst hw0
      have hS0 := strblk_new w ps 9
      have hB0 : Below w.heap.size w (w.alloc (.cells (ps.map fun l => Value.string (ust l)).toArray 9)) := (Below.refl _ w).alloc (Nat.le_refl _) _
      have hsz0 : w.heap.size < (w.alloc (.cells (ps.map fun l => Value.string (ust l)).toArray 9)).heap.size := by simp
      obtain ⟨W, hW⟩ : ∃ W, w.alloc (.cells (ps.map fun l => Value.string (ust l)).toArray 9) = W := ⟨_, rfl⟩
      rw [hW] at hS0 hB0 hsz0 ⊢
      have hA0 : W.cell? ⟨w.heap.size, 0, none⟩ = some (.string (ust y)) := hS0 0 y (by rw [hyt]; rfl)
      obtain ⟨g, hg⟩ : ∃ g, w.heap.size = g := ⟨_, rfl⟩
      rw [hg] at hS0 hB0 hsz0 hA0 ⊢
      have Hg := Lib.hid hg; have HS0 := Lib.hid hS0; have HB0 := Lib.hid hB0; have Hsz0 := Lib.hid hsz0
      have Hyt := Lib.hid hyt
      clear hyt hS0 hB0 hsz0 hW hg Hsp
      go_loop [6, 34] (fun a i => UwRel ps y.length C a i) (fun _ i => N - (intOf i).toNat)
      case atStart => exact ⟨0, 0, Nat.zero_le _, rfl, rfl, Nat.zero_le _, HC.out⟩
      case round =>
        obtain ⟨k, f, hk, rfl, rfl, hf, hck⟩ := hrel
        rw [HN.out] at hk
        have hk0 : (0 : Int) ≤ k := by omega
        by_cases h1 : k < N
        · have i1 : (k : Int) < N := by omega
          obtain ⟨x, hx⟩ : ∃ x, ps[k]? = some x := ⟨_, List.getElem?_eq_getElem (by rw [HN.out]; exact h1)⟩
          have hA : W.cell? ⟨g, k, none⟩ = some (.string (ust x)) := HS0.out k x hx
          have hck2 := chkL_drop hck (drop_cons hx)
          have hie : (ps.drop (k + 1)).isEmpty = decide (k + 1 = N) := by
            rw [Bool.eq_iff_iff, List.isEmpty_iff, decide_eq_true_eq, List.drop_eq_nil_iff, HN.out]; omega
          have hbad : badL y.length x (ps.drop (k + 1)).isEmpty = decide (x.length = 0 ∨ 998 < x.length ∨ y.length < x.length ∨ (x.length < y.length ∧ k + 1 ≠ N)) := by
            unfold badL
            rw [hie]
            simp only [decide_eq_false_iff_not, ne_eq]
          rw [hbad] at hck2
          have hk2 : Hid ((C = some f ∧ (x.length = 0 ∨ 998 < x.length ∨ y.length < x.length ∨ (x.length < y.length ∧ k + 1 ≠ N))) ∨ (chkL y.length (ps.drop (k + 1)) (f + x.length + 1) = C ∧ 0 < x.length ∧ x.length ≤ 998 ∧ x.length ≤ y.length ∧ (y.length ≤ x.length ∨ k + 1 = N))) := Lib.hid (by
            rcases hck2 with ⟨h1, h2⟩ | ⟨h1, h2⟩
            · exact .inl ⟨h2, of_decide_eq_true h1⟩
            · have h3 := of_decide_eq_false h1
              refine .inr ⟨h2, by omega, by omega, by omega, by omega⟩)
          have HS3 : Hid (C = some f → unwV (unwS l) = .tuple #[.string (ust []), .int .i64 f, .int .i64 3]) := Lib.hid (fun e => by
            have := HC.out
            rw [e, ← Hw0.out] at this
            rw [HS.out, unwL_some this]; rfl)
          clear hck2 hbad hie hck hx
          rcases (show (x.length < y.length ∧ k + 1 < N) ∨ (x.length < y.length ∧ k + 1 = N) ∨ ¬ x.length < y.length by omega) with ⟨s, s'⟩ | ⟨s, s'⟩ | s
          · have s1 : decide (x.length < y.length) = true := decide_eq_true s
            have s2 : (k : Int) < (N : Int) - 1 := by omega
            have hC : C = some f := by rcases hk2.out with ⟨h, _⟩ | ⟨_, _, _, _, h⟩ <;> first | exact h | omega
            have HCf := Lib.hid hC; clear hC hk2
            rcases (show x.length = 0 ∨ (0 < x.length ∧ 998 < x.length) ∨ (0 < x.length ∧ x.length ≤ 998) by omega) with e | ⟨e, e'⟩ | ⟨e, e'⟩
            · have e1 : x.isEmpty = true := by rw [List.isEmpty_iff]; exact List.eq_nil_of_length_eq_zero e
              clear e s s'
              go_wp2_with fail
              go_ret3
              exact ⟨congrArg Ending.returned (HS3.out HCf.out).symm, by rw [Hg.out]; exact HB0.out⟩
            · have e1 : x.isEmpty = false := by cases x <;> first | rfl | (simp at e)
              have e2 : (998 : Int) < x.length := by omega
              clear e e' s s'
              go_wp2_with fail
              go_ret3
              exact ⟨congrArg Ending.returned (HS3.out HCf.out).symm, by rw [Hg.out]; exact HB0.out⟩
            · have e1 : x.isEmpty = false := by cases x <;> first | rfl | (simp at e)
              have e2 : (x.length : Int) ≤ 998 := by omega
              have e3 : decide (y.length < x.length) = false := decide_eq_false (by omega)
              clear e e' s s'
              go_wp2_with fail
              go_ret3
              exact ⟨congrArg Ending.returned (HS3.out HCf.out).symm, by rw [Hg.out]; exact HB0.out⟩
          · have s1 : decide (x.length < y.length) = true := decide_eq_true s
            have s2 : ¬ (k : Int) < (N : Int) - 1 := by omega
            clear s'
            rcases hk2.out with ⟨hC, hbd⟩ | ⟨hgo, g1, g2, g3, -⟩
            · have HCf := Lib.hid hC; clear hC hk2
              rcases (show x.length = 0 ∨ (0 < x.length ∧ 998 < x.length) ∨ (0 < x.length ∧ x.length ≤ 998 ∧ y.length < x.length) by omega) with e | ⟨e, e'⟩ | ⟨e, e', e''⟩
              · have e1 : x.isEmpty = true := by rw [List.isEmpty_iff]; exact List.eq_nil_of_length_eq_zero e
                clear e s hbd
                go_wp2_with fail
                go_ret3
                exact ⟨congrArg Ending.returned (HS3.out HCf.out).symm, by rw [Hg.out]; exact HB0.out⟩
              · have e1 : x.isEmpty = false := by cases x <;> first | rfl | (simp at e)
                have e2 : (998 : Int) < x.length := by omega
                clear e e' s hbd
                go_wp2_with fail
                go_ret3
                exact ⟨congrArg Ending.returned (HS3.out HCf.out).symm, by rw [Hg.out]; exact HB0.out⟩
              · have e1 : x.isEmpty = false := by cases x <;> first | rfl | (simp at e)
                have e2 : (x.length : Int) ≤ 998 := by omega
                have e3 : decide (y.length < x.length) = true := decide_eq_true e''
                clear e e' e'' s hbd
                go_wp2_with fail
                go_ret3
                exact ⟨congrArg Ending.returned (HS3.out HCf.out).symm, by rw [Hg.out]; exact HB0.out⟩
            · have Hgo := Lib.hid hgo; clear hgo hk2
              have e1 : x.isEmpty = false := by cases x <;> first | rfl | (simp at g1)
              have e2 : (x.length : Int) ≤ 998 := by omega
              have e3 : decide (y.length < x.length) = false := decide_eq_false (by omega)
              clear s
              go_wp2_with fail
              go_round
              case rel => exact ⟨k + 1, f + x.length + 1, by rw [HN.out]; omega, by go_num, by go_num, by omega, Hgo.out⟩
              case measure => simp [intOf]; omega
          · have s1 : decide (x.length < y.length) = false := decide_eq_false s
            rcases hk2.out with ⟨hC, hbd⟩ | ⟨hgo, g1, g2, g3, -⟩
            · have HCf := Lib.hid hC; clear hC hk2
              rcases (show x.length = 0 ∨ (0 < x.length ∧ 998 < x.length) ∨ (0 < x.length ∧ x.length ≤ 998 ∧ y.length < x.length) by omega) with e | ⟨e, e'⟩ | ⟨e, e', e''⟩
              · have e1 : x.isEmpty = true := by rw [List.isEmpty_iff]; exact List.eq_nil_of_length_eq_zero e
                clear e s hbd
                go_wp2_with fail
                go_ret3
                exact ⟨congrArg Ending.returned (HS3.out HCf.out).symm, by rw [Hg.out]; exact HB0.out⟩
              · have e1 : x.isEmpty = false := by cases x <;> first | rfl | (simp at e)
                have e2 : (998 : Int) < x.length := by omega
                clear e e' s hbd
                go_wp2_with fail
                go_ret3
                exact ⟨congrArg Ending.returned (HS3.out HCf.out).symm, by rw [Hg.out]; exact HB0.out⟩
              · have e1 : x.isEmpty = false := by cases x <;> first | rfl | (simp at e)
                have e2 : (x.length : Int) ≤ 998 := by omega
                have e3 : decide (y.length < x.length) = true := decide_eq_true e''
                clear e e' e'' s hbd
                go_wp2_with fail
                go_ret3
                exact ⟨congrArg Ending.returned (HS3.out HCf.out).symm, by rw [Hg.out]; exact HB0.out⟩
            · have Hgo := Lib.hid hgo; clear hgo hk2
              have e1 : x.isEmpty = false := by cases x <;> first | rfl | (simp at g1)
              have e2 : (x.length : Int) ≤ 998 := by omega
              have e3 : decide (y.length < x.length) = false := decide_eq_false (by omega)
              clear s
              go_wp2_with fail
              go_round
              case rel => exact ⟨k + 1, f + x.length + 1, by rw [HN.out]; omega, by go_num, by go_num, by omega, Hgo.out⟩
              case measure => simp [intOf]; omega
        · have he : k = N := by omega
          rw [List.drop_eq_nil_of_le (by rw [HN.out]; omega), chkL] at hck
          have HV : Hid (unwV (unwS l) = .tuple #[.string (ust ps.flatten), .int .i64 0, .int .i64 0]) := Lib.hid (by
            have := HC.out
            rw [← hck, ← Hw0.out] at this
            rw [HS.out, unwL_none this]; rfl)
          have hcells : ∀ (j : Nat) z, (ps.map ust)[j]? = some z → W.cell? ⟨g, 0 + j, none⟩ = some (.string z) := fun j z hz => by
            rw [List.getElem?_map, Option.map_eq_some_iff] at hz
            obtain ⟨q, h1, rfl⟩ := hz
            rw [Nat.zero_add]; exact HS0.out j q h1
          have hj : Lib.join ((ps.map ust).map (·.data.toList)) (ust []).data.toList = ps.flatten := by
            have e1 : (ps.map ust).map (·.data.toList) = ps := by
              rw [List.map_map]
              conv => rhs; rw [← List.map_id ps]
              exact List.map_congr_left (fun a _ => by simp [ust])
            rw [e1, str_data, join_flat]
          have hJ := Tryd.strings_Join g 0 N (ps.map ust) (ust []) W hcells Hsz0.out (by rw [List.length_map, HN.out]; omega) (by rw [List.length_map, HN.out]; omega) (by rw [hj]; have := hfl.out; omega)
          rw [List.length_map, HN.out, hj] at hJ
          have HJ := Lib.hid hJ
          obtain ⟨O, hO⟩ : ∃ O, ps.flatten = O := ⟨_, rfl⟩
          rw [hO] at HJ HV hfl
          have hO6 : ¬ (174764 : Int) < O.length := by have := hfl.out; omega
          have i1 : ¬ (k : Int) < N := by omega
          clear hJ hj hcells hck hO he h1
          go_wp2_with (first
            | (go_at_call 9; refine (Hsz.out _).mono ?_; rintro e w' ⟨rfl, hw⟩; have hw2 := hw.symm; clear hw; subst hw2)
            | (go_at_call 11; refine HJ.out.mono ?_; rintro e w2 ⟨rfl, hB2⟩; have HB2 := Lib.hid hB2; clear hB2))
          go_ret3
          exact ⟨congrArg Ending.returned HV.out.symm, by rw [Hg.out]; exact HB0.out.trans (HB2.out.mono (Nat.le_of_lt Hsz0.out))⟩
    · have hb : (byteAt l (l.length - 1)).toNat ≠ 10 := fun e => h10 (by rw [show L = l.length - 1 by omega]; exact UInt8.toNat_inj.1 e)
      have hS : Hid (unwV (unwS l) = .tuple #[.string (ust []), .int .i64 l.length, .int .i64 4]) := Lib.hid (by
        unfold unwS
        rw [if_neg h0, if_pos (by rw [show l.length - 1 = L by omega]; exact h10)]; rfl)
      have hb2 : (((byteAt l (l.length - 1)).toNat : Int) != 10) = true := by rw [bne_iff_ne]; omega
      clear hb h10 hlen hL hpos
      go_enter Tryd.func5, Tryd.ntmps5
      go_wp2_with (go_at_call 9; refine (Hsz.out _).mono ?_; rintro e w' ⟨rfl, rfl⟩)
      go_ret3
      exact ⟨congrArg Ending.returned hS.out.symm, Below.refl _ _⟩
end Go.Proofs.YtkmkidbajmbigaaDoor
