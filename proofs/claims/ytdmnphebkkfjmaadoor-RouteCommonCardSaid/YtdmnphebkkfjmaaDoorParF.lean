/- Parse of the reference, walked. -/
import Derived.Test.YtdmnphebkkfjmaaDoorParR
namespace Go.Proofs.YtdmnphebkkfjmaaDoor
open Go.ChangeShapes Go.WideShapes Go.ChangeAt Go.RowKit
theorem drop_part {l : List UInt8} {f i : Nat} {x : UInt8} (hf : f ≤ i) (hi : l[i]? = some x) : l.drop f = (l.drop f).take (i - f) ++ x :: l.drop (i + 1) := by
  have h := List.take_append_drop (i - f) (l.drop f)
  rw [List.drop_drop, show f + (i - f) = i by omega, drop_at hi] at h
  exact h.symm
/-- where the reference stands -/
def FInv (l : List UInt8) (R : List (List UInt8) × Nat × Nat) (out : List (List UInt8)) (f i : Nat) : Prop :=
  (i ≤ l.length ∧ f ≤ i ∧ 33 ∉ (l.drop f).take (i - f) ∧ parsS (splitL (l.drop f)) out f = R) ∨ (i = l.length + 1 ∧ R = (out, 0, 0))
theorem finv_step {l R out f i x} (h : FInv l R out f i) (hi : l[i]? = some x) (hx : x ≠ 33) : FInv l R out f (i + 1) := by
  have hlt := (List.getElem?_eq_some_iff.1 hi).1
  rcases h with ⟨h1, h2, h3, h4⟩ | ⟨h1, _⟩
  · refine .inl ⟨by omega, by omega, ?_, h4⟩
    rw [show i + 1 - f = (i - f) + 1 by omega, take_succ_at (by rw [List.getElem?_drop, show f + (i - f) = i by omega]; exact hi)]
    intro hm
    rcases List.mem_append.1 hm with hm | hm
    · exact h3 hm
    · simp at hm; exact hx hm.symm
  · omega
/-- a piece is read: at a '!' or at the end -/
theorem finv_piece {l R out f i} (h : FInv l R out f i) (hi : i ≤ l.length) (hx : i = l.length ∨ l[i]? = some 33) :
    f ≤ i ∧ (if out.length = 50 then ([], f, 9) = R else if (siteS ((l.drop f).take (i - f))).2 = 0 then FInv l R (out ++ [(l.drop f).take (i - f)]) (i + 1) (i + 1)
      else ([], f + (siteS ((l.drop f).take (i - f))).1, (siteS ((l.drop f).take (i - f))).2) = R) := by
  rcases h with ⟨h1, h2, h3, h4⟩ | ⟨h1, _⟩
  · refine ⟨h2, ?_⟩
    have hlen : ((l.drop f).take (i - f)).length = i - f := by rw [List.length_take, List.length_drop]; omega
    rcases hx with hx | hx
    · have e : (l.drop f).take (i - f) = l.drop f := List.take_of_length_le (by rw [List.length_drop]; omega)
      rw [e] at h3 ⊢
      rw [splitL_none _ h3, parsS] at h4
      split
      · next h => rw [if_pos h] at h4; exact h4
      · next h =>
        rw [if_neg h] at h4
        split
        · next h' => rw [if_pos h'] at h4; exact .inr ⟨by omega, h4.symm⟩
        · next h' => rw [if_neg h'] at h4; exact h4
    · have hlt := (List.getElem?_eq_some_iff.1 hx).1
      rw [drop_part h2 hx, splitL_hit _ _ h3, parsS] at h4
      split
      · next h => rw [if_pos h] at h4; exact h4
      · next h =>
        rw [if_neg h] at h4
        split
        · next h' =>
          rw [if_pos h', hlen, show f + (i - f) + 1 = i + 1 by omega] at h4
          exact .inl ⟨by omega, Nat.le_refl _, by simp, h4⟩
        · next h' => rw [if_neg h'] at h4; exact h4
  · omega
set_option maxRecDepth 100000 in
set_option maxHeartbeats 1600000 in
theorem fparse_calls (l : List UInt8) (hlen : l.length ≤ 100000) (w : World) :
    Calls Tryd.prog 11 #[.string (str l)] w fun e w' => ParPost e w w' (parseS l) := by
  obtain ⟨i0, hi0, hz0, hz1, hz2⟩ := info_parts info_str
  by_cases h0 : l = []
  · have hR : parseS l = ([], 0, 0) := by unfold parseS; rw [if_pos h0]
    rw [hR]
    subst h0
    go_enter Tryd.func11, Tryd.ntmps11
    go_wp2
    go_ret3
    exact par_nil (Below.refl _ _)
  · have hR : parseS l = parsS (splitL l) [] 0 := by unfold parseS; rw [if_neg h0]
    obtain ⟨R, hRR⟩ : ∃ R, parsS (splitL l) [] 0 = R := ⟨_, rfl⟩
    rw [hR, hRR]
    have HR : Hid (FInv l R [] 0 0) := Lib.hid (.inl ⟨Nat.zero_le _, Nat.le_refl _, by simp, hRR⟩)
    obtain ⟨L, hL⟩ : ∃ L, l.length = L := ⟨_, rfl⟩
    have hne : l.isEmpty = false := by cases l <;> first | rfl | exact absurd rfl h0
    rw [hL] at hlen
    have HL := Lib.hid hL
    clear hRR hR h0
    go_enter Tryd.func11, Tryd.ntmps11
    go_wp2_with fail
    go_loopw [5, 6, 7] (fun v a b wr => ∃ (k : Nat) (out : List (List UInt8)) (f i : Nat), k ≤ 50 ∧ i ≤ L + 1 ∧ out.length = k ∧ a = .int .i64 f ∧ b = .int .i64 i ∧ FInv l R out f i ∧ wr.ownsRow w.heap.size 9 1 v k (strsV out) ∧ Below w.heap.size w wr) (fun _ _ b _ => L + 1 - (intOf b).toNat)
    case atStart => exact ⟨0, [], 0, 0, Nat.zero_le _, Nat.zero_le _, rfl, rfl, rfl, HR.out, World.ownsRow_nil _ _ _ _, Below.refl _ _⟩
    case round =>
      obtain ⟨k, out, f, i, hk50, hiL, hok, rfl, rfl, hinv, hown, hB⟩ := hrel
      obtain ⟨A5, c5, rfl, -⟩ := Row.of_own hown
      have Hok := Lib.hid hok; clear hok
      by_cases h1 : i ≤ L
      · have i1 : (i : Int) ≤ L := by omega
        have i0' : (0 : Int) ≤ i := by omega
        have hil : i ≤ l.length := by omega
        by_cases h2 : i < L
        · have i2 : (i : Int) < L := by omega
          obtain ⟨x, hx'⟩ : ∃ x, l[i]? = some x := ⟨_, List.getElem?_eq_getElem (by omega)⟩
          have hbx := byteAt_of hx'
          by_cases h33 : x = 33
          · subst h33
            have hx : i = l.length ∨ l[i]? = some 33 := .inr hx'
            clear hx'
            obtain ⟨hfi, hpc⟩ := finv_piece hinv hil hx
            obtain ⟨p, hp⟩ : ∃ p, (l.drop f).take (i - f) = p := ⟨_, rfl⟩
            rw [hp] at hpc
            have hs := fun W => rsite_calls p W
            obtain ⟨q, hq⟩ : ∃ q, (siteS p).1 = q := ⟨_, rfl⟩
            obtain ⟨E, hE⟩ : ∃ E, (siteS p).2 = E := ⟨_, rfl⟩
            have hq30 : q ≤ 30 := by rw [← hq]; exact site_pos p
            have hE20 : E ≤ 20 := by rw [← hE]; exact site_err p
            rw [Hok.out, hq, hE] at hpc
            rw [hq, hE] at hs
            have Hs := Lib.hid hs; have Hown := Lib.hid hown
            have j1 : (0 : Int) ≤ f := by omega
            have j2 : (f : Int) ≤ i := by omega
            clear hs hown hq hE hx hinv
            by_cases h50 : k = 50
            · rw [if_pos h50] at hpc
              have i3 : ((k : Int) == 50) = true := by rw [beq_iff_eq]; omega
              have HR' := Lib.hid hpc; clear hpc h50
              go_wp2_with fail
              go_ret3
              rw [← HR'.out]
              exact par_nil hB
            · rw [if_neg h50] at hpc
              have hk49 : k + 1 ≤ 50 := by omega
              have i3 : ((k : Int) == 50) = false := by rw [beq_eq_false_iff_ne]; omega
              by_cases hE0 : E = 0
              · rw [if_pos hE0] at hpc
                subst hE0
                have HR' := Lib.hid hpc; clear hpc h50
                have w3' : IntKind.i64.wrap ((i : Int) + 1) = (i : Int) + 1 := IntWalk.i64_in _ (by omega)
                have t1 : True := trivial
                go_wp2_with (first
                  | (go_at_call 29; refine (Hs.out _).mono ?_; rintro e w' ⟨rfl, hw⟩; have hw2 := hw.symm; clear hw; subst hw2)
                  | (have _t := t1; refine wpList_append_row _ rfl _ _ 22 rfl w.heap.size 9 i0 (.string .empty) 1 16 Tryd.underlying22 hi0 hz0 hz1 hz2 rfl (by decide) _ k (strsV out) rfl (Hown.out.alloc _) _ 1 1 [.string (str p)] rfl rfl (Blk.row (heap_alloc_new _ _)) (by simp [Value.oneCell']) (by unfold maxLen; omega) (by omega) (by have := hB.size; simp; omega) ?_; intro v2 w2 hown2 hg2 _; have hS2 : Below w.heap.size w w2 := (hB.alloc hB.size _).grown hg2 (Nat.le_trans hB.size (by simp)) (fun j hj => (Hown.out.lt j hj).1); rw [show strsV out ++ [.string (str p)] = strsV (out ++ [p]) from (by rw [strsV_app]; rfl)] at hown2; have Hown2 := Lib.hid hown2; clear hown2 hg2 t1; simp only [Act.put, List.setIfInBounds_toArray, List.set_cons_succ, List.set_cons_zero]))
                go_roundw
                case rel => exact ⟨k + 1, out ++ [p], i + 1, i + 1, by omega, by omega, by rw [List.length_append, Hok.out]; rfl, by go_num, by go_num, HR'.out, Hown2.out, hS2⟩
                case measure => simp [intOf]; omega
              · rw [if_neg hE0] at hpc
                have i4 : ((E : Int) != 0) = true := by rw [bne_iff_ne]; omega
                have w1' : IntKind.i64.wrap ((f : Int) + q) = (f : Int) + q := IntWalk.i64_in _ (by omega)
                have HR' := Lib.hid hpc; clear hpc h50 hE0
                go_wp2_with (go_at_call 29; refine (Hs.out _).mono ?_; rintro e w' ⟨rfl, hw⟩; have hw2 := hw.symm; clear hw; subst hw2)
                go_ret3
                rw [← HR'.out]
                exact par_nil hB
          · have h33' : ((x.toNat : Int) != 33) = true := by
              rw [bne_iff_ne]; intro e; exact h33 (UInt8.toNat_inj.1 (by show x.toNat = 33; omega))
            have hI := finv_step hinv hx' h33
            have HI := Lib.hid hI; have Hown := Lib.hid hown
            have w3' : IntKind.i64.wrap ((i : Int) + 1) = (i : Int) + 1 := IntWalk.i64_in _ (by omega)
            clear hI hinv hx' h33 hown
            go_wp2_with fail
            go_roundw
            case rel => exact ⟨k, out, f, i + 1, by omega, by omega, Hok.out, rfl, by go_num, HI.out, Hown.out, hB⟩
            case measure => simp [intOf]; omega
        · have i2 : ¬ (i : Int) < L := by omega
          have hx : i = l.length ∨ l[i]? = some 33 := .inl (by omega)
          obtain ⟨hfi, hpc⟩ := finv_piece hinv hil hx
          obtain ⟨p, hp⟩ : ∃ p, (l.drop f).take (i - f) = p := ⟨_, rfl⟩
          rw [hp] at hpc
          have hs := fun W => rsite_calls p W
          obtain ⟨q, hq⟩ : ∃ q, (siteS p).1 = q := ⟨_, rfl⟩
          obtain ⟨E, hE⟩ : ∃ E, (siteS p).2 = E := ⟨_, rfl⟩
          have hq30 : q ≤ 30 := by rw [← hq]; exact site_pos p
          have hE20 : E ≤ 20 := by rw [← hE]; exact site_err p
          rw [Hok.out, hq, hE] at hpc
          rw [hq, hE] at hs
          have Hs := Lib.hid hs; have Hown := Lib.hid hown
          have j1 : (0 : Int) ≤ f := by omega
          have j2 : (f : Int) ≤ i := by omega
          clear hs hown hq hE hx hinv
          by_cases h50 : k = 50
          · rw [if_pos h50] at hpc
            have i3 : ((k : Int) == 50) = true := by rw [beq_iff_eq]; omega
            have HR' := Lib.hid hpc; clear hpc h50
            go_wp2_with fail
            go_ret3
            rw [← HR'.out]
            exact par_nil hB
          · rw [if_neg h50] at hpc
            have hk49 : k + 1 ≤ 50 := by omega
            have i3 : ((k : Int) == 50) = false := by rw [beq_eq_false_iff_ne]; omega
            by_cases hE0 : E = 0
            · rw [if_pos hE0] at hpc
              subst hE0
              have HR' := Lib.hid hpc; clear hpc h50
              have w3' : IntKind.i64.wrap ((i : Int) + 1) = (i : Int) + 1 := IntWalk.i64_in _ (by omega)
              have t1 : True := trivial
              go_wp2_with (first
                | (go_at_call 29; refine (Hs.out _).mono ?_; rintro e w' ⟨rfl, hw⟩; have hw2 := hw.symm; clear hw; subst hw2)
                | (have _t := t1; refine wpList_append_row _ rfl _ _ 22 rfl w.heap.size 9 i0 (.string .empty) 1 16 Tryd.underlying22 hi0 hz0 hz1 hz2 rfl (by decide) _ k (strsV out) rfl (Hown.out.alloc _) _ 1 1 [.string (str p)] rfl rfl (Blk.row (heap_alloc_new _ _)) (by simp [Value.oneCell']) (by unfold maxLen; omega) (by omega) (by have := hB.size; simp; omega) ?_; intro v2 w2 hown2 hg2 _; have hS2 : Below w.heap.size w w2 := (hB.alloc hB.size _).grown hg2 (Nat.le_trans hB.size (by simp)) (fun j hj => (Hown.out.lt j hj).1); rw [show strsV out ++ [.string (str p)] = strsV (out ++ [p]) from (by rw [strsV_app]; rfl)] at hown2; have Hown2 := Lib.hid hown2; clear hown2 hg2 t1; simp only [Act.put, List.setIfInBounds_toArray, List.set_cons_succ, List.set_cons_zero]))
              go_roundw
              case rel => exact ⟨k + 1, out ++ [p], i + 1, i + 1, by omega, by omega, by rw [List.length_append, Hok.out]; rfl, by go_num, by go_num, HR'.out, Hown2.out, hS2⟩
              case measure => simp [intOf]; omega
            · rw [if_neg hE0] at hpc
              have i4 : ((E : Int) != 0) = true := by rw [bne_iff_ne]; omega
              have w1' : IntKind.i64.wrap ((f : Int) + q) = (f : Int) + q := IntWalk.i64_in _ (by omega)
              have HR' := Lib.hid hpc; clear hpc h50 hE0
              go_wp2_with (go_at_call 29; refine (Hs.out _).mono ?_; rintro e w' ⟨rfl, hw⟩; have hw2 := hw.symm; clear hw; subst hw2)
              go_ret3
              rw [← HR'.out]
              exact par_nil hB
      · have i1 : ¬ (i : Int) ≤ L := by omega
        rcases hinv with ⟨h, _⟩ | ⟨_, hr⟩
        · omega
        · have HR' := Lib.hid hr; clear hr
          go_wp2_with fail
          go_ret3
          rw [HR'.out]
          exact par_ok Hok.out hown (Nat.le_refl _) hB
end Go.Proofs.YtdmnphebkkfjmaaDoor
