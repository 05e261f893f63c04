/- Parse of routes, walked. -/
import Derived.Test.YtdmnphebkkfjmaaDoorParP
namespace Go.Proofs.YtdmnphebkkfjmaaDoor
open Go.ChangeShapes Go.WideShapes Go.ChangeAt Go.RowKit
def ParPost (e0 : Ending) (w w' : World) (R : List (List UInt8) × Nat × Nat) : Prop :=
  ∃ v, e0 = .returned (.tuple #[v, .int .i64 R.2.1, .int .i64 R.2.2]) ∧ w'.ownsRow w.heap.size 9 1 v R.1.length (strsV R.1) ∧ Below w.heap.size w w'
theorem par_nil {w w' : World} {a e : Nat} (hB : Below w.heap.size w w') : ParPost (.returned (.tuple #[.slice none 0 0, .int .i64 a, .int .i64 e])) w w' ([], a, e) := ⟨_, rfl, World.ownsRow_nil _ _ _ _, hB⟩
theorem par_ok {w w' : World} {v : Value} {ps : List (List UInt8)} {n B : Nat} (hn : ps.length = n) (h : w'.ownsRow B 9 1 v n (strsV ps)) (hb : w.heap.size ≤ B) (hB : Below w.heap.size w w') : ParPost (.returned (.tuple #[v, .int .i64 0, .int .i64 0])) w w' (ps, 0, 0) := by
  subst hn
  exact ⟨v, rfl, own_mono h hb, hB⟩
set_option maxRecDepth 100000 in
set_option maxHeartbeats 1600000 in
theorem parse_calls (l : List UInt8) (hlen : l.length ≤ 100000) (m : Int) (w : World) (hm : w.cell? ⟨0, 0, none⟩ = some (.int .i64 m)) :
    Calls Tryd.prog 10 #[.string (str l)] w fun e w' => ParPost e w w' (parseS l) := by
  obtain ⟨i0, hi0, hz0, hz1, hz2⟩ := info_parts info_str
  by_cases h0 : l = []
  · have hR : parseS l = ([], 0, 0) := by unfold parseS; rw [if_pos h0]
    rw [hR]
    subst h0
    go_enter Tryd.func10, Tryd.ntmps10
    go_wp2
    go_ret3
    exact par_nil (Below.refl _ _)
  · have hR : parseS l = parsS (splitL l) [] 0 := by unfold parseS; rw [if_neg h0]
    obtain ⟨R, hRR⟩ : ∃ R, parsS (splitL l) [] 0 = R := ⟨_, rfl⟩
    rw [hR, hRR]
    have HR : Hid (parsS ((splitL l).drop 0) ((splitL l).take 0) 0 = R) := Lib.hid hRR
    obtain ⟨ps, hps⟩ : ∃ ps, splitL l = ps := ⟨_, rfl⟩
    obtain ⟨N, hN⟩ : ∃ N, ps.length = N := ⟨_, rfl⟩
    rw [hps] at HR
    have hsp := fun W h1 h2 => Tryd.strings_Split (str l) ⟨#[33]⟩ m W h1 h2 (Nat.le_refl _)
    have hct : Lib.countB (str l) ⟨#[33]⟩ = N - 1 := by have := split_count l; rw [hps, hN] at this; omega
    have hct2 : N - 1 + 1 = N := by have := split_count l; rw [hps, hN] at this; omega
    have hNb : N ≤ 100001 := by
      have := split_count l
      have h2 := Lib.countB_le ⟨#[33]⟩ (Nat.le_refl _) _ (str l) (Nat.le_refl _)
      rw [hps, hN] at this; rw [str_size] at h2; omega
    have hcell : (Lib.splitB ⟨#[33]⟩ 0 (N - 1) (str l)).map Value.string = strsV ps := by rw [← hct, split_cells, hps]
    simp only [hct, hct2, hcell] at hsp
    have h33 : (str l).size < 4294967281 := by rw [str_size]; omega
    have hne : l.isEmpty = false := by cases l <;> first | rfl | exact absurd rfl h0
    have hsp2 := Lib.hid (hsp w h33 hm)
    have Hps := Lib.hid hps; have HN := Lib.hid hN; have Hne := Lib.hid h0
    clear hsp hcell hct hct2 hps hRR hR hN h0 h33
    go_enter Tryd.func10, Tryd.ntmps10
    go_wp2_with (go_at_call 27; refine hsp2.out.mono ?_; rintro e w1 ⟨rfl, hw⟩; have hw2 := hw.symm; clear hw; subst hw2)
    have hbk : Blk (w.alloc (.cells (strsV ps).toArray 9)) w.heap.size 9 (strsV ps).toArray := heap_alloc_new w _
    have hps1 : Strs (w.alloc (.cells (strsV ps).toArray 9)) (some ⟨w.heap.size, 0, none⟩) ps := hbk.row
    have hB1 := (Below.refl _ w).alloc (Nat.le_refl _) (.cells (strsV ps).toArray 9)
    obtain ⟨w1, hw1⟩ : ∃ w1, w.alloc (.cells (strsV ps).toArray 9) = w1 := ⟨_, rfl⟩
    have hsz1 : w1.heap.size = w.heap.size + 1 := by rw [← hw1]; simp
    rw [hw1] at hps1 hB1 ⊢
    clear hbk hsp2 hw1
    go_loopw [5, 6, 16] (fun v a i wr => ∃ k b : Nat, k ≤ N ∧ k ≤ 50 ∧ i = .int .i64 k ∧ a = .int .i64 b ∧ b ≤ 31 * k ∧ parsS (ps.drop k) (ps.take k) b = R ∧ wr.ownsRow w1.heap.size 9 1 v k (strsV (ps.take k)) ∧ Below w1.heap.size w1 wr) (fun _ _ i _ => N - (intOf i).toNat)
    case atStart => exact ⟨0, 0, Nat.zero_le _, Nat.zero_le _, rfl, rfl, Nat.zero_le _, HR.out, by simpa [strsV] using World.ownsRow_nil _ _ _ _, Below.refl _ _⟩
    case round =>
      obtain ⟨k, b, hk, hk50, rfl, rfl, hb, hr, hown, hB⟩ := hrel
      obtain ⟨A5, c5, rfl, -⟩ := Row.of_own hown
      by_cases h1 : k < N
      · obtain ⟨x, hx⟩ : ∃ x, ps[k]? = some x := ⟨_, List.getElem?_eq_getElem (by rw [HN.out]; exact h1)⟩
        obtain ⟨ad, had, hA⟩ := strs_at hps1 hx
        injection had with had; subst had
        have hA2 := below_at hA hB
        rw [Addr.add_mid, Nat.zero_add] at hA2
        have hs := fun W => site_calls x W
        have hxl := fun h => site_len (l := x) h
        obtain ⟨q, hq⟩ : ∃ q, (siteS x).1 = q := ⟨_, rfl⟩
        obtain ⟨E, hE⟩ : ∃ E, (siteS x).2 = E := ⟨_, rfl⟩
        have hq30 : q ≤ 30 := by rw [← hq]; exact site_pos x
        have hE20 : E ≤ 20 := by rw [← hE]; exact site_err x
        rw [drop_at hx, parsS, List.length_take_of_le (by rw [HN.out]; exact hk), hq, hE] at hr
        rw [hq, hE] at hs
        rw [hE] at hxl
        have i1 : (k : Int) < N := by omega
        have i0' : (0 : Int) ≤ k := by omega
        have Hs := Lib.hid hs; have Hown := Lib.hid hown; have Hx := Lib.hid hx
        clear hs hown hx hq hE hA
        by_cases h50 : k = 50
        · rw [if_pos h50] at hr
          have i2 : ((k : Int) == 50) = true := by rw [beq_iff_eq]; omega
          have HR' := Lib.hid hr; clear hr h50
          go_wp2_with fail
          go_ret3
          rw [← HR'.out]
          exact par_nil (below_then hB1 (Nat.le_refl _) hB)
        · rw [if_neg h50] at hr
          have hk49 : k + 1 ≤ 50 := by omega
          have i2 : ((k : Int) == 50) = false := by rw [beq_eq_false_iff_ne]; omega
          by_cases hE0 : E = 0
          · rw [if_pos hE0] at hr
            subst hE0
            have hxl' := hxl rfl
            have HR' := Lib.hid hr; clear hr h50 hxl
            have w1' : IntKind.i64.wrap ((x.length : Int) + 1) = (x.length : Int) + 1 := IntWalk.i64_in _ (by omega)
            have w2' : IntKind.i64.wrap ((b : Int) + ((x.length : Int) + 1)) = (b : Int) + ((x.length : Int) + 1) := IntWalk.i64_in _ (by omega)
            have t1 : True := trivial
            go_wp2_with (first
              | (go_at_call 28; refine (Hs.out _).mono ?_; rintro e w' ⟨rfl, hw⟩; have hw2 := hw.symm; clear hw; subst hw2)
              | (have _t := t1; refine wpList_append_row _ rfl _ _ 23 rfl w1.heap.size 9 i0 (.string .empty) 1 16 Tryd.underlying23 hi0 hz0 hz1 hz2 rfl (by decide) _ k (strsV (ps.take k)) rfl (Hown.out.alloc _) _ 1 1 [.string (str x)] rfl rfl (Blk.row (heap_alloc_new _ _)) (by simp [Value.oneCell']) (by unfold maxLen; omega) (by omega) (by have := hB.size; simp; omega) ?_; intro v2 w2 hown2 hg2 _; have hS2 : Below w1.heap.size w1 w2 := (hB.alloc hB.size _).grown hg2 (Nat.le_trans hB.size (by simp)) (fun j hj => (Hown.out.lt j hj).1); rw [show strsV (ps.take k) ++ [.string (str x)] = strsV (ps.take (k + 1)) from (by rw [take_succ_at Hx.out, strsV_app]; rfl)] at hown2; have Hown2 := Lib.hid hown2; clear hown2 hg2 t1; simp only [Act.put, List.setIfInBounds_toArray, List.set_cons_succ, List.set_cons_zero]))
            go_roundw
            case rel => exact ⟨k + 1, b + x.length + 1, by omega, by omega, by go_num, by go_num, by omega, by rw [take_succ_at Hx.out]; exact HR'.out, Hown2.out, hS2⟩
            case measure => simp [intOf]; omega
          · rw [if_neg hE0] at hr
            have i3 : ((E : Int) != 0) = true := by rw [bne_iff_ne]; omega
            have w1' : IntKind.i64.wrap ((b : Int) + q) = (b : Int) + q := IntWalk.i64_in _ (by omega)
            have HR' := Lib.hid hr; clear hr h50 hE0 hxl
            go_wp2_with (go_at_call 28; refine (Hs.out _).mono ?_; rintro e w' ⟨rfl, hw⟩; have hw2 := hw.symm; clear hw; subst hw2)
            go_ret3
            rw [← HR'.out]
            exact par_nil (below_then hB1 (Nat.le_refl _) hB)
      · have i1 : ¬ (k : Int) < N := by omega
        have hkN : k = N := by omega
        rw [List.drop_eq_nil_of_le (by rw [HN.out]; omega), List.take_of_length_le (by rw [HN.out]; omega), parsS] at hr
        rw [List.take_of_length_le (by rw [HN.out]; omega)] at hown
        have Hk := Lib.hid (show ps.length = k by rw [HN.out]; omega)
        have HR' := Lib.hid hr; clear hr hkN
        go_wp2_with fail
        go_ret3
        rw [← HR'.out]
        exact par_ok Hk.out hown (by omega) (below_then hB1 (Nat.le_refl _) hB)
end Go.Proofs.YtdmnphebkkfjmaaDoor
