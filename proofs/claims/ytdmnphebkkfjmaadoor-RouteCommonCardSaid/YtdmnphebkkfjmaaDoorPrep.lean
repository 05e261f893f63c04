/- Prepend of routes, walked. -/
import Derived.Test.YtdmnphebkkfjmaaDoorChk
namespace Go.Proofs.YtdmnphebkkfjmaaDoor
open Go.ChangeShapes Go.WideShapes Go.ChangeAt Go.RowKit
def prepE (ls : List (List UInt8)) (s : List UInt8) : Nat := if (siteS s).2 ≠ 0 then (siteS s).2 else chk ls
def PrepPost (e0 : Ending) (w w' : World) (ls : List (List UInt8)) (s : List UInt8) (n : Nat) : Prop :=
  (prepE ls s ≠ 0 ∧ e0 = .returned (.tuple #[.slice none 0 0, .int .i64 (prepE ls s)]) ∧ w' = w) ∨
  (prepE ls s = 0 ∧ n ≤ 50 ∧ ∃ g c m, e0 = .returned (.tuple #[.slice (some ⟨g, 0, none⟩) m c, .int .i64 0]) ∧ m = min (n + 1) 50 ∧ n + 1 ≤ c ∧ w'.ownsRow w.heap.size 9 1 (.slice (some ⟨g, 0, none⟩) (n + 1) c) (n + 1) (strsV (s :: ls)) ∧ Below w.heap.size w w')
theorem own_some {w : World} {base n size : Nat} {e : TypeId} {v : Value} {xs : List Value} (h : w.ownsRow base e size v n xs) (hn : 0 < n) : ∃ g c, v = .slice (some ⟨g, 0, none⟩) n c ∧ n ≤ c := by
  rcases h.2 with ⟨-, h⟩ | ⟨g, cap, cur, h, _, _, h2, _⟩
  · omega
  · exact ⟨g, cap, h, h2⟩
set_option maxHeartbeats 800000 in
theorem prepend_calls (A : Option Addr) (ls : List (List UInt8)) (n c : Nat) (s : List UInt8) (hln : ls.length = n) (hnc : n ≤ c) (hn : n ≤ 1000) (w : World) (hl : Strs w A ls) :
    Calls Tryd.prog 19 #[.slice A n c, .string (str s)] w fun e w' => PrepPost e w w' ls s n := by
  have Hl := Lib.hid hln
  obtain ⟨i0, hi0, hz0, hz1, hz2⟩ := info_parts info_str
  have hs := fun W => site_calls s W
  by_cases h1 : (siteS s).2 = 0
  · rw [h1] at hs
    have hc := fun W (h : Strs W A ls) => rcheck_calls A ls n c hln hnc W h
    by_cases h2 : chk ls = 0
    · rw [h2] at hc
      have hE : prepE ls s = 0 := by unfold prepE; rw [if_neg (by omega), h2]
      have h50 : n ≤ 50 := by
        rcases Nat.lt_or_ge 50 n with h | h
        · unfold chk at h2; rw [if_pos (by omega)] at h2; omega
        · exact h
      have HE := Lib.hid hE
      have Hs := Lib.hid hs
      have Hc := Lib.hid hc
      have hown0 := own_new w w.heap.size (Nat.le_refl _) [.string (str s)] 9 1 1 rfl (by unfold maxLen; omega)
      have t1 : True := trivial
      clear hs hc hE h1 h2 hln
      by_cases h49 : n ≤ 49
      · have hmin : min ((1 : Int) + n) 50 = 1 + n := by omega
        have hgt : ¬ (50 : Int) < 1 + n := by omega
        go_enter Tryd.func19, Tryd.ntmps19
        go_wp2_with (first
          | (go_at_call 28; refine (Hs.out _).mono ?_; rintro e w' ⟨rfl, hw⟩; have hw2 := hw.symm; clear hw; subst hw2)
          | (go_at_call 16; refine (Hc.out _ hl).mono ?_; rintro e w' ⟨rfl, hw⟩; have hw2 := hw.symm; clear hw; subst hw2)
          | (have _t := t1; at_builtin; go_must (refine wpList_append_row _ rfl _ _ 23 rfl w.heap.size 9 i0 (.string .empty) 1 16 Tryd.underlying23 hi0 hz0 hz1 hz2 rfl (by decide) (.slice (some ⟨w.heap.size, 0, none⟩) 1 1) 1 [.string (str s)] rfl hown0 A n c (strsV ls) rfl (by rw [strsV_len, Hl.out, Nat.mul_one]) (hl.alloc _) (strsV_one _) (by unfold maxLen; omega) (by omega) (by simp) ?_); intro v1 w1 hown1 hg1 _; obtain ⟨g, c1, rfl, hc1⟩ := own_some hown1 (by omega); have hb1 : Below w.heap.size w w1 := ((Below.refl _ w).alloc (Nat.le_refl _) _).grown hg1 (by simp) (fun k hk => (hown0.lt k hk).1); have hown2 : w1.ownsRow w.heap.size 9 1 (.slice (some ⟨g, 0, none⟩) (n + 1) c1) (n + 1) (strsV (s :: ls)) := (by rw [Nat.add_comm n 1]; exact hown1); have Hown2 := Lib.hid hown2; clear hown1 hown2 hg1; have hc2 : (1 : Int) + n ≤ c1 := (by omega); have hc3 : (50 : Int) ≤ c1 ∨ n ≤ 49 := (by omega); clear t1))
        go_wp2_with fail
        go_ret2
        exact .inr ⟨HE.out, h50, g, c1, 1 + n, rfl, by omega, by omega, Hown2.out, hb1⟩
      · have hn50 : 50 ≤ n := by omega
        have hmin : min ((1 : Int) + n) 50 = 50 := by omega
        have hgt : (50 : Int) < 1 + n := by omega
        go_enter Tryd.func19, Tryd.ntmps19
        go_wp2_with (first
          | (go_at_call 28; refine (Hs.out _).mono ?_; rintro e w' ⟨rfl, hw⟩; have hw2 := hw.symm; clear hw; subst hw2)
          | (go_at_call 16; refine (Hc.out _ hl).mono ?_; rintro e w' ⟨rfl, hw⟩; have hw2 := hw.symm; clear hw; subst hw2)
          | (have _t := t1; at_builtin; go_must (refine wpList_append_row _ rfl _ _ 23 rfl w.heap.size 9 i0 (.string .empty) 1 16 Tryd.underlying23 hi0 hz0 hz1 hz2 rfl (by decide) (.slice (some ⟨w.heap.size, 0, none⟩) 1 1) 1 [.string (str s)] rfl hown0 A n c (strsV ls) rfl (by rw [strsV_len, Hl.out, Nat.mul_one]) (hl.alloc _) (strsV_one _) (by unfold maxLen; omega) (by omega) (by simp) ?_); intro v1 w1 hown1 hg1 _; obtain ⟨g, c1, rfl, hc1⟩ := own_some hown1 (by omega); have hb1 : Below w.heap.size w w1 := ((Below.refl _ w).alloc (Nat.le_refl _) _).grown hg1 (by simp) (fun k hk => (hown0.lt k hk).1); have hown2 : w1.ownsRow w.heap.size 9 1 (.slice (some ⟨g, 0, none⟩) (n + 1) c1) (n + 1) (strsV (s :: ls)) := (by rw [Nat.add_comm n 1]; exact hown1); have Hown2 := Lib.hid hown2; clear hown1 hown2 hg1; have hc2 : (1 : Int) + n ≤ c1 := (by omega); have hc3 : (50 : Int) ≤ c1 := (by omega); have hc4 : 50 ≤ c1 := (by omega); clear t1))
        go_wp2_with fail
        go_ret2
        exact .inr ⟨HE.out, h50, g, c1, 50, rfl, by omega, by omega, Hown2.out, hb1⟩
    · have hE : prepE ls s = chk ls := by unfold prepE; rw [if_neg (by omega)]
      obtain ⟨E, hEe⟩ : ∃ E, chk ls = E := ⟨_, rfl⟩
      rw [hEe] at hc hE h2
      have hne : ((E : Int) != 0) = true := by rw [bne_iff_ne]; omega
      have HE := Lib.hid hE
      have Hs := Lib.hid hs
      have Hc := Lib.hid hc
      have H2 := Lib.hid h2
      clear hs hc hE h1 h2 hln hEe
      go_enter Tryd.func19, Tryd.ntmps19
      go_wp2_with (first
        | (go_at_call 28; refine (Hs.out _).mono ?_; rintro e w' ⟨rfl, hw⟩; have hw2 := hw.symm; clear hw; subst hw2)
        | (go_at_call 16; refine (Hc.out _ hl).mono ?_; rintro e w' ⟨rfl, hw⟩; have hw2 := hw.symm; clear hw; subst hw2))
      go_ret2
      exact .inl ⟨by rw [HE.out]; exact H2.out, by rw [HE.out]; rfl, rfl⟩
  · have hE : prepE ls s = (siteS s).2 := by unfold prepE; rw [if_pos h1]
    obtain ⟨E, hEe⟩ : ∃ E, (siteS s).2 = E := ⟨_, rfl⟩
    rw [hEe] at hs hE h1
    have hne : ((E : Int) != 0) = true := by rw [bne_iff_ne]; omega
    have HE := Lib.hid hE
    have Hs := Lib.hid hs
    have H1 := Lib.hid h1
    clear hs hE h1 hln hEe
    go_enter Tryd.func19, Tryd.ntmps19
    go_wp2_with (first
      | (go_at_call 28; refine (Hs.out _).mono ?_; rintro e w' ⟨rfl, hw⟩; have hw2 := hw.symm; clear hw; subst hw2))
    go_ret2
    exact .inl ⟨by rw [HE.out]; exact H1.out, by rw [HE.out]; rfl, rfl⟩
set_option maxHeartbeats 800000 in
theorem fprepend_calls (A : Option Addr) (ls : List (List UInt8)) (n c : Nat) (s : List UInt8) (hln : ls.length = n) (hnc : n ≤ c) (hn : n ≤ 1000) (w : World) (hl : Strs w A ls) :
    Calls Tryd.prog 20 #[.slice A n c, .string (str s)] w fun e w' => PrepPost e w w' ls s n := by
  have Hl := Lib.hid hln
  obtain ⟨i0, hi0, hz0, hz1, hz2⟩ := info_parts info_str
  have hs := fun W => rsite_calls s W
  by_cases h1 : (siteS s).2 = 0
  · rw [h1] at hs
    have hc := fun W (h : Strs W A ls) => fcheck_calls A ls n c hln hnc W h
    by_cases h2 : chk ls = 0
    · rw [h2] at hc
      have hE : prepE ls s = 0 := by unfold prepE; rw [if_neg (by omega), h2]
      have h50 : n ≤ 50 := by
        rcases Nat.lt_or_ge 50 n with h | h
        · unfold chk at h2; rw [if_pos (by omega)] at h2; omega
        · exact h
      have HE := Lib.hid hE
      have Hs := Lib.hid hs
      have Hc := Lib.hid hc
      have hown0 := own_new w w.heap.size (Nat.le_refl _) [.string (str s)] 9 1 1 rfl (by unfold maxLen; omega)
      have t1 : True := trivial
      clear hs hc hE h1 h2 hln
      by_cases h49 : n ≤ 49
      · have hmin : min ((1 : Int) + n) 50 = 1 + n := by omega
        have hgt : ¬ (50 : Int) < 1 + n := by omega
        go_enter Tryd.func20, Tryd.ntmps20
        go_wp2_with (first
          | (go_at_call 29; refine (Hs.out _).mono ?_; rintro e w' ⟨rfl, hw⟩; have hw2 := hw.symm; clear hw; subst hw2)
          | (go_at_call 17; refine (Hc.out _ hl).mono ?_; rintro e w' ⟨rfl, hw⟩; have hw2 := hw.symm; clear hw; subst hw2)
          | (have _t := t1; at_builtin; go_must (refine wpList_append_row _ rfl _ _ 22 rfl w.heap.size 9 i0 (.string .empty) 1 16 Tryd.underlying22 hi0 hz0 hz1 hz2 rfl (by decide) (.slice (some ⟨w.heap.size, 0, none⟩) 1 1) 1 [.string (str s)] rfl hown0 A n c (strsV ls) rfl (by rw [strsV_len, Hl.out, Nat.mul_one]) (hl.alloc _) (strsV_one _) (by unfold maxLen; omega) (by omega) (by simp) ?_); intro v1 w1 hown1 hg1 _; obtain ⟨g, c1, rfl, hc1⟩ := own_some hown1 (by omega); have hb1 : Below w.heap.size w w1 := ((Below.refl _ w).alloc (Nat.le_refl _) _).grown hg1 (by simp) (fun k hk => (hown0.lt k hk).1); have hown2 : w1.ownsRow w.heap.size 9 1 (.slice (some ⟨g, 0, none⟩) (n + 1) c1) (n + 1) (strsV (s :: ls)) := (by rw [Nat.add_comm n 1]; exact hown1); have Hown2 := Lib.hid hown2; clear hown1 hown2 hg1; have hc2 : (1 : Int) + n ≤ c1 := (by omega); have hc3 : (50 : Int) ≤ c1 ∨ n ≤ 49 := (by omega); clear t1))
        go_wp2_with fail
        go_ret2
        exact .inr ⟨HE.out, h50, g, c1, 1 + n, rfl, by omega, by omega, Hown2.out, hb1⟩
      · have hn50 : 50 ≤ n := by omega
        have hmin : min ((1 : Int) + n) 50 = 50 := by omega
        have hgt : (50 : Int) < 1 + n := by omega
        go_enter Tryd.func20, Tryd.ntmps20
        go_wp2_with (first
          | (go_at_call 29; refine (Hs.out _).mono ?_; rintro e w' ⟨rfl, hw⟩; have hw2 := hw.symm; clear hw; subst hw2)
          | (go_at_call 17; refine (Hc.out _ hl).mono ?_; rintro e w' ⟨rfl, hw⟩; have hw2 := hw.symm; clear hw; subst hw2)
          | (have _t := t1; at_builtin; go_must (refine wpList_append_row _ rfl _ _ 22 rfl w.heap.size 9 i0 (.string .empty) 1 16 Tryd.underlying22 hi0 hz0 hz1 hz2 rfl (by decide) (.slice (some ⟨w.heap.size, 0, none⟩) 1 1) 1 [.string (str s)] rfl hown0 A n c (strsV ls) rfl (by rw [strsV_len, Hl.out, Nat.mul_one]) (hl.alloc _) (strsV_one _) (by unfold maxLen; omega) (by omega) (by simp) ?_); intro v1 w1 hown1 hg1 _; obtain ⟨g, c1, rfl, hc1⟩ := own_some hown1 (by omega); have hb1 : Below w.heap.size w w1 := ((Below.refl _ w).alloc (Nat.le_refl _) _).grown hg1 (by simp) (fun k hk => (hown0.lt k hk).1); have hown2 : w1.ownsRow w.heap.size 9 1 (.slice (some ⟨g, 0, none⟩) (n + 1) c1) (n + 1) (strsV (s :: ls)) := (by rw [Nat.add_comm n 1]; exact hown1); have Hown2 := Lib.hid hown2; clear hown1 hown2 hg1; have hc2 : (1 : Int) + n ≤ c1 := (by omega); have hc3 : (50 : Int) ≤ c1 := (by omega); have hc4 : 50 ≤ c1 := (by omega); clear t1))
        go_wp2_with fail
        go_ret2
        exact .inr ⟨HE.out, h50, g, c1, 50, rfl, by omega, by omega, Hown2.out, hb1⟩
    · have hE : prepE ls s = chk ls := by unfold prepE; rw [if_neg (by omega)]
      obtain ⟨E, hEe⟩ : ∃ E, chk ls = E := ⟨_, rfl⟩
      rw [hEe] at hc hE h2
      have hne : ((E : Int) != 0) = true := by rw [bne_iff_ne]; omega
      have HE := Lib.hid hE
      have Hs := Lib.hid hs
      have Hc := Lib.hid hc
      have H2 := Lib.hid h2
      clear hs hc hE h1 h2 hln hEe
      go_enter Tryd.func20, Tryd.ntmps20
      go_wp2_with (first
        | (go_at_call 29; refine (Hs.out _).mono ?_; rintro e w' ⟨rfl, hw⟩; have hw2 := hw.symm; clear hw; subst hw2)
        | (go_at_call 17; refine (Hc.out _ hl).mono ?_; rintro e w' ⟨rfl, hw⟩; have hw2 := hw.symm; clear hw; subst hw2))
      go_ret2
      exact .inl ⟨by rw [HE.out]; exact H2.out, by rw [HE.out]; rfl, rfl⟩
  · have hE : prepE ls s = (siteS s).2 := by unfold prepE; rw [if_pos h1]
    obtain ⟨E, hEe⟩ : ∃ E, (siteS s).2 = E := ⟨_, rfl⟩
    rw [hEe] at hs hE h1
    have hne : ((E : Int) != 0) = true := by rw [bne_iff_ne]; omega
    have HE := Lib.hid hE
    have Hs := Lib.hid hs
    have H1 := Lib.hid h1
    clear hs hE h1 hln hEe
    go_enter Tryd.func20, Tryd.ntmps20
    go_wp2_with (first
      | (go_at_call 29; refine (Hs.out _).mono ?_; rintro e w' ⟨rfl, hw⟩; have hw2 := hw.symm; clear hw; subst hw2))
    go_ret2
    exact .inl ⟨by rw [HE.out]; exact H1.out, by rw [HE.out]; rfl, rfl⟩
end Go.Proofs.YtdmnphebkkfjmaaDoor
