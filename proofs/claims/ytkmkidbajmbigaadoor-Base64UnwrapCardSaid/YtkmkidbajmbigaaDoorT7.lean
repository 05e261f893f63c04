/- Decode, walked. -/
import Derived.Test.YtkmkidbajmbigaaDoorT6
namespace Go.Proofs.YtkmkidbajmbigaaDoor
open Go.ChangeShapes Go.WideShapes Go.ChangeAt Go.RowKit

theorem size_calls (n : Int) (w : World) : Calls Tryd.prog 9 #[.int .i64 n] w fun e w' => e = .returned (.int .i64 (if n < 0 ∨ n > 131072 then 0 else (n + 2) / 3 * 4)) ∧ w' = w := by
  by_cases h1 : n < 0
  · rw [if_pos (.inl h1)]
    go_enter Tryd.func9, Tryd.ntmps9
    go_wp2
    all_goals go_ret
    all_goals exact ⟨rfl, rfl⟩
  · by_cases h2 : n > 131072
    · rw [if_pos (.inr h2)]
      go_enter Tryd.func9, Tryd.ntmps9
      go_wp2
      all_goals go_ret
      all_goals exact ⟨rfl, rfl⟩
    · rw [if_neg (by omega)]
      have h3 : n ≤ 131072 := by omega
      go_enter Tryd.func9, Tryd.ntmps9
      go_wp2
      all_goals go_ret
      all_goals exact ⟨rfl, rfl⟩

set_option maxHeartbeats 3200000 in
theorem decode_calls (l : List UInt8) (hl : l.length ≤ 100000) (w : World) :
    Calls Tryd.prog 8 #[.string (str l)] w fun e w' => ∃ v, e = .returned (.tuple #[v, .int .i64 (decS l).2.1, .int .i64 (decS l).2.2]) ∧ w'.ownsRow w.heap.size 5 1 v (decS l).1.length (idc (decS l).1) ∧ Below w.heap.size w w' := by
  have hsz := str_size l
  obtain ⟨n, hn⟩ : ∃ n, n = l.length := ⟨_, rfl⟩
  rw [← hn] at hsz hl
  have Hn := Lib.hid hn
  clear hn
  have HR : Hid (decS l = dgo l l 0 ⟨[], 0, 0, 0⟩) := Lib.hid rfl
  generalize decS l = R at HR
  go_enter Tryd.func8, Tryd.ntmps8
  go_wp2_with (first
    | (go_at_call 9; go_must (refine (size_calls _ _).mono ?_; rintro e w ⟨rfl, rfl⟩))
    | (go_at_call 13; go_must (refine (values_calls _).mono ?_; rintro e w1 ⟨rfl, hm1, hb1, hs1⟩)))
  obtain ⟨i0, hi0, hz0, hz1, hz2⟩ := byteInfo
  obtain ⟨i3, hi3, hi4⟩ : ∃ i, Tryd.prog.info? 3 = some i ∧ i.zero = some (.int .i64 0) := by
    have h := (show (Tryd.prog.info? 3).map (·.zero) = some (some (.int .i64 0)) from by kernel_rfl)
    obtain ⟨i, h1, h2⟩ := Option.map_eq_some_iff.1 h
    exact ⟨i, h1, h2⟩
  go_loopw [6, 7, 8, 9, 20] (fun o b c t i wr => ∃ (k : Nat) (st : DSt), k ≤ n ∧ i = .int .i64 k ∧ okD st ∧ st.out.length ≤ k ∧ b = .int .i64 st.bits ∧ c = .int .i64 st.cnt ∧ t = .int .i64 st.last ∧ dgo l (l.drop k) k st = R ∧
      wr.ownsRow (w.heap.size + 1) 5 1 o st.out.length (idc st.out) ∧ TabMap wr w.heap.size 64 ∧ Below w.heap.size w wr ∧ w.heap.size < wr.heap.size) (fun _ _ _ _ i _ => n - (intOf i).toNat)
  case atStart => exact ⟨0, ⟨[], 0, 0, 0⟩, Nat.zero_le _, rfl, ⟨.inl rfl, by decide⟩, Nat.le_refl _, rfl, rfl, rfl, HR.out.symm, ⟨rfl, .inl ⟨rfl, rfl⟩⟩, hm1, hb1, hs1⟩
  case round =>
    obtain ⟨k, ⟨o, bits, cnt, last⟩, hk, rfl, hok, hol, rfl, rfl, rfl, hd, hown, hmap, hb2, hs2⟩ := hrel
    simp only at hok hol hown
    by_cases hlt : k < n
    · have hkl : k < l.length := by rw [← Hn.out]; exact hlt
      obtain ⟨x, hx⟩ : ∃ x, x = l[k] := ⟨_, rfl⟩
      have hxl : l[k]? = some x := by rw [hx]; exact List.getElem?_eq_getElem hkl
      have hat := str_at l k x hxl
      have hdrop : l.drop k = x :: l.drop (k + 1) := by rw [List.drop_eq_getElem_cons hkl, hx]
      rw [hdrop, dgo] at hd
      have Hkl := Lib.hid hkl
      clear hdrop hxl hx hkl
      by_cases hlook : lookOk x.toNat = true
      · have hv64 := lookV_lt _ hlook
        rw [if_pos hlook] at hd
        obtain ⟨v, hv⟩ : ∃ v, v = lookV x.toNat := ⟨_, rfl⟩
        rw [← hv] at hd hv64
        have Hv := Lib.hid hv.symm
        have Hok := Lib.hid hlook
        have hok2 := okD_step hok k hv64
        have Hd := Lib.hid hd
        clear hv hlook hd
        obtain ⟨hcnt, hbits⟩ := hok
        simp only at hcnt hbits
        rcases hcnt with rfl | rfl | rfl | rfl
        · obtain ⟨m, hm⟩ : ∃ m, m = bits * 64 + v := ⟨_, rfl⟩
          have hor := i64_join bits v 6 (by omega) (by omega)
          rw [show (2:Nat) ^ 6 = 64 from rfl, ← hm] at hor
          simp at hor
          have Hm := Lib.hid hm
          have hst : dstep ⟨o, bits, 0, last⟩ k v = ⟨o, m, 6, k⟩ := by rw [Hm.out]; rfl
          have Hst := Lib.hid hst
          have hm13 : m < 2 ^ 13 := by omega
          clear hm hst
          have t1 : True := trivial
          go_wp2_with (first
            | (have _t := t1; refine wpList_lookup_tab rfl 39 _ _ rfl Tryd.underlying39 Tryd.underlying5 hi3 hi4 w.heap.size rfl x.toNat rfl hmap ?_; rw [Hv.out, Hok.out]; simp only [Act.put, List.setIfInBounds_toArray, List.set_cons_succ, List.set_cons_zero]; clear t1))
          go_roundw
          case rel =>
            have e1 := Hst.out
            rw [e1] at hok2
            refine ⟨k + 1, ⟨o, m, 6, k⟩, by omega, by go_num, hok2, by simp only; omega, rfl, rfl, rfl, ?_, hown, hmap, hb2, hs2⟩
            rw [← e1]; exact Hd.out
          case measure => simp [intOf]; omega
        · obtain ⟨m, hm⟩ : ∃ m, m = bits * 64 + v := ⟨_, rfl⟩
          have hor := i64_join bits v 6 (by omega) (by omega)
          rw [show (2:Nat) ^ 6 = 64 from rfl, ← hm] at hor
          have hmask := i64_mask m 0 (by omega) (by omega)
          simp at hor hmask
          have hq : m / 2 ^ 0 < 256 := by omega
          obtain ⟨y, hy⟩ : ∃ y, y = UInt8.ofNat (m / 2 ^ 0) := ⟨_, rfl⟩
          have Hy : Hid ((y.toNat : Int) = (m : Int)) := Lib.hid (by rw [hy, UInt8.toNat_ofNat']; omega)
          have Hm := Lib.hid hm
          have hst : dstep ⟨o, bits, 2, last⟩ k v = ⟨o ++ [y], m % 2 ^ 0, 0, k⟩ := by rw [hy, Hm.out]; rfl
          have Hst := Lib.hid hst
          have hm13 : m < 2 ^ 13 := by omega
          clear hm hst hy
          have t1 : True := trivial
          have t2 : True := trivial
          go_wp2_with (first
            | (have _t := t1; refine wpList_lookup_tab rfl 39 _ _ rfl Tryd.underlying39 Tryd.underlying5 hi3 hi4 w.heap.size rfl x.toNat rfl hmap ?_; rw [Hv.out, Hok.out]; simp only [Act.put, List.setIfInBounds_toArray, List.set_cons_succ, List.set_cons_zero]; clear t1)
            | (have _t := t2; refine wpList_append_row _ rfl _ _ 31 rfl (w.heap.size + 1) 5 i0 (.int .u8 0) 1 1 Tryd.underlying31 hi0 hz0 hz1 hz2 rfl (by decide) _ _ _ rfl (hown.alloc _) (some ⟨wr.heap.size, 0, none⟩) 1 1 [.int .u8 y.toNat] rfl rfl (by rw [Hy.out]; exact Row.new wr _ _) (by intro u hu; simp at hu; subst hu; rfl) (by unfold maxLen; omega) (by omega) (by simp; omega) ?_; intro v2 w2 hown2 hg2 hv2; have Hg2 := Lib.hid hg2; have Hv2 := Lib.hid hv2; clear hg2 hv2; simp only [Act.put, List.setIfInBounds_toArray, List.set_cons_succ, List.set_cons_zero]; clear t2))
          go_roundw
          case rel =>
            have e1 := Hst.out
            rw [e1] at hok2
            refine ⟨k + 1, _, by omega, by go_num, hok2, by simp; omega, ?_, rfl, rfl, ?_, by simpa [idc] using hown2, (hmap.alloc _).grown Hg2.out (fun e => by have := (hown.lt _ e.symm).1; omega), (hb2.alloc (by omega) _).grown Hg2.out (by simp; omega) (fun j hj => by have := (hown.lt _ hj).1; omega), by have := Hg2.out.size; simp at this; omega⟩
            · simp
            · rw [← e1]; exact Hd.out
          case measure => simp [intOf]; omega
        · obtain ⟨m, hm⟩ : ∃ m, m = bits * 64 + v := ⟨_, rfl⟩
          have hor := i64_join bits v 6 (by omega) (by omega)
          rw [show (2:Nat) ^ 6 = 64 from rfl, ← hm] at hor
          have hmask := i64_mask m 2 (by omega) (by omega)
          simp at hor hmask
          have hq : m / 2 ^ 2 < 256 := by omega
          obtain ⟨y, hy⟩ : ∃ y, y = UInt8.ofNat (m / 2 ^ 2) := ⟨_, rfl⟩
          have Hy : Hid ((y.toNat : Int) = (m : Int) / 4) := Lib.hid (by rw [hy, UInt8.toNat_ofNat']; omega)
          have Hm := Lib.hid hm
          have hst : dstep ⟨o, bits, 4, last⟩ k v = ⟨o ++ [y], m % 2 ^ 2, 2, k⟩ := by rw [hy, Hm.out]; rfl
          have Hst := Lib.hid hst
          have hm13 : m < 2 ^ 13 := by omega
          clear hm hst hy
          have t1 : True := trivial
          have t2 : True := trivial
          go_wp2_with (first
            | (have _t := t1; refine wpList_lookup_tab rfl 39 _ _ rfl Tryd.underlying39 Tryd.underlying5 hi3 hi4 w.heap.size rfl x.toNat rfl hmap ?_; rw [Hv.out, Hok.out]; simp only [Act.put, List.setIfInBounds_toArray, List.set_cons_succ, List.set_cons_zero]; clear t1)
            | (have _t := t2; refine wpList_append_row _ rfl _ _ 31 rfl (w.heap.size + 1) 5 i0 (.int .u8 0) 1 1 Tryd.underlying31 hi0 hz0 hz1 hz2 rfl (by decide) _ _ _ rfl (hown.alloc _) (some ⟨wr.heap.size, 0, none⟩) 1 1 [.int .u8 y.toNat] rfl rfl (by rw [Hy.out]; exact Row.new wr _ _) (by intro u hu; simp at hu; subst hu; rfl) (by unfold maxLen; omega) (by omega) (by simp; omega) ?_; intro v2 w2 hown2 hg2 hv2; have Hg2 := Lib.hid hg2; have Hv2 := Lib.hid hv2; clear hg2 hv2; simp only [Act.put, List.setIfInBounds_toArray, List.set_cons_succ, List.set_cons_zero]; clear t2))
          go_roundw
          case rel =>
            have e1 := Hst.out
            rw [e1] at hok2
            refine ⟨k + 1, _, by omega, by go_num, hok2, by simp; omega, ?_, rfl, rfl, ?_, by simpa [idc] using hown2, (hmap.alloc _).grown Hg2.out (fun e => by have := (hown.lt _ e.symm).1; omega), (hb2.alloc (by omega) _).grown Hg2.out (by simp; omega) (fun j hj => by have := (hown.lt _ hj).1; omega), by have := Hg2.out.size; simp at this; omega⟩
            · simp
            · rw [← e1]; exact Hd.out
          case measure => simp [intOf]; omega
        · obtain ⟨m, hm⟩ : ∃ m, m = bits * 64 + v := ⟨_, rfl⟩
          have hor := i64_join bits v 6 (by omega) (by omega)
          rw [show (2:Nat) ^ 6 = 64 from rfl, ← hm] at hor
          have hmask := i64_mask m 4 (by omega) (by omega)
          simp at hor hmask
          have hq : m / 2 ^ 4 < 256 := by omega
          obtain ⟨y, hy⟩ : ∃ y, y = UInt8.ofNat (m / 2 ^ 4) := ⟨_, rfl⟩
          have Hy : Hid ((y.toNat : Int) = (m : Int) / 16) := Lib.hid (by rw [hy, UInt8.toNat_ofNat']; omega)
          have Hm := Lib.hid hm
          have hst : dstep ⟨o, bits, 6, last⟩ k v = ⟨o ++ [y], m % 2 ^ 4, 4, k⟩ := by rw [hy, Hm.out]; rfl
          have Hst := Lib.hid hst
          have hm13 : m < 2 ^ 13 := by omega
          clear hm hst hy
          have t1 : True := trivial
          have t2 : True := trivial
          go_wp2_with (first
            | (have _t := t1; refine wpList_lookup_tab rfl 39 _ _ rfl Tryd.underlying39 Tryd.underlying5 hi3 hi4 w.heap.size rfl x.toNat rfl hmap ?_; rw [Hv.out, Hok.out]; simp only [Act.put, List.setIfInBounds_toArray, List.set_cons_succ, List.set_cons_zero]; clear t1)
            | (have _t := t2; refine wpList_append_row _ rfl _ _ 31 rfl (w.heap.size + 1) 5 i0 (.int .u8 0) 1 1 Tryd.underlying31 hi0 hz0 hz1 hz2 rfl (by decide) _ _ _ rfl (hown.alloc _) (some ⟨wr.heap.size, 0, none⟩) 1 1 [.int .u8 y.toNat] rfl rfl (by rw [Hy.out]; exact Row.new wr _ _) (by intro u hu; simp at hu; subst hu; rfl) (by unfold maxLen; omega) (by omega) (by simp; omega) ?_; intro v2 w2 hown2 hg2 hv2; have Hg2 := Lib.hid hg2; have Hv2 := Lib.hid hv2; clear hg2 hv2; simp only [Act.put, List.setIfInBounds_toArray, List.set_cons_succ, List.set_cons_zero]; clear t2))
          go_roundw
          case rel =>
            have e1 := Hst.out
            rw [e1] at hok2
            refine ⟨k + 1, _, by omega, by go_num, hok2, by simp; omega, ?_, rfl, rfl, ?_, by simpa [idc] using hown2, (hmap.alloc _).grown Hg2.out (fun e => by have := (hown.lt _ e.symm).1; omega), (hb2.alloc (by omega) _).grown Hg2.out (by simp; omega) (fun j hj => by have := (hown.lt _ hj).1; omega), by have := Hg2.out.size; simp at this; omega⟩
            · simp
            · rw [← e1]; exact Hd.out
          case measure => simp [intOf]; omega
      · rw [if_neg hlook] at hd
        have Hok : Hid (lookOk x.toNat = false) := Lib.hid (by simpa using hlook)
        have t1 : True := trivial
        clear hlook hok
        by_cases hx61 : x = 61
        · subst hx61
          have Hok : Hid (lookOk 61 = false) := Hok
          cases hin : inPl l k with
          | true =>
            rw [if_pos ⟨rfl, hin⟩] at hd
            have Hin := Lib.hid hin
            have Hd := Lib.hid hd
            clear hin hd
            skip
            by_cases hm : n % 4 = 0
            · have hm' : (n : Int) % 4 = 0 := by omega
              by_cases hbz : bits = 0
              · subst hbz
                have hR : R = (o, 0, 0) := by rw [← Hd.out]; unfold dfin; rw [← Hn.out, if_neg (by omega), if_neg (fun h => h rfl)]
                have HRR := Lib.hid hR
                clear hm hR
                go_wp2_with (first
                      | (have _t := t1; refine wpList_lookup_tab rfl 39 _ _ rfl Tryd.underlying39 Tryd.underlying5 hi3 hi4 w.heap.size rfl 61 rfl hmap ?_; rw [Hok.out]; simp only [Act.put, List.setIfInBounds_toArray, List.set_cons_succ, List.set_cons_zero]; clear t1)
                      | (go_at_call 14; go_must (refine (inPlace_calls l k (by rw [← Hn.out]; exact hlt) (by rw [← Hn.out]; omega) _).mono ?_; rw [Hin.out]; rintro e w8 ⟨rfl, rfl⟩)))
                go_ret3
                rw [HRR.out]
                exact ⟨_, rfl, own_mono hown (by omega), hb2⟩
              · have hR : R = ([], last, 3) := by rw [← Hd.out]; unfold dfin; rw [← Hn.out, if_neg (by omega), if_pos hbz]
                have HRR := Lib.hid hR
                have hbz' : ¬ (bits : Int) = 0 := by omega
                clear hm hR
                go_wp2_with (first
                      | (have _t := t1; refine wpList_lookup_tab rfl 39 _ _ rfl Tryd.underlying39 Tryd.underlying5 hi3 hi4 w.heap.size rfl 61 rfl hmap ?_; rw [Hok.out]; simp only [Act.put, List.setIfInBounds_toArray, List.set_cons_succ, List.set_cons_zero]; clear t1)
                      | (go_at_call 14; go_must (refine (inPlace_calls l k (by rw [← Hn.out]; exact hlt) (by rw [← Hn.out]; omega) _).mono ?_; rw [Hin.out]; rintro e w8 ⟨rfl, rfl⟩)))
                go_ret3
                rw [HRR.out]
                exact ⟨_, rfl, ⟨rfl, .inl ⟨rfl, rfl⟩⟩, hb2⟩
            · have hm' : ¬ (n : Int) % 4 = 0 := by omega
              have hR : R = ([], n, 4) := by rw [← Hd.out]; unfold dfin; rw [← Hn.out, if_pos hm]
              have HRR := Lib.hid hR
              clear hm hR
              go_wp2_with (first
                      | (have _t := t1; refine wpList_lookup_tab rfl 39 _ _ rfl Tryd.underlying39 Tryd.underlying5 hi3 hi4 w.heap.size rfl 61 rfl hmap ?_; rw [Hok.out]; simp only [Act.put, List.setIfInBounds_toArray, List.set_cons_succ, List.set_cons_zero]; clear t1)
                      | (go_at_call 14; go_must (refine (inPlace_calls l k (by rw [← Hn.out]; exact hlt) (by rw [← Hn.out]; omega) _).mono ?_; rw [Hin.out]; rintro e w8 ⟨rfl, rfl⟩)))
              go_ret3
              rw [HRR.out]
              exact ⟨_, rfl, ⟨rfl, .inl ⟨rfl, rfl⟩⟩, hb2⟩
          | false =>
            rw [if_neg (fun h => by rw [hin] at h; exact absurd h.2 (by decide))] at hd
            have Hin := Lib.hid hin
            have Hd := Lib.hid hd
            clear hin hd
            have hR : R = ([], k, 6) := Hd.out.symm
            have HRR := Lib.hid hR
            clear hR
            go_wp2_with (first
              | (have _t := t1; refine wpList_lookup_tab rfl 39 _ _ rfl Tryd.underlying39 Tryd.underlying5 hi3 hi4 w.heap.size rfl 61 rfl hmap ?_; rw [Hok.out]; simp only [Act.put, List.setIfInBounds_toArray, List.set_cons_succ, List.set_cons_zero]; clear t1)
              | (go_at_call 14; go_must (refine (inPlace_calls l k (by rw [← Hn.out]; exact hlt) (by rw [← Hn.out]; omega) _).mono ?_; rw [Hin.out]; rintro e w8 ⟨rfl, rfl⟩)))
            go_ret3
            rw [HRR.out]
            exact ⟨_, rfl, ⟨rfl, .inl ⟨rfl, rfl⟩⟩, hb2⟩
        · have hxi : ¬ (x.toNat : Int) = 61 := fun h => hx61 (UInt8.toNat_inj.1 (by rw [show (61 : UInt8).toNat = 61 from rfl]; omega))
          rw [if_neg (fun h => hx61 h.1)] at hd
          have Hin : Hid (inPl l k = inPl l k) := Lib.hid rfl
          have Hd := Lib.hid hd
          have Hx := Lib.hid hx61
          clear hd hx61
          have hR : R = ([], k, 6) := Hd.out.symm
          have HRR := Lib.hid hR
          clear hR
          go_wp2_with (first
            | (have _t := t1; refine wpList_lookup_tab rfl 39 _ _ rfl Tryd.underlying39 Tryd.underlying5 hi3 hi4 w.heap.size rfl x.toNat rfl hmap ?_; rw [Hok.out]; simp only [Act.put, List.setIfInBounds_toArray, List.set_cons_succ, List.set_cons_zero]; clear t1)
            | (go_at_call 14; go_must (refine (inPlace_calls l k (by rw [← Hn.out]; exact hlt) (by rw [← Hn.out]; omega) _).mono ?_; rw [Hin.out]; rintro e w8 ⟨rfl, rfl⟩)))
          go_ret3
          rw [HRR.out]
          exact ⟨_, rfl, ⟨rfl, .inl ⟨rfl, rfl⟩⟩, hb2⟩
    · have e : n = k := by omega
      subst e
      rw [List.drop_of_length_le (Nat.le_of_eq Hn.out.symm), dgo] at hd
      have Hd := Lib.hid hd
      clear hd hok
      by_cases hm : n % 4 = 0
      · have hm' : (n : Int) % 4 = 0 := by omega
        by_cases hbz : bits = 0
        · subst hbz
          have hR : R = (o, 0, 0) := by rw [← Hd.out]; unfold dfin; rw [← Hn.out, if_neg (by omega), if_neg (fun h => h rfl)]
          have HRR := Lib.hid hR
          clear hm hR
          go_wp2_with fail
          go_ret3
          rw [HRR.out]
          exact ⟨_, rfl, own_mono hown (by omega), hb2⟩
        · have hR : R = ([], last, 3) := by rw [← Hd.out]; unfold dfin; rw [← Hn.out, if_neg (by omega), if_pos hbz]
          have HRR := Lib.hid hR
          have hbz' : ¬ (bits : Int) = 0 := by omega
          clear hm hR
          go_wp2_with fail
          go_ret3
          rw [HRR.out]
          exact ⟨_, rfl, ⟨rfl, .inl ⟨rfl, rfl⟩⟩, hb2⟩
      · have hm' : ¬ (n : Int) % 4 = 0 := by omega
        have hR : R = ([], n, 4) := by rw [← Hd.out]; unfold dfin; rw [← Hn.out, if_pos hm]
        have HRR := Lib.hid hR
        clear hm hR
        go_wp2_with fail
        go_ret3
        rw [HRR.out]
        exact ⟨_, rfl, ⟨rfl, .inl ⟨rfl, rfl⟩⟩, hb2⟩
end Go.Proofs.YtkmkidbajmbigaaDoor
