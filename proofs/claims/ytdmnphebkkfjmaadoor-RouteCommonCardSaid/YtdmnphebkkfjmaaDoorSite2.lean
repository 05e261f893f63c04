/- Site of the reference of chapter 11, walked. -/
import Derived.Test.YtdmnphebkkfjmaaDoorSite
namespace Go.Proofs.YtdmnphebkkfjmaaDoor
open Go.ChangeShapes Go.WideShapes Go.ChangeAt Go.RowKit
theorem perm_true {n : Nat} (h : permB n = true) : (97 ≤ n ∧ n ≤ 122) ∨ (48 ≤ n ∧ n ≤ 57) ∨ (45 ≤ n ∧ n ≤ 45) ∨ (46 ≤ n ∧ n ≤ 46) := by
  unfold permB at h; have := of_decide_eq_true h; omega
theorem perm_false {n : Nat} (h : permB n = false) : (0 ≤ n ∧ n < 45) ∨ (47 ≤ n ∧ n < 48) ∨ (58 ≤ n ∧ n < 97) ∨ (123 ≤ n ∧ n ≤ n) := by
  unfold permB at h; have := of_decide_eq_false h; omega
theorem mis0_true {c p n : Nat} (h : misP c p 0 n = true) : (0 ≤ c ∧ c < 97) ∨ (122 < c ∧ c ≤ c) := by
  unfold misP at h; have := of_decide_eq_true h; omega
theorem mis0_false {c p n : Nat} (h : misP c p 0 n = false) : 97 ≤ c ∧ c ≤ 122 := by
  unfold misP at h; have := of_decide_eq_false h; omega
theorem mis_true {c p i n : Nat} (h0 : 0 < i) (h : misP c p i n = true) : (c = 46 ∧ p = 46) ∨ (i + 1 = n ∧ c = 45) ∨ (i + 1 = n ∧ c = 46 ∧ p ≠ 46) := by
  unfold misP at h; have := of_decide_eq_true h; omega
theorem mis_false {c p i n : Nat} (h0 : 0 < i) (h : misP c p i n = false) : (c ≠ 45 ∧ c ≠ 46) ∨ (c = 45 ∧ i + 1 ≠ n) ∨ (c = 46 ∧ p ≠ 46 ∧ i + 1 ≠ n) := by
  unfold misP at h; have := of_decide_eq_false h; omega
theorem eqi {n : Nat} (k : Int) (h : (n : Int) = k) : ((n : Int) == k) = true := by rw [beq_iff_eq]; exact h
theorem nei {n : Nat} (k : Int) (h : (n : Int) ≠ k) : ((n : Int) == k) = false := by rw [beq_eq_false_iff_ne]; exact h
set_option maxRecDepth 100000 in
set_option maxHeartbeats 3200000 in
theorem rsite_calls (l : List UInt8) (w : World) :
    Calls Tryd.prog 29 #[.string (str l)] w fun e w' => e = .returned (.tuple #[.int .i64 (siteS l).1, .int .i64 (siteS l).2]) ∧ w' = w := by
  by_cases h0 : l = []
  · rw [site_nil h0]
    have h0' : (l == []) = true := by simpa using h0
    go_enter Tryd.func29, Tryd.ntmps29
    go_wp2
    go_ret2
    exact ⟨rfl, rfl⟩
  · have h0' : (l == []) = false := by simpa using h0
    have H0 := Lib.hid h0
    by_cases h1 : 30 < l.length
    · rw [site_long h1]
      have h1' : (30 : Int) < l.length := by omega
      clear h0
      go_enter Tryd.func29, Tryd.ntmps29
      go_wp2
      go_ret2
      exact ⟨rfl, rfl⟩
    · have H1 := Lib.hid h1
      have h1' : ¬ (30 : Int) < l.length := by omega
      have h2' : l.length ≤ 30 := by omega
      clear h0 h1
      go_enter Tryd.func29, Tryd.ntmps29
      go_wp2_with fail
      go_loop [4] (fun i => ∃ k : Nat, k ≤ l.length ∧ i = .int .i64 k ∧ ∀ j, j < k → permB (byteAt l j).toNat = true) (fun i => l.length - (intOf i).toNat)
      case atStart => exact ⟨0, Nat.zero_le _, rfl, by omega⟩
      case round =>
        obtain ⟨k, hk, rfl, hp⟩ := hrel
        have Hp := Lib.hid hp
        clear hp
        by_cases hlt : k < l.length
        · have i1 : (k : Int) < l.length := by omega
          obtain ⟨c, hc⟩ : ∃ c, byteAt l k = c := ⟨_, rfl⟩
          have Hc := Lib.hid hc
          obtain ⟨cn, hcn⟩ : ∃ cn, c.toNat = cn := ⟨_, rfl⟩
          have hci : (c.toNat : Int) = cn := by rw [hcn]
          cases hb : permB c.toNat with
          | true =>
            have Hbb := Lib.hid hb
            have hcs := perm_true hb
            rw [hcn] at hcs
            clear hb hcn
            have hcs' : (97 ≤ cn ∧ cn ≤ 122 ∧ cn ≠ 45 ∧ cn ≠ 46) ∨ (48 ≤ cn ∧ cn ≤ 57 ∧ cn ≠ 45 ∧ cn ≠ 46) ∨ (cn ≤ 47 ∧ cn < 97 ∧ cn = 45 ∧ cn ≠ 46) ∨ (cn ≤ 47 ∧ cn < 97 ∧ cn ≠ 45 ∧ cn = 46) := by omega
            clear hcs
            rcases hcs' with ⟨g1, g2, g3, g4⟩ | ⟨g1, g2, g3, g4⟩ | ⟨g1, g2, g3, g4⟩ | ⟨g1, g2, g3, g4⟩
            · have f1 := nei (n := cn) 45 (by omega)
              have f2 := nei (n := cn) 46 (by omega)
              clear g3 g4
              go_wp2
              go_round
              case rel =>
                refine ⟨k + 1, by omega, by go_num, fun j hj => ?_⟩
                rcases Nat.lt_or_ge j k with h | h
                · exact Hp.out j h
                · rw [show j = k from by omega, Hc.out]; exact Hbb.out
              case measure => simp [intOf]; omega
            · have f1 := nei (n := cn) 45 (by omega)
              have f2 := nei (n := cn) 46 (by omega)
              clear g3 g4
              go_wp2
              go_round
              case rel =>
                refine ⟨k + 1, by omega, by go_num, fun j hj => ?_⟩
                rcases Nat.lt_or_ge j k with h | h
                · exact Hp.out j h
                · rw [show j = k from by omega, Hc.out]; exact Hbb.out
              case measure => simp [intOf]; omega
            · have f1 := eqi (n := cn) 45 (by omega)
              have f2 := nei (n := cn) 46 (by omega)
              have g5 : cn < 48 := by omega
              clear g3 g4
              go_wp2
              go_round
              case rel =>
                refine ⟨k + 1, by omega, by go_num, fun j hj => ?_⟩
                rcases Nat.lt_or_ge j k with h | h
                · exact Hp.out j h
                · rw [show j = k from by omega, Hc.out]; exact Hbb.out
              case measure => simp [intOf]; omega
            · have f1 := nei (n := cn) 45 (by omega)
              have f2 := eqi (n := cn) 46 (by omega)
              have g5 : cn < 48 := by omega
              clear g3 g4
              go_wp2
              go_round
              case rel =>
                refine ⟨k + 1, by omega, by go_num, fun j hj => ?_⟩
                rcases Nat.lt_or_ge j k with h | h
                · exact Hp.out j h
                · rw [show j = k from by omega, Hc.out]; exact Hbb.out
              case measure => simp [intOf]; omega
          | false =>
            have hs := site_byte H0.out H1.out hlt Hp.out (by rw [Hc.out]; exact hb)
            have Hs := Lib.hid hs
            have hcs := perm_false hb
            rw [hcn] at hcs
            clear hs hb hcn
            have f1 := nei (n := cn) 45 (by omega)
            have f2 := nei (n := cn) 46 (by omega)
            rcases hcs with ⟨g1, g2⟩ | ⟨g1, g2⟩ | ⟨g1, g2⟩ | ⟨g1, g2⟩
            · go_wp2
              go_ret2
              rw [Hs.out]
              exact ⟨rfl, rfl⟩
            · go_wp2
              go_ret2
              rw [Hs.out]
              exact ⟨rfl, rfl⟩
            · have f3 : decide ((cn : Int) ≤ 57) = false := decide_eq_false (by omega)
              go_wp2
              go_ret2
              rw [Hs.out]
              exact ⟨rfl, rfl⟩
            · have f3 : decide ((cn : Int) ≤ 57) = false := decide_eq_false (by omega)
              have f4 : decide ((cn : Int) ≤ 122) = false := decide_eq_false (by omega)
              go_wp2
              go_ret2
              rw [Hs.out]
              exact ⟨rfl, rfl⟩
        · have e : k = l.length := by omega
          subst e
          go_wp2_with fail
          go_loop [6] (fun i => ∃ k : Nat, k ≤ l.length ∧ i = .int .i64 k ∧ ∀ j, j < k → misB l j = false) (fun i => l.length - (intOf i).toNat)
          case atStart => exact ⟨0, Nat.zero_le _, rfl, by omega⟩
          case round =>
            obtain ⟨k, hk, rfl, hm⟩ := hrel
            have Hm := Lib.hid hm
            clear hm
            by_cases hlt : k < l.length
            · have i1 : (k : Int) < l.length := by omega
              obtain ⟨c, hc⟩ : ∃ c, byteAt l k = c := ⟨_, rfl⟩
              obtain ⟨p, hp⟩ : ∃ c, byteAt l (k - 1) = c := ⟨_, rfl⟩
              have hmis : misB l k = misP c.toNat p.toNat k l.length := by unfold misB; rw [hc, hp]
              obtain ⟨cn, hcn⟩ : ∃ cn, c.toNat = cn := ⟨_, rfl⟩
              obtain ⟨pn, hpn⟩ : ∃ pn, p.toNat = pn := ⟨_, rfl⟩
              have hci : (c.toNat : Int) = cn := by rw [hcn]
              have hpi : (p.toNat : Int) = pn := by rw [hpn]
              rw [hcn, hpn] at hmis
              by_cases hk0 : k = 0
              · subst hk0
                clear hp hpi
                cases hb : misB l 0 with
                | false =>
                  have Hbb := Lib.hid hb
                  rw [hmis] at hb
                  obtain ⟨g1, g2⟩ := mis0_false hb
                  have f1 := nei (n := cn) 45 (by omega)
                  have f2 := nei (n := cn) 46 (by omega)
                  clear hmis hb hcn hpn
                  by_cases hl1 : l.length = 1
                  · have e1 : ((0 : Int) == (l.length : Int) - 1) = true := by rw [hl1]; rfl
                    have HL := Lib.hid hl1
                    clear hl1
                    go_wp2
                    go_round
                    case rel =>
                      refine ⟨0 + 1, by omega, by go_num, fun j hj => ?_⟩
                      rw [show j = 0 from by omega]; exact Hbb.out
                    case measure => simp [intOf]; omega
                  · have e1 : ((0 : Int) == (l.length : Int) - 1) = false := by rw [beq_eq_false_iff_ne]; omega
                    have HL := Lib.hid hl1
                    clear hl1
                    go_wp2
                    go_round
                    case rel =>
                      refine ⟨0 + 1, by omega, by go_num, fun j hj => ?_⟩
                      rw [show j = 0 from by omega]; exact Hbb.out
                    case measure => simp [intOf]; omega
                | true =>
                  have hs := site_name H0.out H1.out Hp.out hlt Hm.out hb
                  have Hs := Lib.hid hs
                  rw [hmis] at hb
                  have hcs := mis0_true hb
                  clear hmis hb hs hcn hpn
                  rcases hcs with ⟨g1, g2⟩ | ⟨g1, g2⟩
                  all_goals
                    go_wp2
                    go_ret2
                    rw [Hs.out]
                    exact ⟨rfl, rfl⟩
              · have e0 : ((k : Int) == 0) = false := by rw [beq_eq_false_iff_ne]; omega
                have k1 : 1 ≤ k := by omega
                have HK := Lib.hid hk0
                clear hk0
                cases hb : misB l k with
                | false =>
                  have Hbb := Lib.hid hb
                  rw [hmis] at hb
                  have hcs := mis_false (by omega) hb
                  clear hmis hb hcn hpn
                  rcases hcs with ⟨g1, g2⟩ | ⟨g1, g2⟩ | ⟨g1, g2, g3⟩
                  · have f1 := nei (n := cn) 45 (by omega)
                    have f2 := nei (n := cn) 46 (by omega)
                    by_cases hla : k + 1 = l.length
                    · have e1 : ((k : Int) == (l.length : Int) - 1) = true := by rw [beq_iff_eq]; omega
                      have HL := Lib.hid hla
                      clear hla g1 g2
                      go_wp2
                      all_goals
                        go_round
                        case rel =>
                          refine ⟨k + 1, by omega, by go_num, fun j hj => ?_⟩
                          rcases Nat.lt_or_ge j k with h | h
                          · exact Hm.out j h
                          · rw [show j = k from by omega]; exact Hbb.out
                        case measure => simp [intOf]; omega
                    · have e1 : ((k : Int) == (l.length : Int) - 1) = false := by rw [beq_eq_false_iff_ne]; omega
                      have HL := Lib.hid hla
                      clear hla g1 g2
                      go_wp2
                      all_goals
                        go_round
                        case rel =>
                          refine ⟨k + 1, by omega, by go_num, fun j hj => ?_⟩
                          rcases Nat.lt_or_ge j k with h | h
                          · exact Hm.out j h
                          · rw [show j = k from by omega]; exact Hbb.out
                        case measure => simp [intOf]; omega
                  · have f1 := eqi (n := cn) 45 (by omega)
                    have f2 := nei (n := cn) 46 (by omega)
                    have e1 : ((k : Int) == (l.length : Int) - 1) = false := by rw [beq_eq_false_iff_ne]; omega
                    have g9 : cn ≤ 46 := by omega
                    clear g1 g2
                    go_wp2
                    all_goals
                      go_round
                      case rel =>
                        refine ⟨k + 1, by omega, by go_num, fun j hj => ?_⟩
                        rcases Nat.lt_or_ge j k with h | h
                        · exact Hm.out j h
                        · rw [show j = k from by omega]; exact Hbb.out
                      case measure => simp [intOf]; omega
                  · have f1 := nei (n := cn) 45 (by omega)
                    have f2 := eqi (n := cn) 46 (by omega)
                    have f3 := nei (n := pn) 46 (by omega)
                    have e1 : ((k : Int) == (l.length : Int) - 1) = false := by rw [beq_eq_false_iff_ne]; omega
                    have g9 : cn ≤ 46 := by omega
                    clear g1 g2 g3
                    go_wp2
                    all_goals
                      go_round
                      case rel =>
                        refine ⟨k + 1, by omega, by go_num, fun j hj => ?_⟩
                        rcases Nat.lt_or_ge j k with h | h
                        · exact Hm.out j h
                        · rw [show j = k from by omega]; exact Hbb.out
                      case measure => simp [intOf]; omega
                | true =>
                  have hs := site_name H0.out H1.out Hp.out hlt Hm.out hb
                  have Hs := Lib.hid hs
                  rw [hmis] at hb
                  have hcs := mis_true (by omega) hb
                  clear hmis hb hs hcn hpn
                  rcases hcs with ⟨g1, g2⟩ | ⟨g1, g2⟩ | ⟨g1, g2, g3⟩
                  · have f2 := eqi (n := cn) 46 (by omega)
                    have f3 := eqi (n := pn) 46 (by omega)
                    have g9 : cn ≤ 46 := by omega
                    clear g1 g2
                    go_wp2
                    go_ret2
                    rw [Hs.out]
                    exact ⟨rfl, rfl⟩
                  · have f1 := eqi (n := cn) 45 (by omega)
                    have f2 := nei (n := cn) 46 (by omega)
                    have e1 : ((k : Int) == (l.length : Int) - 1) = true := by rw [beq_iff_eq]; omega
                    have g9 : cn ≤ 46 := by omega
                    clear g1 g2
                    go_wp2
                    go_ret2
                    rw [Hs.out]
                    exact ⟨rfl, rfl⟩
                  · have f1 := nei (n := cn) 45 (by omega)
                    have f2 := eqi (n := cn) 46 (by omega)
                    have f3 := nei (n := pn) 46 (by omega)
                    have e1 : ((k : Int) == (l.length : Int) - 1) = true := by rw [beq_iff_eq]; omega
                    have g9 : cn ≤ 46 := by omega
                    clear g1 g2 g3
                    go_wp2
                    go_ret2
                    rw [Hs.out]
                    exact ⟨rfl, rfl⟩
            · have e : k = l.length := by omega
              subst e
              have Hs := Lib.hid (site_ok H0.out H1.out Hp.out Hm.out)
              go_wp2_with fail
              go_ret2
              rw [Hs.out]
              exact ⟨rfl, rfl⟩
end Go.Proofs.YtdmnphebkkfjmaaDoor
