/- The names of sites: what Site answers; Site of chapter 11 and of its reference, walked. -/
import Derived.Test.YtdmnphebkkfjmaaDoorRows
import Derived.Test.YtdmnphebkkfjmaaDoorStr
namespace Go.Proofs.YtdmnphebkkfjmaaDoor
open Go.ChangeShapes Go.WideShapes Go.ChangeAt Go.RowKit

def permB (c : Nat) : Bool := decide ((97 ≤ c ∧ c ≤ 122) ∨ (48 ≤ c ∧ c ≤ 57) ∨ c = 45 ∨ c = 46)
def misP (c p i n : Nat) : Bool := decide ((i = 0 ∧ ¬ (97 ≤ c ∧ c ≤ 122)) ∨ (i ≠ 0 ∧ ((c = 46 ∧ p = 46) ∨ (i + 1 = n ∧ (c = 45 ∨ c = 46)))))
def misB (l : List UInt8) (i : Nat) : Bool := misP (byteAt l i).toNat (byteAt l (i - 1)).toNat i l.length
def siteS (l : List UInt8) : Nat × Nat :=
  if l = [] then (0, 4) else if 30 < l.length then (30, 5) else
    match (List.range l.length).find? (fun i => !permB (byteAt l i).toNat) with
    | some i => (i, 6)
    | none => match (List.range l.length).find? (misB l) with
      | some i => (i, 12)
      | none => (0, 0)
theorem find_first {p : Nat → Bool} {n k : Nat} (h : ∀ j, j < k → p j = false) (hk : k < n) (hp : p k = true) : (List.range n).find? p = some k := by
  rw [List.find?_range_eq_some]
  exact ⟨hp, by simpa using hk, fun j hj => by simp [h j hj]⟩
theorem find_none {p : Nat → Bool} {n : Nat} (h : ∀ j, j < n → p j = false) : (List.range n).find? p = none := by
  rw [List.find?_eq_none]
  intro x hx
  simp [h x (List.mem_range.1 hx)]
theorem permitted_calls (c : UInt8) (w : World) : Calls Tryd.prog 35 #[.int .u8 c.toNat] w fun e w' => e = .returned (.bool (permB c.toNat)) ∧ w' = w := by
  generalize c.toNat = n
  have HP : Hid (permB n = decide ((97 ≤ n ∧ n ≤ 122) ∨ (48 ≤ n ∧ n ≤ 57) ∨ n = 45 ∨ n = 46)) := Lib.hid rfl
  generalize permB n = r at HP ⊢
  go_enter Tryd.func35, Tryd.ntmps35
  go_wp2
  all_goals go_ret
  all_goals refine ⟨ret_bool ?_, rfl⟩
  all_goals rw [HP.out]
  all_goals first | exact (decide_eq_true (by omega)).symm | exact (decide_eq_false (by omega)).symm | (rw [Bool.eq_iff_iff]; simp; omega)
set_option maxHeartbeats 1600000 in
theorem misplaced_calls (l : List UInt8) (i : Nat) (hi : i < l.length) (hl : l.length ≤ 30) (w : World) :
    Calls Tryd.prog 36 #[.string (str l), .int .i64 i] w fun e w' => e = .returned (.bool (misB l i)) ∧ w' = w := by
  obtain ⟨c, hc⟩ : ∃ c, byteAt l i = c := ⟨_, rfl⟩
  obtain ⟨p, hp⟩ : ∃ c, byteAt l (i - 1) = c := ⟨_, rfl⟩
  have HM : Hid (misB l i = decide ((i = 0 ∧ ¬ (97 ≤ c.toNat ∧ c.toNat ≤ 122)) ∨ (i ≠ 0 ∧ ((c.toNat = 46 ∧ p.toNat = 46) ∨ (i + 1 = l.length ∧ (c.toNat = 45 ∨ c.toNat = 46)))))) := Lib.hid (by unfold misB misP; rw [hc, hp])
  generalize misB l i = r at HM ⊢
  have i1 : (i : Int) < l.length := by omega
  by_cases h0 : i = 0
  · subst h0
    clear hp hi
    go_enter Tryd.func36, Tryd.ntmps36
    go_wp2
    all_goals go_ret
    all_goals refine ⟨ret_bool ?_, rfl⟩
    all_goals rw [HM.out]
    all_goals try simp only [beq_iff_eq, beq_eq_false_iff_ne, ne_eq] at *
    all_goals first | exact (decide_eq_true (by omega)).symm | exact (decide_eq_false (by omega)).symm | (rw [Bool.eq_iff_iff]; simp; omega)
  · have h0' : ((i : Int) == 0) = false := by rw [beq_eq_false_iff_ne]; omega
    have h1 : 1 ≤ i := by omega
    have HN := Lib.hid h0
    clear h0 hi
    go_enter Tryd.func36, Tryd.ntmps36
    go_wp2
    all_goals go_ret
    all_goals refine ⟨ret_bool ?_, rfl⟩
    all_goals rw [HM.out]
    all_goals try simp only [beq_iff_eq, beq_eq_false_iff_ne, ne_eq] at *
    all_goals first | exact (decide_eq_true (by omega)).symm | exact (decide_eq_false (by omega)).symm | (rw [Bool.eq_iff_iff]; simp; omega)

theorem site_nil {l : List UInt8} (h : l = []) : siteS l = (0, 4) := by unfold siteS; rw [if_pos h]
theorem site_long {l : List UInt8} (h : 30 < l.length) : siteS l = (30, 5) := by
  unfold siteS; rw [if_neg (by rintro rfl; simp at h), if_pos h]
theorem site_byte {l : List UInt8} {k : Nat} (h0 : l ≠ []) (h1 : ¬ 30 < l.length) (hk : k < l.length) (h2 : ∀ j, j < k → permB (byteAt l j).toNat = true) (h3 : permB (byteAt l k).toNat = false) : siteS l = (k, 6) := by
  unfold siteS; rw [if_neg h0, if_neg h1, find_first (fun j hj => by rw [h2 j hj]; rfl) hk (by rw [h3]; rfl)]
theorem site_name {l : List UInt8} {k : Nat} (h0 : l ≠ []) (h1 : ¬ 30 < l.length) (h2 : ∀ j, j < l.length → permB (byteAt l j).toNat = true) (hk : k < l.length) (h3 : ∀ j, j < k → misB l j = false) (h4 : misB l k = true) : siteS l = (k, 12) := by
  unfold siteS; rw [if_neg h0, if_neg h1, find_none (fun j hj => by rw [h2 j hj]; rfl), find_first h3 hk h4]
theorem site_ok {l : List UInt8} (h0 : l ≠ []) (h1 : ¬ 30 < l.length) (h2 : ∀ j, j < l.length → permB (byteAt l j).toNat = true) (h3 : ∀ j, j < l.length → misB l j = false) : siteS l = (0, 0) := by
  unfold siteS; rw [if_neg h0, if_neg h1, find_none (fun j hj => by rw [h2 j hj]; rfl), find_none h3]
set_option maxHeartbeats 1600000 in
theorem site_calls (l : List UInt8) (w : World) :
    Calls Tryd.prog 28 #[.string (str l)] w fun e w' => e = .returned (.tuple #[.int .i64 (siteS l).1, .int .i64 (siteS l).2]) ∧ w' = w := by
  by_cases h0 : l = []
  · rw [site_nil h0]
    have h0' : (l == []) = true := by simpa using h0
    go_enter Tryd.func28, Tryd.ntmps28
    go_wp2
    go_ret2
    exact ⟨rfl, rfl⟩
  · have h0' : (l == []) = false := by simpa using h0
    have H0 := Lib.hid h0
    by_cases h1 : 30 < l.length
    · rw [site_long h1]
      have h1' : (30 : Int) < l.length := by omega
      clear h0
      go_enter Tryd.func28, Tryd.ntmps28
      go_wp2
      go_ret2
      exact ⟨rfl, rfl⟩
    · have H1 := Lib.hid h1
      have h1' : ¬ (30 : Int) < l.length := by omega
      have h2' : l.length ≤ 30 := by omega
      clear h0 h1
      go_enter Tryd.func28, Tryd.ntmps28
      go_wp2_with fail
      go_loop [15] (fun i => ∃ k : Nat, k ≤ l.length ∧ i = .int .i64 k ∧ ∀ j, j < k → permB (byteAt l j).toNat = true) (fun i => l.length - (intOf i).toNat)
      case atStart => exact ⟨0, Nat.zero_le _, rfl, by omega⟩
      case round =>
        obtain ⟨k, hk, rfl, hp⟩ := hrel
        have Hp := Lib.hid hp
        clear hp
        by_cases hlt : k < l.length
        · have i1 : (k : Int) < l.length := by omega
          obtain ⟨c, hc⟩ : ∃ c, byteAt l k = c := ⟨_, rfl⟩
          have Hc := Lib.hid hc
          cases hb : permB c.toNat with
          | true =>
            have hb' := fun W => permitted_calls c W
            rw [hb] at hb'
            have Hb := Lib.hid hb'
            have Hbb := Lib.hid hb
            clear hb' hb
            go_wp2_with (go_at_call 35; refine (Hb.out _).mono ?_; rintro e w' ⟨rfl, rfl⟩)
            go_round
            case rel =>
              refine ⟨k + 1, by omega, by go_num, fun j hj => ?_⟩
              rcases Nat.lt_or_ge j k with h | h
              · exact Hp.out j h
              · rw [show j = k from by omega, Hc.out]; exact Hbb.out
            case measure => simp [intOf]; omega
          | false =>
            have hb' := fun W => permitted_calls c W
            rw [hb] at hb'
            have Hb := Lib.hid hb'
            have hs := site_byte H0.out H1.out hlt Hp.out (by rw [Hc.out]; exact hb)
            have Hs := Lib.hid hs
            clear hb' hs hb
            go_wp2_with (go_at_call 35; refine (Hb.out _).mono ?_; rintro e w' ⟨rfl, rfl⟩)
            go_ret2
            rw [Hs.out]
            exact ⟨rfl, rfl⟩
        · have e : k = l.length := by omega
          subst e
          go_wp2_with fail
          go_loop [27] (fun i => ∃ k : Nat, k ≤ l.length ∧ i = .int .i64 k ∧ ∀ j, j < k → misB l j = false) (fun i => l.length - (intOf i).toNat)
          case atStart => exact ⟨0, Nat.zero_le _, rfl, by omega⟩
          case round =>
            obtain ⟨k, hk, rfl, hm⟩ := hrel
            have Hm := Lib.hid hm
            clear hm
            by_cases hlt : k < l.length
            · have i1 : (k : Int) < l.length := by omega
              cases hb : misB l k with
              | false =>
                have hb' := fun W => misplaced_calls l k hlt h2' W
                rw [hb] at hb'
                have Hb := Lib.hid hb'
                have Hbb := Lib.hid hb
                clear hb' hb
                go_wp2_with (go_at_call 36; refine (Hb.out _).mono ?_; rintro e w' ⟨rfl, rfl⟩)
                go_round
                case rel =>
                  refine ⟨k + 1, by omega, by go_num, fun j hj => ?_⟩
                  rcases Nat.lt_or_ge j k with h | h
                  · exact Hm.out j h
                  · rw [show j = k from by omega]; exact Hbb.out
                case measure => simp [intOf]; omega
              | true =>
                have hb' := fun W => misplaced_calls l k hlt h2' W
                rw [hb] at hb'
                have Hb := Lib.hid hb'
                have hs := site_name H0.out H1.out Hp.out hlt Hm.out hb
                have Hs := Lib.hid hs
                clear hb' hs hb
                go_wp2_with (go_at_call 36; refine (Hb.out _).mono ?_; rintro e w' ⟨rfl, rfl⟩)
                go_ret2
                rw [Hs.out]
                exact ⟨rfl, rfl⟩
            · have e : k = l.length := by omega
              subst e
              have Hs := Lib.hid (site_ok H0.out H1.out Hp.out Hm.out)
              go_wp2_with fail
              go_ret2
              rw [Hs.out]
              exact ⟨rfl, rfl⟩
end Go.Proofs.YtdmnphebkkfjmaaDoor
