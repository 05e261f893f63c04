/- Merge of chapter 14 is walked where it answers a list; the plain laws of Check and Trim. -/
import Derived.Test.YtafpndmoognjlaaC1
namespace Go.Proofs.Ytafpndmoognjlaa
open Go.ChangeShapes Go.WideShapes Go.ChangeAt Go.RowKit

theorem addE_zero {seen : List (List UInt8)} {l : List UInt8} : addE seen l = 0 ↔ l ≠ zid ∧ l ∉ seen := by
  unfold addE
  by_cases h1 : l = zid <;> by_cases h2 : l ∈ seen <;> simp [h1, h2]
theorem chkFrom_zero : ∀ (ls seen : List (List UInt8)), chkFrom seen ls = 0 ↔ (∀ l ∈ ls, l ≠ zid ∧ l ∉ seen) ∧ ls.Nodup
  | [], seen => by simp [chkFrom]
  | l :: t, seen => by
    rw [chkFrom]
    by_cases h : addE seen l = 0
    · rw [if_pos h, chkFrom_zero t]
      obtain ⟨h1, h2⟩ := addE_zero.1 h
      constructor
      · rintro ⟨ha, hn⟩
        refine ⟨fun x hx => ?_, List.nodup_cons.2 ⟨fun hl => (ha l hl).2 (by simp), hn⟩⟩
        rcases List.mem_cons.1 hx with rfl | hx
        · exact ⟨h1, h2⟩
        · exact ⟨(ha x hx).1, fun hs => (ha x hx).2 (List.mem_append_left _ hs)⟩
      · rintro ⟨ha, hn⟩
        obtain ⟨hn1, hn2⟩ := List.nodup_cons.1 hn
        refine ⟨fun x hx => ⟨(ha x (by simp [hx])).1, fun hs => ?_⟩, hn2⟩
        rcases List.mem_append.1 hs with hs | hs
        · exact (ha x (by simp [hx])).2 hs
        · rw [List.mem_singleton.1 hs] at hx; exact hn1 hx
    · rw [if_neg h]
      constructor
      · intro h0; exact absurd h0 h
      · rintro ⟨ha, _⟩
        exact absurd (addE_zero.2 (ha l (by simp))) h
theorem chk_zero {ls : List (List UInt8)} : chk ls = 0 ↔ ls.length ≤ 20 ∧ (∀ l ∈ ls, l ≠ zid) ∧ ls.Nodup := by
  unfold chk
  by_cases h : 20 < ls.length
  · rw [if_pos h]
    constructor
    · intro h; cases h
    · rintro ⟨h1, _⟩; omega
  · rw [if_neg h, chkFrom_zero]
    constructor
    · rintro ⟨h1, h2⟩; exact ⟨by omega, fun l hl => (h1 l hl).1, h2⟩
    · rintro ⟨_, h1, h2⟩; exact ⟨fun l hl => ⟨h1 l hl, by simp⟩, h2⟩
theorem chk_sub {ls ms : List (List UInt8)} (hs : ms.Sublist ls) (h : chk ls = 0) : chk ms = 0 := by
  obtain ⟨h1, h2, h3⟩ := chk_zero.1 h
  exact chk_zero.2 ⟨Nat.le_trans hs.length_le h1, fun l hl => h2 l (hs.subset hl), h3.sublist hs⟩
theorem cut_sub (ls : List (List UInt8)) (m : Nat) (h1 : 1 ≤ m) : (cut ls m).Sublist ls := by
  unfold cut
  split
  · exact List.Sublist.refl _
  · split
    · exact List.drop_sublist _ _
    · rename_i h _
      have e : ls.drop (ls.length - m + 1) = (ls.drop 1).drop (ls.length - m) := by rw [List.drop_drop]; congr 1; omega
      rw [e]
      have := (List.Sublist.refl (ls.take 1)).append (List.drop_sublist (ls.length - m) (ls.drop 1))
      rwa [List.take_append_drop] at this
theorem isTr_cut (ls : List (List UInt8)) (m : Nat) (h1 : 1 ≤ m) : isTr (cut ls m) ls = true := by
  unfold isTr
  by_cases h : ls.length ≤ m
  · have e : cut ls m = ls := by unfold cut; rw [if_pos h]
    simp [e]
  · have hl := cut_length ls m h1
    have e : (cut ls m).length = m := by omega
    simp [e]
    omega
theorem cut_same (ls : List (List UInt8)) (m : Nat) (h1 : 1 ≤ m) (h : ¬ (cut ls m).length < ls.length) : cut ls m = ls := by
  have hl := cut_length ls m h1
  unfold cut
  rw [if_pos (by omega)]

set_option maxHeartbeats 400000 in
theorem merge_ok (A B : Option Addr) (a b : List (List UInt8)) (c d n k : Nat) (hla : a.length = n) (hlb : b.length = k) (hnc : n ≤ c) (hkd : k ≤ d) (hc : c ≤ maxLen) (hd : d ≤ maxLen) (w : World) (ha : Ids w A a) (hb : Ids w B b)
    (h1 : chk a = 0) (h2 : chk b = 0) (h3 : isTr a b = true) :
    Calls Try.prog 21 #[.slice A n c, .slice B k d] w fun e w' => ∃ v, e = .returned (.tuple #[v, .int .i64 0]) ∧ w'.ownsRow w.heap.size 33 32 v (if n < k then b else a).length ((if n < k then b else a).flatMap idc) ∧ Below w.heap.size w w' := by
  have Ha := Lib.hid hla
  have Hb := Lib.hid hlb
  have hn20 := (chk_zero.1 h1).1
  have hk20 := (chk_zero.1 h2).1
  rw [hla] at hn20
  rw [hlb] at hk20
  have H1 := Lib.hid h1
  have H2 := Lib.hid h2
  have H3 := Lib.hid h3
  clear h1 h2 h3
  by_cases hlt : n < k
  all_goals
    first | rw [if_pos hlt, hlb] | rw [if_neg hlt, hla]
    clear hla hlb
    go_enter Try.func21, Try.ntmps21
    go_wp2_with fail
    refine (check_calls A a c n Ha.out _ ha).mono ?_
    rw [H1.out, show ((0 : Nat) : Int) = 0 from rfl]
    rintro e w1 ⟨rfl, hb1⟩
    go_wp2_with fail
    refine (check_calls B b d k Hb.out _ (hb.below hb1)).mono ?_
    rw [H2.out, show ((0 : Nat) : Int) = 0 from rfl]
    rintro e w2 ⟨rfl, hb2⟩
    have hb12 := hb1.trans (hb2.mono hb1.size)
    go_wp2_with fail
    refine (istrimmed_calls A B a b c d n k Ha.out Hb.out hn20 (by omega) hkd hd _ (ha.below hb12) (hb.below hb12)).mono ?_
    rw [H3.out]
    rintro e w3 ⟨rfl, hb3⟩
    have hb13 := hb12.trans (hb3.mono hb12.size)
    go_wp2_with fail
    first
      | (refine (clone_calls B b d k Hb.out (by omega) _ (hb.below hb13)).mono ?_)
      | (refine (clone_calls A a c n Ha.out (by omega) _ (ha.below hb13)).mono ?_)
    rintro e w4 ⟨v, rfl, hown, hb4⟩
    go_wp2
    go_ret2
    exact ⟨_, rfl, own_mono hown hb13.size, hb13.trans (hb4.mono hb13.size)⟩
end Go.Proofs.Ytafpndmoognjlaa
