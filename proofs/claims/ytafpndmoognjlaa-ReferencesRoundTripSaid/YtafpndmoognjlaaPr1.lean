/- Text, Print of the reference, Print of chapter 14, walked. -/
import Derived.Test.YtafpndmoognjlaaR2
import Derived.Test.YtafpndmoognjlaaHex
import Derived.Lib.Join
import Derived.Deep.QuietTactic
namespace Go.Proofs.Ytafpndmoognjlaa
open Go.ChangeShapes Go.WideShapes Go.ChangeAt Go.RowKit

theorem hex1 (v : Nat) (h : v < 16) : (hexs.drop v).take 1 = [byteAt hexs (v)] := by
  have : ∀ v, v < 16 → (hexs.drop v).take 1 = [byteAt hexs (v)] := by decide
  exact this v h
set_option maxHeartbeats 1600000 in
theorem text_calls (x : List UInt8) (hx : x.length = 32) (w : World) :
    Calls Try.prog 44 #[idv x] w fun e w' => e = .returned (.string (str (midL x))) ∧ Below w.heap.size w w' := by
  have t1 : True := trivial
  go_enter Try.func44, Try.ntmps44
  go_wp2_with (first
    | (have _t := t1; refine wpList_alloc rfl rfl 38 (idc x).toArray (by kernel_rfl) ?_; intro w1 hb1 hg1 hs1; simp only [Act.put, List.setIfInBounds_toArray, List.set_cons_succ, List.set_cons_zero]; clear t1))
  have hB1 := below_of_none hg1
  clear hg1 hs1
  go_loopw [4, 5] (fun s i wr => ∃ k : Nat, k ≤ 32 ∧ i = .int .i64 k ∧ s = .string (str ([60] ++ hexL (x.take k))) ∧ ∃ q, wr = w1.drewN q) (fun _ i _ => 32 - (intOf i).toNat)
  case atStart => exact ⟨0, by omega, rfl, rfl, 0, rfl⟩
  case round =>
    obtain ⟨k, hk, rfl, rfl, q, rfl⟩ := hrel
    by_cases hlt : k < 32
    · obtain ⟨y, hy⟩ := get_le (l := x) (k := k) (by omega)
      have hc : w1.cell? ⟨w.heap.size, k, none⟩ = some (.int .u8 y.toNat) := by
        have := hb1.cell k
        rw [this]; simp [idc, hy]
      have Hs : Hid (hexL (x.take (k + 1)) = hexL (x.take k) ++ hexB y) := Lib.hid (by
        rw [take_succ_at hy]; unfold hexL; rw [List.flatMap_append]; simp)
      have hlen : (hexL (x.take k)).length ≤ 64 := by rw [hexL_len, List.length_take]; omega
      have hy2 := y.toNat_lt
      have hq : y.toNat / 16 < 16 := by omega
      have hm : y.toNat % 16 < 16 := by omega
      have Hb := Lib.hid hb1
      have e1 := hex1 _ hq
      have e2 := hex1 _ hm
      have E1 := Lib.hid e1
      have E2 := Lib.hid e2
      clear hb1 hy e1 e2
      go_wp2_with fail
      have s1 : IntKind.u8.wrap ((y.toNat : Int) / 16 + 1) = (y.toNat : Int) / 16 + 1 := IntWalk.u8_in _ (by omega)
      have s2 : IntKind.u8.wrap ((y.toNat : Int) % 16 + 1) = (y.toNat : Int) % 16 + 1 := IntWalk.u8_in _ (by omega)
      have i0 : (0 : Int) ≤ k := by omega
      have i1 : (k : Int) < 32 := by omega
      refine wp_region_quiet_lit (by kernel_rfl) (by kernel_rfl) ?_
      repeat (go_big_quiet_step (fail))
      refine wpQuiet_nil ?_
      intro _ hw'
      obtain ⟨nq, hw''⟩ := hw'
      subst hw''
      go_wp2
      go_roundw
      case rel =>
        refine ⟨k + 1, by omega, by go_num, ?_, q + nq, rfl⟩
        rw [Hs.out]
        unfold hexs at E1 E2
        have e1 := E1.out
        have e2 := E2.out
        simp [e1, e2, hexB]
        rfl
      case measure => simp [intOf]; omega
    · have e : k = 32 := by omega
      subst e
      rw [List.take_of_length_le (by omega)]
      have hlen := hexL_len x
      go_wp2
      go_ret
      exact ⟨rfl, hB1.trans (below_drewN _ _ _)⟩

/-- the text of a list -/
def linkL (ls : List (List UInt8)) : List UInt8 := Lib.join (ls.map midL) [32]
theorem join_snoc (xs : List (List UInt8)) (y sep : List UInt8) : Lib.join (xs ++ [y]) sep = (if xs = [] then [] else Lib.join xs sep ++ sep) ++ y := by
  cases xs with
  | nil => simp [Lib.join_one]
  | cons a r =>
    rw [if_neg (by simp), List.cons_append, Lib.join_cons, Lib.join_cons]
    unfold Lib.joinTail
    simp
theorem linkL_snoc (xs : List (List UInt8)) (y : List UInt8) : linkL (xs ++ [y]) = (if xs = [] then [] else linkL xs ++ [32]) ++ midL y := by
  unfold linkL
  rw [List.map_append, List.map_cons, List.map_nil, join_snoc]
  cases xs <;> simp
theorem linkL_len (ls : List (List UInt8)) (h : ∀ l ∈ ls, l.length = 32) : ∀ k, (linkL (ls.take k)).length ≤ 72 * k
  | 0 => by simp [linkL, Lib.join_nil]
  | k + 1 => by
    have ih := linkL_len ls h k
    rcases Nat.lt_or_ge k ls.length with hk | hk
    · rw [List.take_succ_eq_append_getElem hk, linkL_snoc]
      have := midL_len ls[k] (h _ (List.getElem_mem hk))
      split <;> simp <;> omega
    · rw [List.take_of_length_le (by omega)] at ih ⊢
      omega
end Go.Proofs.Ytafpndmoognjlaa
