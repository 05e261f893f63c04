/- Slices of strings; Same of the reference of chapter 1, walked. -/
import Derived.Test.YtdmnphebkkfjmaaDoorRows
import Derived.Test.YtdmnphebkkfjmaaDoorStr
import Derived.Deep.Slices
namespace Go.Proofs.YtdmnphebkkfjmaaDoor
open Go Go.ChangeShapes Go.WideShapes Go.ChangeAt Go.RowKit Go.Deep
theorem info_str : (Tryd.prog.info? 9).map (fun i => (i.zero, i.size, i.bytes)) = some (some (.string .empty), 1, 16) := by kernel_rfl
def strsV (ls : List (List UInt8)) : List Value := ls.map fun l => .string (str l)
theorem strsV_snoc (ls : List (List UInt8)) (l : List UInt8) : strsV (ls ++ [l]) = strsV ls ++ [.string (str l)] := by simp [strsV]
theorem strsV_len (ls : List (List UInt8)) : (strsV ls).length = ls.length := by simp [strsV]
theorem strsV_one (ls : List (List UInt8)) : ∀ u ∈ strsV ls, u.oneCell' = true := by
  intro u hu
  obtain ⟨l, _, rfl⟩ := List.mem_map.1 hu
  rfl
theorem strsV_drop (ls : List (List UInt8)) (k : Nat) : strsV (ls.drop k) = (strsV ls).drop k := by simp [strsV]
theorem strsV_take (ls : List (List UInt8)) (k : Nat) : strsV (ls.take k) = (strsV ls).take k := by simp [strsV]
theorem strsV_app (ls ms : List (List UInt8)) : strsV (ls ++ ms) = strsV ls ++ strsV ms := by simp [strsV]
/-- the slice at A holds these strings -/
abbrev Strs (w : World) (A : Option Addr) (ls : List (List UInt8)) : Prop := Row w A (strsV ls)
theorem strs_at {w : World} {A : Option Addr} {ls : List (List UInt8)} (h : Strs w A ls) {k : Nat} {l : List UInt8} (hk : ls[k]? = some l) : ∃ ad, A = some ad ∧ w.cell? (ad.add k) = some (.string (str l)) := by
  rcases h with h | ⟨ad, rfl, h⟩
  · have := congrArg List.length h
    rw [strsV_len] at this
    have h2 := (List.getElem?_eq_some_iff.1 hk).1
    simp only [List.length_nil] at this
    omega
  · exact ⟨ad, rfl, h k _ (by simp [strsV, hk])⟩
theorem strs_own {w : World} {base n : Nat} {e : TypeId} {v : Value} {ls : List (List UInt8)} (h : w.ownsRow base e 1 v n (strsV ls)) :
    ∃ A c, v = .slice A n c ∧ n = ls.length ∧ n ≤ c ∧ c ≤ maxLen ∧ Strs w A ls ∧ ∀ ad, A = some ad → base ≤ ad.block := by
  obtain ⟨A, c, h1, h2, h3, h4, h5⟩ := Row.of_own h
  have := h.1
  rw [strsV_len] at this
  exact ⟨A, c, h1, by omega, h2, h3, h4, h5⟩
/-- a quiet call where the world bears draws already -/
theorem quiet_again {P : Program} {f : FuncId} {args : Array Value} {w : World} {a n : Nat} {v : Value} (h : ∀ W, Row W none [] → W = w.drewN (a + n) → Calls P f args W fun e w' => e = .returned v ∧ w' = W) :
    Calls P f args (w.drewN (a + n)) fun e w'' => e = .returned v ∧ ∃ m, w'' = w.drewN (a + m) :=
  (h _ (.inl rfl) rfl).mono fun _ _ ⟨he, hw⟩ => ⟨he, n, hw⟩
theorem own_head {w : World} {base n size : Nat} {e : TypeId} {A : Option Addr} {c : Nat} {xs : List Value} (h : w.ownsRow base e size (.slice A n c) n xs) : n = 0 ∨ ∃ g, A = some ⟨g, 0, none⟩ := by
  rcases h.2 with ⟨-, h⟩ | ⟨g, cap, cur, h, _⟩
  · exact .inl h
  · injection h with h _ _
    exact .inr ⟨g, h⟩
section
variable {H : Type} {enc : TypeId × Value → H} {P : Program} {w : World} {base : Nat} {spare : Nat → Bool} {held : Bool}
theorem open_strs_d {t e : TypeId} {r : Reach} {b0 : Nat} {v : Value} {d : DataW H} {p : List MemPlace} (ht : P.underlying t = some (.slice e)) (he : P.underlying e = some .string) (hce : P.cellsOf e = 1)
    (hval : Value.okWide P w r b0 t v) (h : DataW.Trod enc P w base spare held t v d p) :
    ∃ A n c, ∃ ls : List (List UInt8), v = .slice A n c ∧ ls.length = n ∧ n ≤ c ∧ c ≤ maxLen ∧ Strs w A ls ∧ (n = 0 ∨ ∃ elems spare, d = .slice elems spare ∧ elems.length = n) := by
  obtain ⟨A, n, c, rfl⟩ := okWide_slice ht hval
  obtain ⟨fuel, hf0⟩ := h
  have hf : DataW.trod enc P w base spare held fuel t [.slice A n c] = some (d, p) := hf0
  rcases open_slice1 ht hce hf with ⟨hcs, _⟩ | ⟨a, len, cap, m, n', V, D, Pl, hcs, _, hl, hm, hmm, hd, hi⟩
  · simp at hcs
    obtain ⟨rfl, rfl, rfl⟩ := hcs
    exact ⟨none, 0, 0, [], rfl, rfl, Nat.le_refl _, Nat.zero_le _, .inl rfl, .inl rfl⟩
  · simp at hcs
    obtain ⟨rfl, rfl, rfl⟩ := hcs
    have hlm : n ≤ m := by rw [hmm]; split <;> omega
    obtain ⟨f, hf'⟩ := choose_lt (α := List UInt8) (n := n) (p := fun i l => w.cell? (a.add i) = some (.string (str l))) (fun i hin => by
      obtain ⟨h1, h2⟩ := hi i (by omega)
      obtain ⟨s, h3, _⟩ := DataW.trod_string he h2
      injection h3 with h3
      exact ⟨s.data.toList, by rw [h1, h3]; rfl⟩)
    refine ⟨some a, n, c, (List.range n).map f, rfl, by simp, hl, hm, .inr ⟨a, rfl, fun j u hu => ?_⟩, .inr ⟨_, _, by simp at hd; exact hd.1, by simp⟩⟩
    have hin : j < n := by
      have := (List.getElem?_eq_some_iff.1 hu).1
      simpa [strsV] using this
    simp [strsV, hin] at hu
    rw [← hu]
    exact hf' j hin
end
set_option maxHeartbeats 400000 in
theorem ssame_calls (A B : Option Addr) (l m : List (List UInt8)) (c d n k : Nat) (hln : l.length = n) (hmn : m.length = k) (hn : n ≤ 1000000000) (w : World) (hl : Strs w A l) (hm : Strs w B m) :
    Calls Tryd.prog 13 #[.slice A n c, .slice B k d] w fun e w' => e = .returned (.bool (decide (l = m))) ∧ ∃ q, w' = w.drewN q := by
  have Hl := Lib.hid hln; have Hm := Lib.hid hmn
  by_cases hnk : n = k
  · subst hnk
    have h0 : ((n : Int) != (n : Int)) = false := by simp
    clear hln hmn
    go_enter Tryd.func13, Tryd.ntmps13
    go_wp2
    go_loopw [5] (fun i wr => ∃ k : Nat, k ≤ n ∧ i = .int .i64 k ∧ l.take k = m.take k ∧ ∃ q, wr = w.drewN q) (fun i _ => n - (intOf i).toNat)
    case atStart => exact ⟨0, Nat.zero_le _, rfl, rfl, 0, rfl⟩
    case round =>
      obtain ⟨k, hk, rfl, ht, q, rfl⟩ := hrel
      by_cases hlt : k < n
      · obtain ⟨x, hx⟩ : ∃ x, l[k]? = some x := ⟨_, List.getElem?_eq_getElem (by rw [Hl.out]; exact hlt)⟩
        obtain ⟨y, hy⟩ : ∃ y, m[k]? = some y := ⟨_, List.getElem?_eq_getElem (by rw [Hm.out]; exact hlt)⟩
        obtain ⟨ad, rfl, hA⟩ := strs_at hl hx
        obtain ⟨bd, rfl, hB⟩ := strs_at hm hy
        have Hx := Lib.hid hx; have Hy := Lib.hid hy; have Ht := Lib.hid ht; clear hx hy ht
        have i0 : (0 : Int) ≤ k := by omega
        have i1 : (k : Int) < n := by omega
        by_cases he : x = y
        · have hb : (x == y) = true := by simpa using he
          have He := Lib.hid he
          clear he
          go_wp2_with fail
          refine wp_region_quiet_lit (by kernel_rfl) (by kernel_rfl) ?_
          repeat (go_big_quiet_step (fail))
          refine wpQuiet_nil ?_
          intro _ hw'
          obtain ⟨nq, hw''⟩ := hw'
          subst hw''
          go_wp2_with fail
          go_roundw
          case rel => exact ⟨k + 1, by omega, by go_num, by rw [take_succ_at Hx.out, take_succ_at Hy.out, Ht.out, He.out], q + nq, rfl⟩
          case measure => simp [intOf]; omega
        · have hb : (x == y) = false := by simpa using he
          have He := Lib.hid he
          clear he
          go_wp2_with fail
          refine wp_region_quiet_lit (by kernel_rfl) (by kernel_rfl) ?_
          repeat (go_big_quiet_step (fail))
          refine wpQuiet_nil ?_
          intro _ hw'
          obtain ⟨nq, hw''⟩ := hw'
          subst hw''
          go_wp2_with fail
          go_ret
          refine ⟨ret_bool ?_, q + nq, World.drewN_drewN ..⟩
          rw [decide_eq_false (fun e : l = m => He.out (Option.some.inj (Hx.out.symm.trans ((congrArg (·[k]?) e).trans Hy.out))))]
      · have e : k = n := by omega
        subst e
        go_wp2
        go_ret
        have : l = m := by rwa [List.take_of_length_le (by rw [Hl.out]; omega), List.take_of_length_le (by rw [Hm.out]; omega)] at ht
        exact ⟨by simp [this], q, rfl⟩
  · have h0 : ((n : Int) != (k : Int)) = true := by rw [bne_iff_ne]; omega
    have hd : decide (l = m) = false := decide_eq_false (by rintro rfl; omega)
    rw [hd]
    clear hnk hln hmn hd
    go_enter Tryd.func13, Tryd.ntmps13
    go_wp2
    go_ret
    exact ⟨rfl, 0, rfl⟩
end Go.Proofs.YtdmnphebkkfjmaaDoor
