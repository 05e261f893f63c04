/- The plain law of Parse: tokens, and what it answers; the two functions blank. -/
import Derived.Test.YtafpndmoognjlaaId2
import Derived.Test.YtafpndmoognjlaaC1
namespace Go.Proofs.Ytafpndmoognjlaa
open Go.ChangeShapes Go.WideShapes Go.ChangeAt Go.RowKit
def blankB (c : UInt8) : Bool := decide (c = 32 ∨ c = 9)
theorem blank_val (c : UInt8) : (((c.toNat : Int) == 32) || ((c.toNat : Int) == 9)) = blankB c := by
  unfold blankB
  rw [Bool.eq_iff_iff]
  simp only [Bool.or_eq_true, beq_iff_eq, decide_eq_true_eq, ← UInt8.toNat_inj]
  rw [show (32 : UInt8).toNat = 32 from rfl, show (9 : UInt8).toNat = 9 from rfl]
  omega
theorem blank_calls (c : UInt8) (w : World) : Calls Try.prog 38 #[.int .u8 c.toNat] w fun e w' => e = .returned (.bool (blankB c)) ∧ w' = w := by
  rw [← blank_val]
  cases h1 : ((c.toNat : Int) == 32) with
  | true =>
    go_enter Try.func38, Try.ntmps38
    go_wp2
    go_ret
    exact ⟨rfl, rfl⟩
  | false =>
    go_enter Try.func38, Try.ntmps38
    go_wp2
    go_ret
    exact ⟨rfl, rfl⟩
theorem rblank_calls (c : UInt8) (w : World) : Calls Try.prog 40 #[.int .u8 c.toNat] w fun e w' => e = .returned (.bool (blankB c)) ∧ w' = w := by
  rw [← blank_val]
  cases h1 : ((c.toNat : Int) == 32) with
  | true =>
    go_enter Try.func40, Try.ntmps40
    go_wp2
    go_ret
    exact ⟨rfl, rfl⟩
  | false =>
    go_enter Try.func40, Try.ntmps40
    go_wp2
    go_ret
    exact ⟨rfl, rfl⟩
/-- where the token that holds the place i ends -/
def tokEnd (l : List UInt8) (i : Nat) : Nat := i + ((l.drop i).takeWhile fun c => !blankB c).length
theorem tokEnd_on {l : List UInt8} {i : Nat} {x : UInt8} (h : l[i]? = some x) (hb : blankB x = false) : tokEnd l i = tokEnd l (i + 1) := by
  obtain ⟨h1, h2⟩ := List.getElem?_eq_some_iff.1 h
  unfold tokEnd
  rw [List.drop_eq_getElem_cons h1, h2, List.takeWhile_cons_of_pos (by simp [hb]), List.length_cons]
  omega
theorem tokEnd_blank {l : List UInt8} {i : Nat} {x : UInt8} (h : l[i]? = some x) (hb : blankB x = true) : tokEnd l i = i := by
  obtain ⟨h1, h2⟩ := List.getElem?_eq_some_iff.1 h
  unfold tokEnd
  rw [List.drop_eq_getElem_cons h1, h2, List.takeWhile_cons_of_neg (by simp [hb])]
  rfl
theorem tokEnd_end {l : List UInt8} {i : Nat} (h : l.length ≤ i) : tokEnd l i = i := by
  unfold tokEnd
  rw [List.drop_eq_nil_of_le h]; rfl
theorem tokEnd_le {l : List UInt8} {i : Nat} (h : i ≤ l.length) : tokEnd l i ≤ l.length := by
  unfold tokEnd
  have := (List.takeWhile_sublist (l := l.drop i) (p := fun c => !blankB c)).length_le
  rw [List.length_drop] at this
  omega
theorem le_tokEnd (l : List UInt8) (i : Nat) : i ≤ tokEnd l i := by unfold tokEnd; omega
def tok (l : List UInt8) (i : Nat) : List UInt8 := (l.drop i).take (tokEnd l i - i)
/-- the answer of Parse from the place i on, some identities having been read -/
def pgo (l : List UInt8) : Nat → Nat → List (List UInt8) → List (List UInt8) × Nat × Nat
  | 0, _, out => (out, 0, 0)
  | f + 1, i, out =>
    match l[i]? with
    | none => (out, 0, 0)
    | some x => if blankB x then pgo l f (i + 1) out else if out.length = 20 then ([], i, 9) else if okM (tok l i) = false then ([], i, 3) else
        if addE out (unh (tok l i)) ≠ 0 then ([], i, addE out (unh (tok l i))) else pgo l f (tokEnd l i) (out ++ [unh (tok l i)])
def parS (l : List UInt8) : List (List UInt8) × Nat × Nat := pgo l l.length 0 []
theorem pgo_end {l : List UInt8} {f i : Nat} {out : List (List UInt8)} (h : l.length ≤ i) : pgo l f i out = (out, 0, 0) := by
  cases f with
  | zero => rfl
  | succ f => rw [pgo, List.getElem?_eq_none h]
theorem pgo_blank {l : List UInt8} {f i : Nat} {out : List (List UInt8)} {x : UInt8} (h : l[i]? = some x) (hb : blankB x = true) : pgo l (f + 1) i out = pgo l f (i + 1) out := by
  rw [pgo, h]; simp only [hb, if_true]
theorem pgo_tok {l : List UInt8} {f i : Nat} {out : List (List UInt8)} {x : UInt8} (h : l[i]? = some x) (hb : blankB x = false) :
    pgo l (f + 1) i out = if out.length = 20 then ([], i, 9) else if okM (tok l i) = false then ([], i, 3) else
        if addE out (unh (tok l i)) ≠ 0 then ([], i, addE out (unh (tok l i))) else pgo l f (tokEnd l i) (out ++ [unh (tok l i)]) := by
  rw [pgo, h]; simp only [hb, Bool.false_eq_true, if_false]
theorem pgo_len32 (l : List UInt8) : ∀ f i out, (∀ x ∈ out, x.length = 32) → ∀ x ∈ (pgo l f i out).1, x.length = 32
  | 0, i, out, h => h
  | f + 1, i, out, h => by
    rw [pgo]
    split
    · exact h
    · split
      · exact pgo_len32 l f _ _ h
      · split
        · simp
        · split
          · simp
          · split
            · simp
            · refine pgo_len32 l f _ _ fun x hx => ?_
              rcases List.mem_append.1 hx with hx | hx
              · exact h x hx
              · rw [List.mem_singleton.1 hx]; exact unh_len _
theorem pgo_len20 (l : List UInt8) : ∀ f i out, out.length ≤ 20 → (pgo l f i out).1.length ≤ 20
  | 0, i, out, h => h
  | f + 1, i, out, h => by
    rw [pgo]
    split
    · exact h
    · split
      · exact pgo_len20 l f _ _ h
      · split
        · simp
        · split
          · simp
          · split
            · simp
            · exact pgo_len20 l f _ _ (by simp; omega)
end Go.Proofs.Ytafpndmoognjlaa
