/- inPlace and Decode, walked. -/
import Derived.Test.YtkmkidbajmbigaaDoorT5
namespace Go.Proofs.YtkmkidbajmbigaaDoor
open Go.ChangeShapes Go.WideShapes Go.ChangeAt Go.RowKit

def inPl (l : List UInt8) (i : Nat) : Bool := decide (l.length % 4 = 0 ∧ (i + 1 = l.length ∨ (i + 2 = l.length ∧ l[l.length - 1]? = some 61)))
theorem str_at (l : List UInt8) (k : Nat) (x : UInt8) (h : l[k]? = some x) : ∀ hk, (str l)[k]'hk = x := by
  intro hk
  have h2 : (str l)[k]'hk = l[k]'(by rw [str_size] at hk; exact hk) := rfl
  rw [h2]
  have := List.getElem?_eq_getElem (l := l) (i := k) (by rw [str_size] at hk; exact hk)
  rw [this] at h
  injection h
theorem inPlace_calls (l : List UInt8) (i : Nat) (hi : i < l.length) (hl : l.length ≤ 200000) (w : World) :
    Calls Tryd.prog 14 #[.string (str l), .int .i64 i] w fun e w' => e = .returned (.bool (inPl l i)) ∧ w' = w := by
  obtain ⟨x, hx⟩ : ∃ x, l[l.length - 1]? = some x := ⟨_, List.getElem?_eq_getElem (by omega)⟩
  have hat := str_at l (l.length - 1) x hx
  have hsz := str_size l
  obtain ⟨n, hn⟩ : ∃ n, n = l.length := ⟨_, rfl⟩
  have hin : inPl l i = decide (n % 4 = 0 ∧ (i + 1 = n ∨ (i + 2 = n ∧ x = 61))) := by
    unfold inPl
    rw [hx, hn]
    simp
  rw [hin]
  rw [← hn] at hat hsz hl hi
  clear hin hx hn
  by_cases h1 : n % 4 = 0
  · have h1' : (n : Int) % 4 = 0 := by omega
    by_cases h2 : i + 1 = n
    · rw [show decide (n % 4 = 0 ∧ (i + 1 = n ∨ (i + 2 = n ∧ x = 61))) = true from decide_eq_true ⟨h1, .inl h2⟩]
      have h2' : (i : Int) = n - 1 := by omega
      have H2 := Lib.hid h2
      clear h1 h2
      go_enter Tryd.func14, Tryd.ntmps14
      go_wp2
      all_goals go_ret
      all_goals exact ⟨rfl, rfl⟩
    · by_cases h3 : i + 2 = n
      · rw [show decide (n % 4 = 0 ∧ (i + 1 = n ∨ (i + 2 = n ∧ x = 61))) = decide (x = 61) from decide_eq_decide.2 ⟨fun h => by rcases h.2 with h | h; exact absurd h h2; exact h.2, fun h => ⟨h1, .inr ⟨h3, h⟩⟩⟩]
        have h2' : ¬ (i : Int) = n - 1 := by omega
        have h3' : (i : Int) = n - 2 := by omega
        have hlast : n - 1 < n := by omega
        have H3 := Lib.hid h3
        clear h1 h2 h3
        go_enter Tryd.func14, Tryd.ntmps14
        go_wp2
        go_ret
        refine ⟨ret_bool ?_, rfl⟩
        have e1 : ((n : Int) - 2 == (n : Int) - 1) = false := by rw [beq_eq_false_iff_ne]; omega
        rw [e1, Bool.false_or]
        rw [Bool.eq_iff_iff, beq_iff_eq, decide_eq_true_iff, ← UInt8.toNat_inj, show (61 : UInt8).toNat = 61 from rfl]
        omega
      · rw [show decide (n % 4 = 0 ∧ (i + 1 = n ∨ (i + 2 = n ∧ x = 61))) = false from decide_eq_false (fun h => by rcases h.2 with h | h; exact h2 h; exact h3 h.1)]
        have h2' : ¬ (i : Int) = n - 1 := by omega
        have h3' : ¬ (i : Int) = n - 2 := by omega
        have H3 := Lib.hid h3
        clear h1 h2 h3
        go_enter Tryd.func14, Tryd.ntmps14
        go_wp2
        all_goals go_ret
        all_goals exact ⟨ret_bool (beq_eq_false_iff_ne.2 h2'), rfl⟩
  · rw [show decide (n % 4 = 0 ∧ (i + 1 = n ∨ (i + 2 = n ∧ x = 61))) = false from decide_eq_false (fun h => h1 h.1)]
    have h1' : ¬ (n : Int) % 4 = 0 := by omega
    clear h1
    go_enter Tryd.func14, Tryd.ntmps14
    go_wp2
    all_goals go_ret
    all_goals exact ⟨rfl, rfl⟩

structure DSt where
  out : List UInt8
  bits : Nat
  cnt : Nat
  last : Nat
abbrev Dec := List UInt8 × Nat × Nat
def dstep (st : DSt) (i v : Nat) : DSt :=
  if st.cnt = 0 then ⟨st.out, st.bits * 64 + v, 6, i⟩
  else ⟨st.out ++ [UInt8.ofNat ((st.bits * 64 + v) / 2 ^ (st.cnt - 2))], (st.bits * 64 + v) % 2 ^ (st.cnt - 2), st.cnt - 2, i⟩
def dfin (l : List UInt8) (st : DSt) : Dec := if l.length % 4 ≠ 0 then ([], l.length, 4) else if st.bits ≠ 0 then ([], st.last, 3) else (st.out, 0, 0)
def dgo (l : List UInt8) : List UInt8 → Nat → DSt → Dec
  | [], _, st => dfin l st
  | c :: r, i, st => if lookOk c.toNat then dgo l r (i + 1) (dstep st i (lookV c.toNat)) else if c = 61 ∧ inPl l i = true then dfin l st else ([], i, 6)
def decS (l : List UInt8) : Dec := dgo l l 0 ⟨[], 0, 0, 0⟩
def okD (s : DSt) : Prop := (s.cnt = 0 ∨ s.cnt = 2 ∨ s.cnt = 4 ∨ s.cnt = 6) ∧ s.bits < 2 ^ s.cnt
theorem lookV_lt (c : Nat) (h : lookOk c = true) : lookV c < 64 := by
  unfold lookOk at h
  unfold lookV
  cases hc : tab.idxOf? c with
  | none => rw [hc] at h; cases h
  | some p =>
    have := List.idxOf?_eq_some_iff.1 hc
    obtain ⟨h1, _⟩ := this
    exact h1
theorem okD_step {s : DSt} (h : okD s) (i : Nat) {v : Nat} (hv : v < 64) : okD (dstep s i v) := by
  obtain ⟨o, b, n, t⟩ := s
  obtain ⟨h1, h2⟩ := h
  simp only at h1 h2
  rcases h1 with rfl | rfl | rfl | rfl
  · exact ⟨.inr (.inr (.inr rfl)), show b * 64 + v < 2 ^ 6 by omega⟩
  · exact ⟨.inl rfl, Nat.mod_lt _ (show 0 < 2 ^ 0 by decide)⟩
  · exact ⟨.inr (.inl rfl), Nat.mod_lt _ (show 0 < 2 ^ 2 by decide)⟩
  · exact ⟨.inr (.inr (.inl rfl)), Nat.mod_lt _ (show 0 < 2 ^ 4 by decide)⟩
theorem dstep_len (s : DSt) (i v : Nat) : (dstep s i v).out.length ≤ s.out.length + 1 := by
  unfold dstep
  split <;> simp
end Go.Proofs.YtkmkidbajmbigaaDoor
