/- The Encoder, walked. -/
import Derived.Test.YtkmkidbajmbigaaT8
namespace Go.Proofs.Ytkmkidbajmbigaa
open Go.ChangeShapes Go.WideShapes Go.ChangeAt Go.RowKit

def restS (l : List UInt8) : List UInt8 := l.drop (l.length / 3 * 3)
/-- the Encoder in block g has received these bytes -/
def EncO (w : World) (g : Nat) (l : List UInt8) (closed : Bool) : Prop :=
  ∃ v, Blk w g 47 #[v, .int .i64 l.length, .bool closed] ∧ w.ownsRow g 5 1 v (restS l).length (idc (restS l))
theorem own_keep {w w' : World} {base : Nat} {e : TypeId} {size n : Nat} {v : Value} {xs : List Value} (h : w.ownsRow base e size v n xs) (hk : ∀ k, v.ownBlock = some k → w'.heap[k]? = w.heap[k]?) : w'.ownsRow base e size v n xs := by
  obtain ⟨h1, h2⟩ := h
  refine ⟨h1, ?_⟩
  rcases h2 with h2 | ⟨g, cap, cur, rfl, hb, hh, r⟩
  · exact .inl h2
  · exact .inr ⟨g, cap, cur, rfl, hb, (hk g rfl).trans hh, r⟩
theorem own_ne {w : World} {base : Nat} {e : TypeId} {size n : Nat} {v : Value} {xs : List Value} (h : w.ownsRow base e size v n xs) {g : Nat} {t : TypeId} {cs : Array Value} (hg : Blk w g t cs) (ht : t ≠ e) : v.ownBlock ≠ some g := by
  rcases h.2 with ⟨rfl, _⟩ | ⟨k, cap, cur, rfl, hb, hh, r⟩
  · simp [Value.ownBlock]
  · intro e
    simp only [Value.ownBlock, Option.some.injEq] at e
    subst e
    unfold Blk at hg
    rw [hh] at hg
    simp only [Option.some.injEq, Obj.cells.injEq] at hg
    exact ht hg.2.1.symm
theorem gb {a b c : World} {g : Nat} {row : Option Nat} (h1 : a.grownBy b (some g)) (h2 : b.grownBy c row) (hr : ∀ k, row = some k → k = g ∨ a.heap.size ≤ k) : a.grownBy c (some g) :=
  ⟨h2.os.trans h1.os, h2.tape.trans h1.tape, h2.output.trans h1.output, Nat.le_trans h1.size h2.size, fun k hk hne => (h2.block k (Nat.lt_of_lt_of_le hk h1.size) (fun e => by
    rcases hr k e.symm with h | h
    · exact hne (by rw [h])
    · omega)).trans (h1.block k hk hne)⟩
theorem gb_below {a b c : World} {g : Nat} (h1 : a.grownBy b (some g)) (h2 : Below b.heap.size b c) : a.grownBy c (some g) :=
  gb (row := none) h1 ⟨h2.os, h2.tape, h2.output, h2.size, fun k hk _ => h2.block k hk⟩ nofun
theorem gb_refl (a : World) (g : Nat) : a.grownBy a (some g) := ⟨rfl, rfl, rfl, Nat.le_refl _, fun _ _ _ => rfl⟩
theorem gb_set (a : World) (g o : Nat) (v : Value) : a.grownBy (a.setCell ⟨g, o, none⟩ v) (some g) :=
  ⟨rfl, rfl, rfl, by simp [World.setCell], fun k _ hk => Below.heap_setCell _ _ _ _ (fun e => hk (by simp [e]))⟩
theorem EncO.grown {w w' : World} {g : Nat} {l : List UInt8} {c : Bool} (h : EncO w g l c) {row : Option Nat} (hg : w.grownBy w' row) (h1 : some g ≠ row) (h2 : ∀ k, row = some k → w.heap.size ≤ k ∨ ∀ cur fz, w.heap[k]? ≠ some (.cells cur 5 fz)) : EncO w' g l c := by
  obtain ⟨v, hb, hown⟩ := h
  refine ⟨v, hb.grown hg h1, own_keep hown fun k hk => hg.block k (hown.lt k hk).2 (fun e => ?_)⟩
  rcases h2 k e.symm with h | h
  · have := (hown.lt k hk).2; omega
  · rcases hown.2 with ⟨rfl, _⟩ | ⟨k', cap, cur, rfl, hb, hh, r⟩
    · simp [Value.ownBlock] at hk
    · simp only [Value.ownBlock, Option.some.injEq] at hk
      subst hk
      exact h _ _ hh

theorem new_calls (w : World) : Calls Try.prog 15 #[] w fun e w' => e = .returned (.pointer (some ⟨w.heap.size, 0, none⟩)) ∧ EncO w' w.heap.size [] false ∧ w.grownBy w' none ∧ w.heap.size < w'.heap.size := by
  go_enter Try.func15, Try.ntmps15
  go_wp2
  go_ret
  exact ⟨rfl, ⟨_, Blk.new w _ _, ⟨rfl, .inl ⟨rfl, rfl⟩⟩⟩, World.grownBy_alloc w _ _, by simp⟩
theorem elen_calls (g : Nat) (l : List UInt8) (c : Bool) (w : World) (h : EncO w g l c) : Calls Try.prog 17 #[.pointer (some ⟨g, 0, none⟩)] w fun e w' => e = .returned (.int .i64 l.length) ∧ w = w' := by
  obtain ⟨v, hb, hown⟩ := h
  have c1 : w.cell? ⟨g, 1, none⟩ = some (.int .i64 l.length) := hb.cell 1
  generalize l.length = n at c1 ⊢
  clear hown hb
  go_enter Try.func17, Try.ntmps17
  go_wp2
  go_ret
  exact ⟨rfl, rfl⟩
theorem wclosed_calls (g : Nat) (l : List UInt8) (x : Value) (w : World) (h : EncO w g l true) : Calls Try.prog 16 #[.pointer (some ⟨g, 0, none⟩), x] w fun e w' => e = .returned (.tuple #[.string .empty, .int .i64 10]) ∧ w = w' := by
  obtain ⟨v, hb, hown⟩ := h
  have c1 : w.cell? ⟨g, 2, none⟩ = some (.bool true) := hb.cell 2
  clear hown hb
  go_enter Try.func16, Try.ntmps16
  go_wp2
  go_ret2
  exact ⟨rfl, rfl⟩
theorem cclosed_calls (g : Nat) (l : List UInt8) (w : World) (h : EncO w g l true) : Calls Try.prog 18 #[.pointer (some ⟨g, 0, none⟩)] w fun e w' => e = .returned (.tuple #[.string .empty, .int .i64 10]) ∧ w = w' := by
  obtain ⟨v, hb, hown⟩ := h
  have c1 : w.cell? ⟨g, 2, none⟩ = some (.bool true) := hb.cell 2
  clear hown hb
  go_enter Try.func18, Try.ntmps18
  go_wp2
  go_ret2
  exact ⟨rfl, rfl⟩
theorem rest_lt (l : List UInt8) : (restS l).length < 3 := by
  unfold restS
  rw [List.length_drop]
  omega
theorem close_calls (g : Nat) (l : List UInt8) (w : World) (h : EncO w g l false) : Calls Try.prog 18 #[.pointer (some ⟨g, 0, none⟩)] w fun e w' => e = .returned (.tuple #[.string (str (encS (restS l))), .int .i64 0]) ∧ EncO w' g l true ∧ w.grownBy w' (some g) := by
  obtain ⟨v, hb, hown⟩ := h
  have hlt := rest_lt l
  have hne := own_ne hown hb (by decide)
  obtain ⟨A, c, rfl, h1, h2, h3, h4⟩ := Row.of_own hown
  have c1 : w.cell? ⟨g, 2, none⟩ = some (.bool false) := hb.cell 2
  have f1 := hb.frozen 2
  have hb2 := hb.set_ 2 (.bool true)
  have c2 : (w.setCell ⟨g, 2, none⟩ (.bool true)).cell? ⟨g, 0, none⟩ = some (.slice A (restS l).length c) := hb2.cell 0
  have hown2 : (w.setCell ⟨g, 2, none⟩ (.bool true)).ownsRow g 5 1 (.slice A (restS l).length c) (restS l).length (idc (restS l)) :=
    own_keep hown fun k hk => Below.heap_setCell _ _ _ _ (fun e => hne (by rw [hk, e]))
  have hrow : Row (w.setCell ⟨g, 2, none⟩ (.bool true)) A (idc (restS l)) := by
    obtain ⟨A', c', e, _, _, h, _⟩ := Row.of_own hown2
    injection e with e _ _
    subst e
    exact h
  have HB := Lib.hid hb2
  have c3 : w.cell? ⟨g, 0, none⟩ = some (.slice A (restS l).length c) := hb.cell 0
  clear hb hb2
  generalize hr : restS l = r at *
  obtain ⟨rl, hrl⟩ : ∃ rl, r.length = rl := ⟨_, rfl⟩
  rw [hrl] at c2 c3 hown2 hlt HB
  have Hr := Lib.hid hr
  have Hown := Lib.hid hown2
  have Hrl := Lib.hid hrl
  clear hown h1 h2 h3 h4 hne hown2 hr hrl
  go_enter Try.func18, Try.ntmps18
  go_wp2_with (go_at_call 19; go_must (refine (encode_calls A rl c r Hrl.out (by omega) _ hrow).mono ?_; rintro e w2 ⟨rfl, hb2⟩))
  go_ret2
  refine ⟨rfl, ?_, gb_below (gb_set w g 2 _) hb2⟩
  refine ⟨_, HB.out.below hb2 HB.out.lt, ?_⟩
  rw [Hr.out, Hrl.out]
  exact own_keep Hown.out fun k hk => hb2.block k (Hown.out.lt k hk).2
end Go.Proofs.Ytkmkidbajmbigaa
