/- A region inside a round of a range over a function: the plain words of a region serve there too, where no operation is a defer statement. -/
import Derived.Test.YtafpndmoognjlaaBase
import Derived.RangeFuncNested
import Derived.RangeFuncBound
import Derived.RangeFuncCalls
import Derived.RangeFuncLeaves
import Derived.RangeFuncBox
import Derived.Shelf.Abstract
import Derived.Shelf.RegionOpen
import Derived.OwnWalkIn
import Derived.TacticsInMore
import Derived.LoopNIn
import Derived.LoopIn
import Derived.Deep.Quiet
namespace Go.Proofs.Ytafpndmoognjlaa
open Go Go.ChangeShapes Go.WideShapes Go.ChangeAt Go.RowKit Go.Shelf
def Norm (Q : Exit → Act → World → Prop) : Exit → Act → World → Prop
  | .normal, a, w => Q .normal a w
  | _, _, _ => False
def noDefer (l : List Oper) : Bool := l.all fun o => match o.op with | .defer _ => false | _ => true
theorem noDefer_cons {o : Oper} {l : List Oper} (h : noDefer (o :: l) = true) : (∀ c, o.op ≠ .defer c) ∧ noDefer l = true := by
  unfold noDefer at h
  rw [List.all_cons, Bool.and_eq_true] at h
  exact ⟨(fun c e => by have h1 := h.1; rw [e] at h1; cases h1), h.2⟩
theorem noDefer_at {l : List Oper} (h : noDefer l = true) {i : Nat} {o : Oper} (ho : l.toArray[i]? = some o) : ∀ c, o.op ≠ .defer c := by
  intro c e
  unfold noDefer at h
  rw [List.all_eq_true] at h
  have hm : o ∈ l := by
    have : l[i]? = some o := by simpa using ho
    exact List.mem_of_getElem? this
  have := h o hm
  rw [e] at this
  cases this
section
variable {P : Program} {n r : Nat} {Q : Exit → Act → World → Prop}
theorem norm_out : ¬ LetsOut (Norm Q) := fun ⟨_, _, h⟩ => h
theorem rows_round {m : Nat} {row : String} {args : Array Value} {w : World} {R : Value → World → Prop} (h : Rows P row args w R) : RowsIn (Fence.wide.inRound r) m P row args w R :=
  fun c cs _ => let ⟨v, w', hr, s⟩ := h c cs; ⟨v, w', hr, stepsIn_wide.2 s⟩
theorem oper_round {o : Oper} {a : Act} {w : World} {K : Act → World → Prop} (hd : ∀ c, o.op ≠ .defer c) (h : o.wp P a w K (Norm Q)) : o.wpIn (Fence.wide.inRound r) n P a w K Q := by
  refine ⟨fun _ _ => trivial, ?_⟩
  rw [show (Fence.wide.inRound r).round = some r from rfl, Oper.semAt_some _ _ _ hd]
  unfold Oper.wp at h
  generalize (execOp a.eval o).run P w = x at h ⊢
  cases x with
  | ok y w' =>
    cases y with
    | value v => exact h
    | skip => exact h
    | defer d => exact h
    | enter f args =>
      refine ⟨(fun e => by cases e), ?_⟩
      refine CallsIn.inRound r (callsIn_wide.2 (Calls.mono h ?_))
      intro e w'' he
      cases e with
      | returned v => exact he
      | panicked c => exact False.elim he
      | outgrown => exact absurd he norm_out
    | row row args => exact ⟨(fun e => by cases e), rows_round h⟩
    | _ => exact False.elim h
  | halt y w' =>
    cases y with
    | panic v => exact False.elim h
    | _ => exact False.elim h
theorem list_round {ops : Array Oper} : ∀ (l : List Oper) (a : Act) (w : World), noDefer l = true → wpList P ops (Norm Q) l a w → wpListIn (Fence.wide.inRound r) n P ops Q l a w
  | [], _, _, _, h => h
  | o :: l, a, w, hd, h => by
    obtain ⟨h1, h2⟩ := noDefer_cons hd
    rw [wpList] at h
    rw [wpListIn]
    split
    · next hw =>
      rw [if_pos hw] at h
      rcases h with h | ⟨_, h⟩
      · exact oper_round h1 (Oper.wp_mono (fun a w => list_round l a w h2) h)
      · exact absurd h norm_out
    · next hw =>
      rw [if_neg hw] at h
      exact ⟨fun _ _ => trivial, list_round l _ _ h2 h⟩
theorem round_list {id : Nat} {l : List Oper} {a : Act} {w : World} (hd : noDefer l = true) (h : wpList P l.toArray (Norm Q) l a w) : (Code.region id l.toArray false).wpIn (Fence.wide.inRound r) n P Q a w :=
  wpIn_region_lit (list_round l a w hd h)
theorem op_round {ops : Array Oper} {i : Nat} {K : Act → World → Prop} {a : Act} {w : World} (hd : ∀ (j : Nat) o, ops[j]? = some o → ∀ c, o.op ≠ .defer c) (h : wpOp P ops (Norm Q) i K a w) : wpOpIn (Fence.wide.inRound r) n P ops Q i K a w := by
  unfold wpOp at h
  unfold wpOpIn
  split
  · next ho => rw [ho] at h; exact h
  · next o ho =>
    rw [ho] at h
    simp only at h
    split
    · next hw =>
      rw [if_pos hw] at h
      rcases h with h | ⟨_, h⟩
      · exact oper_round (hd i o ho) h
      · exact absurd h norm_out
    · next hw =>
      rw [if_neg hw] at h
      exact ⟨fun _ _ => trivial, h⟩
theorem any_round {ops : Array Oper} {md : Region.Mode} (hd : ∀ (j : Nat) o, ops[j]? = some o → ∀ c, o.op ≠ .defer c) : ∀ (fuel : Nat) (listed : Array Bool) (a : Act) (w : World),
    wpAny P md ops (Norm Q) fuel listed a w → wpAnyIn (Fence.wide.inRound r) n P md ops Q fuel listed a w
  | 0, _, _, _, h => h
  | fuel + 1, _, _, _, h => ⟨h.1, fun i hi => op_round hd (wpOp_mono (fun a w => any_round hd fuel _ a w) (h.2 i hi))⟩
theorem round_any {id : Nat} {l : List Oper} {a : Act} {w : World} (hd : noDefer l = true) (hm : P.follows .mixedOrders = true) (h : wpAny P .any l.toArray (Norm Q) l.toArray.size (Array.replicate l.toArray.size false) a w.drew) :
    (Code.region id l.toArray true).wpIn (Fence.wide.inRound r) n P Q a w :=
  wpIn_region_any hm (any_round (fun _ _ ho => noDefer_at hd ho) _ _ _ _ h)
theorem round_held {S : World → Prop} {id : Nat} {l : List Oper} {a : Act} {w : World} (hd : noDefer l = true) (hm : P.follows .mixedOrders = true) (hS : S w.drew)
    (h : S w.drew → wpAnyH P .any l.toArray (Norm Q) S l.toArray.size (Array.replicate l.toArray.size false) a w.drew) : (Code.region id l.toArray true).wpIn (Fence.wide.inRound r) n P Q a w :=
  round_any hd hm (wpAny_of_held _ _ _ _ (h hS))
theorem round_quiet {id : Nat} {l : List Oper} {a : Act} {w : World} (hd : noDefer l = true) (hm : P.follows .mixedOrders = true) (hB : Region.lexB .any l.toArray = true)
    (h : wpQuiet P l.toArray (fun w' => ∃ n, w' = w.drewN n) (fun a' => ∀ w', (∃ n, w' = w.drewN n) → Q .normal a' w') l a) : (Code.region id l.toArray true).wpIn (Fence.wide.inRound r) n P Q a w := by
  refine round_any hd hm ?_
  simp only [Region.lexB, Bool.and_eq_true] at hB
  refine wpAny_of_quiet (C := fun w' => ∃ n, w' = w.drewN n) (Q := fun a' => ∀ w', (∃ n, w' = w.drewN n) → Q .normal a' w') (Q' := Norm Q) (fun _ w' hw' h => h w' hw') _ _ _ _ ⟨1, rfl⟩ ?_
  have := wpAnyQ_lex (C := fun w' => ∃ n, w' = w.drewN n) (md := .any) hB.1 l 0 (Array.replicate l.toArray.size false) a (by simp) (by simpa using hB.2) h
  simpa using this
end
end Go.Proofs.Ytafpndmoognjlaa
