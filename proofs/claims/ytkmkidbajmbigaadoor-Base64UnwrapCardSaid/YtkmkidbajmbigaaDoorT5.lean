/- The map of the values of the characters. -/
import Derived.Test.YtkmkidbajmbigaaDoorT4
namespace Go.Proofs.YtkmkidbajmbigaaDoor
open Go.ChangeShapes Go.WideShapes Go.ChangeAt Go.RowKit

def tabEntry (p : Nat × Nat) : Value × Value := (.int .u8 p.1, .int .i64 p.2)
/-- block b is a map that gives the first k characters their values -/
def TabMap (w : World) (b k : Nat) : Prop :=
  ∃ es clock, w.heap[b]? = some (.map es clock) ∧ es.toList.map (fun e => (e.key, e.val)) = ((tab.take k).zipIdx 0).map tabEntry
section
variable {w w' : World} {b k : Nat}
theorem TabMap.lt (h : TabMap w b k) : b < w.heap.size := by
  obtain ⟨es, clock, hb, _⟩ := h
  exact (Array.getElem?_eq_some_iff.1 hb).1
theorem TabMap.of_block (h : TabMap w b k) (hb : w'.heap[b]? = w.heap[b]?) : TabMap w' b k := by
  obtain ⟨es, clock, h1, h2⟩ := h
  exact ⟨es, clock, hb.trans h1, h2⟩
theorem TabMap.grown (h : TabMap w b k) {row : Option Nat} (hg : w.grownBy w' row) (hr : some b ≠ row) : TabMap w' b k := h.of_block (hg.block b h.lt hr)
theorem TabMap.below {B : Nat} (h : TabMap w b k) (hb : Below B w w') (hB : b < B) : TabMap w' b k := h.of_block (hb.block b hB)
theorem TabMap.new (w : World) : TabMap (w.alloc (.map #[] 0)) w.heap.size 0 := ⟨#[], 0, heap_alloc_new w _, rfl⟩
theorem TabMap.alloc (h : TabMap w b k) (o : Obj) : TabMap (w.alloc o) b k := h.of_block (Below.heap_alloc w o b h.lt)
end
theorem findNow_tab (c : Nat) : ∀ (ts : List Nat) (es : List MapEntry) (i : Nat), es.map (fun e => (e.key, e.val)) = (ts.zipIdx i).map tabEntry →
    Instr.findNow (.int .u8) (.int .u8 c) es i = some ((ts.idxOf? c).map fun p => (i + p, .int .i64 (i + p : Nat)))
  | [], es, i, h => by
    cases es with
    | nil => rfl
    | cons _ _ => simp at h
  | t :: ts, [], i, h => by simp at h
  | t :: ts, e :: es, i, h => by
    simp only [List.map_cons, List.zipIdx_cons, List.cons.injEq] at h
    obtain ⟨h1, h2⟩ := h
    have hk : e.key = .int .u8 t := congrArg Prod.fst h1
    have hv : e.val = .int .i64 i := congrArg Prod.snd h1
    have ih := findNow_tab c ts es (i + 1) h2
    rw [Instr.findNow, hk, Instr.sameNow, if_pos rfl]
    by_cases hc : c = t
    · subst hc
      have h4 : (c == c) = true := by simp
      have h5 : ((c : Int) == (c : Int)) = true := by simp
      rw [h5]
      simp only [List.idxOf?_cons, h4, if_true, Option.map_some, Nat.add_zero, hv]
    · have h3 : ((c : Int) == (t : Int)) = false := by rw [beq_eq_false_iff_ne]; omega
      rw [h3]
      simp only [ih, List.idxOf?_cons]
      have h4 : (t == c) = false := by rw [beq_eq_false_iff_ne]; omega
      rw [h4]
      cases ts.idxOf? c with
      | none => rfl
      | some p =>
        simp only [Option.map_some, Bool.false_eq_true, if_false]
        rw [show i + 1 + p = i + (p + 1) from by omega]
section
variable {P : Program}
theorem run_findKey_tab (w : World) {t : TypeId} (ht : P.underlying t = some (.int .u8)) (c : Nat) (es : List MapEntry) (k : Nat) (h : es.map (fun e => (e.key, e.val)) = ((tab.take k).zipIdx 0).map tabEntry) :
    (Instr.findKey t (.int .u8 c) es).run P w = .ok (((tab.take k).idxOf? c).map fun p => (p, .int .i64 p)) w := by
  unfold Instr.findKey
  simp only [Sem.run_bind, run_underlying ht, Result.andThen_ok, findNow_tab c _ es 0 h, Sem.run_pure, Nat.zero_add]
theorem run_checkKey_u8 (w : World) {t : TypeId} (ht : P.underlying t = some (.int .u8)) (c : Int) (em : Bool) (d : Nat) : (Instr.checkKey em (d + 1) t (.int .u8 c)).run P w = .ok () w := by
  rw [Instr.checkKey]
  simp only [Sem.run_bind, run_underlying ht, Result.andThen_ok, Sem.run_pure]
def lookV (c : Nat) : Nat := (tab.idxOf? c).getD 0
def lookOk (c : Nat) : Bool := (tab.idxOf? c).isSome
theorem run_lookup_tab (w : World) {t k v : TypeId} {i : TypeInfo} (ht : P.underlying t = some (.map k v)) (hk : P.underlying k = some (.int .u8)) (hi : P.info? v = some i) (hz : i.zero = some (.int .i64 0))
    {b : Nat} (hs : TabMap w b 64) (c : Nat) :
    (Instr.lookup t (.map (some b)) (.int .u8 c) true).run P w = .ok (.tuple #[.int .i64 (lookV c), .bool (lookOk c)]) w := by
  obtain ⟨es, clock, hb, h⟩ := hs
  unfold Instr.lookup
  have ht64 : tab.take 64 = tab := rfl
  have hf := run_findKey_tab (P := P) w hk c es.toList 64 h
  rw [ht64] at hf
  simp only [Sem.run_bind, run_underlying ht, Result.andThen_ok, MapKept.run_getObj_map hb, Sem.run_pure, run_checkKey_u8 w hk _ _ 9999, hf, lookV, lookOk]
  cases tab.idxOf? c with
  | none => simp [zeroValue, typeInfo, hi, hz]
  | some p => simp
theorem wpList_lookup_tab {ops : Array Oper} {rest : List Oper} {o : Oper} {a : Act} {w : World} {Q : Exit → Act → World → Prop} (hgd : o.guard = none) (t : TypeId) (x y : Operand) (ho : o.op = .lookup t x y true)
    {k v : TypeId} {i : TypeInfo} (ht : P.underlying t = some (.map k v)) (hk : P.underlying k = some (.int .u8)) (hi : P.info? v = some i) (hz : i.zero = some (.int .i64 0))
    (b : Nat) (hx : a.eval x = .map (some b)) (c : Nat) (hy : a.eval y = .int .u8 c) (hs : TabMap w b 64)
    (h : wpList P ops Q rest (a.put o.dst (.tuple #[.int .i64 (lookV c), .bool (lookOk c)])) w) : wpList P ops Q (o :: rest) a w :=
  wpList_plain hgd fun _ hK => by
    unfold Oper.wp execOp
    simp only [ho, hx, hy, Sem.run_bind, Sem.run_pure, Result.andThen_ok, run_lookup_tab w ht hk hi hz hs c]
    exact hK _ _ h
theorem tab_new : ∀ k, k < 64 → (tab.take k).idxOf? (tab.getD k 0) = none := by decide +kernel
theorem tab_next : ∀ k, k < 64 → ((tab.take (k + 1)).zipIdx 0).map (fun p => p) = ((tab.take k).zipIdx 0).map (fun p => p) ++ [(tab.getD k 0, k)] := by decide +kernel
theorem wpList_update_tab {ops : Array Oper} {rest : List Oper} {o : Oper} {a : Act} {w : World} {Q : Exit → Act → World → Prop} (hgd : o.guard = none) (t : TypeId) (x y z : Operand) (ho : o.op = .mapUpdate t x y z)
    {k v : TypeId} (ht : P.underlying t = some (.map k v)) (hk : P.underlying k = some (.int .u8))
    (b : Nat) (hx : a.eval x = .map (some b)) (n : Nat) (hn : n < 64) (hy : a.eval y = .int .u8 (tab.getD n 0 : Nat)) (hzz : a.eval z = .int .i64 n) (hs : TabMap w b n)
    (h : ∀ w', TabMap w' b (n + 1) → w.grownBy w' (some b) → wpList P ops Q rest (a.put o.dst undef) w') : wpList P ops Q (o :: rest) a w := by
  obtain ⟨es, clock, hb, hes⟩ := hs
  have hlt := (Array.getElem?_eq_some_iff.1 hb).1
  refine wpList_plain hgd fun _ hK => ?_
  unfold Oper.wp execOp
  have hf := run_findKey_tab (P := P) w hk (tab.getD n 0) es.toList n hes
  rw [tab_new n hn] at hf
  have hrun : (Instr.mapUpdate t (.map (some b)) (.int .u8 (tab.getD n 0 : Nat)) (.int .i64 n)).run P w = .ok () { w with heap := w.heap.setIfInBounds b (.map (es.push { key := .int .u8 (tab.getD n 0 : Nat), val := .int .i64 n, born := clock }) (clock + 1)) } := by
    unfold Instr.mapUpdate
    simp only [Sem.run_bind, run_underlying ht, Result.andThen_ok, MapKept.run_getObj_map hb, run_checkKey_u8 w hk _ _ 9999, hf, MapKept.run_setObj_map _ hb, Option.map_none]
  simp only [ho, hx, hy, hzz, Sem.run_bind, Sem.run_pure, Result.andThen_ok, hrun]
  refine hK _ _ (h _ ⟨es.push { key := .int .u8 (tab.getD n 0 : Nat), val := .int .i64 n, born := clock }, clock + 1, ?_, ?_⟩ ⟨rfl, rfl, rfl, by simp, fun j hj hne => ?_⟩)
  · show (w.heap.setIfInBounds b _)[b]? = _
    rw [Array.getElem?_setIfInBounds_self_of_lt hlt]
  · have := tab_next n hn
    simp only [List.map_id'] at this
    rw [Array.toList_push, List.map_append, hes, this, List.map_append]; rfl
  · show (w.heap.setIfInBounds b _)[j]? = _
    rw [Array.getElem?_setIfInBounds_ne (fun e => hne (by rw [e]))]
theorem wpList_newmap {ops : Array Oper} {rest : List Oper} {o : Oper} {a : Act} {w : World} {Q : Exit → Act → World → Prop} (hgd : o.guard = none) (_hk : isNewMap o.op = true) (hv : (execOp a.eval o).run P w = .ok (.value (.map (some w.heap.size))) (w.alloc (.map #[] 0)))
    (h : wpList P ops Q rest (a.put o.dst (.map (some w.heap.size))) (w.alloc (.map #[] 0))) : wpList P ops Q (o :: rest) a w :=
  wpList_plain hgd fun _ hK => by unfold Oper.wp; rw [hv]; exact hK _ _ h
end
theorem run_index_tab (w : World) (k : Nat) (hk : k < 64) : (Instr.index 54 (.agg T64) (.int .i64 k)).run Tryd.prog w = .ok (.int .u8 (chr k).toNat) w := by
  have h1 : ∀ w, (underlying 54).run Tryd.prog w = .ok (.array 64 5) w := run_underlying Tryd.underlying54
  have h2 : ∀ w, (underlying 5).run Tryd.prog w = .ok (.int .u8) w := run_underlying Tryd.underlying5
  have h3 : ∀ w, (sizeOf 5).run Tryd.prog w = .ok 1 w := Tryd.sizeOf5
  have hT := T64_at k hk
  have hc : (0 : Int) ≤ k ∧ (k : Int) < (64 : Nat) := by omega
  unfold Instr.index
  simp only [asIntOf, Sem.run_bind, Sem.run_pure, Result.andThen_ok, h1, h3, if_pos hc, part, isAgg, h2, Nat.mul_one, Int.toNat_natCast, hT]
  rfl

set_option maxHeartbeats 1600000 in
theorem values_calls (w : World) : Calls Tryd.prog 13 #[] w fun e w' => e = .returned (.map (some w.heap.size)) ∧ TabMap w' w.heap.size 64 ∧ Below w.heap.size w w' ∧ w.heap.size < w'.heap.size := by
  have t1 : True := trivial
  have t2 : True := trivial
  go_enter Tryd.func13, Tryd.ntmps13
  go_wp2_with (first
    | (have _t := t1; refine wpList_newmap rfl rfl (by kernel_rfl) ?_; simp only [Act.put, List.setIfInBounds_toArray, List.set_cons_succ, List.set_cons_zero]; clear t1)
    | (have _t := t2; go_at_call 19; go_must (refine (alphabet_calls _).mono ?_; rintro e w1 ⟨rfl, hb1⟩; clear t2)))
  have h1 : TabMap w1 w.heap.size 0 := (TabMap.new w).below hb1 (by simp)
  have hb : Below w.heap.size w w1 := ((Below.refl _ w).alloc (Nat.le_refl _) _).trans (hb1.mono (by simp))
  have hs : w.heap.size < w1.heap.size := by have := hb1.size; simp at this; omega
  go_loopw [6] (fun i wr => ∃ k : Nat, k ≤ 64 ∧ i = .int .i64 k ∧ TabMap wr w.heap.size k ∧ Below w.heap.size w wr ∧ w.heap.size < wr.heap.size) (fun i _ => 64 - (intOf i).toNat)
  case atStart => exact ⟨0, by omega, rfl, h1, hb, hs⟩
  case round =>
    obtain ⟨k, hk, rfl, h2, hb2, hs2⟩ := hrel
    by_cases hlt : k < 64
    · have hT := T64_at k hlt
      have hc : (chr k).toNat = tab.getD k 0 := by
        have : ∀ k, k < 64 → (chr k).toNat = tab.getD k 0 := by decide +kernel
        exact this k hlt
      have Hc := Lib.hid hc
      have hix := run_index_tab wr k hlt
      clear hc hT
      have t1 : True := trivial
      go_wp2_with (first
        | (have _t := t1; refine wpList_update_tab rfl 39 _ _ _ rfl Tryd.underlying39 Tryd.underlying5 w.heap.size rfl k hlt (by rw [← Hc.out]; rfl) rfl h2 ?_; intro w2 h3 hg3; simp only [Act.put, List.setIfInBounds_toArray, List.set_cons_succ, List.set_cons_zero]; clear t1))
      go_roundw
      case rel => exact ⟨k + 1, by omega, by go_num, h3, hb2.grown hg3 (by omega) (fun j hj => by injection hj with hj; omega), by have := hg3.size; omega⟩
      case measure => simp [intOf]; omega
    · have e : k = 64 := by omega
      subst e
      go_wp2_with fail
      go_ret
      exact ⟨rfl, h2, hb2, hs2⟩
end Go.Proofs.YtkmkidbajmbigaaDoor
