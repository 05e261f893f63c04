/- Laws for sets of identities: a map from identities to true. -/
import Derived.Test.YtafpndmoognjlaaBase
namespace Go.Proofs.Ytafpndmoognjlaa
open Go.ChangeShapes Go.WideShapes Go.ChangeAt Go.RowKit

/-- block b is a map that holds true at just these identities -/
def IdSet (w : World) (b : Nat) (ls : List (List UInt8)) : Prop :=
  (∀ l ∈ ls, l.length = 32) ∧ ∃ es clock, w.heap[b]? = some (.map es clock) ∧ es.toList.map (fun e => (e.key, e.val)) = ls.map fun l => (idv l, Value.bool true)
section
variable {w w' : World} {b : Nat} {ls : List (List UInt8)}
theorem IdSet.lt (h : IdSet w b ls) : b < w.heap.size := by
  obtain ⟨_, es, clock, hb, _⟩ := h
  exact (Array.getElem?_eq_some_iff.1 hb).1
theorem IdSet.of_block (h : IdSet w b ls) (hb : w'.heap[b]? = w.heap[b]?) : IdSet w' b ls := by
  obtain ⟨h0, es, clock, h1, h2⟩ := h
  exact ⟨h0, es, clock, hb.trans h1, h2⟩
theorem IdSet.alloc (h : IdSet w b ls) (o : Obj) : IdSet (w.alloc o) b ls := h.of_block (Below.heap_alloc w o b h.lt)
theorem IdSet.grown (h : IdSet w b ls) {row : Option Nat} (hg : w.grownBy w' row) (hr : some b ≠ row) : IdSet w' b ls := h.of_block (hg.block b h.lt hr)
theorem IdSet.below {B : Nat} (h : IdSet w b ls) (hb : Below B w w') (hB : b < B) : IdSet w' b ls := h.of_block (hb.block b hB)
theorem IdSet.drewN (h : IdSet w b ls) (n : Nat) : IdSet (w.drewN n) b ls := h
theorem IdSet.new (w : World) : IdSet (w.alloc (.map #[] 0)) w.heap.size [] := ⟨(fun _ h => by cases h), #[], 0, heap_alloc_new w _, rfl⟩
end
section
variable {P : Program}
theorem run_checkKey_id (w : World) {t : TypeId} (ht : isId P t = true) (l : List UInt8) (hl : l.length = 32) (em : Bool) (d : Nat) : (Instr.checkKey em (d + 2) t (idv l)).run P w = .ok () w := by
  obtain ⟨e, i, hu, he, hc, hi, _⟩ := isId_parts ht
  rw [show d + 2 = (d + 1) + 1 from rfl, idv, Instr.checkKey]
  simp only [Sem.run_bind, run_underlying hu, Result.andThen_ok]
  simp only [Std.Legacy.Range.forIn_eq_forIn_range', Std.Legacy.Range.size, Nat.sub_zero, Nat.add_one_sub_one, Nat.div_one]
  have each : ∀ j ∈ List.range' 0 32, j < l.length := fun j hj => by rw [hl]; have := List.mem_range'.1 hj; omega
  generalize List.range' 0 32 = is at each
  induction is with
  | nil => simp
  | cons j is ih =>
    have p1 := run_part_id (P := P) w he l j (each j (by simp))
    have p2 : (Instr.checkKey em (d + 1) e (.int .u8 (l[j]'(each j (by simp))).toNat)).run P w = .ok () w := by
      rw [Instr.checkKey]
      simp only [Sem.run_bind, run_underlying he, Result.andThen_ok, Sem.run_pure]
    simp only [List.forIn_cons, Sem.run_bind, run_sizeOf w hi, hc, Nat.mul_one, Result.andThen_ok, p1, p2, Sem.run_pure]
    exact ih (fun y hy => each y (by simp [hy]))
theorem run_equal_id (w : World) {t : TypeId} (ht : isId P t = true) (l m : List UInt8) (hl : l.length = 32) (hm : m.length = 32) : (Op.equal t (idv l) (idv m)).run P w = .ok (decide (l = m)) w := by
  have := run_equalIn_id (P := P) w 9998 ht l m hl hm
  simpa [Op.equal, Op.maxDepth] using this
/-- where an identity stands in a set -/
theorem run_findAsking_id (w : World) {t : TypeId} (ht : isId P t = true) (l : List UInt8) (hl : l.length = 32) : ∀ (es : List MapEntry) (ls : List (List UInt8)) (i : Nat), (∀ l ∈ ls, l.length = 32) →
    es.map (fun e => (e.key, e.val)) = ls.map (fun l => (idv l, Value.bool true)) →
    (Instr.findAsking t (idv l) es i).run P w = .ok (if l ∈ ls then some (i + ls.idxOf l, .bool true) else none) w
  | [], ls, i, _, h => by
    cases ls with
    | nil => simp [Instr.findAsking]
    | cons _ _ => simp at h
  | e :: es, [], i, _, h => by simp at h
  | e :: es, m :: ls, i, h32, h => by
    simp only [List.map_cons, List.cons.injEq, Prod.mk.injEq] at h
    obtain ⟨⟨hk, hv⟩, h⟩ := h
    rw [Instr.findAsking]
    simp only [Sem.run_bind, hk, run_equal_id w ht l m hl (h32 m (by simp)), Result.andThen_ok]
    by_cases hlm : l = m
    · subst hlm
      simp [hv]
    · have ih := run_findAsking_id w ht l hl es ls (i + 1) (fun x hx => h32 x (by simp [hx])) h
      simp only [hlm, decide_false, Bool.false_eq_true, if_false, ih, List.mem_cons, false_or]
      by_cases hin : l ∈ ls
      · rw [if_pos hin, if_pos hin, List.idxOf_cons, show (m == l) = false from beq_eq_false_iff_ne.2 (fun e => hlm e.symm), cond_false]
        congr 3
        omega
      · rw [if_neg hin, if_neg hin]
theorem run_findKey_id (w : World) {t : TypeId} (ht : isId P t = true) (l : List UInt8) (hl : l.length = 32) (es : List MapEntry) (ls : List (List UInt8)) (h32 : ∀ l ∈ ls, l.length = 32)
    (h : es.map (fun e => (e.key, e.val)) = ls.map (fun l => (idv l, Value.bool true))) :
    (Instr.findKey t (idv l) es).run P w = .ok (if l ∈ ls then some (ls.idxOf l, .bool true) else none) w := by
  obtain ⟨e, i, hu, _, _, _, _⟩ := isId_parts ht
  have ha := run_findAsking_id w ht l hl es ls 0 h32 h
  rw [Nat.zero_add] at ha
  unfold Instr.findKey
  simp only [Sem.run_bind, run_underlying hu, Result.andThen_ok]
  cases es with
  | nil =>
    cases ls with
    | nil => simp [Instr.findNow]
    | cons _ _ => simp at h
  | cons x es => simp only [Instr.findNow, Instr.sameNow, ha]
theorem run_lookup_id (w : World) {t k v : TypeId} {i : TypeInfo} (ht : P.underlying t = some (.map k v)) (hk : isId P k = true) (hi : P.info? v = some i) (hz : i.zero = some (.bool false))
    {b : Nat} {ls : List (List UInt8)} (hs : IdSet w b ls) (l : List UInt8) (hl : l.length = 32) :
    (Instr.lookup t (.map (some b)) (idv l) false).run P w = .ok (.bool (decide (l ∈ ls))) w := by
  obtain ⟨h32, es, clock, hb, h⟩ := hs
  unfold Instr.lookup
  simp only [Sem.run_bind, run_underlying ht, Result.andThen_ok, MapKept.run_getObj_map hb, Sem.run_pure, run_checkKey_id w hk l hl _ 9998, run_findKey_id w hk l hl es.toList ls h32 h]
  by_cases hin : l ∈ ls
  · simp [hin]
  · simp [hin, zeroValue, typeInfo, hi, hz]
theorem wpList_newmap {ops : Array Oper} {rest : List Oper} {o : Oper} {a : Act} {w : World} {Q : Exit → Act → World → Prop} (hgd : o.guard = none) (_hk : isNewMap o.op = true) (hv : (execOp a.eval o).run P w = .ok (.value (.map (some w.heap.size))) (w.alloc (.map #[] 0)))
    (h : wpList P ops Q rest (a.put o.dst (.map (some w.heap.size))) (w.alloc (.map #[] 0))) : wpList P ops Q (o :: rest) a w :=
  wpList_plain hgd fun _ hK => by unfold Oper.wp; rw [hv]; exact hK _ _ h
theorem wpList_lookup_id {ops : Array Oper} {rest : List Oper} {o : Oper} {a : Act} {w : World} {Q : Exit → Act → World → Prop} (hgd : o.guard = none) (t : TypeId) (x y : Operand) (ho : o.op = .lookup t x y false)
    {k v : TypeId} {i : TypeInfo} (ht : P.underlying t = some (.map k v)) (hk : isId P k = true) (hi : P.info? v = some i) (hz : i.zero = some (.bool false))
    (b : Nat) (hx : a.eval x = .map (some b)) (l : List UInt8) (hy : a.eval y = idv l) (hl : l.length = 32) {ls : List (List UInt8)} (hs : IdSet w b ls)
    (h : wpList P ops Q rest (a.put o.dst (.bool (decide (l ∈ ls)))) w) : wpList P ops Q (o :: rest) a w :=
  wpList_plain hgd fun _ hK => by
    unfold Oper.wp execOp
    simp only [ho, hx, hy, Sem.run_bind, Sem.run_pure, Result.andThen_ok, run_lookup_id w ht hk hi hz hs l hl]
    exact hK _ _ h
theorem wpList_update_id {ops : Array Oper} {rest : List Oper} {o : Oper} {a : Act} {w : World} {Q : Exit → Act → World → Prop} (hgd : o.guard = none) (t : TypeId) (x y z : Operand) (ho : o.op = .mapUpdate t x y z)
    {k v : TypeId} (ht : P.underlying t = some (.map k v)) (hk : isId P k = true)
    (b : Nat) (hx : a.eval x = .map (some b)) (l : List UInt8) (hy : a.eval y = idv l) (hl : l.length = 32) (hzz : a.eval z = .bool true) {ls : List (List UInt8)} (hs : IdSet w b ls) (hnot : l ∉ ls)
    (h : ∀ w', IdSet w' b (ls ++ [l]) → w.grownBy w' (some b) → wpList P ops Q rest (a.put o.dst undef) w') : wpList P ops Q (o :: rest) a w := by
  obtain ⟨h32, es, clock, hb, hes⟩ := hs
  have hlt := (Array.getElem?_eq_some_iff.1 hb).1
  refine wpList_plain hgd fun _ hK => ?_
  unfold Oper.wp execOp
  have hrun : (Instr.mapUpdate t (.map (some b)) (idv l) (.bool true)).run P w = .ok () { w with heap := w.heap.setIfInBounds b (.map (es.push { key := idv l, val := .bool true, born := clock }) (clock + 1)) } := by
    unfold Instr.mapUpdate
    simp only [Sem.run_bind, run_underlying ht, Result.andThen_ok, MapKept.run_getObj_map hb, run_checkKey_id w hk l hl _ 9998, run_findKey_id w hk l hl es.toList ls h32 hes, if_neg hnot, MapKept.run_setObj_map _ hb]
  simp only [ho, hx, hy, hzz, Sem.run_bind, Sem.run_pure, Result.andThen_ok, hrun]
  refine hK _ _ (h _ ⟨fun m hm => ?_, es.push { key := idv l, val := .bool true, born := clock }, clock + 1, ?_, ?_⟩ ⟨rfl, rfl, rfl, by simp, fun j hj hne => ?_⟩)
  · rcases List.mem_append.1 hm with hm | hm
    · exact h32 m hm
    · rw [List.mem_singleton.1 hm]; exact hl
  · show (w.heap.setIfInBounds b _)[b]? = _
    rw [Array.getElem?_setIfInBounds_self_of_lt hlt]
  · rw [Array.toList_push, List.map_append, hes, List.map_append]; rfl
  · show (w.heap.setIfInBounds b _)[j]? = _
    rw [Array.getElem?_setIfInBounds_ne (fun e => hne (by rw [e]))]
end
end Go.Proofs.Ytafpndmoognjlaa
