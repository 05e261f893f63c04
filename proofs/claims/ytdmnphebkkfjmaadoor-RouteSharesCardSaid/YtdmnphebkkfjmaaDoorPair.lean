/- Laws for sets of pairs of strings: a map from pairs to true; pairs as values. -/
import Derived.Test.YtdmnphebkkfjmaaDoorCut
namespace Go.Proofs.YtdmnphebkkfjmaaDoor
open Go Go.ChangeShapes Go.WideShapes Go.ChangeAt Go.RowKit
abbrev SS := List UInt8 × List UInt8
def prc (p : SS) : List Value := [.string (str p.1), .string (str p.2)]
def prv (p : SS) : Value := .agg #[.string (str p.1), .string (str p.2)]
def isPair (P : Program) (t : TypeId) : Bool :=
  (match P.underlying t with
   | some (.array 2 e) => (match P.underlying e with | some .string => true | _ => false) && P.cellsOf e == 1 && ((P.info? e).isSome)
   | _ => false) && ((P.info? t).map (·.size)) == some 2
theorem isPair_parts {P : Program} {t : TypeId} (h : isPair P t = true) : ∃ e i, P.underlying t = some (.array 2 e) ∧ P.underlying e = some .string ∧ P.cellsOf e = 1 ∧ P.info? e = some i ∧ (P.info? t).map (·.size) = some 2 := by
  unfold isPair at h
  rw [Bool.and_eq_true] at h
  obtain ⟨h1, h2⟩ := h
  split at h1
  · rename_i e he
    simp only [Bool.and_eq_true, beq_iff_eq] at h1
    obtain ⟨⟨h3, h4⟩, h5⟩ := h1
    split at h3
    · rename_i he2
      obtain ⟨i, hi⟩ := Option.isSome_iff_exists.1 h5
      exact ⟨e, i, he, he2, h4, hi, by simpa using h2⟩
    · cases h3
  · cases h1
section
variable {P : Program}
theorem run_load_pair (w : World) {a : Addr} {p : SS} {t : TypeId} (h : Row w (some a) (prc p)) (ht : isPair P t = true) :
    (Instr.loadAt t (.pointer (some a))).run P w = .ok (prv p) w := by
  obtain ⟨e, i, hu, _, _, _, hs⟩ := isPair_parts ht
  have hc : ∀ j u, (prc p)[j]? = some u → w.cell? (a.add j) = some u := by
    rcases h with h | ⟨ad, h1, h2⟩
    · cases h
    · injection h1 with h1; subst h1; exact h2
  have hl : (loadCells a 2).run P w = .ok (prc p).toArray w := run_loadCells_list (P := P) w a (prc p) hc
  have hv : (loadVar t a).run P w = .ok (prv p) w := by
    cases hq : P.info? t with
    | none => simp [hq] at hs
    | some i =>
      have hs' : i.size = 2 := by simpa [hq] using hs
      have hagg : (isAgg t).run P w = .ok true w := by
        unfold isAgg
        rw [Sem.run_bind, run_underlying hu w]
        rfl
      simp [loadVar, Sem.run_bind, hagg, sizeOf, typeInfo, hq, hs', hl, prv, prc]
  simp only [Instr.loadAt, Instr.sureAddr, Sem.run_bind, Sem.run_pure, Result.andThen_ok, hv]
theorem run_part_str (w : World) {e : TypeId} (he : P.underlying e = some .string) (cs : Array Value) (k : Nat) (s : ByteArray) (h : cs[k]? = some (.string s)) :
    (part e cs k).run P w = .ok (.string s) w := by
  simp only [part, isAgg, Sem.run_bind, run_underlying he, Sem.run_pure, Result.andThen_ok, h]
  rfl
end
/-- block b is a map that holds true at just these identities -/
def PrSet (w : World) (b : Nat) (ls : List SS) : Prop :=
  (∀ l ∈ ls, l = l) ∧ ∃ es clock, w.heap[b]? = some (.map es clock) ∧ es.toList.map (fun e => (e.key, e.val)) = ls.map fun l => (prv l, Value.bool true)
section
variable {w w' : World} {b : Nat} {ls : List SS}
theorem PrSet.lt (h : PrSet w b ls) : b < w.heap.size := by
  obtain ⟨_, es, clock, hb, _⟩ := h
  exact (Array.getElem?_eq_some_iff.1 hb).1
theorem PrSet.of_block (h : PrSet w b ls) (hb : w'.heap[b]? = w.heap[b]?) : PrSet w' b ls := by
  obtain ⟨h0, es, clock, h1, h2⟩ := h
  exact ⟨h0, es, clock, hb.trans h1, h2⟩
theorem PrSet.alloc (h : PrSet w b ls) (o : Obj) : PrSet (w.alloc o) b ls := h.of_block (Below.heap_alloc w o b h.lt)
theorem PrSet.grown (h : PrSet w b ls) {row : Option Nat} (hg : w.grownBy w' row) (hr : some b ≠ row) : PrSet w' b ls := h.of_block (hg.block b h.lt hr)
theorem PrSet.below {B : Nat} (h : PrSet w b ls) (hb : Below B w w') (hB : b < B) : PrSet w' b ls := h.of_block (hb.block b hB)
theorem PrSet.drewN (h : PrSet w b ls) (n : Nat) : PrSet (w.drewN n) b ls := h
theorem PrSet.new (w : World) : PrSet (w.alloc (.map #[] 0)) w.heap.size [] := ⟨(fun _ h => by cases h), #[], 0, heap_alloc_new w _, rfl⟩
end
section
variable {P : Program}
theorem run_checkKey_pr (w : World) {t : TypeId} (ht : isPair P t = true) (l : SS) (em : Bool) (d : Nat) : (Instr.checkKey em (d + 2) t (prv l)).run P w = .ok () w := by
  obtain ⟨e, i, hu, he, hc, hi, _⟩ := isPair_parts ht
  rw [show d + 2 = (d + 1) + 1 from rfl, prv, Instr.checkKey]
  simp only [Sem.run_bind, run_underlying hu, Result.andThen_ok]
  simp only [Std.Legacy.Range.forIn_eq_forIn_range', Std.Legacy.Range.size, Nat.sub_zero, Nat.add_one_sub_one, Nat.div_one]
  have p2 : ∀ s : ByteArray, (Instr.checkKey em (d + 1) e (.string s)).run P w = .ok () w := fun s => by
    rw [Instr.checkKey]
    simp only [Sem.run_bind, run_underlying he, Result.andThen_ok, Sem.run_pure]
  have q0 := run_part_str (P := P) w he #[.string (str l.1), .string (str l.2)] 0 _ rfl
  have q1 := run_part_str (P := P) w he #[.string (str l.1), .string (str l.2)] 1 _ rfl
  rw [show List.range' 0 2 = [0, 1] from rfl]
  simp only [List.forIn_cons, List.forIn_nil, Sem.run_bind, run_sizeOf w hi, hc, Nat.mul_one, Result.andThen_ok, q0, q1, p2, Sem.run_pure]
theorem run_equalIn_pr (w : World) (d : Nat) {t : TypeId} (ht : isPair P t = true) (l m : SS) :
    (Op.equalIn (d + 2) t (prv l) (prv m)).run P w = .ok (decide (l = m)) w := by
  obtain ⟨e, i, hu, he, hc, hi, _⟩ := isPair_parts ht
  unfold prv
  rw [run_equalIn_array w (d + 1) _ _ hu hi, hc, List.range_eq_range', show List.range' 0 2 = [0, 1] from rfl]
  have q0 := run_part_str (P := P) w he #[.string (str l.1), .string (str l.2)] 0 _ rfl
  have q1 := run_part_str (P := P) w he #[.string (str l.1), .string (str l.2)] 1 _ rfl
  have r0 := run_part_str (P := P) w he #[.string (str m.1), .string (str m.2)] 0 _ rfl
  have r1 := run_part_str (P := P) w he #[.string (str m.1), .string (str m.2)] 1 _ rfl
  rw [Op.eqItems, Nat.mul_one]
  simp only [Sem.run_bind, q0, r0, Result.andThen_ok, run_equalIn_string w d e _ _ he, str_toList]
  by_cases h1 : l.1 = m.1
  · rw [show (l.1 == m.1) = true from by simpa using h1]
    simp only [Bool.not_true, Bool.false_eq_true, if_false]
    rw [Op.eqItems, Nat.mul_one]
    simp only [Sem.run_bind, q1, r1, Result.andThen_ok, run_equalIn_string w d e _ _ he, str_toList]
    by_cases h2 : l.2 = m.2
    · rw [show (l.2 == m.2) = true from by simpa using h2]
      simp only [Bool.not_true, Bool.false_eq_true, if_false]
      rw [Op.eqItems, show l = m from Prod.ext h1 h2]
      simp
    · rw [show (l.2 == m.2) = false from by simpa using h2]
      simp only [Bool.not_false, if_true, Sem.run_pure]
      rw [decide_eq_false (fun e : l = m => h2 (congrArg Prod.snd e))]
  · rw [show (l.1 == m.1) = false from by simpa using h1]
    simp only [Bool.not_false, if_true, Sem.run_pure]
    rw [decide_eq_false (fun e : l = m => h1 (congrArg Prod.fst e))]
theorem run_equal_pr (w : World) {t : TypeId} (ht : isPair P t = true) (l m : SS) (_ : l = l) (_ : m = m) : (Op.equal t (prv l) (prv m)).run P w = .ok (decide (l = m)) w := by
  have := run_equalIn_pr (P := P) w 9998 ht l m
  simpa [Op.equal, Op.maxDepth] using this
@[go_sem] theorem run_eql_pr (w : World) (t : TypeId) (l m : SS) (ht : isPair P t = true) : (binOp .eql t (prv l) (prv m)).run P w = .ok (.bool (decide (l = m))) w := by
  have := run_equalIn_pr (P := P) w 9998 ht l m
  rw [prv, prv, run_eql_struct]
  simp only [prv] at this
  rw [this]; rfl
/-- where an identity stands in a set -/
theorem run_findAsking_pr (w : World) {t : TypeId} (ht : isPair P t = true) (l : SS) (hl : l = l) : ∀ (es : List MapEntry) (ls : List SS) (i : Nat), (∀ l ∈ ls, l = l) →
    es.map (fun e => (e.key, e.val)) = ls.map (fun l => (prv l, Value.bool true)) →
    (Instr.findAsking t (prv l) es i).run P w = .ok (if l ∈ ls then some (i + ls.idxOf l, .bool true) else none) w
  | [], ls, i, _, h => by
    cases ls with
    | nil => simp [Instr.findAsking]
    | cons _ _ => simp at h
  | e :: es, [], i, _, h => by simp at h
  | e :: es, m :: ls, i, h32, h => by
    simp only [List.map_cons, List.cons.injEq, Prod.mk.injEq] at h
    obtain ⟨⟨hk, hv⟩, h⟩ := h
    rw [Instr.findAsking]
    simp only [Sem.run_bind, hk, run_equal_pr w ht l m hl (h32 m (by simp)), Result.andThen_ok]
    by_cases hlm : l = m
    · subst hlm
      simp [hv]
    · have ih := run_findAsking_pr w ht l hl es ls (i + 1) (fun x hx => h32 x (by simp [hx])) h
      simp only [hlm, decide_false, Bool.false_eq_true, if_false, ih, List.mem_cons, false_or]
      by_cases hin : l ∈ ls
      · rw [if_pos hin, if_pos hin, List.idxOf_cons, show (m == l) = false from beq_eq_false_iff_ne.2 (fun e => hlm e.symm), cond_false]
        congr 3
        omega
      · rw [if_neg hin, if_neg hin]
theorem run_findKey_pr (w : World) {t : TypeId} (ht : isPair P t = true) (l : SS) (hl : l = l) (es : List MapEntry) (ls : List SS) (h32 : ∀ l ∈ ls, l = l)
    (h : es.map (fun e => (e.key, e.val)) = ls.map (fun l => (prv l, Value.bool true))) :
    (Instr.findKey t (prv l) es).run P w = .ok (if l ∈ ls then some (ls.idxOf l, .bool true) else none) w := by
  obtain ⟨e, i, hu, _, _, _, _⟩ := isPair_parts ht
  have ha := run_findAsking_pr w ht l hl es ls 0 h32 h
  rw [Nat.zero_add] at ha
  unfold Instr.findKey
  simp only [Sem.run_bind, run_underlying hu, Result.andThen_ok]
  cases es with
  | nil =>
    cases ls with
    | nil => simp [Instr.findNow]
    | cons _ _ => simp at h
  | cons x es => simp only [Instr.findNow, Instr.sameNow, ha]
theorem run_lookup_pr (w : World) {t k v : TypeId} {i : TypeInfo} (ht : P.underlying t = some (.map k v)) (hk : isPair P k = true) (hi : P.info? v = some i) (hz : i.zero = some (.bool false))
    {b : Nat} {ls : List SS} (hs : PrSet w b ls) (l : SS) (hl : l = l) :
    (Instr.lookup t (.map (some b)) (prv l) false).run P w = .ok (.bool (decide (l ∈ ls))) w := by
  obtain ⟨h32, es, clock, hb, h⟩ := hs
  unfold Instr.lookup
  simp only [Sem.run_bind, run_underlying ht, Result.andThen_ok, MapKept.run_getObj_map hb, Sem.run_pure, run_checkKey_pr w hk l _ 9998, run_findKey_pr w hk l hl es.toList ls h32 h]
  by_cases hin : l ∈ ls
  · simp [hin]
  · simp [hin, zeroValue, typeInfo, hi, hz]
theorem wpList_newmap {ops : Array Oper} {rest : List Oper} {o : Oper} {a : Act} {w : World} {Q : Exit → Act → World → Prop} (hgd : o.guard = none) (_hk : isNewMap o.op = true) (hv : (execOp a.eval o).run P w = .ok (.value (.map (some w.heap.size))) (w.alloc (.map #[] 0)))
    (h : wpList P ops Q rest (a.put o.dst (.map (some w.heap.size))) (w.alloc (.map #[] 0))) : wpList P ops Q (o :: rest) a w :=
  wpList_plain hgd fun _ hK => by unfold Oper.wp; rw [hv]; exact hK _ _ h
theorem wpList_lookup_pr {ops : Array Oper} {rest : List Oper} {o : Oper} {a : Act} {w : World} {Q : Exit → Act → World → Prop} (hgd : o.guard = none) (t : TypeId) (x y : Operand) (ho : o.op = .lookup t x y false)
    {k v : TypeId} {i : TypeInfo} (ht : P.underlying t = some (.map k v)) (hk : isPair P k = true) (hi : P.info? v = some i) (hz : i.zero = some (.bool false))
    (b : Nat) (hx : a.eval x = .map (some b)) (l : SS) (hy : a.eval y = prv l) (hl : l = l) {ls : List SS} (hs : PrSet w b ls)
    (h : wpList P ops Q rest (a.put o.dst (.bool (decide (l ∈ ls)))) w) : wpList P ops Q (o :: rest) a w :=
  wpList_plain hgd fun _ hK => by
    unfold Oper.wp execOp
    simp only [ho, hx, hy, Sem.run_bind, Sem.run_pure, Result.andThen_ok, run_lookup_pr w ht hk hi hz hs l hl]
    exact hK _ _ h
theorem wpList_update_pr {ops : Array Oper} {rest : List Oper} {o : Oper} {a : Act} {w : World} {Q : Exit → Act → World → Prop} (hgd : o.guard = none) (t : TypeId) (x y z : Operand) (ho : o.op = .mapUpdate t x y z)
    {k v : TypeId} (ht : P.underlying t = some (.map k v)) (hk : isPair P k = true)
    (b : Nat) (hx : a.eval x = .map (some b)) (l : SS) (hy : a.eval y = prv l) (hl : l = l) (hzz : a.eval z = .bool true) {ls : List SS} (hs : PrSet w b ls) (hnot : l ∉ ls)
    (h : ∀ w', PrSet w' b (ls ++ [l]) → w.grownBy w' (some b) → wpList P ops Q rest (a.put o.dst undef) w') : wpList P ops Q (o :: rest) a w := by
  obtain ⟨h32, es, clock, hb, hes⟩ := hs
  have hlt := (Array.getElem?_eq_some_iff.1 hb).1
  refine wpList_plain hgd fun _ hK => ?_
  unfold Oper.wp execOp
  have hrun : (Instr.mapUpdate t (.map (some b)) (prv l) (.bool true)).run P w = .ok () { w with heap := w.heap.setIfInBounds b (.map (es.push { key := prv l, val := .bool true, born := clock }) (clock + 1)) } := by
    unfold Instr.mapUpdate
    simp only [Sem.run_bind, run_underlying ht, Result.andThen_ok, MapKept.run_getObj_map hb, run_checkKey_pr w hk l _ 9998, run_findKey_pr w hk l hl es.toList ls h32 hes, if_neg hnot, MapKept.run_setObj_map _ hb]
  simp only [ho, hx, hy, hzz, Sem.run_bind, Sem.run_pure, Result.andThen_ok, hrun]
  refine hK _ _ (h _ ⟨fun m hm => ?_, es.push { key := prv l, val := .bool true, born := clock }, clock + 1, ?_, ?_⟩ ⟨rfl, rfl, rfl, by simp, fun j hj hne => ?_⟩)
  · rcases List.mem_append.1 hm with hm | hm
    · exact h32 m hm
    · rfl
  · show (w.heap.setIfInBounds b _)[b]? = _
    rw [Array.getElem?_setIfInBounds_self_of_lt hlt]
  · rw [Array.toList_push, List.map_append, hes, List.map_append]; rfl
  · show (w.heap.setIfInBounds b _)[j]? = _
    rw [Array.getElem?_setIfInBounds_ne (fun e => hne (by rw [e]))]
end
end Go.Proofs.YtdmnphebkkfjmaaDoor
